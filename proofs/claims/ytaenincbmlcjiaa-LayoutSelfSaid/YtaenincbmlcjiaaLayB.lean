/- layout's walks: are two rows one; a value again and again. -/
import Derived.Test.YtaenincbmlcjiaaLayA
import Derived.Test.YtaenincbmlcjiaaRef06
import Derived.Test.YtaenincbmlcjiaaShelf
import Derived.Laws.CopyOwn
import Derived.Deep.RegionLaw
import Derived.IntWalk
namespace Go.Proofs.Ytaenincbmlcjiaa.LayB
open Go.RowKit Go.Proofs.YtaenincbmlcjiaaW.PrintWords
open Go.Proofs.Ytaenincbmlcjiaa.Base Go.Proofs.Ytaenincbmlcjiaa.SpanPure Go.Proofs.Ytaenincbmlcjiaa.LayPure Go.Proofs.Ytaenincbmlcjiaa.SpanBase Go.Proofs.Ytaenincbmlcjiaa.Ref06

set_option maxHeartbeats 1600000 in
theorem same_calls (A1 A2 : Option Addr) (c1 c2 : Nat) (xs ys : List Int) (w : World) (h1 : RdI .i64 w A1 xs) (h2 : RdI .i64 w A2 ys) (hm : xs.length ≤ 1000000000) (hm2 : ys.length ≤ 1000000000) :
    Calls Try.prog 31 #[.slice A1 xs.length c1, .slice A2 ys.length c2] w fun e w' => e = .returned (.bool (decide (xs = ys))) ∧ Drawn0 w w' := by
  have H1 := Lib.hid h1
  have H2 := Lib.hid h2
  by_cases hl : xs.length = ys.length
  · have d : ((xs.length : Int) != (ys.length : Int)) = false := by simp [hl]
    have HL := Lib.hid hl
    clear h1 h2 hl
    go_enter Try.func31, Try.ntmps31
    go_wp2
    go_loopw [13] (fun i wr => ∃ k m : Nat, k ≤ xs.length ∧ i = .int .i64 k ∧ Hid (xs.take k = ys.take k) ∧ wr = w.drewN m) (fun i _ => xs.length - (intOf i).toNat)
    case atStart => exact ⟨0, 0, by omega, rfl, Lib.hid (by simp), rfl⟩
    case round =>
      obtain ⟨k, m, hk, rfl, ht, rfl⟩ := hrel
      by_cases hlt : k < xs.length
      · have hlt2 : k < ys.length := by have := HL.out; omega
        obtain ⟨ad, hA, c0⟩ := RdI.at_ H1.out k hlt
        obtain ⟨ad2, hA2, c02⟩ := RdI.at_ H2.out k hlt2
        subst hA hA2
        have b0 : (0 : Int) ≤ (k : Int) := by omega
        have b1 : (k : Int) < (xs.length : Int) := by omega
        have b2 : (k : Int) < (ys.length : Int) := by omega
        by_cases he : xs[k] = ys[k]
        · have HT : Hid (xs.take (k + 1) = ys.take (k + 1)) := Lib.hid (by rw [List.take_succ_eq_append_getElem hlt, List.take_succ_eq_append_getElem hlt2, ht.out, he])
          obtain ⟨x, hx⟩ : ∃ x, x = xs[k] := ⟨_, rfl⟩
          rw [← he, ← hx] at c02
          rw [← hx] at c0
          clear he hx ht
          go_wp2_with (fail)
          go_quiet (fail)
          go_wp2
          go_roundw
          case rel => exact ⟨k + 1, m + nq, by omega, by go_num, HT, by first | rfl | rw [World.drewN_drewN]⟩
          case measure => simp [intOf]; omega
        · have HF : Hid (decide (xs = ys) = false) := Lib.hid (by
            rw [decide_eq_false]
            rintro rfl
            exact he rfl)
          have de : (xs[k] != ys[k]) = true := by simpa using he
          obtain ⟨x, hx⟩ : ∃ x, x = xs[k] := ⟨_, rfl⟩
          obtain ⟨y, hy⟩ : ∃ y, y = ys[k] := ⟨_, rfl⟩
          rw [← hx] at c0 de
          rw [← hy] at c02 de
          clear he hx hy ht
          go_wp2_with (fail)
          go_quiet (fail)
          go_wp2
          go_ret
          exact ⟨by rw [HF.out]; rfl, by first | exact q_end | (rw [World.drewN_drewN]; exact q_end)⟩
      · obtain rfl : k = xs.length := by omega
        have HF : Hid (decide (xs = ys) = true) := Lib.hid (by
          rw [decide_eq_true]
          have := ht.out
          rwa [List.take_length, HL.out, List.take_length] at this)
        clear ht
        go_wp2
        go_ret
        exact ⟨by rw [HF.out]; rfl, q_end⟩
  · have d : ((xs.length : Int) != (ys.length : Int)) = true := by simp; omega
    have HF : Hid (decide (xs = ys) = false) := Lib.hid (by
      rw [decide_eq_false]
      rintro rfl
      exact hl rfl)
    clear h1 h2 hl
    go_enter Try.func31, Try.ntmps31
    go_wp2
    go_ret
    exact ⟨by rw [HF.out]; rfl, Drawn0.refl _⟩

theorem whole {e : Nat} {k : IntKind} {w : World} {base g n : Nat} {xs : List Int} (h : OwI e k w base (.slice (some ⟨g, 0, none⟩) n n) xs) : w.heap[g]? = some (.cells (nums k xs).toArray e (0, 0)) ∧ base ≤ g ∧ n ≤ maxLen ∧ xs.length = n := by
  have hl := h.len
  rcases h.2 with ⟨he, _⟩ | ⟨g', cap, cur, he, hb, hg, hnc, hcm, hsz, htk⟩
  · cases he
  · injection he with he1 he2 he3
    injection he1 with he1
    injection he1 with he1
    subst he1 he3
    refine ⟨?_, hb, hcm, hl⟩
    rw [hg]
    have : cur = (nums k xs).toArray := by
      apply Array.ext'
      rw [← htk, List.take_of_length_le]
      simp at hsz ⊢
      omega
    rw [this]
theorem of_whole {e : Nat} {k : IntKind} {w : World} {base g n : Nat} {xs : List Int} (h : w.heap[g]? = some (.cells (nums k xs).toArray e (0, 0))) (hb : base ≤ g) (hm : n ≤ maxLen) (hl : xs.length = n) : OwI e k w base (.slice (some ⟨g, 0, none⟩) n n) xs := by
  subst hl
  exact ⟨by simp [nums], .inr ⟨g, _, _, rfl, hb, h, Nat.le_refl _, hm, by simp [nums], by rw [Nat.mul_one, List.take_of_length_le (by simp [nums])]⟩⟩
theorem add0 (g j : Nat) : (⟨g, 0, none⟩ : Addr).add j = ⟨g, j, none⟩ := by cases j <;> simp [Addr.add]
/-- the row while it is filled. -/
def filled (z : Int) (n k : Nat) : List Int := List.replicate k z ++ List.replicate (n - k) 0
theorem filled_len (z : Int) (n k : Nat) (h : k ≤ n) : (filled z n k).length = n := by simp [filled]; omega
theorem filled_splice (z : Int) (n k m : Nat) (h : k + m ≤ n) : splice (nums .i64 (filled z n k)) k (List.replicate m (.int .i64 z)) = nums .i64 (filled z n (k + m)) := by
  simp only [splice, filled, nums, List.map_append, List.map_replicate, List.length_replicate]
  rw [List.take_left' (by simp), List.drop_append, ← List.append_assoc, ← List.append_assoc]
  simp only [List.length_replicate, List.drop_replicate, List.replicate_append_replicate]
  congr 2
  · simp
  · rw [show n - k - (k + m - k) = n - (k + m) by omega]
theorem info64 : (Try.prog.info? 2).map (fun i => (i.zero, i.size, i.bytes)) = some (some (.int .i64 0), 1, 8) := by kernel_rfl
theorem mul_one (n : Nat) (w : World) (hn : n ≤ 1000000) : Calls Try.prog 59 #[.int .u64 1, .int .u64 n] w fun e w' => e = .returned (.tuple #[.int .u64 0, .int .u64 n]) ∧ w = w' := by
  refine (Try.bits_Mul 1 n (by decide) (by omega) w).mono ?_
  rintro e w' ⟨rfl, rfl⟩
  rw [show 1 * n / 18446744073709551616 = 0 by omega, show 1 * n % 18446744073709551616 = n by omega]
  exact ⟨rfl, rfl⟩
set_option maxRecDepth 100000 in
set_option maxHeartbeats 3200000 in
theorem repeat_calls (ad : Addr) (z : Int) (n : Nat) (w : World) (hz : w.cell? ad = some (.int .i64 z)) (h1 : 1 ≤ n) (hn : n ≤ 1000000) :
    Calls Try.prog 53 #[.slice (some ad) 1 1, .int .i64 n] w fun e w' => ∃ v, e = .returned v ∧ OwI 2 .i64 w' w.heap.size v (List.replicate n z) ∧ Below w.heap.size w w' := by
  have HM := Lib.hid (mul_one n w hn)
  obtain ⟨i0, hi, hz0, hz1, hz2⟩ := info_parts info64
  have hi1 : (Try.prog.info? 2).map (·.size) = some 1 := by rw [hi]; simp [hz1]
  have HZ := Lib.hid hz
  have had : ad.block < w.heap.size := by
    rcases Nat.lt_or_ge ad.block w.heap.size with h | h
    · exact h
    · simp [World.cell?, Array.getElem?_eq_none h] at hz
  have d0 : decide ((n : Int) < 0) = false := by simp
  have HMIN : Hid ([Value.int .i64 z].length = Nat.min 1 n) := Lib.hid (by have : Nat.min 1 n = 1 := Nat.min_eq_left h1; rw [this]; rfl)
  have HSRC : Hid (∀ (w1 : World), Below w.heap.size w w1 → ∀ (j : Nat) (v : Value), [Value.int .i64 z][j]? = some v → w1.cell? (ad.add j) = some v) := Lib.hid (by
    intro w1 hb j v hj
    cases j with
    | zero =>
      simp at hj
      rw [← hj]
      have : ad.add 0 = ad := by simp [Addr.add]
      rw [this]
      exact (hb.cell had).trans hz
    | succ j => simp at hj)
  have HFIT : Hid (0 + [Value.int .i64 z].length ≤ (nums .i64 (List.replicate n 0)).length) := Lib.hid (by simp [nums]; omega)
  have HONE : Hid (∀ v ∈ [Value.int .i64 z], v.oneCell' = true) := Lib.hid (by simp [Value.oneCell'])
  have HSP : Hid (splice (nums .i64 (List.replicate n 0)) 0 [Value.int .i64 z] = nums .i64 (filled z n 1)) := Lib.hid (by
    have := filled_splice z n 0 1 (by omega)
    simpa [filled] using this)
  clear hz hi hz0 hz1 hz2
  go_enter Try.func53, Try.ntmps53
  go_wp2_with (fail)
  refine HM.out.mono ?_
  rintro e w' ⟨rfl, rfl⟩
  go_wp2_with (first
    | (at_make; refine make_row (w0 := w) w.heap.size rfl _ _ 47 2 .i64 8 rfl Try.underlying47 info64 n rfl rfl (by omega) (by omega) (Below.refl _ _) (Nat.le_refl _) ?_; intro w1 ho1 hb1 hg1; have HO1 := Lib.hid (whole ho1); have HB1 := Lib.hid hb1; clear ho1 hb1 hg1)
    | (refine wpList_copy_splice rfl (.tmp 31) (.tmp 32) 47 47 rfl 2 Try.underlying47 hi1 (some ⟨w.heap.size, 0, none⟩) (some ad) n n 1 1 rfl rfl w.heap.size 0 (nums .i64 (List.replicate n 0)) 2 HO1.out.1 [.int .i64 z] HMIN.out (fun _ => ⟨rfl, ad, rfl, HSRC.out _ HB1.out⟩) HFIT.out HONE.out w.heap.size w HB1.out (Nat.le_refl _) ?_; intro w2 hg2 hb2; rw [HSP.out] at hg2; have HG2 := Lib.hid hg2.out; have HB2 := Lib.hid hb2; clear hg2 hb2))
  clear HMIN HSRC HFIT HONE HSP HM HO1
  go_loopw [8] (fun v wr => ∃ k : Nat, 1 ≤ k ∧ k ≤ n ∧ v = .int .i64 k ∧ wr.heap[w.heap.size]? = some (.cells (nums .i64 (filled z n k)).toArray 2 (0, 0)) ∧ Below w.heap.size w wr) (fun v _ => n - (intOf v).toNat)
  case atStart => exact ⟨1, by omega, by omega, rfl, HG2.out, HB2.out⟩
  case round =>
    obtain ⟨k, hk1, hk2, rfl, hg, hb⟩ := hrel
    have HG := Lib.hid hg
    have HB := Lib.hid hb
    clear hg hb HG2 HB2
    by_cases hlt : k < n
    · obtain ⟨i0, hi, hz0, hz1, hz2⟩ := info_parts info64
      have HC1 : Hid (∀ W, (Instr.slice 47 (.slice (some ⟨w.heap.size, 0, none⟩) n n) (some (.int .i64 k)) none none).run Try.prog W = .ok (.slice (some ⟨w.heap.size, k, none⟩) (n - k) (n - k)) W) := Lib.hid fun W => by
        have := cut_from (P := Try.prog) 47 2 .i64 Try.underlying47 hi 1 (by rw [hz1]) (some ⟨w.heap.size, 0, none⟩) n n (k : Int) (by omega) (by omega) W
        rw [Int.toNat_natCast, if_neg (by omega)] at this
        rw [Option.map_some, Nat.mul_one, add0] at this
        exact this
      have HC2 : Hid (∀ W, (Instr.slice 47 (.slice (some ⟨w.heap.size, 0, none⟩) n n) none (some (.int .i64 k)) none).run Try.prog W = .ok (.slice (some ⟨w.heap.size, 0, none⟩) k n) W) := Lib.hid fun W => by
        have := cut_to (P := Try.prog) 47 2 .i64 Try.underlying47 hi (some ⟨w.heap.size, 0, none⟩) n n (k : Int) (by omega) (by omega) (by omega) W
        simpa using this
      have hc1 := HC1.out
      have hc2 := HC2.out
      obtain ⟨m, hmin⟩ : ∃ m, m = Nat.min k (n - k) := ⟨_, rfl⟩
      have hm1 : 1 ≤ m := by rw [hmin]; exact Nat.le_min.2 ⟨by omega, by omega⟩
      have hm2 : m ≤ k := by rw [hmin]; exact Nat.min_le_left _ _
      have hm3 : m ≤ n - k := by rw [hmin]; exact Nat.min_le_right _ _
      have HMIN : Hid ((List.replicate m (Value.int .i64 z)).length = Nat.min k (n - k)) := Lib.hid (by rw [List.length_replicate]; exact hmin)
      have HSRC : Hid (∀ (W : World), W.heap[w.heap.size]? = some (.cells (nums .i64 (filled z n k)).toArray 2 (0, 0)) → ∀ (j : Nat) (v : Value), (List.replicate m (Value.int .i64 z))[j]? = some v → W.cell? ((⟨w.heap.size, 0, none⟩ : Addr).add j) = some v) := Lib.hid (by
        intro W hW j v hj
        rw [List.getElem?_replicate] at hj
        by_cases hjm : j < m
        · rw [if_pos hjm] at hj
          rw [← hj]
          have hf : (nums .i64 (filled z n k))[j]? = some (Value.int .i64 z) := by
            simp only [nums, filled, List.map_append, List.map_replicate]
            rw [List.getElem?_append_left (by simp; omega), List.getElem?_replicate, if_pos (by omega)]
          rw [add0]
          simpa [World.cell?, hW] using hf
        · rw [if_neg hjm] at hj; cases hj)
      have HFIT : Hid (k + (List.replicate m (Value.int .i64 z)).length ≤ (nums .i64 (filled z n k)).length) := Lib.hid (by rw [List.length_replicate, nums_length, filled_len _ _ _ hk2]; omega)
      have HONE : Hid (∀ v ∈ List.replicate m (Value.int .i64 z), v.oneCell' = true) := Lib.hid (by intro v hv; rw [List.eq_of_mem_replicate hv]; rfl)
      have HSP : Hid (splice (nums .i64 (filled z n k)) k (List.replicate m (.int .i64 z)) = nums .i64 (filled z n (k + m))) := Lib.hid (filled_splice z n k m (by omega))
      clear hmin hi hz0 hz1 hz2
      have hsum : IntKind.i64.wrap ((k : Int) + (m : Int)) = (k : Int) + (m : Int) := IntWalk.i64_in _ (by omega)
      go_wp2_with (fail)
      go_region_law (refine step_copy_splice rfl (.tmp 41) (.tmp 44) 47 47 rfl 2 Try.underlying47 hi1 (some ⟨w.heap.size, k, none⟩) (some ⟨w.heap.size, 0, none⟩) (n - k) (n - k) k n (by simp [Act.eval, Act.put]) (by simp [Act.eval, Act.put]) w.heap.size k (nums .i64 (filled z n k)) 2 HG.out (List.replicate m (.int .i64 z)) HMIN.out (fun _ => ⟨rfl, _, rfl, HSRC.out _ HG.out⟩) HFIT.out HONE.out w.heap.size w (below_drew HB.out) (Nat.le_refl _) ?_; intro w4 hg4 hb4; rw [HSP.out] at hg4; have HG4 := Lib.hid hg4.out; have HB4 := Lib.hid hb4; clear hg4 hb4)
      clear hsum
      go_simp
      go_wp2
      go_roundw
      case rel => exact ⟨k + m, by omega, by omega, by go_num, HG4.out, HB4.out⟩
      case measure => simp [intOf]; omega
    · obtain rfl : k = n := by omega
      go_wp2
      go_ret
      have HE : filled z k k = List.replicate k z := by simp [filled]
      rw [HE] at HG
      exact ⟨_, rfl, of_whole HG.out (Nat.le_refl _) (by unfold maxLen; omega) (by simp), HB.out⟩
end Go.Proofs.Ytaenincbmlcjiaa.LayB
