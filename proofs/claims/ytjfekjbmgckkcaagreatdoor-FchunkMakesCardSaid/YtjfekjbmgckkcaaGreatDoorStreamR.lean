/- stream's walks: a reader. -/
import Derived.Test.YtjfekjbmgckkcaaGreatDoorStreamA
namespace Go.Proofs.YtjfekjbmgckkcaaGreatDoor.StreamR
open Go.RowKit Go.Proofs.YtjfekjbmgckkcaaGreatDoorW.PrintWords
open Go.Proofs.YtjfekjbmgckkcaaGreatDoor.Bits Go.Proofs.YtjfekjbmgckkcaaGreatDoor.Base Go.Proofs.YtjfekjbmgckkcaaGreatDoor.StreamPure Go.Proofs.YtjfekjbmgckkcaaGreatDoor.StreamA

/-! ### a reader: its own block, and that of its bytes; how many were read, what is left, was more asked -/
def Rr (w : World) (g : Nat) (S : Nat → Prop) (a : Nat) (q : List Bool) (sh : Bool) : Prop :=
  ∃ v L, w.heap[g]? = some (.cells #[v, .int .i64 a, .int .i64 (a + q.length : Nat), .bool sh] 137 (0, 0)) ∧ OwB 5 w 0 v (pack L) ∧ (L.drop a).take q.length = q ∧ a + q.length ≤ 1000000000000000 ∧
    v.ownBlock ≠ some g ∧ ∀ k, S k ↔ k = g ∨ v.ownBlock = some k
theorem Rr.self {w : World} {g a : Nat} {S : Nat → Prop} {q : List Bool} {sh : Bool} (h : Rr w g S a q sh) : S g := by
  obtain ⟨v, L, _, _, _, _, _, hs⟩ := h
  exact (hs g).2 (.inl rfl)
theorem Rr.old {w : World} {g a : Nat} {S : Nat → Prop} {q : List Bool} {sh : Bool} (h : Rr w g S a q sh) : ∀ k, S k → k < w.heap.size := by
  obtain ⟨v, L, hg, ho, _, _, _, hs⟩ := h
  intro k hk
  rcases (hs k).1 hk with rfl | hk
  · exact blk_lt hg
  · exact ho.lt_ k hk
theorem Rr.ch {S' : Nat → Prop} {w w' : World} {g a : Nat} {S : Nat → Prop} {q : List Bool} {sh : Bool} (h : Rr w g S a q sh) (hc : Ch S' w w') (hs : ∀ k, S k → ¬ S' k) : Rr w' g S a q sh := by
  obtain ⟨v, L, hg, ho, hq, hm, hn, hS⟩ := h
  exact ⟨v, L, hc.blk hg (hs g ((hS g).2 (.inl rfl))), ho.ch hc fun k hk => hs k ((hS k).2 (.inr hk)), hq, hm, hn, hS⟩
theorem Rr.below {w w' : World} {g a : Nat} {S : Nat → Prop} {q : List Bool} {sh : Bool} (h : Rr w g S a q sh) (hb : Below w.heap.size w w') : Rr w' g S a q sh :=
  h.ch (Ch.of_below (S := fun _ => False) hb) fun _ _ hf => hf
theorem Rr.drew {w : World} {g a : Nat} {S : Nat → Prop} {q : List Bool} {sh : Bool} (h : Rr w g S a q sh) : Rr w.drew g S a q sh := h
theorem Rr.max {w : World} {g a : Nat} {S : Nat → Prop} {q : List Bool} {sh : Bool} (h : Rr w g S a q sh) : a + q.length ≤ 1000000000000000 := by
  obtain ⟨v, L, _, _, _, hm, _, _⟩ := h
  exact hm

set_option maxHeartbeats 400000 in
theorem left_calls (g a : Nat) (S : Nat → Prop) (q : List Bool) (sh : Bool) (w : World) (h : Rr w g S a q sh) :
    Calls Tryz.prog 30 #[.pointer (some ⟨g, 0, none⟩)] w fun e w' => e = .returned (.int .i64 q.length) ∧ Drawn0 w w' := by
  obtain ⟨v, L, hg, -, -, hm, -, -⟩ := h
  have c1 : w.cell? ⟨g, 1, none⟩ = some (.int .i64 a) := obj_cell hg rfl
  have c2 : w.cell? ⟨g, 2, none⟩ = some (.int .i64 (a + q.length : Nat)) := obj_cell hg rfl
  clear hg
  go_enter Tryz.func30, Tryz.ntmps30
  go_wp2
  go_quiet (fail)
  go_wp2
  go_ret
  exact ⟨by go_num, by repeat (first | exact Drawn0.refl _ | apply Drawn0.step)⟩

set_option maxHeartbeats 400000 in
theorem short_calls (g a : Nat) (S : Nat → Prop) (q : List Bool) (sh : Bool) (w : World) (h : Rr w g S a q sh) :
    Calls Tryz.prog 157 #[.pointer (some ⟨g, 0, none⟩)] w fun e w' => e = .returned (.bool sh) ∧ w = w' := by
  obtain ⟨v, L, hg, -, -, hm, -, -⟩ := h
  have c1 : w.cell? ⟨g, 3, none⟩ = some (.bool sh) := obj_cell hg rfl
  clear hg
  go_enter Tryz.func157, Tryz.ntmps157
  go_wp2
  go_ret
  exact ⟨rfl, rfl⟩

set_option maxHeartbeats 800000 in
theorem newReader_calls (A : Option Addr) (c n : Nat) (l : List UInt8) (w : World) (hr : RdB w A l) (hm : l.length ≤ 100000000000000) (hc : l.length ≤ c) (hA : A = none → c = 0) (hn : n ≤ 8 * l.length) :
    Calls Tryz.prog 25 #[.slice A l.length c, .int .i64 n] w fun e w' => ∃ g S, e = .returned (.tuple #[.pointer (some ⟨g, 0, none⟩), .int .i64 0]) ∧ Rr w' g S 0 ((bts l).take n) false ∧ (∀ k, S k → w.heap.size ≤ k) ∧ Below w.heap.size w w' := by
  have h1 := right_calls A l.length c n w (by omega)
  rw [decide_eq_true (show 0 ≤ (n : Int) ∧ (n : Int) ≤ 8 * (l.length : Int) by omega)] at h1
  have H1 := Lib.hid h1
  have H2 := Lib.hid (first_calls A c n l w hr (by omega) hc hA hn)
  have HL := Lib.hid (show ((bts l).take n).length = n by rw [List.length_take, bts_length]; omega)
  clear h1 hr hA
  go_enter Tryz.func25, Tryz.ntmps25
  go_wp2_with (fail)
  refine H1.out.mono ?_
  rintro e w' ⟨rfl, rfl⟩
  go_wp2_with (fail)
  refine H2.out.mono ?_
  rintro e w1 ⟨v, rfl, ho, hb⟩
  have hsz := hb.size
  obtain ⟨D, d, rfl, -, -⟩ := ho.reads
  have HO := Lib.hid ho
  have HB := Lib.hid hb
  clear ho hb
  go_wp2
  go_ret2
  refine ⟨w1.heap.size, fun k => k = w1.heap.size ∨ (Value.slice D (pack ((bts l).take n)).length d).ownBlock = some k, rfl, ⟨_, (bts l).take n, by rw [HL.out, Nat.zero_add]; exact blk_last _ _, (HO.out.below (below_alloc (Below.refl _ _) _)).lower (Nat.zero_le _), ?_, ?_, ?_, fun k => Iff.rfl⟩, ?_, below_alloc HB.out _⟩
  · rw [List.drop_zero, List.take_of_length_le (Nat.le_refl _)]
  · rw [HL.out]; omega
  · intro h
    have := HO.out.lt_ _ h
    omega
  · rintro k (rfl | hk)
    · exact hsz
    · exact HO.out.base_ _ hk

/-- the bit of a byte, as a number. -/
theorem and_one (c : UInt8) (j : Nat) : Go.bits .and .u8 ((c.toNat : Int) / 2 ^ j) 1 = ((c.toNat.testBit j).toNat : Int) := by
  have h1 : (c.toNat : Int) / 2 ^ j = ((c.toNat / 2 ^ j : Nat) : Int) := by simp
  have h2 : c.toNat / 2 ^ j < 256 := Nat.lt_of_le_of_lt (Nat.div_le_self _ _) c.toNat_lt
  have h3 : Go.bits .and .u8 ((c.toNat / 2 ^ j : Nat) : Int) ((1 : Nat) : Int) = ((c.toNat / 2 ^ j &&& 1 : Nat) : Int) := u8_and_nat _ _ h2 (by decide)
  rw [h1, show (1 : Int) = ((1 : Nat) : Int) from rfl, h3, Nat.and_one_is_mod, Nat.testBit_eq_decide_div_mod_eq]
  have : c.toNat / 2 ^ j % 2 < 2 := Nat.mod_lt _ (by decide)
  generalize c.toNat / 2 ^ j % 2 = y at *
  have : y = 0 ∨ y = 1 := by omega
  rcases this with rfl | rfl <;> rfl
theorem or_low (q : Nat) (b : Bool) (h : 2 * q + 1 < 18446744073709551616) : Go.bits .or .u64 ((q : Int) * 2) (b.toNat : Int) = ((2 * q + b.toNat : Nat) : Int) := by
  have h1 : ((q : Int) * 2) = ((2 * q : Nat) : Int) := by omega
  have hb : b.toNat < 2 := by cases b <;> decide
  rw [h1, u64_or_nat _ _ (by omega) (by omega)]
  congr 1
  have := nat_join 1 (2 * q) b.toNat (by omega) (by simpa using hb)
  exact this
theorem pack_bit (L : List Bool) (i : Nat) (h : i < L.length) : ∃ h' : i / 8 < (pack L).length, ((pack L)[i / 8]).toNat.testBit (7 - i % 8) = L[i] := by
  have hl : i / 8 < (pack L).length := by rw [pack_length]; omega
  refine ⟨hl, ?_⟩
  have h1 := bts_get (pack L) i (by omega)
  rw [bts_pack _ _ rfl, List.getElem?_append_left h, List.getElem?_eq_getElem h, List.getD_eq_getElem?_getD, List.getElem?_eq_getElem hl] at h1
  injection h1 with h1
  exact h1.symm

set_option maxHeartbeats 800000 in
theorem get_zero (g _ : Nat) (w : World) :
    Calls Tryz.prog 85 #[.pointer (some ⟨g, 0, none⟩), .int .i64 0] w fun e w' => e = .returned (.int .u64 0) ∧ w = w' := by
  go_enter Tryz.func85, Tryz.ntmps85
  go_wp2
  go_ret
  exact ⟨rfl, rfl⟩

set_option maxHeartbeats 800000 in
theorem get_short (g a k : Nat) (S : Nat → Prop) (q : List Bool) (sh : Bool) (w : World) (h : Rr w g S a q sh) (hk0 : 0 < k) (hk : k ≤ 64) (hq : q.length < k) :
    Calls Tryz.prog 85 #[.pointer (some ⟨g, 0, none⟩), .int .i64 k] w fun e w' => e = .returned (.int .u64 0) ∧ Rr w' g S a [] true ∧ Ch S w w' := by
  have HL := Lib.hid (left_calls g a S q sh w h)
  obtain ⟨v, L, hg, ho, hq2, hm, hn, hS⟩ := h
  have c1 : w.cell? ⟨g, 1, none⟩ = some (.int .i64 a) := obj_cell hg rfl
  have c2 : w.cell? ⟨g, 2, none⟩ = some (.int .i64 (a + q.length : Nat)) := obj_cell hg rfl
  have c3 : w.cell? ⟨g, 3, none⟩ = some (.bool sh) := obj_cell hg rfl
  have f2 : w.frozen? ⟨g, 2, none⟩ = false := obj_free hg
  have f3 : w.frozen? ⟨g, 3, none⟩ = false := obj_free hg
  have d1 : decide ((k : Int) < 1) = false := by simp; omega
  have d2 : decide ((k : Int) > 64) = false := by simp; omega
  have d2' : decide (64 < (k : Int)) = false := by simp; omega
  have d3 : decide ((k : Int) > (q.length : Int)) = true := by simp; omega
  have d3' : decide ((q.length : Int) < (k : Int)) = true := by simp; omega
  have d3n : decide (q.length < k) = true := by simp; omega
  have HG := Lib.hid hg
  have HO := Lib.hid ho
  have HN := Lib.hid hn
  have HS := Lib.hid hS
  clear hg ho hq2 hn hS
  go_enter Tryz.func85, Tryz.ntmps85
  go_wp2_with (fail)
  refine HL.out.mono ?_
  rintro e w' ⟨rfl, nd, rfl⟩
  go_wp2_with (fail)
  go_ret
  refine ⟨rfl, ⟨v, L, blk_set (blk_set (cs := #[v, .int .i64 a, .int .i64 (a + q.length : Nat), .bool sh]) HG.out 3 _) 2 _, ?_, by simp, by simpa using Nat.le_trans (Nat.le_add_right _ _) hm, HN.out, HS.out⟩, ?_⟩
  · exact OwI.far (OwI.far (OwI.drewN HO.out nd) HN.out _) HN.out _
  · exact (((Ch.refl S w).drewN nd).setCell (.inl ((HS.out g).2 (.inl rfl))) _).setCell (.inl ((HS.out g).2 (.inl rfl))) _

set_option maxHeartbeats 1600000 in
theorem get_calls (g a k : Nat) (S : Nat → Prop) (q : List Bool) (sh : Bool) (w : World) (h : Rr w g S a q sh) (hk0 : 0 < k) (hk : k ≤ 64) (hq : k ≤ q.length) :
    Calls Tryz.prog 85 #[.pointer (some ⟨g, 0, none⟩), .int .i64 k] w fun e w' => e = .returned (.int .u64 (val (q.take k))) ∧ Rr w' g S (a + k) (q.drop k) sh ∧ Ch S w w' := by
  have HL := Lib.hid (left_calls g a S q sh w h)
  have hm := h.max
  have H := Lib.hid h
  have d1 : decide ((k : Int) < 1) = false := by simp; omega
  have d2 : decide ((k : Int) > 64) = false := by simp; omega
  have d2' : decide (64 < (k : Int)) = false := by simp; omega
  have d3 : decide ((k : Int) > (q.length : Int)) = false := by simp; omega
  have d3' : decide ((q.length : Int) < (k : Int)) = false := by simp; omega
  have d3n : decide (q.length < k) = false := by simp; omega
  clear h
  go_enter Tryz.func85, Tryz.ntmps85
  go_wp2_with (fail)
  refine HL.out.mono ?_
  rintro e w' ⟨rfl, nd, rfl⟩
  go_wp2_with (fail)
  go_loopw [5, 27] (fun x i wr => ∃ j : Nat, j ≤ k ∧ i = .int .i64 j ∧ x = .int .u64 (val (q.take j)) ∧ Rr wr g S (a + j) (q.drop j) sh ∧ Ch S w wr) (fun _ i _ => k - (intOf i).toNat)
  case atStart => exact ⟨0, by omega, rfl, rfl, H.out, (Ch.refl S w).drewN nd⟩
  case round =>
    obtain ⟨j, hj, rfl, rfl, hr, hc⟩ := hrel
    by_cases hlt : j < k
    · obtain ⟨v, L, hg, ho, hq2, hmm, hn, hS⟩ := hr
      have hjq : j < q.length := by omega
      have hdl : (q.drop j).length = q.length - j := List.length_drop
      have hLl : a + j < L.length := by
        have := congrArg List.length hq2
        rw [List.length_take, hdl, List.length_drop] at this
        omega
      obtain ⟨hi8, hbit⟩ := pack_bit L (a + j) hLl
      have hLq : L[a + j] = q[j] := by
        have h1 : (q.drop j)[0]? = some q[j] := by rw [List.getElem?_drop]; simp [hjq]
        rw [← hq2, List.getElem?_take, if_pos (by omega), List.getElem?_drop, Nat.add_zero, List.getElem?_eq_getElem hLl] at h1
        injection h1
      obtain ⟨gb, c, rfl, -, -⟩ := OwI.form ho (by rw [ints_length]; omega)
      obtain ⟨x1, x2⟩ := OwB.at_ (by rwa [ints_length] at ho) ((a + j) / 8) hi8
      obtain ⟨y, hy⟩ : ∃ y, y = (pack L)[(a + j) / 8] := ⟨_, rfl⟩
      rw [← hy] at x1 hbit
      have hao := and_one y (7 - (a + j) % 8)
      rw [hbit, hLq] at hao
      have hvl := val_lt (q.take (j + 1))
      have hvs := val_take_succ q j hjq
      have hpw : (2 : Nat) ^ (q.take (j + 1)).length ≤ 2 ^ 64 := Nat.pow_le_pow_right (by decide) (by rw [List.length_take]; omega)
      obtain ⟨z, hz⟩ : ∃ z, z = val (q.take j) := ⟨_, rfl⟩
      rw [← hz] at hvs ⊢
      have hz2 : 2 * z + 1 < 18446744073709551616 := by
        have hev : val (q.take j) < 2 ^ (q.take j).length := val_lt _
        have hpw2 : (2 : Nat) ^ (q.take j).length ≤ 2 ^ 63 := Nat.pow_le_pow_right (by decide) (by rw [List.length_take]; omega)
        omega
      have hor := or_low z q[j] hz2
      obtain ⟨bt, hbt⟩ : ∃ bt, bt = q[j].toNat := ⟨_, rfl⟩
      rw [← hbt] at hor hao hvs
      have hbt2 : bt < 2 := by rw [hbt]; cases q[j] <;> decide
      obtain ⟨i, hi⟩ : ∃ i, i = a + j := ⟨_, rfl⟩
      rw [← hi] at hg x1 x2 hao hi8 hmm
      rw [ints_length] at hg ho hn hS
      have c0 : wr.cell? ⟨g, 0, none⟩ = some (.slice (some ⟨gb, 0, none⟩) (pack L).length c) := obj_cell hg rfl
      have c1 : wr.cell? ⟨g, 1, none⟩ = some (.int .i64 i) := obj_cell hg rfl
      have f1 : wr.frozen? ⟨g, 1, none⟩ = false := obj_free hg
      have hpl : (pack L).length ≤ 9223372036854775807 := by have := ho.max; rwa [ints_length] at this
      obtain ⟨m, hm2⟩ : ∃ m, m = (pack L).length := ⟨_, rfl⟩
      rw [← hm2] at c0 hi8 hpl
      have hid1 : i ≤ a + j := by omega
      have hid2 : a + j ≤ i := by omega
      have hne : gb ≠ g := by rintro rfl; exact hn rfl
      have HG := Lib.hid hg
      have HO := Lib.hid ho
      have HN := Lib.hid hn
      have HS := Lib.hid hS
      have HC := Lib.hid hc
      have HQ2 := Lib.hid hq2
      have HVS := Lib.hid hvs
      have HM2 := Lib.hid hm2
      have HII := Lib.hid hi
      have HOR := Lib.hid hor
      clear hg ho hn hS hc hq2 hvs hi hbit hLq hy hz hvl hpw hbt hm2 hdl hor
      have hw1 : IntKind.u64.wrap (2 * (z : Int)) = 2 * (z : Int) := by rw [IntKind.wrap_u64]; omega
      have hw2 : IntKind.u64.wrap (bt : Int) = bt := wrap_u64n (by omega)
      have hj1 : (i : Int) / 8 < (m : Int) := by omega
      have hj0 : 0 ≤ (i : Int) / 8 := by omega
      go_wp2_with (fail)
      go_quiet (fail)
      rw [HOR.out]
      go_wp2
      go_roundw
      case rel =>
        refine ⟨j + 1, by omega, by go_num, by rw [HVS.out], ⟨_, L, ?_, OwI.far (OwI.drewN HO.out _) HN.out _, ?_, ?_, HN.out, HS.out⟩, (HC.out.drewN _).setCell (.inl ((HS.out g).2 (.inl rfl))) _⟩
        · have e2 : i + (q.drop j).length = a + (j + 1) + (q.drop (j + 1)).length := by rw [List.length_drop, List.length_drop]; omega
          have e1 : (i : Int) + 1 = ((a + (j + 1) : Nat) : Int) := by omega
          have h5 := HG.out
          rw [e2] at h5
          refine (blk_set h5 1 _).trans ?_
          rw [e1]
          rfl
        · have h5 := congrArg (List.drop 1) HQ2.out
          rw [List.drop_take, List.drop_drop, List.drop_drop, List.length_drop] at h5
          rw [List.length_drop, show q.length - (j + 1) = q.length - j - 1 from by omega, show a + (j + 1) = a + j + 1 from by omega]
          exact h5
        · rw [List.length_drop]; omega
      case measure => simp [intOf]; omega
    · obtain rfl : j = k := by omega
      have HR := Lib.hid hr
      have HC := Lib.hid hc
      clear hr hc
      go_wp2
      go_ret
      exact ⟨rfl, HR.out, HC.out⟩
/-- Bit: the next one. -/
theorem rbit_calls (g a : Nat) (S : Nat → Prop) (b : Bool) (q : List Bool) (sh : Bool) (w : World) (h : Rr w g S a (b :: q) sh) :
    Calls Tryz.prog 27 #[.pointer (some ⟨g, 0, none⟩)] w fun e w' => e = .returned (.bool b) ∧ Rr w' g S (a + 1) q sh ∧ Ch S w w' := by
  have h1 := get_calls g a 1 S (b :: q) sh w h (by decide) (by decide) (by simp)
  have hv : val ((b :: q).take 1) = b.toNat := by cases b <;> rfl
  rw [hv] at h1
  have H1 := Lib.hid h1
  have hb : ((b.toNat : Int) == 1) = b := by cases b <;> rfl
  clear h h1 hv
  go_enter Tryz.func27, Tryz.ntmps27
  go_wp2_with (fail)
  refine H1.out.mono ?_
  rintro e w1 ⟨rfl, hr, hc⟩
  have HR := Lib.hid hr
  have HC := Lib.hid hc
  clear hr hc
  go_wp2
  go_ret
  exact ⟨rfl, HR.out, HC.out⟩
theorem rbit_short (g a : Nat) (S : Nat → Prop) (sh : Bool) (w : World) (h : Rr w g S a [] sh) :
    Calls Tryz.prog 27 #[.pointer (some ⟨g, 0, none⟩)] w fun e w' => e = .returned (.bool false) ∧ Rr w' g S a [] true ∧ Ch S w w' := by
  have H1 := Lib.hid (get_short g a 1 S [] sh w h (by decide) (by decide) (by simp))
  clear h
  go_enter Tryz.func27, Tryz.ntmps27
  go_wp2_with (fail)
  refine H1.out.mono ?_
  rintro e w1 ⟨rfl, hr, hc⟩
  have HR := Lib.hid hr
  have HC := Lib.hid hc
  clear hr hc
  go_wp2
  go_ret
  exact ⟨rfl, HR.out, HC.out⟩
end Go.Proofs.YtjfekjbmgckkcaaGreatDoor.StreamR
