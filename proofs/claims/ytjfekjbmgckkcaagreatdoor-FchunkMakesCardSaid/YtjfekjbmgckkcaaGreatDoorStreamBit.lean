/- stream's walks: one more bit. -/
import Derived.Test.YtjfekjbmgckkcaaGreatDoorStreamA
namespace Go.Proofs.YtjfekjbmgckkcaaGreatDoor.StreamBit
open Go.RowKit Go.Proofs.YtjfekjbmgckkcaaGreatDoorW.PrintWords
open Go.Proofs.YtjfekjbmgckkcaaGreatDoor.Bits Go.Proofs.YtjfekjbmgckkcaaGreatDoor.Base Go.Proofs.YtjfekjbmgckkcaaGreatDoor.StreamPure Go.Proofs.YtjfekjbmgckkcaaGreatDoor.StreamA

theorem or_bit (y : UInt8) (r : Nat) (hr : r < 8) : Go.bits .or .u8 (y.toNat : Int) (2 ^ (7 - r) % 256) = ((UInt8.ofNat (y.toNat ||| 2 ^ (7 - r))).toNat : Int) := by
  have hp8 : 2 ^ (7 - r) < 256 := Nat.lt_of_le_of_lt (Nat.pow_le_pow_right (by decide) (show 7 - r ≤ 7 from by omega)) (by decide)
  have h1 : ((2 : Int) ^ (7 - r) % 256) = ((2 ^ (7 - r) : Nat) : Int) := by
    rw [Int.natCast_pow]
    have : ((2 ^ (7 - r) : Nat) : Int) < 256 := by omega
    rw [Int.natCast_pow] at this
    have h0 : (0 : Int) ≤ 2 ^ (7 - r) := Int.pow_nonneg (by decide)
    exact Int.emod_eq_of_lt h0 this
  rw [h1, u8_or_nat _ _ y.toNat_lt hp8, UInt8.toNat_ofNat', Nat.mod_eq_of_lt (Nat.or_lt_two_pow (n := 8) y.toNat_lt hp8)]

set_option maxHeartbeats 800000 in
theorem bit_new (g : Nat) (S : Nat → Prop) (l : List Bool) (b : Bool) (w : World) (h : Wr w g S l) (hm : l.length ≤ 1000000000000) (h8 : l.length % 8 = 0) :
    Calls Tryz.prog 16 #[.pointer (some ⟨g, 0, none⟩), .bool b] w fun e w' => e = .returned (.tuple #[]) ∧ Upd (fun w S => Wr w g S (l ++ [b])) S w w' := by
  have HP := Lib.hid (pack_new l b h8)
  obtain ⟨v, hg, ho, hn, hS⟩ := h
  obtain ⟨A, c, rfl, -, -⟩ := ho.reads
  have hpl : (pack l).length ≤ 1000000000000 := by rw [pack_length]; omega
  have hil := ints_length (pack l)
  obtain ⟨m, hmm⟩ : ∃ m, m = (pack l).length := ⟨_, rfl⟩
  rw [← hmm] at hg ho hn hS hpl hil
  have c0 : w.cell? ⟨g, 0, none⟩ = some (.slice A m c) := obj_cell hg rfl
  have c1 : w.cell? ⟨g, 1, none⟩ = some (.int .i64 l.length) := obj_cell hg rfl
  have f0 : w.frozen? ⟨g, 0, none⟩ = false := obj_free hg
  have f1 : w.frozen? ⟨g, 1, none⟩ = false := obj_free hg
  have hm8 : (l.length : Int) % 8 = 0 := by omega
  have d1 : ((l.length : Int) % 8 == 0) = true := by rw [hm8]; rfl
  have HM := Lib.hid hmm
  have HO := Lib.hid ho
  have HS := Lib.hid hS
  have HN := Lib.hid hn
  have HG := Lib.hid hg
  have HIL := Lib.hid hil
  clear ho hS hn hg hm8 hmm hil
  have HK : ∀ w1 D d, Hid (w.grownBy w1 (Value.slice A m c).ownBlock) → Hid ((Value.slice D (m + 1) d).ownBlock = (Value.slice A m c).ownBlock ∨ ∃ k, (Value.slice D (m + 1) d).ownBlock = some k ∧ w.heap.size ≤ k) → (Value.slice D (m + 1) d).ownBlock ≠ some g := by
    rintro w1 D d - h1 h2
    rcases h1.out with h3 | ⟨k, h3, h4⟩
    · exact HN.out (h3 ▸ h2)
    · rw [h3] at h2
      injection h2 with h2
      have := blk_lt HG.out
      omega
  cases b with
  | false =>
    go_enter Tryz.func16, Tryz.ntmps16
    go_wp2_with (at_builtin; refine append_one (w0 := w) 0 rfl (.tmp 16) (.tmp 17) 51 5 .u8 1 rfl Tryz.underlying51 info (by decide) (.slice A m c) (ints (pack l)) 0 rfl rfl HO.out (Below.refl _ _) (Nat.zero_le _) (by rw [HIL.out]; omega) ?_; intro v1 w1 ho1 hb1 hg1 hat1; refine stop_here ?_)
    refine Lib.hid ?_
    have hG1 := (hg1.block g (blk_lt HG.out) HN.out.symm).trans HG.out
    clear c0 c1 f0 f1
    have c0 : w1.cell? ⟨g, 0, none⟩ = some (.slice A m c) := obj_cell hG1 rfl
    have c1 : w1.cell? ⟨g, 1, none⟩ = some (.int .i64 l.length) := obj_cell hG1 rfl
    have f0 : w1.frozen? ⟨g, 0, none⟩ = false := obj_free hG1
    have f1 : w1.frozen? ⟨g, 1, none⟩ = false := obj_free hG1
    have ho2 : OwB 5 w1 0 v1 (pack l ++ [0]) := by unfold OwB; rw [ints_append]; exact ho1
    obtain ⟨D, d, he, -, -⟩ := ho2.reads
    rw [List.length_append, List.length_singleton, ← HM.out] at he
    subst he
    have hn1 := HK w1 D d (Lib.hid hg1) (Lib.hid hat1)
    have HG1 := Lib.hid hG1
    have HO1 := Lib.hid ho2
    have HGR := Lib.hid hg1
    have HAT := Lib.hid hat1
    have HN1 := Lib.hid hn1
    clear ho1 ho2 hb1 hg1 hat1 hG1 hn1 HK
    go_wp2
    go_end0
    refine ⟨rfl, Wr.grow (v1 := .slice D (m + 1) d) HS.out (blk_lt HG.out) HAT.out HN.out ?_ ?_ ?_⟩
    · rw [blk_set (blk_set HG1.out _ _) _ _, List.length_append]
      rfl
    · rw [HP.out]
      exact OwI.far (OwI.far HO1.out HN1.out _) HN1.out _
    · exact (((Ch.refl S w).grown HGR.out (fun k hk => .inl ((HS.out k).2 (.inr hk)))).setCell (.inl ((HS.out g).2 (.inl rfl))) _).setCell (.inl ((HS.out g).2 (.inl rfl))) _
  | true =>
    go_enter Tryz.func16, Tryz.ntmps16
    go_wp2_with (at_builtin; refine append_one (w0 := w) 0 rfl (.tmp 16) (.tmp 17) 51 5 .u8 1 rfl Tryz.underlying51 info (by decide) (.slice A m c) (ints (pack l)) 0 rfl rfl HO.out (Below.refl _ _) (Nat.zero_le _) (by rw [HIL.out]; omega) ?_; intro v1 w1 ho1 hb1 hg1 hat1; refine stop_here ?_)
    refine Lib.hid ?_
    have hG1 := (hg1.block g (blk_lt HG.out) HN.out.symm).trans HG.out
    clear c0 c1 f0 f1
    have c0 : w1.cell? ⟨g, 0, none⟩ = some (.slice A m c) := obj_cell hG1 rfl
    have c1 : w1.cell? ⟨g, 1, none⟩ = some (.int .i64 l.length) := obj_cell hG1 rfl
    have f0 : w1.frozen? ⟨g, 0, none⟩ = false := obj_free hG1
    have f1 : w1.frozen? ⟨g, 1, none⟩ = false := obj_free hG1
    have ho2 : OwB 5 w1 0 v1 (pack l ++ [0]) := by unfold OwB; rw [ints_append]; exact ho1
    obtain ⟨D, d, he, -, -⟩ := ho2.reads
    rw [List.length_append, List.length_singleton, ← HM.out] at he
    subst he
    have hn1 := HK w1 D d (Lib.hid hg1) (Lib.hid hat1)
    have HG1 := Lib.hid hG1
    have HO1 := Lib.hid ho2
    have HGR := Lib.hid hg1
    have HAT := Lib.hid hat1
    obtain ⟨gb, cb, he, -, hgb, -⟩ := OwI.form ho2 (by simp [ints])
    injection he with he1 he2 he3
    subst he1
    have hne : gb ≠ g := by rintro rfl; exact hn1 rfl
    have ho3 := OwI.far (p := ⟨g, 0, none⟩) ho2 hn1 (.slice (some ⟨gb, 0, none⟩) (m + 1) d)
    obtain ⟨x1, x2⟩ := OwB.at_ ho3 m (by rw [List.length_append, ← HM.out]; simp)
    have hx0 : ((pack l ++ [0])[m]'(by rw [List.length_append, ← HM.out]; simp)) = 0 := by
      simp [HM.out]
    rw [hx0] at x1
    have HN1 := Lib.hid hn1
    have HO3 := Lib.hid ho3
    have r8 : l.length % 8 = 0 := h8
    have HB : Hid (S gb ∨ w.heap.size ≤ gb) := by
      rcases hat1 with h | ⟨k, h, h2⟩
      · exact .inl ((HS.out gb).2 (.inr h.symm))
      · have h3 : some gb = some k := h
        injection h3 with h3
        exact .inr (by omega)
    clear ho1 ho2 hb1 hg1 hat1 hG1 hn1 HK ho3 he2 he3 hx0 r8 h8
    have hm7 : (7 : Int) - (l.length : Int) % 8 = 7 := by have := of_decide_eq_true d1; omega
    have hor : Go.bits .or .u8 0 128 = ((128 : UInt8).toNat : Int) := by decide
    have HOR := Lib.hid hor
    clear hor
    go_wp2
    go_region
    rw [HOR.out]
    go_wp2
    go_end0
    refine ⟨rfl, Wr.grow (v1 := .slice (some ⟨gb, 0, none⟩) (m + 1) d) HS.out (blk_lt HG.out) HAT.out HN.out ?_ ?_ ?_⟩
    · rw [List.length_append]
      refine blk_set (cs := #[.slice (some ⟨gb, 0, none⟩) (m + 1) d, .int .i64 l.length]) ?_ 1 _
      refine (Below.heap_setCell _ _ _ g (fun h => hne h.symm)).trans ?_
      exact blk_set HG1.out 0 _
    · rw [HP.out, if_pos trivial]
      have h5 := OwB.set HO3.out m 128
      rw [List.set_append_right _ _ (by rw [← HM.out]; exact Nat.le_refl _), ← HM.out, Nat.sub_self, List.set_cons_zero] at h5
      exact OwI.drew (OwI.far h5 HN1.out _)
    · exact (((((Ch.refl S w).grown HGR.out (fun k hk => .inl ((HS.out k).2 (.inr hk)))).setCell (.inl ((HS.out g).2 (.inl rfl))) _).setCell (HB.out) _).setCell (.inl ((HS.out g).2 (.inl rfl))) _).drew

set_option maxHeartbeats 800000 in
theorem bit_more (g : Nat) (S : Nat → Prop) (l : List Bool) (b : Bool) (w : World) (h : Wr w g S l) (hm : l.length ≤ 1000000000000) (h8 : l.length % 8 ≠ 0) :
    Calls Tryz.prog 16 #[.pointer (some ⟨g, 0, none⟩), .bool b] w fun e w' => e = .returned (.tuple #[]) ∧ Upd (fun w S => Wr w g S (l ++ [b])) S w w' := by
  obtain ⟨y, hy1, hy2, hp0⟩ := pack_more l b h8
  obtain ⟨v, hg, ho, hn, hS⟩ := h
  obtain ⟨gb, c, rfl, -, -⟩ := OwI.form ho (by rw [ints_length]; exact hp0)
  have hpl : (pack l).length ≤ 1000000000000 := by rw [pack_length]; omega
  have hyy : (pack l)[(pack l).length - 1] = y := (List.getElem?_eq_some_iff.1 hy1).2
  obtain ⟨x1, x2⟩ := OwB.at_ (by rwa [ints_length] at ho) ((pack l).length - 1) (by omega)
  rw [hyy] at x1
  rw [ints_length] at hg ho hn hS
  obtain ⟨m, hmm⟩ : ∃ m, m + 1 = (pack l).length := ⟨(pack l).length - 1, by omega⟩
  rw [← hmm] at hg ho hn hS hpl x1 x2 hy2
  rw [Nat.add_sub_cancel] at x1 x2 hy2
  have hne : gb ≠ g := by rintro rfl; exact hn rfl
  have c0 : w.cell? ⟨g, 0, none⟩ = some (.slice (some ⟨gb, 0, none⟩) (m + 1) c) := obj_cell hg rfl
  have c1 : w.cell? ⟨g, 1, none⟩ = some (.int .i64 l.length) := obj_cell hg rfl
  have f0 : w.frozen? ⟨g, 0, none⟩ = false := obj_free hg
  have f1 : w.frozen? ⟨g, 1, none⟩ = false := obj_free hg
  have d1 : ((l.length : Int) % 8 == 0) = false := by rw [beq_eq_false_iff_ne]; omega
  have hor := or_bit y (l.length % 8) (by omega)
  have hy8 := y.toNat_lt
  have HM := Lib.hid hmm
  have HO := Lib.hid ho
  have HS := Lib.hid hS
  have HN := Lib.hid hn
  have HG := Lib.hid hg
  have HP := Lib.hid hy2
  have HOR := Lib.hid hor
  have HY := Lib.hid (show (pack l).set m y = pack l by
    have hml : m < (pack l).length := by omega
    have : y = (pack l)[m] := by rw [← hyy]; congr 1; omega
    rw [this]
    exact List.set_getElem_self hml)
  clear ho hS hn hg hmm hy1 hy2 hyy hp0 hor
  cases b with
  | false =>
    go_enter Tryz.func16, Tryz.ntmps16
    go_wp2
    go_end0
    have e : UInt8.ofNat (y.toNat ||| (if false = true then 2 ^ (7 - l.length % 8) else 0)) = y := by simp
    refine ⟨rfl, Wr.grow (v1 := .slice (some ⟨gb, 0, none⟩) (m + 1) c) HS.out (blk_lt HG.out) (.inl rfl) HN.out ?_ ?_ ?_⟩
    · rw [blk_set HG.out _ _, List.length_append]
      rfl
    · rw [HP.out, e, HY.out]
      exact OwI.far HO.out HN.out _
    · exact (Ch.refl S w).setCell (.inl ((HS.out g).2 (.inl rfl))) _
  | true =>
    rw [if_pos rfl] at HP
    obtain ⟨z, hz⟩ : ∃ z, z = UInt8.ofNat (y.toNat ||| 2 ^ (7 - l.length % 8)) := ⟨_, rfl⟩
    rw [← hz] at HP HOR
    clear hz
    go_enter Tryz.func16, Tryz.ntmps16
    go_wp2
    go_region
    rw [HOR.out]
    go_wp2
    go_end0
    refine ⟨rfl, Wr.grow (v1 := .slice (some ⟨gb, 0, none⟩) (m + 1) c) HS.out (blk_lt HG.out) (.inl rfl) HN.out ?_ ?_ ?_⟩
    · rw [List.length_append]
      refine blk_set (cs := #[.slice (some ⟨gb, 0, none⟩) (m + 1) c, .int .i64 l.length]) ?_ 1 _
      exact (Below.heap_setCell _ _ _ g (fun h => hne h.symm)).trans HG.out
    · rw [HP.out]
      exact OwI.drew (OwI.far (OwB.set HO.out m _) HN.out _)
    · exact (((Ch.refl S w).setCell (.inl ((HS.out gb).2 (.inr rfl))) _).setCell (.inl ((HS.out g).2 (.inl rfl))) _).drew

theorem bit_calls (g : Nat) (S : Nat → Prop) (l : List Bool) (b : Bool) (w : World) (h : Wr w g S l) (hm : l.length ≤ 1000000000000) :
    Calls Tryz.prog 16 #[.pointer (some ⟨g, 0, none⟩), .bool b] w fun e w' => e = .returned (.tuple #[]) ∧ Upd (fun w S => Wr w g S (l ++ [b])) S w w' := by
  by_cases h8 : l.length % 8 = 0
  · exact bit_new g S l b w h hm h8
  · exact bit_more g S l b w h hm h8

/-- a bit of a number, as the walk has it. -/
theorem bit_u64 (v k : Nat) (hv : v < 18446744073709551616) : (Go.bits .and .u64 ((v : Int) / 2 ^ k) 1 == 1) = v.testBit k := by
  have h1 : (v : Int) / 2 ^ k = ((v / 2 ^ k : Nat) : Int) := by simp
  rw [h1]
  have h2 : v / 2 ^ k < 18446744073709551616 := Nat.lt_of_le_of_lt (Nat.div_le_self _ _) hv
  have h3 : Go.bits .and .u64 ((v / 2 ^ k : Nat) : Int) ((1 : Nat) : Int) = ((v / 2 ^ k &&& 1 : Nat) : Int) := u64_and_nat _ _ h2 (by decide)
  rw [show (1 : Int) = ((1 : Nat) : Int) from rfl, h3, Nat.and_one_is_mod, Nat.testBit_eq_decide_div_mod_eq]
  generalize v / 2 ^ k % 2 = y
  rw [Bool.eq_iff_iff, beq_iff_eq, decide_eq_true_iff]
  omega
theorem nb_take (v n k : Nat) (h : k < n) : (nb v n).take (k + 1) = (nb v n).take k ++ [v.testBit (n - 1 - k)] := by
  have hg := nb_get v n k h
  obtain ⟨hl, he⟩ := List.getElem?_eq_some_iff.1 hg
  rw [List.take_succ_eq_append_getElem hl, he]

set_option maxHeartbeats 800000 in
theorem put_calls (g : Nat) (S : Nat → Prop) (l : List Bool) (v n : Nat) (w : World) (h : Wr w g S l) (hm : l.length ≤ 100000000000) (hn : n ≤ 64) (hv : v < 18446744073709551616) :
    Calls Tryz.prog 72 #[.pointer (some ⟨g, 0, none⟩), .int .u64 v, .int .i64 n] w fun e w' => e = .returned (.tuple #[]) ∧ Upd (fun w S => Wr w g S (l ++ nb v n)) S w w' := by
  have hold := h.old
  have H := Lib.hid h
  have HV := Lib.hid hv
  clear h hv
  by_cases h0 : n = 0
  · subst h0
    go_enter Tryz.func72, Tryz.ntmps72
    go_wp2
    refine bodyPost_ret (results_none rfl _ _ _) rfl ?_
    exact ⟨rfl, S, by rw [nb_zero, List.append_nil]; exact H.out, fun k hk => .inl hk, Ch.refl _ _⟩
  · have d1 : decide ((n : Int) < 1) = false := by simp; omega
    have d2 : decide ((n : Int) > 64) = false := by simp; omega
    have d2' : decide (64 < (n : Int)) = false := by simp; omega
    go_enter Tryz.func72, Tryz.ntmps72
    go_wp2
    go_loopw [6] (fun i wr => ∃ k : Nat, k ≤ n ∧ i = .int .i64 ((n : Int) - 1 - k) ∧ Upd (fun w S => Wr w g S (l ++ (nb v n).take k)) S w wr) (fun i _ => ((intOf i) + 1).toNat)
    case atStart => exact ⟨0, by omega, by simp, S, by simpa using H.out, fun k hk => .inl hk, Ch.refl _ _⟩
    case round =>
      obtain ⟨k, hk, rfl, S1, hw, hs, hc⟩ := hrel
      by_cases hlt : k < n
      · have d3 : decide ((n : Int) - 1 - k ≥ 0) = true := by simp; omega
        have d3' : decide (0 ≤ (n : Int) - 1 - k) = true := by simp; omega
        obtain ⟨j, hj⟩ : ∃ j : Nat, j = n - 1 - k := ⟨_, rfl⟩
        have hj1 : j + k + 1 ≤ n := by omega
        have hj2 : n ≤ j + k + 1 := by omega
        have hji : (n : Int) - 1 - k = (j : Int) := by omega
        have hb := bit_u64 v j HV.out
        have ht := nb_take v n k hlt
        rw [← hj] at ht
        have hl : (l ++ (nb v n).take k).length ≤ 1000000000000 := by rw [List.length_append, List.length_take, nb_length]; omega
        have HC := Lib.hid (bit_calls g S1 _ (v.testBit j) wr hw hl)
        have HT := Lib.hid ht
        have HHS := Lib.hid hs
        have HHC := Lib.hid hc
        rw [hji]
        rw [hji] at d3 d3'
        clear hw hs hc ht hl hold hj hji
        go_wp2_with (fail)
        refine HC.out.mono ?_
        rintro e w2 ⟨rfl, S2, hw2, hs2, hc2⟩
        have HW2 := Lib.hid hw2
        have HS2 := Lib.hid hs2
        have HC2 := Lib.hid hc2
        clear hw2 hs2 hc2
        go_wp2
        go_roundw
        case rel =>
          have hu : Upd (fun w S => Wr w g S (l ++ (nb v n).take k ++ [v.testBit j])) S w w2 := Upd.then HHS.out HHC.out ⟨S2, HW2.out, HS2.out, HC2.out⟩
          rw [List.append_assoc, ← HT.out] at hu
          exact ⟨k + 1, by omega, by congr 1; omega, hu⟩
        case measure => simp [intOf]
      · obtain rfl : k = n := by omega
        have d3 : decide ((k : Int) - 1 - k ≥ 0) = false := by simp; omega
        have d3' : decide (0 ≤ (k : Int) - 1 - k) = false := by simp; omega
        have HHS := Lib.hid hs
        have HHC := Lib.hid hc
        have HHW := Lib.hid hw
        clear hs hc hw hold
        go_wp2
        go_end0
        refine ⟨rfl, S1, ?_, HHS.out, HHC.out⟩
        have := HHW.out
        rwa [List.take_of_length_le (by rw [nb_length]; exact Nat.le_refl _)] at this
end Go.Proofs.YtjfekjbmgckkcaaGreatDoor.StreamBit
