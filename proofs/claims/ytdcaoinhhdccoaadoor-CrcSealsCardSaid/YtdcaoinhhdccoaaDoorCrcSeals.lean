/- CrcSeals: the walk. -/
import Derived.Test.YtdcaoinhhdccoaaDoorCrcBursts
import Derived.Deep.RegionWith
namespace Go.Proofs.YtdcaoinhhdccoaaDoor.CrcSeals
open Go.RowKit Go.Proofs.YtdcaoinhhdccoaaDoorW.PrintWords
open Go.Proofs.YtdcaoinhhdccoaaDoor.Bits Go.Proofs.YtdcaoinhhdccoaaDoor.Base Go.Proofs.YtdcaoinhhdccoaaDoor.LawBase Go.Proofs.YtdcaoinhhdccoaaDoor.CrcPure Go.Proofs.YtdcaoinhhdccoaaDoor.CrcStep Go.Proofs.YtdcaoinhhdccoaaDoor.CrcGo Go.Proofs.YtdcaoinhhdccoaaDoor.CrcOpen Go.Proofs.YtdcaoinhhdccoaaDoor.CrcOpenW Go.Proofs.YtdcaoinhhdccoaaDoor.CrcBurst Go.Proofs.YtdcaoinhhdccoaaDoor.CrcAwake Go.Proofs.YtdcaoinhhdccoaaDoor.CrcTurns Go.Proofs.YtdcaoinhhdccoaaDoor.CrcBursts

/-- the document's sum of bytes, as its bytes: three calls. -/
theorem ref_sum (l : List UInt8) (hl : l.length ≤ 1000) (w W : World) (hb : Below w.heap.size w W) :
    Calls Tryd.prog 12 #[.string (str l)] W fun e w' => e = .returned (.int .u32 ((sum l).toNat : Int)) ∧ Below w.heap.size w w' := by
  refine (CrcRef.sum_calls (str l) W (by rw [str_size]; omega)).mono ?_
  rintro e w' ⟨rfl, h⟩
  exact ⟨rfl, below_then hb hb.size h⟩
theorem ref_number (r : BitVec 32) (W : World) :
    Calls Tryd.prog 16 #[.int .u64 (r.toNat : Int), .int .i64 32] W fun e w' => e = .returned (.string (txt (nb r.toNat 32))) ∧ W = w' :=
  Ref01.number_calls r.toNat 32 W (by have := r.isLt; omega) (by decide)
theorem ref_bytes (r : BitVec 32) (w W : World) (hb : Below w.heap.size w W) :
    Calls Tryd.prog 15 #[.string (txt (nb r.toNat 32))] W fun e w' => e = .returned (.string (str (four r))) ∧ Below w.heap.size w w' := by
  refine (Ref01.bytes_calls (nb r.toNat 32) W (by rw [nb_length]; decide)).mono ?_
  rintro e w' ⟨rfl, h⟩
  rw [CrcLaws.four_pack]
  exact ⟨rfl, below_then hb hb.size h⟩
set_option maxHeartbeats 1600000 in
theorem seals0 (A : Option Addr) (c : Nat) (l : List UInt8) (w : World) (ha : RdB w A l) (hc : l.length ≤ c) (hT : Tab w) :
    Calls Tryd.prog 4 #[.slice A l.length c] w fun e w' => e = .returned (.bool true) ∧ Below w.heap.size w w' := by
  have hm := ha.max
  rw [ints_length] at hm
  have HAW := Lib.hid (awake_any w hT)
  have HTA := Lib.hid hT
  by_cases hbig : l.length > 300
  · have h1 : decide ((l.length : Int) > 300) = true := by simp; omega
    have h1' : decide (300 < (l.length : Int)) = true := by simp; omega
    clear ha hT
    go_enter Tryd.func4, Tryd.ntmps4
    go_wp2_with (go_at_call 10; refine (HAW.out _ (Below.refl _ _)).mono ?_; rintro e w' ⟨rfl, hbx⟩)
    go_ret
    exact ⟨rfl, hbx⟩
  · have h1 : decide ((l.length : Int) > 300) = false := by simp; omega
    have h1' : decide (300 < (l.length : Int)) = false := by simp; omega
    have hl : l.length ≤ 300 := by omega
    have HA := Lib.hid ha
    have hcv : ∀ W, Below w.heap.size w W → (convert 22 9 (.slice A l.length c)).run Tryd.prog W = .ok (.string (str l)) W := fun W hb =>
      RdB.string (HA.out.below hb) rfl Tryd.underlying22 Tryd.underlying5 Tryd.underlying9
    have HCV := Lib.hid hcv
    have HSE := Lib.hid (CrcConcat.seal_calls A c l w ha (by omega))
    have HOB : Hid (∀ W, Below w.heap.size w W → Calls Tryd.prog 17 #[.slice A l.length c] W fun e w' => ∃ v, e = .returned (.tuple #[v, .bool (decide (4 ≤ l.length) && decide (four (sum (l.take (l.length - 4))) = l.drop (l.length - 4)))]) ∧
      OwB 5 w' w.heap.size v (if 4 ≤ l.length then opened l (l.length - 4) else []) ∧ Below w.heap.size w w') := fun W hb => by
      refine (open_calls A c l W (HA.out.below hb) (by omega) hc).mono ?_
      rintro e w' ⟨v, h1, h2, h3⟩
      exact ⟨v, h1, h2.lower hb.size, below_then hb hb.size h3⟩
    obtain ⟨hs1, hs2, hs3⟩ := open_sealed l
    have hsl : (CrcConcat.sealed l).length = l.length + 4 := by simp [CrcConcat.sealed, four]
    have HOS : Hid (∀ A1 c1 W, RdB W A1 (CrcConcat.sealed l) → (CrcConcat.sealed l).length ≤ c1 → Calls Tryd.prog 17 #[.slice A1 (CrcConcat.sealed l).length c1] W fun e w' => ∃ v, e = .returned (.tuple #[v, .bool true]) ∧ OwB 5 w' W.heap.size v l ∧ Below W.heap.size W w') := fun A1 c1 W hr hc1 => by
      refine (open_calls A1 c1 _ W hr (by omega) hc1).mono ?_
      rintro e w' ⟨v, rfl, h2, h3⟩
      rw [if_pos (by omega), hs1, opened, if_pos (by rw [hs2, hs3]), hs2] at h2
      refine ⟨v, ?_, h2, h3⟩
      rw [hs1, hs2, hs3]
      simp [hsl]
    have HSTR : Hid (str (CrcConcat.sealed l) = str l ++ str (four (sum l))) := by rw [← str_append]; rfl
    have hsz1 : (str l).size ≤ 300 := by rw [str_size]; exact hl
    have hsz2 : (str (four (sum l))).size = 4 := by rw [str_size]; rfl
    obtain ⟨X, hX⟩ : ∃ X, X = CrcConcat.sealed l := ⟨_, rfl⟩
    rw [← hX] at HSE HOS HSTR
    obtain ⟨r, hr⟩ : ∃ r, r = sum l := ⟨_, rfl⟩
    have HRS : Hid (∀ W, Calls Tryd.prog 12 #[.string (str l)] W fun e w' => e = .returned (.int .u32 (r.toNat : Int)) ∧ Below W.heap.size W w') := fun W => by rw [hr]; exact ref_sum l (by omega) W W (Below.refl _ _)
    have HRN := Lib.hid (ref_number r)
    have HRB := Lib.hid (fun W => ref_bytes r W W (Below.refl _ _))
    rw [← hr] at HSTR hsz2
    have hrt : (r.toNat : Int) ≤ 4294967295 := by have := r.isLt; omega
    obtain ⟨f4, hf4⟩ : ∃ f4, f4 = str (four r) := ⟨_, rfl⟩
    rw [← hf4] at HRB HSTR hsz2
    clear ha hcv hs1 hs2 hs3 hsl hX hr hf4 hbig hT
    go_enter Tryd.func4, Tryd.ntmps4
    go_wp2_with fail
    refine HSE.out.mono ?_
    rintro e w1 ⟨v1, rfl, ho1, hb1⟩
    obtain ⟨A1, c1, rfl, hc1, hr1⟩ := ho1.reads
    have HB1 := Lib.hid hb1
    have HR1 := Lib.hid hr1
    have cv1 := HCV.out w1 hb1
    clear ho1 hb1 hr1
    go_wp2_with fail
    refine (HRS.out _).mono ?_
    rintro e w2 ⟨rfl, hb2⟩
    have HB2 := Lib.hid (below_then HB1.out HB1.out.size hb2)
    have HR2 := Lib.hid (HR1.out.below hb2)
    clear hb2 HB1 HR1 cv1
    go_wp2_with fail
    refine (HRN.out _).mono ?_
    rintro e w' ⟨rfl, rfl⟩
    go_wp2_with fail
    refine (HRB.out _).mono ?_
    rintro e w3 ⟨rfl, hb3⟩
    have HB3 := Lib.hid (below_then HB2.out HB2.out.size hb3)
    have HR3 := Lib.hid (HR2.out.below hb3)
    clear hb3 HB2 HR2
    go_wp2_with fail
    have HOSX := Lib.hid (HOS.out A1 c1 w3 HR3.out hc1)
    refine HOSX.out.mono ?_
    rintro e w4 ⟨v4, rfl, ho4, hb4⟩
    obtain ⟨A4, c4, rfl, hc4, hr4⟩ := ho4.reads
    have HB4 := Lib.hid (below_then HB3.out HB3.out.size hb4)
    have cv2 := RdB.string (P := Tryd.prog) (c := c1) (HR3.out.below hb4) rfl Tryd.underlying22 Tryd.underlying5 Tryd.underlying9
    have cv3 := RdB.string (P := Tryd.prog) (c := c4) hr4 rfl Tryd.underlying22 Tryd.underlying5 Tryd.underlying9
    have cv4 := HCV.out w4 HB4.out
    have hstr := HSTR.out
    have hob := HOB.out w4 HB4.out
    clear ho4 hb4 hr4 hc4 HOSX HB3 HR3
    by_cases h4 : 4 ≤ l.length
    · rw [decide_eq_true h4, Bool.true_and, if_pos h4] at hob
      obtain ⟨m, hm4⟩ : ∃ m, m + 4 = l.length := ⟨l.length - 4, by omega⟩
      have hml : l.length - 4 = m := by omega
      have hmi : (l.length : Int) - 4 = (m : Int) := by omega
      rw [hml] at hob
      obtain ⟨q, hq⟩ : ∃ q, q = decide (four (sum (l.take m)) = l.drop m) := ⟨_, rfl⟩
      rw [← hq] at hob
      have HOB4 := Lib.hid hob
      have hl1 : (l.take m).length = m := by rw [List.length_take]; omega
      have hl2 : (l.drop m).length = 4 := by rw [List.length_drop]; omega
      have ht : RdB w A (l.take m) := by rw [RdB, ints_take]; exact RdI.take HA.out m
      obtain ⟨i0, hi, hz0, hz1, hz2⟩ := info_parts info
      have hh := HA.out.rd
      obtain ⟨B, hcut, hB⟩ := print_cut (P := Tryd.prog) 22 5 .i64 Tryd.underlying22 hi hz1 A l.length c m (by omega)
      have hd : RdB w B (l.drop m) := by
        have := hB w .u8 (ints l) hc hh
        rw [RdB, RdI, ints_drop, List.length_drop, ints_length]
        exact this
      rw [← hmi, show l.length - m = 4 from by omega] at hcut
      have hcut2 : ∀ W : World, (Instr.slice 22 (.slice A l.length c) none (some (.int .i64 ((l.length : Int) - 4))) none).run Tryd.prog W = .ok (.slice A m c) W := fun W => by
        have := cut_to (P := Tryd.prog) 22 5 .i64 Tryd.underlying22 hi A l.length c (m : Int) (by omega) (by omega) (by omega) W
        rw [hmi]
        simpa using this
      have cvB : ∀ W, Below w.heap.size w W → (convert 22 9 (.slice B 4 (c - m))).run Tryd.prog W = .ok (.string (str (l.drop m))) W := fun W hb =>
        RdB.string (hd.below hb) hl2 Tryd.underlying22 Tryd.underlying5 Tryd.underlying9
      have cvA : ∀ W, Below w.heap.size w W → (convert 22 9 (.slice A m c)).run Tryd.prog W = .ok (.string (str (l.take m))) W := fun W hb =>
        RdB.string (ht.below hb) hl1 Tryd.underlying22 Tryd.underlying5 Tryd.underlying9
      obtain ⟨r2, hr2⟩ : ∃ r2, r2 = sum (l.take m) := ⟨_, rfl⟩
      have HS2 : Hid (∀ W, Below w.heap.size w W → Calls Tryd.prog 12 #[.string (str (l.take m))] W fun e w' => e = .returned (.int .u32 (r2.toNat : Int)) ∧ Below w.heap.size w w') := fun W hb => by rw [hr2]; exact ref_sum (l.take m) (by omega) w W hb
      have HN2 := Lib.hid (ref_number r2)
      have HBY2 := Lib.hid (ref_bytes r2 w)
      have hr2t : (r2.toNat : Int) ≤ 4294967295 := by have := r2.isLt; omega
      have h4d : decide ((l.length : Int) ≥ 4) = true := by simp; omega
      have h4d' : decide (4 ≤ (l.length : Int)) = true := by simp; omega
      have hmx : max ((l.length : Int) - 4) 0 = (l.length : Int) - 4 := by omega
      have hq2 : q = decide (four r2 = l.drop m) := by rw [hr2]; exact hq
      have HQ2 := Lib.hid hq2
      have hmlen : (m : Int) ≤ 300 := by omega
      obtain ⟨g4, hg4⟩ : ∃ g4, g4 = str (four r2) := ⟨_, rfl⟩
      obtain ⟨d4, hd4⟩ : ∃ d4, d4 = str (l.drop m) := ⟨_, rfl⟩
      obtain ⟨t4, ht4⟩ : ∃ t4, t4 = str (l.take m) := ⟨_, rfl⟩
      have hopd : opened l m = cond q (l.take m) [] := by
        rw [hq]; unfold opened
        by_cases h : four (sum (l.take m)) = l.drop m <;> simp [h]
      have HOPD := Lib.hid hopd
      rw [← hg4] at HBY2
      rw [← hd4] at cvB
      rw [← ht4] at cvA HS2
      have HT4 := Lib.hid ht4
      have HR2 := Lib.hid hr2
      have HL1 := Lib.hid hl1
      clear hopd hob hq hl1 hl2 ht hi hz0 hz1 hz2 hh hB hd hr2 hq2 hml hm4 hmi h4 ht4
      cases q with
      | true =>
        have hg5 : d4 = str (four r2) := by rw [hd4, of_decide_eq_true HQ2.out.symm]
        have HG4 := Lib.hid hg5
        clear hd4 hg4 hg5
        go_wp2_with fail
        refine HOB4.out.mono ?_
        rintro e w5 ⟨v5, rfl, ho5, hb5⟩
        rw [HOPD.out, cond_true] at ho5
        obtain ⟨A5, c5, rfl, hc5, hr5⟩ := ho5.reads
        have HB5 := Lib.hid hb5
        have HR5 := Lib.hid hr5
        rw [HL1.out]
        clear ho5 hb5 hc5 hr5
        have cv5 : ∀ W, Below w5.heap.size w5 W → (convert 22 9 (.slice A5 m c5)).run Tryd.prog W = .ok (.string t4) W := fun W hb => by
          rw [HT4.out]
          exact RdB.string (HR5.out.below hb) HL1.out Tryd.underlying22 Tryd.underlying5 Tryd.underlying9
        have cvB5 : ∀ W, Below w5.heap.size w5 W → (convert 22 9 (.slice B 4 (c - m))).run Tryd.prog W = .ok (.string d4) W := fun W hb => cvB W (below_then HB5.out HB5.out.size hb)
        have cvA5 : ∀ W, Below w5.heap.size w5 W → (convert 22 9 (.slice A m c)).run Tryd.prog W = .ok (.string t4) W := fun W hb => cvA W (below_then HB5.out HB5.out.size hb)
        have S5 : Hid (∀ W, Below w5.heap.size w5 W → Calls Tryd.prog 12 #[.string t4] W fun e w' => e = .returned (.int .u32 (r2.toNat : Int)) ∧ Below w5.heap.size w5 w') := fun W hb => by
          have := ref_sum (l.take m) (by rw [HL1.out]; omega) W W (Below.refl _ _)
          rw [← HT4.out] at this
          refine this.mono ?_
          rintro e w' ⟨rfl, h⟩
          exact ⟨by rw [HR2.out], below_then hb hb.size h⟩
        have BY5 : Hid (∀ W, Below w5.heap.size w5 W → Calls Tryd.prog 15 #[.string (txt (nb r2.toNat 32))] W fun e w' => e = .returned (.string d4) ∧ Below w5.heap.size w5 w') := fun W hb => by
          refine (ref_bytes r2 W W (Below.refl _ _)).mono ?_
          rintro e w' ⟨rfl, h⟩
          exact ⟨by rw [HG4.out], below_then hb hb.size h⟩
        have AW5 : Hid (∀ W, Below w5.heap.size w5 W → Calls Tryd.prog 10 #[] W fun e w' => e = .returned (.bool true) ∧ Below w5.heap.size w5 w') := fun W hb => by
          refine (awake_calls W (HTA.out.below (below_then HB5.out HB5.out.size hb))).mono ?_
          rintro e w' ⟨rfl, h⟩
          exact ⟨rfl, below_then hb hb.size h⟩
        clear cvA cvB
        go_wp2_with fail
        have hwr : IntKind.u64.wrap (r2.toNat : Int) = (r2.toNat : Int) := wrap_u64n (by have := r2.isLt; omega)
        go_region_held3 (fun W => Below w5.heap.size w5 W)
          (first | exact below_drew (Below.refl _ _) | assumption)
          (first
          | (go_at_call 12; refine (S5.out _ (by assumption)).mono ?_; rintro e w' ⟨rfl, hbx⟩)
          | (go_at_call 16; refine (HN2.out _).mono ?_; rintro e w' ⟨rfl, rfl⟩)
          | (go_at_call 15; refine (BY5.out _ (by assumption)).mono ?_; rintro e w' ⟨rfl, hbx⟩))
        all_goals
          clear hwr
          go_wp2_with fail
          go_region_held3 (fun W => Below w5.heap.size w5 W)
            (first | exact below_drew (by assumption) | assumption)
            (first
            | (go_at_call 10; refine (AW5.out _ (by assumption)).mono ?_; rintro e w' ⟨rfl, hbx⟩))
          all_goals
            go_wp2
            go_ret
            exact ⟨rfl, below_then HB5.out HB5.out.size (by assumption)⟩
      | false =>
        have hne : (d4.toList == g4.toList) = false := by
          rw [beq_str, hd4, hg4]
          refine decide_eq_false fun h => ?_
          exact of_decide_eq_false HQ2.out.symm (str_inj h).symm
        have HG4 := Lib.hid hg4
        clear hd4 hg4
        go_wp2_with fail
        refine HOB4.out.mono ?_
        rintro e w5 ⟨v5, rfl, ho5, hb5⟩
        rw [HOPD.out, cond_false] at ho5
        obtain ⟨A5, c5, rfl, hc5, hr5⟩ := ho5.reads
        have HB5 := Lib.hid hb5
        clear ho5 hb5 hc5 hr5
        have cvB5 : ∀ W, Below w5.heap.size w5 W → (convert 22 9 (.slice B 4 (c - m))).run Tryd.prog W = .ok (.string d4) W := fun W hb => cvB W (below_then HB5.out HB5.out.size hb)
        have cvA5 : ∀ W, Below w5.heap.size w5 W → (convert 22 9 (.slice A m c)).run Tryd.prog W = .ok (.string t4) W := fun W hb => cvA W (below_then HB5.out HB5.out.size hb)
        have S5 : Hid (∀ W, Below w5.heap.size w5 W → Calls Tryd.prog 12 #[.string t4] W fun e w' => e = .returned (.int .u32 (r2.toNat : Int)) ∧ Below w5.heap.size w5 w') := fun W hb => by
          have := ref_sum (l.take m) (by rw [HL1.out]; omega) W W (Below.refl _ _)
          rw [← HT4.out] at this
          refine this.mono ?_
          rintro e w' ⟨rfl, h⟩
          exact ⟨by rw [HR2.out], below_then hb hb.size h⟩
        have BY5 : Hid (∀ W, Below w5.heap.size w5 W → Calls Tryd.prog 15 #[.string (txt (nb r2.toNat 32))] W fun e w' => e = .returned (.string g4) ∧ Below w5.heap.size w5 w') := fun W hb => by
          refine (ref_bytes r2 W W (Below.refl _ _)).mono ?_
          rintro e w' ⟨rfl, h⟩
          exact ⟨by rw [HG4.out], below_then hb hb.size h⟩
        have AW5 : Hid (∀ W, Below w5.heap.size w5 W → Calls Tryd.prog 10 #[] W fun e w' => e = .returned (.bool true) ∧ Below w5.heap.size w5 w') := fun W hb => by
          refine (awake_calls W (HTA.out.below (below_then HB5.out HB5.out.size hb))).mono ?_
          rintro e w' ⟨rfl, h⟩
          exact ⟨rfl, below_then hb hb.size h⟩
        clear cvA cvB
        go_wp2_with fail
        have hwr : IntKind.u64.wrap (r2.toNat : Int) = (r2.toNat : Int) := wrap_u64n (by have := r2.isLt; omega)
        go_region_held3 (fun W => Below w5.heap.size w5 W)
          (first | exact below_drew (Below.refl _ _) | assumption)
          (first
          | (go_at_call 12; refine (S5.out _ (by assumption)).mono ?_; rintro e w' ⟨rfl, hbx⟩)
          | (go_at_call 16; refine (HN2.out _).mono ?_; rintro e w' ⟨rfl, rfl⟩)
          | (go_at_call 15; refine (BY5.out _ (by assumption)).mono ?_; rintro e w' ⟨rfl, hbx⟩))
        all_goals
          clear hwr
          go_wp2_with (go_at_call 10; refine (AW5.out _ (by assumption)).mono ?_; rintro e w' ⟨rfl, hby⟩)
          go_ret
          exact ⟨rfl, below_then HB5.out HB5.out.size hby⟩
    · rw [decide_eq_false h4, Bool.false_and, if_neg h4] at hob
      have HOB4 := Lib.hid hob
      have h4d : decide ((l.length : Int) ≥ 4) = false := by simp; omega
      have hlt4 : l.length < 4 := by omega
      have h4d' : decide (4 ≤ (l.length : Int)) = false := by simp; omega
      clear hob h4
      go_wp2_with fail
      refine HOB4.out.mono ?_
      rintro e w5 ⟨v5, rfl, ho5, hb5⟩
      obtain ⟨A5, c5, rfl, hc5, hr5⟩ := ho5.reads
      have HB5 := Lib.hid hb5
      clear ho5 hb5 hc5 hr5
      have AW5 : Hid (∀ W, Below w5.heap.size w5 W → Calls Tryd.prog 10 #[] W fun e w' => e = .returned (.bool true) ∧ Below w5.heap.size w5 w') := fun W hb => by
        refine (awake_calls W (HTA.out.below (below_then HB5.out HB5.out.size hb))).mono ?_
        rintro e w' ⟨rfl, h⟩
        exact ⟨rfl, below_then hb hb.size h⟩
      go_wp2_with fail
      go_quiet (fail)
      go_wp2_with (go_at_call 10; refine (AW5.out _ (pw_below_drewN (Below.refl _ _) _)).mono ?_; rintro e w' ⟨rfl, hby⟩)
      go_ret
      exact ⟨rfl, below_then HB5.out HB5.out.size hby⟩
theorem walk (a0 : Option Addr) (len0 cap0 : Nat) (z0 : List Int) (w : World) (w0 : IsRow .u8 w a0 len0 cap0 z0) (hL : laidMetH Tryd.prog TabL w) :
    Calls Tryd.prog 4 #[.slice a0 len0 cap0] w fun e w' => e = .returned (.bool true) ∧ Below w.heap.size w w' := by
  obtain ⟨a, rfl, ha, hc, _⟩ := w0.bytes
  exact seals0 a0 cap0 a w ha hc (CrcLaidTab.tab_of hL)
end Go.Proofs.YtdcaoinhhdccoaaDoor.CrcSeals
