/- law 13: numbers that go on evenly have one bit each. -/
import Derived.Test.YtlbkdmggafkghaaDoorLaw13B
import Derived.Test.YtlbkdmggafkghaaDoorVarPure2
namespace Go.Proofs.YtlbkdmggafkghaaDoor.TimesEven
open Go.RowKit Go.Proofs.YtlbkdmggafkghaaDoorW.PrintWords
open Go.Proofs.YtlbkdmggafkghaaDoor.Bits Go.Proofs.YtlbkdmggafkghaaDoor.Base Go.Proofs.YtlbkdmggafkghaaDoor.VarPure Go.Proofs.YtlbkdmggafkghaaDoor.TimesPure Go.Proofs.YtlbkdmggafkghaaDoor.VarbitA Go.Proofs.YtlbkdmggafkghaaDoor.VarbitD Go.Proofs.YtlbkdmggafkghaaDoor.StreamA Go.Proofs.YtlbkdmggafkghaaDoor.StreamR Go.Proofs.YtlbkdmggafkghaaDoor.VarKit Go.Proofs.YtlbkdmggafkghaaDoor.Ref01 Go.Proofs.YtlbkdmggafkghaaDoor.Ref04 Go.Proofs.YtlbkdmggafkghaaDoor.TimesA Go.Proofs.YtlbkdmggafkghaaDoor.TimesB Go.Proofs.YtlbkdmggafkghaaDoor.TimesL Go.Proofs.YtlbkdmggafkghaaDoor.Law13A Go.Proofs.YtlbkdmggafkghaaDoor.Law13B

/-- a row that goes on evenly: so has the next number one bit. -/
theorem even_bit (last step n : Nat) (hn : n ≠ 0) (hl : last < 18446744073709551616) (hs : step < 18446744073709551616) : told true last step n (add64 last step) = [false] := by
  rw [told, if_neg hn, sub_add _ _ hs hl]
  have : sub64 step step = 0 := by unfold sub64; omega
  rw [this]
  decide

set_option maxHeartbeats 3200000 in
theorem core (a s n : Nat) (w : World) (hT : Tab w) (ha : a < 18446744073709551616) (hs : s < 18446744073709551616) (hn : n ≤ 100) (hn2 : 2 ≤ n) :
    Calls Tryd.prog 8 #[.int .i64 (i64 a), .int .i64 (i64 s), .int .i64 n] w fun e w' => e = .returned (.bool true) ∧ Below w.heap.size w w' := by
  have HT := Lib.hid hT
  have HNW := Lib.hid (newWriter_calls none 0 0 [] w (nil_read w) (by decide) (by decide) (fun _ => rfl) (by decide))
  have d1 : decide ((n : Int) < 2) = false := by simp; omega
  have d1n : decide (n < 2) = false := by simp; omega
  have d2 : decide ((n : Int) > 100) = false := by simp; omega
  have d2' : decide (100 < (n : Int)) = false := by simp; omega
  have d2n : decide (100 < n) = false := by simp; omega
  have wa := wrap_ui a ha
  have ws := wrap_ui s hs
  have was := wrap_addU a s ha hs
  have hb := add64_lt a s
  obtain ⟨b, hbb⟩ : ∃ b, b = add64 a s := ⟨_, rfl⟩
  rw [← hbb] at was hb
  have wb := VarbitD.wrap_i64 b hb
  have HBB := Lib.hid hbb
  clear hT hbb
  go_enter Tryd.func8, Tryd.ntmps8
  go_wp2_with (fail)
  refine HNW.out.mono ?_
  rintro e w1 ⟨g, S, rfl, hw, hS, hb1⟩
  rw [show (bts []).take 0 = [] from rfl] at hw
  have HNX := Lib.hid (newS_row w1)
  have HW := Lib.hid hw
  have HB := Lib.hid hb1
  have HHS := Lib.hid hS
  clear hw hS hb1 HNW
  go_wp2_with (fail)
  refine HNX.out.mono ?_
  rintro e w2 ⟨gx, rfl, hx, hgx, hb2⟩
  have hxs : ¬ S gx := fun h => by have := HW.out.old _ h; omega
  have hB2 := below_then HB.out HB.out.size hb2
  have HST := Lib.hid (stS_of (HW.out.below hb2) hx HHS.out hxs (Nat.le_trans HB.out.size hgx) hB2 (O := fun _ => False) fun _ h => h.elim)
  clear hx hgx hb2 hxs hB2 HNX HW HB HHS
  go_wp2_with (fail)
  refine (putS_st (O := fun _ => False) HT.out HST.out a (by decide) ha (by decide)).mono ?_
  rintro e w3 ⟨rfl, hst3, -⟩
  rw [List.nil_append, List.nil_append] at hst3
  have HST3 := Lib.hid hst3
  have he1 : toldL true [] a = encS (i64 a) := rfl
  have hl1 : (toldL true [] a).length ≤ 72 := told_le _ _ _
  clear hst3 HST
  go_wp2_with (fail)
  refine (putS_st (O := fun _ => False) HT.out HST3.out b (by omega) hb (by simp)).mono ?_
  rintro e w4 ⟨rfl, hst4, -⟩
  have he2 : toldL true [a] b = encS (i64 s) := by
    have : sub64 b a = s := by rw [HBB.out]; exact sub_add s a hs ha
    have h0 : sub64 s 0 = s := by unfold sub64; omega
    rw [toldL, told, if_neg (by simp), show lastOf [a] = a from rfl, show stepOf [a] = 0 from rfl, this, h0]
  rw [he1, he2] at hst4
  have hsl : (encS (i64 s)).length ≤ 72 := by rw [← he2]; exact told_le _ _ _
  rw [he1] at hl1
  obtain ⟨S4, hw4, hx4, hS4, hxs4, hgx4, hb4, -⟩ := hst4
  have HLEN := Lib.hid (len_calls g S4 _ w4 hw4)
  have har := i64_range a ha
  have hsr := i64_range s hs
  have C1 := Lib.hid (fun W (h : Below w4.heap.size w4 W) => lift h h.size (S_calls (i64 a) W har.1 har.2))
  have C2 := Lib.hid (fun W (h : Below w4.heap.size w4 W) => lift h h.size (S_calls (i64 s) W hsr.1 hsr.2))
  have HST4 := Lib.hid (stS_of hw4 hx4 hS4 hxs4 hgx4 hb4 (O := fun _ => False) fun _ h => h.elim)
  have hz1 := txt_size (encS (i64 a))
  have hz2 := txt_size (encS (i64 s))
  have hlen2 : ((encS (i64 a) ++ encS (i64 s)).length : Int) = (encS (i64 a)).length + (encS (i64 s)).length := by rw [List.length_append]; omega
  obtain ⟨L, hL⟩ : ∃ L, L = encS (i64 a) ++ encS (i64 s) := ⟨_, rfl⟩
  rw [← hL] at HLEN HST4 hlen2
  obtain ⟨ta, hta⟩ : ∃ z, z = txt (encS (i64 a)) := ⟨_, rfl⟩
  obtain ⟨ts, hts⟩ : ∃ z, z = txt (encS (i64 s)) := ⟨_, rfl⟩
  rw [← hta] at hz1 C1
  rw [← hts] at hz2 C2
  obtain ⟨na, hna⟩ : ∃ z, z = (encS (i64 a)).length := ⟨_, rfl⟩
  obtain ⟨ns, hns⟩ : ∃ z, z = (encS (i64 s)).length := ⟨_, rfl⟩
  rw [← hna] at hz1 hl1 hlen2
  rw [← hns] at hz2 hsl hlen2
  have hb0 := Below.refl w4.heap.size w4
  clear hw4 hx4 hS4 hxs4 hgx4 hb4 HST3 he1 he2 hL hta hts hna hns har hsr
  go_wp2_with (first
    | (go_at_call 21; refine HLEN.out.mono ?_; rintro e w5 ⟨rfl, rfl⟩)
    | (go_at_call_of 15 a; refine (C1.out _ (by assumption)).mono ?_; rintro e w5 ⟨rfl, hb5⟩)
    | (go_at_call_of 15 s; refine (C2.out _ (by assumption)).mono ?_; rintro e w5 ⟨rfl, hb5⟩))
  have hb5' := hb5
  have HST5 := Lib.hid (stS_below HST4.out hb5)
  have HSB := Lib.hid (show sub64 b a = s by rw [HBB.out]; exact sub_add s a hs ha)
  clear hb5 hb5' hb0 HST4 C1 C2 HLEN
  go_loopw [11, 78] (fun at_ i wr => ∃ k : Nat, k ≤ n ∧ i = .int .i64 k ∧ ∃ (q : Nat) (l : List Nat), at_ = .int .u64 q ∧ q < 18446744073709551616 ∧ l.length = k + 2 ∧ lastOf l = q ∧ stepOf l = s ∧ StS (fun _ => False) w wr g gx (L ++ List.replicate k false) l) (fun _ i _ => n - (intOf i).toNat)
  case atStart => exact ⟨0, by omega, rfl, b, [a] ++ [b], rfl, hb, rfl, rfl, HSB.out, by simpa using HST5.out⟩
  case round =>
    clear HST5
    obtain ⟨k, hk, rfl, q, l, rfl, hq, hll, hlast, hstep, hst⟩ := hrel
    have HST := Lib.hid hst
    have hLk : (L ++ List.replicate k false).length = L.length + k := by rw [List.length_append, List.length_replicate]
    by_cases hlt : k < n
    · have wq := wrap_addU q s hq hs
      have hv := add64_lt q s
      have hbit := even_bit q s (k + 2) (by omega) hq hs
      obtain ⟨v, hvv⟩ : ∃ v, v = add64 q s := ⟨_, rfl⟩
      rw [← hvv] at wq hv hbit
      have wv := VarbitD.wrap_i64 v hv
      have HP := Lib.hid (putS_st HT.out HST.out v (by omega) hv (by omega))
      have HBT := Lib.hid (show toldL true l v = [false] by rw [toldL, hlast, hstep, hll]; exact hbit)
      have HST2 := Lib.hid (show stepOf (l ++ [v]) = s by rw [stepOf_snoc, hlast, hll, stepTo, if_neg (by omega), hvv]; exact sub_add s q hs hq)
      have HLL := Lib.hid (show (l ++ [v]).length = k + 1 + 2 by rw [List.length_append, hll]; rfl)
      clear hvv hbit hlast hstep hll hst hLk HST
      go_wp2_with (fail)
      refine HP.out.mono ?_
      rintro e w6 ⟨rfl, hst6, -⟩
      rw [HBT.out, List.append_assoc, ← List.replicate_succ'] at hst6
      have HST6 := Lib.hid hst6
      clear hst6
      go_wp2
      go_roundw
      case rel => exact ⟨k + 1, by omega, by go_num, v, l ++ [v], rfl, hv, HLL.out, lastOf_snoc l v, HST2.out, HST6.out⟩
      case measure => simp [intOf]; omega
    · obtain rfl : k = n := by omega
      obtain ⟨S6, hw6, hx6, hS6, hxs6, hgx6, hb6, -⟩ := hst
      have K1 := Lib.hid (len_calls g S6 _ _ hw6)
      have K3 := Lib.hid (stepS_calls gx _ _ _ _ hx6.1)
      rw [hstep] at K3
      have hlen3 : ((L ++ List.replicate k false).length : Int) = (na : Int) + (ns : Int) + (k : Int) := by rw [hLk]; omega
      obtain ⟨m, hm⟩ : ∃ m, m = (L ++ List.replicate k false).length := ⟨_, rfl⟩
      rw [← hm] at K1 hlen3
      have HAW := Lib.hid (lift hb6 hb6.size (awake_calls _ (HT.out.below hb6)))
      clear hw6 hx6 hS6 hxs6 hgx6 hb6 hLk hm HST hlast hstep hll
      go_wp2_with (first
        | (go_at_call 21; refine K1.out.mono ?_; rintro e w8 ⟨rfl, rfl⟩)
        | (go_at_call 40; refine K3.out.mono ?_; rintro e w8 ⟨rfl, rfl⟩)
        | (go_at_call 31; refine HAW.out.mono ?_; rintro e w8 ⟨rfl, hb8⟩))
      go_ret
      exact ⟨rfl, hb8⟩

set_option maxHeartbeats 1600000 in
theorem narrow (a s n : Int) (w : World) (hT : Tab w) (hn : n < 2 ∨ 100 < n) :
    Calls Tryd.prog 8 #[.int .i64 a, .int .i64 s, .int .i64 n] w fun e w' => e = .returned (.bool true) ∧ Below w.heap.size w w' := by
  have HT := Lib.hid hT
  have HNW := Lib.hid (newWriter_calls none 0 0 [] w (nil_read w) (by decide) (by decide) (fun _ => rfl) (by decide))
  clear hT
  by_cases h2 : n < 2
  · have d1 : decide (n < 2) = true := by simp; omega
    go_enter Tryd.func8, Tryd.ntmps8
    go_wp2_with (fail)
    refine HNW.out.mono ?_
    rintro e w1 ⟨g, S, rfl, hw, hS, hb1⟩
    have HNX := Lib.hid (newS_row w1)
    have HB := Lib.hid hb1
    clear hw hS hb1 HNW
    go_wp2_with (fail)
    refine HNX.out.mono ?_
    rintro e w2 ⟨gx, rfl, hx, hgx, hb2⟩
    have hB2 := below_then HB.out HB.out.size hb2
    have HAW := Lib.hid (lift hB2 hB2.size (awake_calls _ (HT.out.below hB2)))
    clear hx hgx hb2 HNX hB2
    go_wp2_with (go_at_call 31; refine HAW.out.mono ?_; rintro e w8 ⟨rfl, hb8⟩)
    go_ret
    exact ⟨rfl, hb8⟩
  · have d1 : decide (n < 2) = false := by simp; omega
    have d2 : decide (n > 100) = true := by simp; omega
    have d2' : decide (100 < n) = true := by simp; omega
    go_enter Tryd.func8, Tryd.ntmps8
    go_wp2_with (fail)
    refine HNW.out.mono ?_
    rintro e w1 ⟨g, S, rfl, hw, hS, hb1⟩
    have HNX := Lib.hid (newS_row w1)
    have HB := Lib.hid hb1
    clear hw hS hb1 HNW
    go_wp2_with (fail)
    refine HNX.out.mono ?_
    rintro e w2 ⟨gx, rfl, hx, hgx, hb2⟩
    have hB2 := below_then HB.out HB.out.size hb2
    have HAW := Lib.hid (lift hB2 hB2.size (awake_calls _ (HT.out.below hB2)))
    clear hx hgx hb2 HNX hB2
    go_wp2_with (go_at_call 31; refine HAW.out.mono ?_; rintro e w8 ⟨rfl, hb8⟩)
    go_ret
    exact ⟨rfl, hb8⟩

theorem walk (a s n : Int) (w : World) (h0 : (Lit.int .i64 a).wf = true) (h1 : (Lit.int .i64 s).wf = true) (h2 : (Lit.int .i64 n).wf = true) (hL : laidMetH Tryd.prog [("tidepole/varbit.behinds", Rows.laid_tidepole_varbit_behinds)] w) :
    Calls Tryd.prog 8 #[.int .i64 a, .int .i64 s, .int .i64 n] w fun e w' => e = .returned (.bool true) ∧ Below w.heap.size w w' := by
  simp [Lit.wf, IntKind.min, IntKind.max, IntKind.bits, IntKind.signed] at h0 h1 h2
  have hT := tab_of hL
  by_cases hn : n < 2 ∨ 100 < n
  · exact narrow a s n w hT hn
  · obtain ⟨k, rfl⟩ : ∃ k : Nat, n = k := ⟨n.toNat, by omega⟩
    have := core (u64 a) (u64 s) k w hT (u64_lt a) (u64_lt s) (by omega) (by omega)
    rw [i64_u64 a (by omega) (by omega), i64_u64 s (by omega) (by omega)] at this
    exact this
end Go.Proofs.YtlbkdmggafkghaaDoor.TimesEven
