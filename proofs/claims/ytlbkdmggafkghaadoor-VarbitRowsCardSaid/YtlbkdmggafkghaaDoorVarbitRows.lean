/- law 04: any numbers, one behind the other, are read again. -/
import Derived.Test.YtlbkdmggafkghaaDoorLaw04A
namespace Go.Proofs.YtlbkdmggafkghaaDoor.VarbitRows
open Go.RowKit Go.Proofs.YtlbkdmggafkghaaDoorW.PrintWords
open Go.Proofs.YtlbkdmggafkghaaDoor.Bits Go.Proofs.YtlbkdmggafkghaaDoor.Base Go.Proofs.YtlbkdmggafkghaaDoor.VarPure Go.Proofs.YtlbkdmggafkghaaDoor.VarbitA Go.Proofs.YtlbkdmggafkghaaDoor.VarbitB Go.Proofs.YtlbkdmggafkghaaDoor.VarbitD Go.Proofs.YtlbkdmggafkghaaDoor.StreamA Go.Proofs.YtlbkdmggafkghaaDoor.StreamR Go.Proofs.YtlbkdmggafkghaaDoor.VarKit Go.Proofs.YtlbkdmggafkghaaDoor.Ref01 Go.Proofs.YtlbkdmggafkghaaDoor.Ref04 Go.Proofs.YtlbkdmggafkghaaDoor.Law04A Go.Proofs.YtlbkdmggafkghaaDoor.LawBase

def ent (i : Nat) (z : Int) : List Bool := if i % 2 = 0 then encS z else encU (u64 z)
def rb : Nat → List Int → List Bool
  | _, [] => []
  | i, z :: t => ent i z ++ rb (i + 1) t
theorem rb_snoc : ∀ (t : List Int) (i : Nat) (z : Int), rb i (t ++ [z]) = rb i t ++ ent (i + t.length) z
  | [], i, z => by simp [rb]
  | y :: t, i, z => by
    simp only [List.cons_append, rb, rb_snoc t (i + 1) z, List.append_assoc, List.length_cons]
    rw [show i + 1 + t.length = i + (t.length + 1) from by omega]
theorem rb_take (l : List Int) (k : Nat) (h : k < l.length) : rb 0 (l.take (k + 1)) = rb 0 (l.take k) ++ ent k l[k] := by
  rw [List.take_succ_eq_append_getElem h, rb_snoc, List.length_take, Nat.min_eq_left (by omega), Nat.zero_add]
theorem rb_drop (l : List Int) (k : Nat) (h : k < l.length) : rb k (l.drop k) = ent k l[k] ++ rb (k + 1) (l.drop (k + 1)) := by
  rw [List.drop_eq_getElem_cons h]; rfl
theorem enc72 (v : Int) : (encS v).length ≤ 72 := by
  rw [encS_length, front]
  have := gS_lt v
  have := behind_le (g := gS v)
  split <;> omega
theorem encU72 (x : Nat) : (encU x).length ≤ 72 := by
  rw [encU_length, front]
  have := gU_lt x
  have := behind_le (g := gU x)
  split <;> omega
theorem rb_le : ∀ (t : List Int) (i : Nat), (rb i t).length ≤ 72 * t.length
  | [], _ => Nat.zero_le _
  | z :: t, i => by
    have h1 := rb_le t (i + 1)
    have h2 : (ent i z).length ≤ 72 := by
      unfold ent
      split
      · exact enc72 z
      · exact encU72 _
    simp only [rb, List.length_append, List.length_cons]
    omega

set_option maxHeartbeats 1600000 in
theorem narrow (A : Option Addr) (c n : Nat) (w : World) (hT : Tab w) (hl : 60 < n) :
    Calls Tryd.prog 5 #[.slice A n c] w fun e w' => e = .returned (.bool true) ∧ Below w.heap.size w w' := by
  have CAW := Lib.hid (awake_calls w hT)
  clear hT
  have d1 : decide ((n : Int) > 60) = true := by simp; omega
  have d1' : decide (60 < (n : Int)) = true := by simp; omega
  have d1n : decide (60 < n) = true := by simp; omega
  go_enter Tryd.func5, Tryd.ntmps5
  go_wp2_with (go_at_call 25; refine CAW.out.mono ?_; rintro e w1 ⟨rfl, hb⟩)
  go_ret
  exact ⟨rfl, hb⟩

set_option maxHeartbeats 3200000 in
theorem core (A : Option Addr) (c : Nat) (l : List Int) (w : World) (hT : Tab w) (hr : RdI .i64 w A l) (hl : l.length ≤ 60) (hc : l.length ≤ c) (hz : ∀ z ∈ l, -9223372036854775808 ≤ z ∧ z ≤ 9223372036854775807) :
    Calls Tryd.prog 5 #[.slice A l.length c] w fun e w' => e = .returned (.bool true) ∧ Below w.heap.size w w' := by
  have HT := Lib.hid hT
  have HR := Lib.hid hr
  have HZ := Lib.hid hz
  have d1 : decide ((l.length : Int) > 60) = false := by simp; omega
  have d1' : decide (60 < (l.length : Int)) = false := by simp; omega
  have d1n : decide (60 < l.length) = false := by simp; omega
  have HNW := Lib.hid (newWriter_calls none 0 0 [] w (nil_read w) (by decide) (by decide) (fun _ => rfl) (by decide))
  clear hT hr hz
  go_enter Tryd.func5, Tryd.ntmps5
  go_wp2_with (fail)
  refine HNW.out.mono ?_
  rintro e w1 ⟨g, S, rfl, hw, hS, hb⟩
  rw [show (bts []).take 0 = [] from rfl] at hw
  have HW := Lib.hid hw
  have HB := Lib.hid hb
  have HHS := Lib.hid hS
  clear hw hS hb HNW
  go_wp2_with (fail)
  go_loopw [5, 32] (fun n i wr => ∃ k : Nat, k ≤ l.length ∧ i = .int .i64 k ∧ n = .int .i64 ((rb 0 (l.take k)).length : Nat) ∧ ∃ S', Wr wr g S' (rb 0 (l.take k)) ∧ (∀ k, S' k → w.heap.size ≤ k) ∧ Below w.heap.size w wr) (fun _ i _ => l.length - (intOf i).toNat)
  case atStart => exact ⟨0, by omega, rfl, rfl, S, HW.out, HHS.out, HB.out⟩
  case round =>
    clear HW HB HHS
    obtain ⟨k, hk, rfl, rfl, S1, hw, hS, hb⟩ := hrel
    have HB := Lib.hid hb
    have HHS := Lib.hid hS
    have HNG := Lib.hid (not_old HT.out hS)
    have HTR := Lib.hid (HT.out.below hb)
    have hrl := rb_le (l.take k) 0
    have htl : (l.take k).length ≤ 60 := by rw [List.length_take]; omega
    by_cases hlt : k < l.length
    · obtain ⟨ad, hA, hcl⟩ := (HR.out.below hb).at_ k hlt
      subst hA
      have HTK := Lib.hid (rb_take l k hlt)
      obtain ⟨z, hz⟩ : ∃ z, z = l[k] := ⟨_, rfl⟩
      have hzr := HZ.out z (by rw [hz]; exact List.getElem_mem hlt)
      rw [← hz] at hcl HTK
      obtain ⟨L, hL⟩ : ∃ L, L = rb 0 (l.take k) := ⟨_, rfl⟩
      rw [← hL] at hw hrl HTK ⊢
      have hLl : L.length ≤ 4320 := by omega
      clear hz hL hS hb
      by_cases h2 : k % 2 = 0
      · have e1 : ((k : Int) % 2 == 0) = true := by rw [beq_iff_eq]; omega
        have hel := enc72 z
        have hent : ent k z = encS z := if_pos h2
        have HE := Lib.hid hent
        have HP := Lib.hid (putS_calls g S1 L z wr HTR.out HNG.out hw (by omega) hzr.1 hzr.2)
        clear hent hw h2
        go_wp2_with (fail)
        refine HP.out.mono ?_
        rintro e w2 ⟨rfl, hu⟩
        obtain ⟨S2, hw2, hS2, hb2⟩ := upd_new HB.out HB.out.size HHS.out hu
        have HLN := Lib.hid (lenS_calls z w2 (HT.out.below hb2) hzr.1 hzr.2)
        have HW2 := Lib.hid hw2
        have HS2 := Lib.hid hS2
        have HB2 := Lib.hid hb2
        clear hu hw2 hS2 hb2
        go_wp2_with (go_at_call 17; refine HLN.out.mono ?_; rintro e w' ⟨rfl, rfl⟩)
        go_roundw
        case rel =>
          refine ⟨k + 1, by omega, by go_num, ?_, S2, ?_, HS2.out, HB2.out⟩
          · rw [HTK.out, HE.out, List.length_append]; go_num
          · rw [HTK.out, HE.out]; exact HW2.out
        case measure => simp [intOf]; omega
      · have e1 : ((k : Int) % 2 == 0) = false := by rw [beq_eq_false_iff_ne]; omega
        have hel := encU72 (u64 z)
        have hent : ent k z = encU (u64 z) := if_neg h2
        have HE := Lib.hid hent
        have hcu := wrap_u64 z
        have HP := Lib.hid (putU_calls g S1 L (u64 z) wr HTR.out HNG.out hw (by omega) (u64_lt z))
        clear hent hw h2
        go_wp2_with (fail)
        refine HP.out.mono ?_
        rintro e w2 ⟨rfl, hu⟩
        obtain ⟨S2, hw2, hS2, hb2⟩ := upd_new HB.out HB.out.size HHS.out hu
        have HLN := Lib.hid (lenU_calls (u64 z) w2 (HT.out.below hb2) (u64_lt z))
        have HW2 := Lib.hid hw2
        have HS2 := Lib.hid hS2
        have HB2 := Lib.hid hb2
        clear hu hw2 hS2 hb2
        go_wp2_with (go_at_call 18; refine HLN.out.mono ?_; rintro e w' ⟨rfl, rfl⟩)
        go_roundw
        case rel =>
          refine ⟨k + 1, by omega, by go_num, ?_, S2, ?_, HS2.out, HB2.out⟩
          · rw [HTK.out, HE.out, List.length_append]; go_num
          · rw [HTK.out, HE.out]; exact HW2.out
        case measure => simp [intOf]; omega
    · obtain rfl : k = l.length := by omega
      rw [List.take_length] at hw hrl ⊢
      obtain ⟨L, hL⟩ : ∃ L, L = rb 0 l := ⟨_, rfl⟩
      rw [← hL] at hw hrl ⊢
      have hLl : L.length ≤ 4320 := by omega
      have HL := Lib.hid hL
      have HWW := Lib.hid hw
      have C6 := Lib.hid (bytes_calls g S1 L wr hw (by omega))
      clear hL hS hb hw
      go_wp2_with (fail)
      refine C6.out.mono ?_
      rintro e w4 ⟨vb, rfl, ho, hb4⟩
      obtain ⟨D, d, rfl, hd, hr⟩ := ho.reads
      have hD := ho.nilcap
      have hpl := pack_length L
      have HNR := Lib.hid (newReader_calls D d L.length (pack L) w4 hr (by omega) hd hD (by omega))
      have HB4 := Lib.hid (below_then HB.out HB.out.size hb4)
      have HW4 := Lib.hid (HWW.out.below hb4)
      clear ho hr hd hb4 hD hpl C6 HWW HB
      go_wp2_with (go_at_call 21; refine (len_calls g S1 L w4 HW4.out).mono ?_; rintro e w5 ⟨rfl, rfl⟩)
      refine HNR.out.mono ?_
      rintro e w5 ⟨gr, SR, rfl, hR, hSR, hb5⟩
      rw [pack_take_all] at hR
      have hW5 := HW4.out.below hb5
      have HB5 := Lib.hid (below_then HB4.out HB4.out.size hb5)
      have HSR := Lib.hid (fun k hk => Nat.le_trans HB4.out.size (hSR k hk) : ∀ k, SR k → w.heap.size ≤ k)
      have HLE := Lib.hid (len_calls g S1 L w5 hW5)
      have HR5 := Lib.hid hR
      clear hR hSR hb5 hW5 HNR HB4 HW4
      go_wp2_with (go_at_call 21; refine HLE.out.mono ?_; rintro e w6 ⟨rfl, rfl⟩)
      have HSG := Lib.hid (not_old HT.out HSR.out)
      go_loopw [79] (fun i wq => ∃ k : Nat, k ≤ l.length ∧ i = .int .i64 k ∧ (∃ a, Rr wq gr SR a (rb k (l.drop k)) false) ∧ Below w.heap.size w wq) (fun i _ => l.length - (intOf i).toNat)
      case atStart => exact ⟨0, by omega, rfl, ⟨0, by rw [List.drop_zero, ← HL.out]; exact HR5.out⟩, HB5.out⟩
      case round =>
        clear HR5 HB5
        obtain ⟨k, hk, rfl, ⟨a, hR⟩, hb⟩ := hrel
        have HBQ := Lib.hid hb
        have HTQ := Lib.hid (HT.out.below hb)
        by_cases hlt : k < l.length
        · obtain ⟨ad, hA, hcl⟩ := (HR.out.below hb).at_ k hlt
          subst hA
          rw [rb_drop l k hlt] at hR
          obtain ⟨z, hz⟩ : ∃ z, z = l[k] := ⟨_, rfl⟩
          have hzr := HZ.out z (by rw [hz]; exact List.getElem_mem hlt)
          rw [← hz] at hcl hR
          clear hz hb
          by_cases h2 : k % 2 = 0
          · have e1 : ((k : Int) % 2 == 0) = true := by rw [beq_iff_eq]; omega
            rw [show ent k z = encS z from if_pos h2] at hR
            have HG := Lib.hid (getS_enc gr a SR z _ _ HTQ.out HSG.out hzr.1 hzr.2 hR)
            clear hR h2
            go_wp2_with (go_at_call 22; refine HG.out.mono ?_; rintro e w6 ⟨rfl, hr6, hc6⟩; have HB6 := Lib.hid (ch_new HBQ.out HBQ.out.size HSR.out hc6); have HR6 := Lib.hid hr6; clear hr6 hc6)
            go_roundw
            case rel => exact ⟨k + 1, by omega, by go_num, ⟨_, HR6.out⟩, HB6.out⟩
            case measure => simp [intOf]; omega
          · have e1 : ((k : Int) % 2 == 0) = false := by rw [beq_eq_false_iff_ne]; omega
            have hcu := wrap_u64 z
            rw [show ent k z = encU (u64 z) from if_neg h2] at hR
            have HG := Lib.hid (getU_enc gr a SR (u64 z) _ _ HTQ.out HSG.out (u64_lt z) hR)
            clear hR h2
            go_wp2_with (go_at_call 23; refine HG.out.mono ?_; rintro e w6 ⟨rfl, hr6, hc6⟩; have HB6 := Lib.hid (ch_new HBQ.out HBQ.out.size HSR.out hc6); have HR6 := Lib.hid hr6; clear hr6 hc6)
            go_roundw
            case rel => exact ⟨k + 1, by omega, by go_num, ⟨_, HR6.out⟩, HB6.out⟩
            case measure => simp [intOf]; omega
        · obtain rfl : k = l.length := by omega
          rw [List.drop_length] at hR
          have HLF := Lib.hid (left_calls gr a SR [] false _ hR)
          have HAW := Lib.hid (fun m => lift (pw_below_drewN HBQ.out m) HBQ.out.size (awake_calls (_) (HTQ.out.drewN m)))
          clear hR hb
          go_wp2_with (first | (go_at_call 24; refine HLF.out.mono ?_; rintro e w8 ⟨rfl, nd, rfl⟩) | (go_at_call 25; refine (HAW.out _).mono ?_; rintro e w9 ⟨rfl, hb9⟩))
          go_ret
          exact ⟨rfl, hb9⟩

theorem walk (a0 : Option Addr) (len0 cap0 : Nat) (z0 : List Int) (w : World) (h0 : IsRow .i64 w a0 len0 cap0 z0)
    (hL : laidMetH Tryd.prog [("tidepole/varbit.behinds", Rows.laid_tidepole_varbit_behinds)] w) :
    Calls Tryd.prog 5 #[.slice a0 len0 cap0] w fun e w' => e = .returned (.bool true) ∧ Below w.heap.size w w' := by
  obtain ⟨hr, hl, hc, hA, hz⟩ := h0.reads
  have hT := tab_of hL
  by_cases hin : 60 < len0
  · exact narrow a0 cap0 len0 w hT hin
  · have h := core a0 cap0 (z0.take len0) w hT hr (by omega) (by omega) fun z hzz => by
      have := hz z hzz
      simp [Lit.wf, IntKind.min, IntKind.max, IntKind.bits, IntKind.signed] at this
      omega
    rw [hl] at h
    exact h
end Go.Proofs.YtlbkdmggafkghaaDoor.VarbitRows
