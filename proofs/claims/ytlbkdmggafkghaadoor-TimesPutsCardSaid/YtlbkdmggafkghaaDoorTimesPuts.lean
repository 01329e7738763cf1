/- law 13: any numbers have the bits that the document says. -/
import Derived.Test.YtlbkdmggafkghaaDoorLaw13B
import Derived.Test.YtlbkdmggafkghaaDoorRef13
import Derived.Deep.RegionWith
namespace Go.Proofs.YtlbkdmggafkghaaDoor.TimesPuts
open Go.RowKit Go.Proofs.YtlbkdmggafkghaaDoorW.PrintWords
open Go.Proofs.YtlbkdmggafkghaaDoor.Bits Go.Proofs.YtlbkdmggafkghaaDoor.Base Go.Proofs.YtlbkdmggafkghaaDoor.VarPure Go.Proofs.YtlbkdmggafkghaaDoor.TimesPure Go.Proofs.YtlbkdmggafkghaaDoor.VarbitA Go.Proofs.YtlbkdmggafkghaaDoor.VarbitD Go.Proofs.YtlbkdmggafkghaaDoor.StreamA Go.Proofs.YtlbkdmggafkghaaDoor.StreamR Go.Proofs.YtlbkdmggafkghaaDoor.VarKit Go.Proofs.YtlbkdmggafkghaaDoor.Ref01 Go.Proofs.YtlbkdmggafkghaaDoor.Ref04 Go.Proofs.YtlbkdmggafkghaaDoor.TimesA Go.Proofs.YtlbkdmggafkghaaDoor.TimesB Go.Proofs.YtlbkdmggafkghaaDoor.TimesL Go.Proofs.YtlbkdmggafkghaaDoor.Law13A Go.Proofs.YtlbkdmggafkghaaDoor.Law13B Go.Proofs.YtlbkdmggafkghaaDoor.Ref13 Go.Proofs.YtlbkdmggafkghaaDoor.LawBase

/-- both rows' bits, number by number. -/
def both : List Nat → List Nat → List Bool
  | _, [] => []
  | l, v :: t => (toldL true l v ++ toldL false l v) ++ both (l ++ [v]) t
theorem both_snoc : ∀ (t l : List Nat) (v : Nat), both l (t ++ [v]) = both l t ++ (toldL true (l ++ t) v ++ toldL false (l ++ t) v)
  | [], l, v => by simp [both]
  | u :: t, l, v => by
    simp only [List.cons_append, both, both_snoc t (l ++ [u]) v, List.append_assoc]
    rfl
theorem both_take (L : List Nat) (k : Nat) (h : k < L.length) : both [] (L.take (k + 1)) = both [] (L.take k) ++ (toldL true (L.take k) L[k] ++ toldL false (L.take k) L[k]) := by
  rw [List.take_succ_eq_append_getElem h, both_snoc, List.nil_append]
theorem both_le : ∀ (t l : List Nat), (both l t).length ≤ 144 * t.length
  | [], _ => Nat.zero_le _
  | v :: t, l => by
    have h1 := both_le t (l ++ [v])
    have h2 := told_le true l v
    have h3 := told_le false l v
    simp only [both, List.length_append, List.length_cons]
    omega

theorem q_same {P : Program} {f : Nat} {args : Array Value} {w : World} {n : Nat} {v : Value} (h : Calls P f args (w.drewN n) fun e w' => e = .returned v ∧ w.drewN n = w') :
    Calls P f args (w.drewN n) fun e w'' => e = .returned v ∧ ∃ m, w'' = w.drewN m := h.mono fun _ _ ⟨he, hm⟩ => ⟨he, n, hm.symm⟩
theorem q_drawn {P : Program} {f : Nat} {args : Array Value} {w : World} {n : Nat} {v : Value} (h : Calls P f args (w.drewN n) fun e w' => e = .returned v ∧ Drawn0 (w.drewN n) w') :
    Calls P f args (w.drewN n) fun e w'' => e = .returned v ∧ ∃ m, w'' = w.drewN m := h.mono fun _ _ ⟨he, m, hm⟩ => ⟨he, n + m, by rw [hm, World.drewN_drewN]⟩

theorem info64 : (Tryd.prog.info? 22).map (fun i => (i.zero, i.size, i.bytes)) = some (some (.int .u64 0), 1, 8) := by kernel_rfl

set_option maxRecDepth 4000 in
set_option maxHeartbeats 3200000 in
theorem core (A : Option Addr) (c : Nat) (L : List Nat) (w : World) (hT : Tab w) (hr : RdI .u64 w A (nats L)) (hl : L.length ≤ 30) (hc : L.length ≤ c) (hN : Nums L) :
    Calls Tryd.prog 10 #[.slice A L.length c] w fun e w' => e = .returned (.bool true) ∧ Below w.heap.size w w' := by
  have HT := Lib.hid hT
  have HR := Lib.hid hr
  have HN := Lib.hid hN
  have HNW := Lib.hid (newWriter_calls none 0 0 [] w (nil_read w) (by decide) (by decide) (fun _ => rfl) (by decide))
  have d1 : decide ((L.length : Int) > 30) = false := by simp; omega
  have d1' : decide (30 < (L.length : Int)) = false := by simp; omega
  have d1n : decide (30 < L.length) = false := by simp; omega
  clear hT hr hN
  go_enter Tryd.func10, Tryd.ntmps10
  go_wp2_with (fail)
  refine HNW.out.mono ?_
  rintro e w1 ⟨g, S, rfl, hw, hS, hb1⟩
  rw [show (bts []).take 0 = [] from rfl] at hw
  have HNX := Lib.hid (newS_row w1)
  have HW := Lib.hid hw
  have HB := Lib.hid hb1
  have HHS := Lib.hid hS
  clear hw hS hb1 HNW
  go_wp2_with (fail)
  refine HNX.out.mono ?_
  rintro e w2 ⟨gs, rfl, hx, hgx, hb2⟩
  have HX := Lib.hid hx
  have HW2 := Lib.hid (HW.out.below hb2)
  have HB2 := Lib.hid (below_then HB.out HB.out.size hb2)
  have HXS := Lib.hid (fun h => by have := HW.out.old _ h; omega : ¬ S gs)
  have HGS := Lib.hid (Nat.le_trans HB.out.size hgx)
  have HNY := Lib.hid (newU_row w2)
  clear hx hgx hb2 HNX HW HB
  go_wp2_with (fail)
  refine HNY.out.mono ?_
  rintro e w3 ⟨gu, rfl, hy, hgu, hb3⟩
  have HY := Lib.hid hy
  have HW3 := Lib.hid (HW2.out.below hb3)
  have HX3 := Lib.hid (HX.out.below hb3)
  have HB3 := Lib.hid (below_then HB2.out HB2.out.size hb3)
  have HYS := Lib.hid (fun h => by have := HW2.out.old _ h; omega : ¬ S gu)
  have HXY := Lib.hid (by have := HX.out.lt; omega : gs ≠ gu)
  have HGU := Lib.hid (Nat.le_trans HB2.out.size hgu)
  clear hy hgu hb3 HNY HW2 HX HB2
  go_wp2_with (fail)
  go_loopw [7, 58] (fun x i wr => ∃ k : Nat, k ≤ L.length ∧ i = .int .i64 k ∧ x = .string (txt (both [] (L.take k))) ∧ StS (fun j => j = gu) w wr g gs (both [] (L.take k)) (L.take k) ∧ RowU wr gu (L.take k)) (fun _ i _ => L.length - (intOf i).toNat)
  case atStart => exact ⟨0, by omega, rfl, rfl, stS_of HW3.out HX3.out HHS.out HXS.out HGS.out HB3.out (by rintro j rfl; exact ⟨HYS.out, fun h => HXY.out h.symm, HY.out.lt⟩), HY.out⟩
  case round =>
    clear HW3 HX3 HHS HXS HB3 HYS HY
    obtain ⟨k, hk, rfl, rfl, hst, hy⟩ := hrel
    have hal := both_le (L.take k) []
    have htl : (L.take k).length = k := by rw [List.length_take]; omega
    rw [htl] at hal
    have hb := hst
    obtain ⟨-, -, -, -, -, -, hb, -⟩ := hb
    by_cases hlt : k < L.length
    · obtain ⟨ad, hA, hcl⟩ := nat_at (HR.out.below hb) k hlt
      subst hA
      have hv := HN.out L[k] (List.getElem_mem _)
      have HTK := Lib.hid (both_take L k hlt)
      have HFT := Lib.hid (show L.take (k + 1) = L.take k ++ [L[k]] from List.take_succ_eq_append_getElem hlt)
      have hrt : RdI .u64 wr (some ad) (nats (L.take k)) := by rw [nats_take]; exact RdI.take (HR.out.below hb) k
      have hNt : Nums (L.take k) := fun u hu => HN.out u (List.mem_of_mem_take hu)
      have hN1 : Nums (L.take (k + 1)) := fun u hu => HN.out u (List.mem_of_mem_take hu)
      have hrt1 : RdI .u64 wr (some ad) (nats (L.take (k + 1))) := by rw [nats_take]; exact RdI.take (HR.out.below hb) (k + 1)
      have htl1 : (L.take (k + 1)).length = k + 1 := by rw [List.length_take]; omega
      obtain ⟨v, hvv⟩ : ∃ v, v = L[k] := ⟨_, rfl⟩
      rw [← hvv] at hcl hv HTK HFT
      obtain ⟨l, hll⟩ : ∃ l, l = L.take k := ⟨_, rfl⟩
      rw [← hll] at hst hy hal htl HTK HFT hrt hNt ⊢
      have CA := Lib.hid (fun W (h : Below wr.heap.size wr W) => lift h h.size (putText_calls true (some ad) c v l W (hrt.below h) (by omega) hNt hv))
      have CB := Lib.hid (fun W (h : Below wr.heap.size wr W) => lift h h.size (putText_calls false (some ad) c v l W (hrt.below h) (by omega) hNt hv))
      rw [htl] at CA CB
      simp only [if_true, Bool.false_eq_true, if_false] at CA CB
      obtain ⟨i0, hi, hz0, hz1, hz2⟩ := info_parts info64
      have hcut : ∀ W : World, (Instr.slice 59 (.slice (some ad) L.length c) none (some (.int .i64 (k : Int))) none).run Tryd.prog W = .ok (.slice (some ad) k c) W := fun W => by
        have := cut_to (P := Tryd.prog) 59 22 .i64 Tryd.underlying59 hi (some ad) L.length c (k : Int) (by omega) (by omega) (by omega) W
        simpa using this
      have HTL := Lib.hid htl
      have HTL1 := Lib.hid htl1
      have HRT1 := Lib.hid hrt1
      have HN1 := Lib.hid hN1
      have HI := Lib.hid hi
      clear hi hz0 hz1 hz2 htl htl1 hrt1 hN1
      have hkc : (k : Int) ≤ (c : Int) := by omega
      have hk0 : (0 : Int) ≤ (k : Int) := by omega
      have hwi := VarbitD.wrap_i64 v hv
      have HST := Lib.hid hst
      have HY := Lib.hid hy
      have HB := Lib.hid hb
      have hb0 := Below.refl wr.heap.size wr
      clear hst hy hb hvv hll hrt hNt
      have hcut1 : ∀ W : World, (Instr.slice 59 (.slice (some ad) L.length c) none (some (.int .i64 ((k : Int) + 1))) none).run Tryd.prog W = .ok (.slice (some ad) (k + 1) c) W := fun W => by
        have := cut_to (P := Tryd.prog) 59 22 .i64 Tryd.underlying59 HI.out (some ad) L.length c ((k : Int) + 1) (by omega) (by omega) (by omega) W
        simpa using this
      have hza : (txt (toldL true l v)).size = (toldL true l v).length := txt_size _
      have hzb : (txt (toldL false l v)).size = (toldL false l v).length := txt_size _
      have hzx : (txt (both [] l)).size = (both [] l).length := txt_size _
      have hla := told_le true l v
      have hlb := told_le false l v
      obtain ⟨ta, hta⟩ : ∃ s, s = txt (toldL true l v) := ⟨_, rfl⟩
      obtain ⟨tb, htb⟩ : ∃ s, s = txt (toldL false l v) := ⟨_, rfl⟩
      obtain ⟨tx, htx⟩ : ∃ s, s = txt (both [] l) := ⟨_, rfl⟩
      obtain ⟨pa, hpa⟩ : ∃ p, p = (toldL true l v).length := ⟨_, rfl⟩
      obtain ⟨pb, hpb⟩ : ∃ p, p = (toldL false l v).length := ⟨_, rfl⟩
      rw [← hta, ← hpa] at hza
      rw [← htb, ← hpb] at hzb
      rw [← htx] at hzx
      rw [← hpa] at hla
      rw [← hpb] at hlb
      rw [← hta] at CA
      rw [← htb] at CB
      rw [← htx]
      have ea : ((pa : Int) != (ta.size : Int)) = false := by rw [hza]; simp
      have eb : ((pb : Int) != (tb.size : Int)) = false := by rw [hzb]; simp
      have ba : ta.size ≤ 72 := by omega
      have bb : tb.size ≤ 72 := by omega
      have bx : tx.size ≤ 5000 := by omega
      have HTA := Lib.hid hta
      have HTB := Lib.hid htb
      have HTX := Lib.hid htx
      have HPA := Lib.hid hpa
      have HPB := Lib.hid hpb
      clear hza hzb hzx hla hlb hta htb htx hpa hpb
      go_wp2_with (fail)
      go_region_held3 (fun W => Below wr.heap.size wr W)
        (first | exact below_drew (by assumption) | assumption)
        (first
        | (go_at_call_of 38 (Value.int IntKind.i64 1); refine (CA.out _ (by assumption)).mono ?_; rintro e w6 ⟨rfl, hb6⟩)
        | (go_at_call_of 38 (Value.int IntKind.i64 0); refine (CB.out _ (by assumption)).mono ?_; rintro e w6 ⟨rfl, hb6⟩))
      go_wp2_with (fail)
      have hb6 : Below wr.heap.size wr w6 := by assumption
      have hst6 := stS_below HST.out hb6
      obtain ⟨S6, hw6, hx6, hS6, hxs6, hgx6, hbb6, hO6⟩ := hst6
      have hy6 : RowU w6 gu l := HY.out.below hb6
      have hc1 := costS_calls gs _ _ _ v w6 (HT.out.below hbb6) hx6.1 hv
      rw [show (told true (lastOf l) (stepOf l) l.length v).length = pa from HPA.out.symm] at hc1
      have HC1 := Lib.hid hc1
      have hc2 := fun m => costU_calls gu _ _ _ v (w6.drewN m) ((HT.out.below hbb6).drewN m) (show RowU (w6.drewN m) gu l from hy6).1 hv
      rw [show (told false (lastOf l) (stepOf l) l.length v).length = pb from HPB.out.symm] at hc2
      have HC2 := Lib.hid hc2
      have HST6 := Lib.hid (fun m => (stS_below HST.out (pw_below_drewN hb6 m) : StS (fun j => j = gu) w (w6.drewN m) g gs (both [] l) l))
      have HY6 := Lib.hid hy6
      have HB6 := Lib.hid hb6
      clear hc1 hc2 hw6 hx6 hS6 hxs6 hgx6 hbb6 hO6 hy6 hb0 hb6
      go_wp2_with (first
        | (go_at_call 45; refine HC1.out.mono ?_; rintro e w7 ⟨rfl, n1, rfl⟩)
        | (go_at_call 46; refine (HC2.out _).mono ?_; rintro e w7 ⟨rfl, n2, rfl⟩))
      have hst6 := HST6.out (n1 + n2)
      have hy6 : RowU (w6.drewN (n1 + n2)) gu l := HY6.out
      generalize w6.drewN (n1 + n2) = w7 at *
      have HY7 := Lib.hid hy6
      have HP := Lib.hid (putS_st HT.out hst6 v (by omega) hv (by have := HTL.out; omega))
      clear hst6 hy6 HC1 HC2 HST6 HY6 HB6 HST HY CA CB
      refine HP.out.mono ?_
      rintro e w8 ⟨rfl, hst8, hO8⟩
      have hy8 : RowU w8 gu l := ⟨⟨(hO8 gu rfl).trans HY7.out.1.1, HY7.out.1.2⟩, HY7.out.2⟩
      obtain ⟨S8, hw8, hx8, hS8, hxs8, hgx8, hb8, hO8'⟩ := hst8
      have HU := Lib.hid (putU_st HT.out (stU_of (O := fun j => j = gs) hw8 hy8 hS8 (hO8' gu rfl).1 HGU.out hb8 (by rintro j rfl; exact ⟨hxs8, HXY.out, hx8.lt⟩)) v (by have h9 := told_le true l v; rw [List.length_append]; omega) hv (by have := HTL.out; omega))
      have HX8 := Lib.hid hx8
      have HGS8 := Lib.hid hgx8
      clear hy8 hw8 hx8 hS8 hxs8 hgx8 hb8 hO8' hO8 HP HY7
      go_wp2_with (fail)
      refine HU.out.mono ?_
      rintro e w9 ⟨rfl, hst9, hO9⟩
      have hx9 : RowS w9 gs (l ++ [v]) := ⟨⟨(hO9 gs rfl).trans HX8.out.1.1, HX8.out.1.2⟩, HX8.out.2⟩
      obtain ⟨S9, hw9, hy9, hS9, hys9, hgy9, hb9, hO9'⟩ := hst9
      have HSTN := Lib.hid (stS_of (O := fun j => j = gu) hw9 hx9 hS9 (hO9' gs rfl).1 HGS8.out hb9 (by rintro j rfl; exact ⟨hys9, fun h => HXY.out h.symm, hy9.lt⟩))
      have HYN := Lib.hid hy9
      have HB9 := Lib.hid hb9
      have hxd : ∀ m, RowS (w9.drewN m) gs (l ++ [v]) := fun _ => hx9
      have hyd : ∀ m, RowU (w9.drewN m) gu (l ++ [v]) := fun _ => hy9
      have k1 := fun m => lastS_calls gs _ _ _ (w9.drewN m) (hxd m).1
      have k2 := fun m => lastU_calls gu _ _ _ (w9.drewN m) (hyd m).1
      have k3 := fun m => rlenS_calls gs _ _ _ (w9.drewN m) (hxd m).1
      have k4 := fun m => rlenU_calls gu _ _ _ (w9.drewN m) (hyd m).1
      have k5 := fun m => stepS_calls gs _ _ _ (w9.drewN m) (hxd m).1
      have k6 := fun m => stepU_calls gu _ _ _ (w9.drewN m) (hyd m).1
      have k7 := fun m => Ref13.step_calls (some ad) c (L.take (k + 1)) (w9.drewN m) (((HR.out.below hb9).drewN m |> fun h => by rw [nats_take]; exact RdI.take h (k + 1))) (by have := HTL1.out; omega) HN1.out
      rw [lastOf_snoc] at k1 k2
      rw [List.length_append, HTL.out, List.length_singleton] at k3 k4
      rw [HTL1.out, HFT.out] at k7
      have hsl := stepOf_lt (l ++ [v])
      obtain ⟨st, hst⟩ : ∃ st, st = stepOf (l ++ [v]) := ⟨_, rfl⟩
      rw [← hst] at k5 k6 k7 hsl
      have hui := wrap_ui st hsl
      have K1 := Lib.hid k1
      have K2 := Lib.hid k2
      have K3 := Lib.hid k3
      have K4 := Lib.hid k4
      have K5 := Lib.hid k5
      have K6 := Lib.hid k6
      have K7 := Lib.hid k7
      clear hO9 hx9 hw9 hy9 hS9 hys9 hgy9 hb9 hO9' HU HX8 hxd hyd k1 k2 k3 k4 k5 k6 k7 hst
      go_wp2_with (fail)
      go_quiet (first
        | (go_at_call 47; exact q_same (K1.out _))
        | (go_at_call 43; exact q_same (K2.out _))
        | (go_at_call 36; exact q_same (K3.out _))
        | (go_at_call 37; exact q_same (K4.out _))
        | (go_at_call 40; exact q_same (K5.out _))
        | (go_at_call 44; exact q_same (K6.out _))
        | (go_at_call 48; exact q_drawn (K7.out _)))
      go_wp2_with (fail)
      go_roundw
      case rel =>
        refine ⟨k + 1, by omega, by go_num, ?_, ?_, ?_⟩
        · rw [HTK.out, txt_append, txt_append, ← HTX.out, ← HTA.out, ← HTB.out]
        · rw [HTK.out, HFT.out, ← List.append_assoc]
          exact stS_below HSTN.out (pw_below_drewN (Below.refl _ w9) nq)
        · rw [HFT.out]; exact HYN.out
      case measure => simp [intOf]; omega
    · obtain rfl : k = L.length := by omega
      rw [List.take_length] at hst hal
      obtain ⟨S1, hw, -, -, -, -, -, -⟩ := hst
      obtain ⟨B, hB⟩ : ∃ B, B = both [] L := ⟨_, rfl⟩
      rw [← hB] at hw hal
      rw [List.take_length, ← hB]
      have HBT := Lib.hid (bits_calls g S1 B wr hw (by omega))
      have HBB := Lib.hid hb
      have HAW := Lib.hid (fun W (h : Below w.heap.size w W) => lift h h.size (awake_calls W (HT.out.below h)))
      obtain ⟨tx, htx⟩ : ∃ s, s = txt B := ⟨_, rfl⟩
      rw [← htx] at HBT ⊢
      clear hy hw hb hB htx
      go_wp2_with (first
        | (go_at_call 49; refine HBT.out.mono ?_; rintro e w5 ⟨rfl, hb5⟩; have hB5 := below_then HBB.out HBB.out.size hb5; clear hb5)
        | (go_at_call 31; refine (HAW.out _ hB5).mono ?_; rintro e w9 ⟨rfl, hb9⟩))
      go_ret
      exact ⟨rfl, hb9⟩

set_option maxHeartbeats 1600000 in
theorem narrow (A : Option Addr) (c n : Nat) (w : World) (hT : Tab w) (hn : 30 < n) :
    Calls Tryd.prog 10 #[.slice A n c] w fun e w' => e = .returned (.bool true) ∧ Below w.heap.size w w' := by
  have HT := Lib.hid hT
  have HNW := Lib.hid (newWriter_calls none 0 0 [] w (nil_read w) (by decide) (by decide) (fun _ => rfl) (by decide))
  have d1 : decide ((n : Int) > 30) = true := by simp; omega
  have d1' : decide (30 < (n : Int)) = true := by simp; omega
  have d1n : decide (30 < n) = true := by simp; omega
  clear hT
  go_enter Tryd.func10, Tryd.ntmps10
  go_wp2_with (fail)
  refine HNW.out.mono ?_
  rintro e w1 ⟨g, S, rfl, hw, hS, hb1⟩
  have HNX := Lib.hid (newS_row w1)
  have HB := Lib.hid hb1
  clear hw hS hb1 HNW
  go_wp2_with (fail)
  refine HNX.out.mono ?_
  rintro e w2 ⟨gx, rfl, hx, hgx, hb2⟩
  have HB2 := Lib.hid (below_then HB.out HB.out.size hb2)
  have HNY := Lib.hid (newU_row w2)
  clear hx hgx hb2 HNX HB
  go_wp2_with (fail)
  refine HNY.out.mono ?_
  rintro e w3 ⟨gy, rfl, hy, hgu, hb3⟩
  have hB3 := below_then HB2.out HB2.out.size hb3
  have HAW := Lib.hid (lift hB3 hB3.size (awake_calls _ (HT.out.below hB3)))
  clear hy hgu hb3 HNY hB3
  go_wp2_with (go_at_call 31; refine HAW.out.mono ?_; rintro e w8 ⟨rfl, hb8⟩)
  go_ret
  exact ⟨rfl, hb8⟩

theorem nats_of (zs : List Int) (h : ∀ z ∈ zs, 0 ≤ z ∧ z < 18446744073709551616) : ∃ l, zs = nats l ∧ Nums l := by
  induction zs with
  | nil => exact ⟨[], rfl, Nums.nil⟩
  | cons z zs ih =>
    obtain ⟨l, rfl, hl⟩ := ih fun y hy => h y (List.mem_cons_of_mem _ hy)
    have hz := h z List.mem_cons_self
    refine ⟨z.toNat :: l, ?_, ?_⟩
    · simp only [nats, List.map_cons]
      congr 1
      omega
    · intro v hv
      rcases List.mem_cons.1 hv with rfl | hv
      · omega
      · exact hl v hv
theorem walk (a0 : Option Addr) (len0 cap0 : Nat) (z0 : List Int) (w : World) (h0 : IsRow .u64 w a0 len0 cap0 z0)
    (hL : laidMetH Tryd.prog [("tidepole/varbit.behinds", Rows.laid_tidepole_varbit_behinds)] w) :
    Calls Tryd.prog 10 #[.slice a0 len0 cap0] w fun e w' => e = .returned (.bool true) ∧ Below w.heap.size w w' := by
  obtain ⟨hr, hl, hc, hA, hz⟩ := h0.reads
  have hT := tab_of hL
  by_cases hin : 30 < len0
  · exact narrow a0 cap0 len0 w hT hin
  · obtain ⟨l, he, hN⟩ := nats_of (z0.take len0) fun z hzz => by
      have := hz z hzz
      simp [Lit.wf, IntKind.min, IntKind.max, IntKind.bits, IntKind.signed] at this
      omega
    rw [he] at hr hl
    rw [nats_length] at hl
    subst hl
    exact core a0 cap0 l w hT hr (by omega) hc hN
end Go.Proofs.YtlbkdmggafkghaaDoor.TimesPuts
