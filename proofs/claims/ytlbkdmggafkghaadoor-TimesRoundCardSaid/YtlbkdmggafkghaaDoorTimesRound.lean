/- law 13: what is put is read again. -/
import Derived.Test.YtlbkdmggafkghaaDoorLaw13B
import Derived.Test.YtlbkdmggafkghaaDoorRef13
namespace Go.Proofs.YtlbkdmggafkghaaDoor.TimesRound
open Go.RowKit Go.Proofs.YtlbkdmggafkghaaDoorW.PrintWords
open Go.Proofs.YtlbkdmggafkghaaDoor.Bits Go.Proofs.YtlbkdmggafkghaaDoor.Base Go.Proofs.YtlbkdmggafkghaaDoor.VarPure Go.Proofs.YtlbkdmggafkghaaDoor.TimesPure Go.Proofs.YtlbkdmggafkghaaDoor.VarbitA Go.Proofs.YtlbkdmggafkghaaDoor.VarbitD Go.Proofs.YtlbkdmggafkghaaDoor.StreamA Go.Proofs.YtlbkdmggafkghaaDoor.StreamR Go.Proofs.YtlbkdmggafkghaaDoor.VarKit Go.Proofs.YtlbkdmggafkghaaDoor.Ref01 Go.Proofs.YtlbkdmggafkghaaDoor.TimesA Go.Proofs.YtlbkdmggafkghaaDoor.TimesB Go.Proofs.YtlbkdmggafkghaaDoor.TimesL Go.Proofs.YtlbkdmggafkghaaDoor.Law13A Go.Proofs.YtlbkdmggafkghaaDoor.Law13B Go.Proofs.YtlbkdmggafkghaaDoor.Ref13 Go.Proofs.YtlbkdmggafkghaaDoor.LawBase

set_option maxHeartbeats 800000 in
theorem copy_calls (gx : Nat) (l : List Nat) (w : World) (h : RowU w gx l) :
    Calls Tryd.prog 41 #[.pointer (some ⟨gx, 0, none⟩)] w fun e w' => ∃ g, e = .returned (.pointer (some ⟨g, 0, none⟩)) ∧ RowU w' g l ∧ w.heap.size ≤ g ∧ Below w.heap.size w w' := by
  have HG := Lib.hid h
  have c0 : w.cell? ⟨gx, 0, none⟩ = some (.int .u64 (lastOf l)) := obj_cell h.1.1 rfl
  have c1 : w.cell? ⟨gx, 1, none⟩ = some (.int .i64 (i64 (stepOf l))) := obj_cell h.1.1 rfl
  have c2 : w.cell? ⟨gx, 2, none⟩ = some (.int .i64 l.length) := obj_cell h.1.1 rfl
  clear h
  go_enter Tryd.func41, Tryd.ntmps41
  go_wp2
  go_ret
  exact ⟨_, rfl, ⟨⟨blk_last _ _, HG.out.1.2⟩, HG.out.2⟩, Nat.le_refl _, below_alloc (Below.refl _ _) _⟩

set_option maxHeartbeats 3200000 in
theorem core (A : Option Addr) (c : Nat) (L : List Nat) (at_ : Int) (w : World) (hT : Tab w) (hr : RdI .u64 w A (nats L)) (hl : L.length ≤ 60) (hc : L.length ≤ c) (hN : Nums L) :
    Calls Tryd.prog 9 #[.slice A L.length c, .int .i64 at_] w fun e w' => e = .returned (.bool true) ∧ Below w.heap.size w w' := by
  have HT := Lib.hid hT
  have HR := Lib.hid hr
  have HN := Lib.hid hN
  have HNW := Lib.hid (newWriter_calls none 0 0 [] w (nil_read w) (by decide) (by decide) (fun _ => rfl) (by decide))
  have d1 : decide ((L.length : Int) > 60) = false := by simp; omega
  have d1' : decide (60 < (L.length : Int)) = false := by simp; omega
  have d1n : decide (60 < L.length) = false := by simp; omega
  clear hT hr hN
  go_enter Tryd.func9, Tryd.ntmps9
  go_wp2_with (fail)
  refine HNW.out.mono ?_
  rintro e w1 ⟨g, S, rfl, hw, hS, hb1⟩
  rw [show (bts []).take 0 = [] from rfl] at hw
  have HNX := Lib.hid (newU_row w1)
  have HW := Lib.hid hw
  have HB := Lib.hid hb1
  have HHS := Lib.hid hS
  clear hw hS hb1 HNW
  go_wp2_with (fail)
  refine HNX.out.mono ?_
  rintro e w2 ⟨gx, rfl, hx, hgx, hb2⟩
  have HX := Lib.hid hx
  have HW2 := Lib.hid (HW.out.below hb2)
  have HB2 := Lib.hid (below_then HB.out HB.out.size hb2)
  have HXS := Lib.hid (fun h => by have := HW.out.old _ h; omega : ¬ S gx)
  have HGS := Lib.hid (Nat.le_trans HB.out.size hgx)
  have HNY := Lib.hid (newU_row w2)
  clear hx hgx hb2 HNX HW HB
  go_wp2_with (fail)
  refine HNY.out.mono ?_
  rintro e w3 ⟨gy, rfl, hy, hgu, hb3⟩
  have HY := Lib.hid hy
  have HGY := Lib.hid (Nat.le_trans HB2.out.size hgu)
  have HST := Lib.hid (stU_of (O := fun j => j = gy) (HW2.out.below hb3) (HX.out.below hb3) HHS.out HXS.out HGS.out (below_then HB2.out HB2.out.size hb3) (by
    rintro j rfl
    refine ⟨fun h => ?_, ?_, hy.lt⟩
    · have := HW2.out.old _ h; omega
    · have := HX.out.lt; omega))
  clear hy hgu hb3 HNY HW2 HX HB2 HXS HHS HGS
  go_wp2_with (fail)
  go_loopw [62] (fun i wr => ∃ k : Nat, k ≤ L.length ∧ i = .int .i64 k ∧ StU (fun j => j = gy) w wr g gx (allL false [] (L.take k)) (L.take k) ∧ RowU wr gy []) (fun i _ => L.length - (intOf i).toNat)
  case atStart => exact ⟨0, by omega, rfl, HST.out, HY.out⟩
  case round =>
    clear HST HY
    obtain ⟨k, hk, rfl, hst, hy⟩ := hrel
    have hal := allL_le false (L.take k) []
    have htl : (L.take k).length = k := by rw [List.length_take]; omega
    rw [htl] at hal
    have hb := hst
    obtain ⟨-, -, -, -, -, -, hb, -⟩ := hb
    by_cases hlt : k < L.length
    · obtain ⟨ad, hA, hcl⟩ := nat_at (HR.out.below hb) k hlt
      subst hA
      have hv := HN.out L[k] (List.getElem_mem _)
      have HP := Lib.hid (fun W (h : Below wr.heap.size wr W) => putU_st HT.out (stU_below hst h) L[k] (by omega) hv (by omega))
      have HTK := Lib.hid (allL_take false L k hlt)
      have HFT := Lib.hid (show L.take (k + 1) = L.take k ++ [L[k]] from List.take_succ_eq_append_getElem hlt)
      obtain ⟨v, hvv⟩ : ∃ v, v = L[k] := ⟨_, rfl⟩
      rw [← hvv] at hcl hv HP HTK HFT
      have HST := Lib.hid hst
      have HY := Lib.hid hy
      clear hst hy hb hvv
      have HEND := Lib.hid (fun (w6 : World) (h1 : StU (fun j => j = gy) w w6 g gx (allL false [] (L.take k) ++ toldL false (L.take k) v) (L.take k ++ [v])) (h2 : RowU w6 gy []) =>
        (⟨k + 1, by omega, by go_num, by rw [HTK.out, HFT.out]; exact h1, h2⟩ : ∃ k' : Nat, k' ≤ L.length ∧ (Value.int .i64 ((k : Int) + 1)) = .int .i64 k' ∧ StU (fun j => j = gy) w w6 g gx (allL false [] (L.take k')) (L.take k') ∧ RowU w6 gy []))
      by_cases hat : (k : Int) = at_
      · have e1 : ((k : Int) == at_) = true := by simpa using hat
        subst hat
        have HC := Lib.hid (copy_calls gx (L.take k) wr (by obtain ⟨_, _, hx, _⟩ := HST.out; exact hx))
        clear HP
        go_wp2_with (fail)
        refine HC.out.mono ?_
        rintro e w5 ⟨gc, rfl, hc5, hgc, hb5⟩
        have hst5 := stU_add HST.out hb5 hgc hc5.lt
        have HP := Lib.hid (putU_st HT.out hst5 v (by omega) hv (by omega))
        have HY5 := Lib.hid (HY.out.below hb5)
        have HC5 := Lib.hid hc5
        clear hc5 hgc hb5 hst5 HC
        go_wp2_with (fail)
        refine HP.out.mono ?_
        rintro e w6 ⟨rfl, hst6, hO6⟩
        have HST6 := Lib.hid (stU_weak (O' := fun j => j = gy) hst6 fun j hj => .inl hj)
        have HY6 := Lib.hid (⟨⟨(hO6 gy (.inl rfl)).trans HY5.out.1.1, HY5.out.1.2⟩, HY5.out.2⟩ : RowU w6 gy [])
        have hc6 : RowU w6 gc (L.take k) := ⟨⟨(hO6 gc (.inr rfl)).trans HC5.out.1.1, HC5.out.1.2⟩, HC5.out.2⟩
        have K1 := rlenU_calls gc _ _ _ w6 hc6.1
        rw [htl] at K1
        have K2 := (show Calls Tryd.prog 37 #[.pointer (some ⟨gx, 0, none⟩)] w6 fun e w' => e = .returned (.int .i64 (k + 1 : Nat)) ∧ w6 = w' by
          obtain ⟨_, _, hx6, _⟩ := HST6.out
          have := rlenU_calls gx _ _ _ w6 hx6.1
          rw [List.length_append, htl] at this
          exact this)
        have HK1 := Lib.hid K1
        have HK2 := Lib.hid K2
        clear hst6 hO6 hc6 K1 K2
        go_wp2_with (go_at_call 37; first | (refine HK1.out.mono ?_; rintro e w7 ⟨rfl, rfl⟩) | (refine HK2.out.mono ?_; rintro e w7 ⟨rfl, rfl⟩))
        go_roundw
        case rel => exact HEND.out _ HST6.out HY6.out
        case measure => simp [intOf]; omega
      · have e1 : ((k : Int) == at_) = false := by simpa using hat
        clear hat
        go_wp2_with (fail)
        refine (HP.out _ (Below.refl _ _)).mono ?_
        rintro e w6 ⟨rfl, hst6, hO6⟩
        have HST6 := Lib.hid hst6
        have HY6 := Lib.hid (⟨⟨(hO6 gy rfl).trans HY.out.1.1, HY.out.1.2⟩, HY.out.2⟩ : RowU w6 gy [])
        clear hst6 hO6
        go_wp2
        go_roundw
        case rel => exact HEND.out _ HST6.out HY6.out
        case measure => simp [intOf]; omega
    · obtain rfl : k = L.length := by omega
      rw [List.take_length] at hst hal
      obtain ⟨S1, hw, hx, hS, hxs, hgx, -, hO⟩ := hst
      obtain ⟨B, hB⟩ : ∃ B, B = allL false [] L := ⟨_, rfl⟩
      rw [← hB] at hw hal
      have HBE := Lib.hid hB
      have HW := Lib.hid hw
      have HX := Lib.hid hx
      have HY := Lib.hid hy
      have HGX := Lib.hid hgx
      have HXY := Lib.hid ((hO gy rfl).2.1 : gy ≠ gx)
      have HB := Lib.hid hb
      have C6 := Lib.hid (bytes_calls g S1 B wr hw (by omega))
      clear hw hx hy hS hxs hgx hO hb hB htl
      go_wp2_with (fail)
      refine C6.out.mono ?_
      rintro e w4 ⟨vb, rfl, ho, hb4⟩
      obtain ⟨D, d, rfl, hd, hr⟩ := ho.reads
      have hD := ho.nilcap
      have hpl := pack_length B
      have HNR := Lib.hid (newReader_calls D d B.length (pack B) w4 hr (by omega) hd hD (by omega))
      have HB4 := Lib.hid (below_then HB.out HB.out.size hb4)
      have HX4 := Lib.hid (HX.out.below hb4)
      have HY4 := Lib.hid (HY.out.below hb4)
      have HLEN := Lib.hid (len_calls g S1 B w4 (HW.out.below hb4))
      clear ho hr hd hb4 hD hpl C6 HW HB HX HY
      go_wp2_with (go_at_call 21; refine HLEN.out.mono ?_; rintro e w5 ⟨rfl, rfl⟩)
      refine HNR.out.mono ?_
      rintro e w5 ⟨gr, SR, rfl, hR, hSR, hb5⟩
      rw [pack_take_all, HBE.out] at hR
      have HB5 := Lib.hid (below_then HB4.out HB4.out.size hb5)
      have HSR := Lib.hid (fun k hk => Nat.le_trans HB4.out.size (hSR k hk) : ∀ k, SR k → w.heap.size ≤ k)
      have HR5 := Lib.hid hR
      have HX5 := Lib.hid (HX4.out.below hb5)
      have HY5 := Lib.hid (HY4.out.below hb5)
      have HSY := Lib.hid (fun h => by have := hSR _ h; have := HY4.out.lt; omega : ¬ SR gy)
      have HSX := Lib.hid (fun h => by have := hSR _ h; have := HX4.out.lt; omega : ¬ SR gx)
      have HNG := Lib.hid (not_old HT.out HSR.out)
      clear hR hSR hb5 HNR HB4 HX4 HY4 HLEN
      go_wp2_with (fail)
      go_loopw [112] (fun i wq => ∃ k : Nat, k ≤ L.length ∧ i = .int .i64 k ∧ RowU wq gy (L.take k) ∧ (∃ a, Rr wq gr SR a (allL false (L.take k) (L.drop k)) false) ∧ RowU wq gx L ∧ Below w.heap.size w wq) (fun i _ => L.length - (intOf i).toNat)
      case atStart => exact ⟨0, by omega, rfl, HY5.out, ⟨0, HR5.out⟩, HX5.out, HB5.out⟩
      case round =>
        clear HR5 HB5 HX5 HY5
        obtain ⟨k, hk, rfl, hy, ⟨a, hR⟩, hx, hb⟩ := hrel
        have HBQ := Lib.hid hb
        by_cases hlt : k < L.length
        · obtain ⟨ad, hA, hcl⟩ := nat_at (HR.out.below hb) k hlt
          subst hA
          have hv := HN.out L[k] (List.getElem_mem _)
          rw [allL_drop false L k hlt] at hR
          have htl : (L.take k).length < 1000000 := by rw [List.length_take]; omega
          have HFT := Lib.hid (show L.take (k + 1) = L.take k ++ [L[k]] from List.take_succ_eq_append_getElem hlt)
          have HG := Lib.hid (getU_list gr gy a SR (L.take k) L[k] _ _ (HT.out.below hb) HNG.out hy hR HSY.out htl hv)
          have HNX := Lib.hid (fun (w6 : World) (hc : Ch (fun j => SR j ∨ j = gy) _ w6) => (hx.ch hc (fun h => by
            rcases h with h | h
            · exact HSX.out h
            · exact HXY.out h.symm) : RowU w6 gx L))
          obtain ⟨v, hvv⟩ : ∃ v, v = L[k] := ⟨_, rfl⟩
          rw [← hvv] at hcl HG HFT
          clear hy hR hx hv htl hb hvv
          go_wp2_with (fail)
          refine HG.out.mono ?_
          rintro e w6 ⟨rfl, hy6, ⟨a6, hr6⟩, hc6⟩
          have HY6 := Lib.hid hy6
          have HR6 := Lib.hid hr6
          have HC6 := Lib.hid hc6
          clear hy6 hr6 hc6
          go_wp2
          go_roundw
          case rel => exact ⟨k + 1, by omega, by go_num, by rw [HFT.out]; exact HY6.out, ⟨_, HR6.out⟩, HNX.out _ HC6.out, two_new HBQ.out HBQ.out.size HSR.out HGY.out HC6.out⟩
          case measure => simp [intOf]; omega
        · obtain rfl : k = L.length := by omega
          rw [List.take_length] at hy hR
          rw [List.drop_length, show allL false L [] = [] from by cases L <;> rfl] at hR
          have HLF := Lib.hid (left_calls gr a SR [] false _ hR)
          have hxd : ∀ m, RowU (wr.drewN m) gx L := fun _ => hx
          have hyd : ∀ m, RowU (wr.drewN m) gy L := fun _ => hy
          have K1 := Lib.hid (fun m => lastU_calls gx _ _ _ (wr.drewN m) (hxd m).1)
          have K2 := Lib.hid (fun m => lastU_calls gy _ _ _ (wr.drewN m) (hyd m).1)
          have K3 := Lib.hid (fun m => stepU_calls gx _ _ _ (wr.drewN m) (hxd m).1)
          have K4 := Lib.hid (fun m => stepU_calls gy _ _ _ (wr.drewN m) (hyd m).1)
          have K5 := Lib.hid (fun m => rlenU_calls gx _ _ _ (wr.drewN m) (hxd m).1)
          have K6 := Lib.hid (fun m => rlenU_calls gy _ _ _ (wr.drewN m) (hyd m).1)
          have HAW := Lib.hid (fun m => lift (pw_below_drewN HBQ.out m) HBQ.out.size (awake_calls (wr.drewN m) ((HT.out.below hb).drewN m)))
          obtain ⟨q1, h1⟩ : ∃ q, q = lastOf L := ⟨_, rfl⟩
          obtain ⟨q2, h2⟩ : ∃ q, q = stepOf L := ⟨_, rfl⟩
          rw [← h1] at K1 K2
          rw [← h2] at K3 K4
          clear hy hR hx hb hxd hyd h1 h2
          go_wp2_with (first
            | (go_at_call 24; refine HLF.out.mono ?_; rintro e w8 ⟨rfl, nd, rfl⟩)
            | (go_at_call 43; first | (refine (K1.out _).mono ?_; rintro e w8 ⟨rfl, rfl⟩) | (refine (K2.out _).mono ?_; rintro e w8 ⟨rfl, rfl⟩))
            | (go_at_call 44; first | (refine (K3.out _).mono ?_; rintro e w8 ⟨rfl, rfl⟩) | (refine (K4.out _).mono ?_; rintro e w8 ⟨rfl, rfl⟩))
            | (go_at_call 37; first | (refine (K5.out _).mono ?_; rintro e w8 ⟨rfl, rfl⟩) | (refine (K6.out _).mono ?_; rintro e w8 ⟨rfl, rfl⟩))
            | (go_at_call 31; refine (HAW.out _).mono ?_; rintro e w9 ⟨rfl, hb9⟩))
          go_ret
          exact ⟨rfl, hb9⟩

set_option maxHeartbeats 1600000 in
theorem narrow (A : Option Addr) (c n : Nat) (at_ : Int) (w : World) (hT : Tab w) (hn : 60 < n) :
    Calls Tryd.prog 9 #[.slice A n c, .int .i64 at_] w fun e w' => e = .returned (.bool true) ∧ Below w.heap.size w w' := by
  have HT := Lib.hid hT
  have HNW := Lib.hid (newWriter_calls none 0 0 [] w (nil_read w) (by decide) (by decide) (fun _ => rfl) (by decide))
  have d1 : decide ((n : Int) > 60) = true := by simp; omega
  have d1' : decide (60 < (n : Int)) = true := by simp; omega
  have d1n : decide (60 < n) = true := by simp; omega
  clear hT
  go_enter Tryd.func9, Tryd.ntmps9
  go_wp2_with (fail)
  refine HNW.out.mono ?_
  rintro e w1 ⟨g, S, rfl, hw, hS, hb1⟩
  have HNX := Lib.hid (newU_row w1)
  have HB := Lib.hid hb1
  clear hw hS hb1 HNW
  go_wp2_with (fail)
  refine HNX.out.mono ?_
  rintro e w2 ⟨gx, rfl, hx, hgx, hb2⟩
  have HB2 := Lib.hid (below_then HB.out HB.out.size hb2)
  have HNY := Lib.hid (newU_row w2)
  clear hx hgx hb2 HNX HB
  go_wp2_with (fail)
  refine HNY.out.mono ?_
  rintro e w3 ⟨gy, rfl, hy, hgu, hb3⟩
  have hB3 := below_then HB2.out HB2.out.size hb3
  have HAW := Lib.hid (lift hB3 hB3.size (awake_calls _ (HT.out.below hB3)))
  clear hy hgu hb3 HNY hB3
  go_wp2_with (go_at_call 31; refine HAW.out.mono ?_; rintro e w8 ⟨rfl, hb8⟩)
  go_ret
  exact ⟨rfl, hb8⟩

theorem nats_of (zs : List Int) (h : ∀ z ∈ zs, 0 ≤ z ∧ z < 18446744073709551616) : ∃ l, zs = nats l ∧ Nums l := by
  induction zs with
  | nil => exact ⟨[], rfl, Nums.nil⟩
  | cons z zs ih =>
    obtain ⟨l, rfl, hl⟩ := ih fun y hy => h y (List.mem_cons_of_mem _ hy)
    have hz := h z List.mem_cons_self
    refine ⟨z.toNat :: l, ?_, ?_⟩
    · simp only [nats, List.map_cons]
      congr 1
      omega
    · intro v hv
      rcases List.mem_cons.1 hv with rfl | hv
      · omega
      · exact hl v hv
theorem walk (a0 : Option Addr) (len0 cap0 : Nat) (z0 : List Int) (at_ : Int) (w : World) (h0 : IsRow .u64 w a0 len0 cap0 z0) (h1 : (Lit.int .i64 at_).wf = true)
    (hL : laidMetH Tryd.prog [("tidepole/varbit.behinds", Rows.laid_tidepole_varbit_behinds)] w) :
    Calls Tryd.prog 9 #[.slice a0 len0 cap0, .int .i64 at_] w fun e w' => e = .returned (.bool true) ∧ Below w.heap.size w w' := by
  obtain ⟨hr, hl, hc, hA, hz⟩ := h0.reads
  have hT := tab_of hL
  by_cases hin : 60 < len0
  · exact narrow a0 cap0 len0 at_ w hT hin
  · obtain ⟨l, he, hN⟩ := nats_of (z0.take len0) fun z hzz => by
      have := hz z hzz
      simp [Lit.wf, IntKind.min, IntKind.max, IntKind.bits, IntKind.signed] at this
      omega
    rw [he] at hr hl
    rw [nats_length] at hl
    subst hl
    exact core a0 cap0 l at_ w hT hr (by omega) hc hN
end Go.Proofs.YtlbkdmggafkghaaDoor.TimesRound
