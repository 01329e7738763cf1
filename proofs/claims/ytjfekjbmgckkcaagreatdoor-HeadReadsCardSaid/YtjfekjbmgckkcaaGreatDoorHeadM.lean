/- head's walks: Get. -/
import Derived.Test.YtjfekjbmgckkcaaGreatDoorHeadL
import Derived.Test.YtjfekjbmgckkcaaGreatDoorHeadI
namespace Go.Proofs.YtjfekjbmgckkcaaGreatDoor.HeadM
open Go.RowKit Go.Proofs.YtjfekjbmgckkcaaGreatDoorW.PrintWords
open Go.Proofs.YtjfekjbmgckkcaaGreatDoor.Bits Go.Proofs.YtjfekjbmgckkcaaGreatDoor.Base Go.Proofs.YtjfekjbmgckkcaaGreatDoor.VarPure Go.Proofs.YtjfekjbmgckkcaaGreatDoor.VarbitA Go.Proofs.YtjfekjbmgckkcaaGreatDoor.StreamA Go.Proofs.YtjfekjbmgckkcaaGreatDoor.StreamR Go.Proofs.YtjfekjbmgckkcaaGreatDoor.SpanPure Go.Proofs.YtjfekjbmgckkcaaGreatDoor.SpanBase Go.Proofs.YtjfekjbmgckkcaaGreatDoor.FailAs Go.Proofs.YtjfekjbmgckkcaaGreatDoor.FailB Go.Proofs.YtjfekjbmgckkcaaGreatDoor.FailC Go.Proofs.YtjfekjbmgckkcaaGreatDoor.ThrPure Go.Proofs.YtjfekjbmgckkcaaGreatDoor.ReadP Go.Proofs.YtjfekjbmgckkcaaGreatDoor.HeadA Go.Proofs.YtjfekjbmgckkcaaGreatDoor.HeadB Go.Proofs.YtjfekjbmgckkcaaGreatDoor.HeadE Go.Proofs.YtjfekjbmgckkcaaGreatDoor.HeadF Go.Proofs.YtjfekjbmgckkcaaGreatDoor.HeadH Go.Proofs.YtjfekjbmgckkcaaGreatDoor.HeadJ Go.Proofs.YtjfekjbmgckkcaaGreatDoor.HeadL

set_option maxRecDepth 100000 in
set_option maxHeartbeats 6400000 in
theorem Get_calls (g a : Nat) (S : Nat → Prop) (q : List Bool) (w : World) (hT : Tab w) (hE : GlE w) (hG : ¬ S 1) (hGE : ¬ S 0) (h : Rr w g S a q false) :
    Calls Tryz.prog 28 #[.pointer (some ⟨g, 0, none⟩)] w (HP (pHead q) g a S w) := by
  have hal : Below w.heap.size w (w.alloc (.cells zcs 25)) := below_alloc (Below.refl _ _) _
  have hN : ¬ S w.heap.size := fun x => Nat.lt_irrefl _ (h.old _ x)
  have HEB := Lib.hid (Nat.ne_of_lt (gle_lt hE) : 0 ≠ w.heap.size)
  have HN := Lib.hid hN
  have HT := Lib.hid (hT.below hal)
  have HE := Lib.hid (gle_below hE hal)
  have HG := Lib.hid hG
  have HGE := Lib.hid hGE
  have HOLD := Lib.hid h.old
  have HC0 := Lib.hid (Ch.of_below (S := S) hal)
  have HB0 := Lib.hid (blk_last w (.cells zcs 25))
  have HBE := Lib.hid (begin_calls g a S q _ HT.out HE.out hG hGE (h.below hal))
  obtain ⟨r, hr⟩ : ∃ r, r = pBegin q := ⟨_, rfl⟩
  rw [← hr] at HBE
  have HP : Hid (∀ P N, P = pGet r.rest → N = pGet P.rest → pHead q = if r.err ≠ 0 then r
    else if P.err ≠ 0 then ⟨P.err, pPos, P.val.length, hd0, 0, []⟩
    else if N.err ≠ 0 then ⟨N.err, pNeg, N.val.length, hd0, 0, []⟩
    else ⟨0, pNeg, 0, { r.val with pos := P.val, neg := N.val }, r.used + P.used + N.used, N.rest⟩) := Lib.hid (by rintro P N rfl rfl; rw [hr]; rfl)
  clear hal hN hT hE hG hGE h hr
  go_enter Tryz.func28, Tryz.ntmps28
  go_wp2_with (fail)
  refine HBE.out.mono ?_
  rintro e w1 ⟨hc1, hcase⟩
  have HC1 := Lib.hid (HC0.out.trans hc1 fun _ _ x => x)
  have HBK := Lib.hid (hc1.blk HB0.out HN.out)
  have HT1 := Lib.hid (HT.out.ch hc1 HG.out)
  have HE1 := Lib.hid (gle_ch HE.out hc1 HGE.out)
  have HLT1 := Lib.hid (blk_lt HBK.out : w.heap.size < w1.heap.size)
  clear hc1 HBE
  rcases hcase with ⟨h1, ⟨v, rfl, he⟩, h3⟩ | ⟨h1, ⟨pl, rfl, ho⟩, h3⟩
  · have HPC : Hid (pHead q = r) := Lib.hid (by rw [HP.out _ _ rfl rfl, if_pos h1])
    have hal1 : Below w1.heap.size w1 (w1.alloc (.cells zcs 25)) := below_alloc (Below.refl _ _) _
    have HEA := Lib.hid (he.below hal1)
    have HRA := Lib.hid (show ∃ a' q' sh, Rr (w1.alloc (.cells zcs 25)) g S a' q' sh from by obtain ⟨a2, q2, s2, h9⟩ := h3; exact ⟨a2, q2, s2, h9.below hal1⟩)
    have HCA := Lib.hid (HC1.out.trans (Ch.of_below (S := S) hal1) fun _ _ x => x)
    have HBA := Lib.hid ((Ch.of_below (S := fun _ => False) hal1).blk HBK.out (fun x => x))
    obtain ⟨ge, rfl⟩ := err_some (by omega) he
    have H1 := Lib.hid h1
    have f0 := obj_free (i := 0) HBA.out
    have f1 := obj_free (i := 1) HBA.out
    have f2 := obj_free (i := 2) HBA.out
    have f3 := obj_free (i := 3) HBA.out
    have f4 := obj_free (i := 4) HBA.out
    have f5 := obj_free (i := 5) HBA.out
    have c0 := obj_cell (i := 0) HBA.out rfl
    have c1 := obj_cell (i := 1) HBA.out rfl
    have c2 := obj_cell (i := 2) HBA.out rfl
    have c3 := obj_cell (i := 3) HBA.out rfl
    have c4 := obj_cell (i := 4) HBA.out rfl
    have c5 := obj_cell (i := 5) HBA.out rfl
    clear h1 he h3 HP hal1
    dsimp only [hcs, hd0]
    go_wp2
    refine bodyPost_ret (v := .tuple #[.agg zcs, .iface 182 (.pointer (some ⟨ge, 0, none⟩))]) (by rw [results_cell_tmp rfl]; go_simp) rfl ?_
    rw [HPC.out]
    refine ⟨ch_six HCA.out (Nat.le_refl _) _ _ _ _ _ _, .inl ⟨H1.out, ⟨_, rfl, err_six HEA.out HBA.out (by decide) HEB.out _ _ _ _ _ _⟩, ?_⟩⟩
    obtain ⟨a2, q2, s2, h9⟩ := HRA.out
    exact ⟨a2, q2, s2, rr_six h9 HN.out _ _ _ _ _ _⟩
  obtain ⟨re, rp, ra, ⟨vr, hint, schema, zt, rpos, rneg⟩, ru, rr⟩ := r
  obtain ⟨A0, c0, B0, d0⟩ := pl
  obtain rfl : re = 0 := h1
  simp only at h3 HP
  have hal1 : Below w1.heap.size w1 (w1.alloc (.cells #[.int .i64 vr, .int .i64 hint, .int .i64 schema, .int .u64 zt, .slice A0 rpos.length c0, .slice B0 rneg.length d0] 25)) := below_alloc (Below.refl _ _) _
  have HN1 := Lib.hid (fun x => by have h1 := HOLD.out _ x; have h2 := HC1.out.size; omega : ¬ S w1.heap.size)
  have HTA := Lib.hid (HT1.out.below hal1)
  have HEA := Lib.hid (gle_below HE1.out hal1)
  have HRA := Lib.hid (h3.below hal1)
  have HCA := Lib.hid (HC1.out.trans (Ch.of_below (S := S) hal1) fun _ _ x => x)
  have HBA := Lib.hid ((Ch.of_below (S := fun _ => False) hal1).blk HBK.out (fun x => x))
  have HKA := Lib.hid (blk_last w1 (.cells #[.int .i64 vr, .int .i64 hint, .int .i64 schema, .int .u64 zt, .slice A0 rpos.length c0, .slice B0 rneg.length d0] 25))
  have HGP := Lib.hid (HeadI.get_calls g (a + ru) S rr _ HTA.out HG.out HRA.out)
  obtain ⟨P, hP⟩ : ∃ P, P = pGet rr := ⟨_, rfl⟩
  rw [← hP] at HGP
  have HPP := Lib.hid (fun N h => HP.out P N hP h)
  have HSZ := Lib.hid (show w1.heap.size < (w1.alloc (.cells #[.int .i64 vr, .int .i64 hint, .int .i64 schema, .int .u64 zt, .slice A0 rpos.length c0, .slice B0 rneg.length d0] 25)).heap.size by simp)
  clear hP ho h3 HP hal1 HBK
  
  dsimp only [hcs]
  go_wp2_with (fail)
  refine HGP.out.mono ?_
  rintro e w2 ⟨hc2, ⟨v, rfl, hv⟩, hcase⟩
  obtain ⟨Pe, pv, Pu, Pr⟩ := P
  simp only at hv hcase HPP ⊢
  obtain ⟨A, c, rfl, hle, hnil, hrd⟩ := OwSp.reads hv
  have HV := Lib.hid hv
  have HC2 := Lib.hid (HCA.out.trans hc2 fun _ _ x => x)
  have HBK2 := Lib.hid (hc2.blk HBA.out HN.out)
  have HKK2 := Lib.hid (hc2.blk HKA.out HN1.out)
  have HT2 := Lib.hid (HTA.out.ch hc2 HG.out)
  have HE2 := Lib.hid (gle_ch HEA.out hc2 HGE.out)
  have HS2 := Lib.hid hc2.size
  have f4 := obj_free (i := 4) HKK2.out
  have c4 := obj_cell (i := 4) HKK2.out rfl
  have hcs : Ch (fun k => k = w1.heap.size) w2 (w2.setCell ⟨w1.heap.size, 4, none⟩ (.slice A pv.length c)) := (Ch.refl (fun k => k = w1.heap.size) w2).setCell (p := ⟨w1.heap.size, 4, none⟩) (.inl rfl) _
  have HBK := Lib.hid (hcs.blk HBK2.out (Nat.ne_of_lt HLT1.out))
  have HKK := Lib.hid (blk_set HKK2.out 4 (.slice A pv.length c))
  have HEN := Lib.hid (fun h => by have h5 := gle_lt HE.out; have h6 := HLT1.out; simp at h5; omega : 0 ≠ w1.heap.size)
  have HE3 := Lib.hid (gle_ch HE2.out hcs HEN.out)
  have HC3 := Lib.hid (HC2.out.setCell (p := ⟨w1.heap.size, 4, none⟩) (.inr (Nat.le_of_lt HLT1.out)) (.slice A pv.length c))
  have HRC := Lib.hid (fun a q sh (h : Rr w2 g S a q sh) => h.ch hcs (fun k hk he => HN1.out (he ▸ hk)))
  have HV3 := Lib.hid (sps_ch hv hcs (fun k hk => by rw [hk]; exact HSZ.out))
  have HCS3 := Lib.hid hcs
  clear hv hc2 hrd hle hnil hcs HGP
  by_cases h1 : Pe ≠ 0
  · have hcase : ∃ a' q' sh, Rr w2 g S a' q' sh := hcase.elim (fun h => h.2) (fun h => absurd h.1 h1)
    have HR3 := Lib.hid hcase
    have HPC : Hid (pHead q = ⟨Pe, pPos, pv.length, hd0, 0, []⟩) := Lib.hid (by rw [HPP.out _ rfl, if_neg (fun h => h rfl), if_pos h1])
    have HAT := Lib.hid (HeadA.at_calls Pe pPos pv.length _ HE3.out)
    have e2 : ((Pe : Int) != 0) = true := by simp; omega
    have H1 := Lib.hid h1
    clear hcase h1 HPP
    go_wp2_with (fail)
    refine HAT.out.mono ?_
    rintro e w9 ⟨v9, rfl, he9, hb9⟩
    have hk9 := (Ch.of_below (S := fun _ => False) hb9).blk HBK.out (fun x => x)
    have f0 := obj_free (i := 0) hk9
    have f1 := obj_free (i := 1) hk9
    have f2 := obj_free (i := 2) hk9
    have f3 := obj_free (i := 3) hk9
    have f4 := obj_free (i := 4) hk9
    have f5 := obj_free (i := 5) hk9
    have c0 := obj_cell (i := 0) hk9 rfl
    have c1 := obj_cell (i := 1) hk9 rfl
    have c2 := obj_cell (i := 2) hk9 rfl
    have c3 := obj_cell (i := 3) hk9 rfl
    have c4 := obj_cell (i := 4) hk9 rfl
    have c5 := obj_cell (i := 5) hk9 rfl
    have E9 := Lib.hid he9
    have B9 := Lib.hid hb9
    have K9 := Lib.hid hk9
    clear he9 hb9 hk9
    go_wp2
    refine bodyPost_ret (v := .tuple #[.agg zcs, v9]) (by rw [results_cell_tmp rfl]; go_simp) rfl ?_
    rw [HPC.out]
    exact ⟨ch_six (HC3.out.trans (Ch.of_below B9.out) fun _ _ x => x) (Nat.le_refl _) _ _ _ _ _ _, .inl ⟨H1.out, ⟨_, rfl, err_six E9.out K9.out (by decide) HEB.out _ _ _ _ _ _⟩, (by obtain ⟨a2, q2, s2, h9⟩ := HR3.out; exact ⟨a2, q2, s2, rr_six ((HRC.out _ _ _ h9).below B9.out) HN.out _ _ _ _ _ _⟩)⟩⟩
  obtain rfl := Decidable.not_not.1 h1
  have hcase : Rr w2 g S (a + ru + Pu) Pr false := hcase.elim (fun h => absurd rfl h.1) (fun h => h.2)
  have HT3 := Lib.hid (HT2.out.ch HCS3.out (fun h => by have h5 := HT.out.lt; have h6 := HLT1.out; simp at h5; omega))
  have HGN := Lib.hid (HeadI.get_calls g (a + ru + Pu) S Pr _ HT3.out HG.out (HRC.out _ _ _ hcase))
  obtain ⟨N, hNN⟩ : ∃ N, N = pGet Pr := ⟨_, rfl⟩
  rw [← hNN] at HGN
  have HPN := Lib.hid (HPP.out N hNN)
  clear hcase h1 hNN HPP
  go_wp2_with (fail)
  refine HGN.out.mono ?_
  rintro e w3 ⟨hc3, ⟨v, rfl, hv⟩, hcase⟩
  obtain ⟨Ne, nv, Nu, Nr⟩ := N
  simp only at hv hcase HPN ⊢
  obtain ⟨B, d, rfl, hle, hnil, hrd⟩ := OwSp.reads hv
  have HW := Lib.hid hv
  have HC4 := Lib.hid (HC3.out.trans hc3 fun _ _ x => x)
  have HBK3 := Lib.hid (hc3.blk HBK.out HN.out)
  have HKK3 := Lib.hid (hc3.blk HKK.out HN1.out)
  have HE4 := Lib.hid (gle_ch HE3.out hc3 HGE.out)
  have HV4 := Lib.hid (sps_ch HV3.out hc3 (fun k hk => by have h1 := HOLD.out k hk; have h2 := HLT1.out; have h3 := HSZ.out; omega))
  have f5 := obj_free (i := 5) HKK3.out
  have c5 := obj_cell (i := 5) HKK3.out rfl
  have hcs : Ch (fun k => k = w1.heap.size) w3 (w3.setCell ⟨w1.heap.size, 5, none⟩ (.slice B nv.length d)) := (Ch.refl (fun k => k = w1.heap.size) w3).setCell (p := ⟨w1.heap.size, 5, none⟩) (.inl rfl) _
  have HBK := Lib.hid (hcs.blk HBK3.out (Nat.ne_of_lt HLT1.out))
  have HE5 := Lib.hid (gle_ch HE4.out hcs HEN.out)
  have HC5 := Lib.hid (HC4.out.setCell (p := ⟨w1.heap.size, 5, none⟩) (.inr (Nat.le_of_lt HLT1.out)) (.slice B nv.length d))
  have HRC := Lib.hid (fun a q sh (h : Rr w3 g S a q sh) => h.ch hcs (fun k hk he => HN1.out (he ▸ hk)))
  have HV5 := Lib.hid (sps_ch HV4.out hcs (fun k hk => by rw [hk]; exact HSZ.out))
  have HW5 := Lib.hid (sps_ch hv hcs (fun k hk => by rw [hk]; have h2 := HSZ.out; have h3 := HS2.out; simp at h2 h3 ⊢; omega))
  clear hv hc3 hrd hle hnil hcs HGN f4 c4
  by_cases h1 : Ne ≠ 0
  · have hcase : ∃ a' q' sh, Rr w3 g S a' q' sh := hcase.elim (fun h => h.2) (fun h => absurd h.1 h1)
    have HR3 := Lib.hid hcase
    have HPC : Hid (pHead q = ⟨Ne, pNeg, nv.length, hd0, 0, []⟩) := Lib.hid (by rw [HPN.out, if_neg (fun h => h rfl), if_neg (fun h => h rfl), if_pos h1])
    have HAT := Lib.hid (HeadA.at_calls Ne pNeg nv.length _ HE5.out)
    have e2 : ((Ne : Int) != 0) = true := by simp; omega
    have H1 := Lib.hid h1
    clear hcase h1 HPN
    go_wp2_with (fail)
    refine HAT.out.mono ?_
    rintro e w9 ⟨v9, rfl, he9, hb9⟩
    have hk9 := (Ch.of_below (S := fun _ => False) hb9).blk HBK.out (fun x => x)
    have f0 := obj_free (i := 0) hk9
    have f1 := obj_free (i := 1) hk9
    have f2 := obj_free (i := 2) hk9
    have f3 := obj_free (i := 3) hk9
    have f4 := obj_free (i := 4) hk9
    have f5 := obj_free (i := 5) hk9
    have c0 := obj_cell (i := 0) hk9 rfl
    have c1 := obj_cell (i := 1) hk9 rfl
    have c2 := obj_cell (i := 2) hk9 rfl
    have c3 := obj_cell (i := 3) hk9 rfl
    have c4 := obj_cell (i := 4) hk9 rfl
    have c5 := obj_cell (i := 5) hk9 rfl
    have E9 := Lib.hid he9
    have B9 := Lib.hid hb9
    have K9 := Lib.hid hk9
    clear he9 hb9 hk9
    go_wp2
    refine bodyPost_ret (v := .tuple #[.agg zcs, v9]) (by rw [results_cell_tmp rfl]; go_simp) rfl ?_
    rw [HPC.out]
    exact ⟨ch_six (HC5.out.trans (Ch.of_below B9.out) fun _ _ x => x) (Nat.le_refl _) _ _ _ _ _ _, .inl ⟨H1.out, ⟨_, rfl, err_six E9.out K9.out (by decide) HEB.out _ _ _ _ _ _⟩, (by obtain ⟨a2, q2, s2, h9⟩ := HR3.out; exact ⟨a2, q2, s2, rr_six ((HRC.out _ _ _ h9).below B9.out) HN.out _ _ _ _ _ _⟩)⟩⟩
  obtain rfl := Decidable.not_not.1 h1
  have hcase : Rr w3 g S (a + ru + Pu + Nu) Nr false := hcase.elim (fun h => absurd rfl h.1) (fun h => h.2)
  have H3 := Lib.hid hcase
  have HPC : Hid (pHead q = ⟨0, pNeg, 0, ⟨vr, hint, schema, zt, pv, nv⟩, ru + Pu + Nu, Nr⟩) := Lib.hid (by rw [HPN.out, if_neg (fun h => h rfl), if_neg (fun h => h rfl), if_neg (fun h => h rfl)])
  have k0 := obj_cell (i := 0) HKK3.out rfl
  have k1 := obj_cell (i := 1) HKK3.out rfl
  have k2 := obj_cell (i := 2) HKK3.out rfl
  have k3 := obj_cell (i := 3) HKK3.out rfl
  have k4 := obj_cell (i := 4) HKK3.out rfl
  have k5 := obj_cell (i := 5) HKK3.out rfl
  have g0 := obj_free (i := 0) HBK3.out
  have g1 := obj_free (i := 1) HBK3.out
  have g2 := obj_free (i := 2) HBK3.out
  have g3 := obj_free (i := 3) HBK3.out
  have g4 := obj_free (i := 4) HBK3.out
  have g5 := obj_free (i := 5) HBK3.out
  have e0 := obj_cell (i := 0) HBK3.out rfl
  have e1 := obj_cell (i := 1) HBK3.out rfl
  have e2 := obj_cell (i := 2) HBK3.out rfl
  have e3 := obj_cell (i := 3) HBK3.out rfl
  have e4 := obj_cell (i := 4) HBK3.out rfl
  have e5 := obj_cell (i := 5) HBK3.out rfl
  have hne1 : ¬ w1.heap.size = w.heap.size := Nat.ne_of_gt HLT1.out
  have hne2 : ¬ w.heap.size = w1.heap.size := Nat.ne_of_lt HLT1.out
  clear h1 hcase HPN
  go_wp2
  refine bodyPost_ret (v := .tuple #[.agg #[.int .i64 vr, .int .i64 hint, .int .i64 schema, .int .u64 zt, .slice A pv.length c, .slice B nv.length d], .nilIface]) (by rw [results_cell_tmp rfl]; go_simp) rfl ?_
  rw [HPC.out]
  have hlo : w.heap.size ≤ (w1.alloc (.cells #[.int .i64 vr, .int .i64 hint, .int .i64 schema, .int .u64 zt, .slice A0 rpos.length c0, .slice B0 rneg.length d0] 25)).heap.size := by have h1 := HLT1.out; have h2 := HSZ.out; omega
  have hlo2 : w.heap.size < (w2.setCell ⟨w1.heap.size, 4, none⟩ (.slice A pv.length c)).heap.size := by have h1 := HLT1.out; have h2 := HSZ.out; have h3 := HS2.out; simp at h2 h3 ⊢; omega
  refine ⟨ch_six HC5.out (Nat.le_refl _) _ _ _ _ _ _, .inr ⟨rfl, ⟨⟨A, c, B, d⟩, rfl, ⟨?_, ?_⟩⟩, ?_⟩⟩
  · exact (sps_ch HV5.out (six_ch _ w.heap.size _ _ _ _ _ _) (fun k hk => by rw [hk]; have h1 := HLT1.out; have h2 := HSZ.out; omega)).lower hlo
  · exact (sps_ch HW5.out (six_ch _ w.heap.size _ _ _ _ _ _) (fun k hk => by rw [hk]; exact hlo2)).lower (Nat.le_of_lt hlo2)
  · simp only
    rw [show a + (ru + Pu + Nu) = a + ru + Pu + Nu from by omega]
    exact rr_six (HRC.out _ _ _ H3.out) HN.out _ _ _ _ _ _
end Go.Proofs.YtjfekjbmgckkcaaGreatDoor.HeadM
