/- head's walks: get. -/
import Derived.Test.YtjfekjbmgckkcaaGreatDoorHeadH
namespace Go.Proofs.YtjfekjbmgckkcaaGreatDoor.HeadI
open Go.RowKit Go.Proofs.YtjfekjbmgckkcaaGreatDoorW.PrintWords
open Go.Proofs.YtjfekjbmgckkcaaGreatDoor.Bits Go.Proofs.YtjfekjbmgckkcaaGreatDoor.Base Go.Proofs.YtjfekjbmgckkcaaGreatDoor.VarPure Go.Proofs.YtjfekjbmgckkcaaGreatDoor.VarbitA Go.Proofs.YtjfekjbmgckkcaaGreatDoor.VarbitB Go.Proofs.YtjfekjbmgckkcaaGreatDoor.VarbitD Go.Proofs.YtjfekjbmgckkcaaGreatDoor.StreamA Go.Proofs.YtjfekjbmgckkcaaGreatDoor.StreamR Go.Proofs.YtjfekjbmgckkcaaGreatDoor.SpanPure Go.Proofs.YtjfekjbmgckkcaaGreatDoor.SpanBase Go.Proofs.YtjfekjbmgckkcaaGreatDoor.ReadP Go.Proofs.YtjfekjbmgckkcaaGreatDoor.HeadA Go.Proofs.YtjfekjbmgckkcaaGreatDoor.HeadF Go.Proofs.YtjfekjbmgckkcaaGreatDoor.HeadH

set_option maxRecDepth 100000 in
set_option maxHeartbeats 3200000 in
theorem get_calls (g a : Nat) (S : Nat → Prop) (q : List Bool) (w : World) (hT : Tab w) (hG : ¬ S 1) (h : Rr w g S a q false) :
    Calls Tryz.prog 87 #[.pointer (some ⟨g, 0, none⟩)] w (RP (IsSps w.heap.size) (pGet q) g a S w) := by
  have HGU := Lib.hid (getU_reads g a S q w hT hG h)
  have HT := Lib.hid hT
  have HG := Lib.hid hG
  have HO := Lib.hid h.old
  have HP : Hid (∀ r, r = pU q → pGet q = if r.err ≠ 0 then ⟨r.err, [], 0, []⟩ else if 1024 < r.val then ⟨12, [], 0, []⟩ else if (pSpans r.val r.rest).err ≠ 0 then ⟨(pSpans r.val r.rest).err, (pSpans r.val r.rest).val, 0, []⟩
    else if sidesE (pSpans r.val r.rest).val ≠ 0 then ⟨sidesE (pSpans r.val r.rest).val, (pSpans r.val r.rest).val, 0, []⟩ else ⟨0, (pSpans r.val r.rest).val, r.used + (pSpans r.val r.rest).used, (pSpans r.val r.rest).rest⟩) := Lib.hid (by rintro r rfl; rfl)
  obtain ⟨r, hr⟩ : ∃ r, r = pU q := ⟨_, rfl⟩
  rw [← hr] at HGU
  have HP2 := Lib.hid (HP.out r hr)
  clear hT hG h hr HP
  go_enter Tryz.func87, Tryz.ntmps87
  go_wp2_with (fail)
  refine HGU.out.mono ?_
  rintro e w1 ⟨hc1, ⟨v, rfl, rfl⟩, hcase⟩
  have HC1 := Lib.hid hc1
  obtain ⟨re, rv, ru, rr⟩ := r
  simp only at hcase HP2 ⊢
  clear hc1
  rcases hcase with ⟨h1, ⟨a', q', sh, hr1⟩⟩ | ⟨h1, hr1⟩
  · have HR := Lib.hid hr1
    have d1 : ((re : Int) != 0) = true := by simp; omega
    rw [if_pos h1] at HP2
    have H1 := Lib.hid h1
    clear hr1 h1 HGU
    go_wp2
    go_ret2
    rw [HP2.out]
    exact ⟨HC1.out, ⟨_, rfl, OwSp.nil _ _ _⟩, .inl ⟨H1.out, _, _, _, HR.out⟩⟩
  · subst h1
    rw [if_neg (by simp)] at HP2
    by_cases hbig : 1024 < rv
    · have HR := Lib.hid hr1
      rw [if_pos hbig] at HP2
      have d2 : decide ((rv : Int) > 1024) = true := by simp; omega
      have d2' : decide (1024 < (rv : Int)) = true := by simp; omega
      have d2n : decide (1024 < rv) = true := by simp; omega
      clear hr1 hbig HGU
      go_wp2
      go_ret2
      rw [HP2.out]
      exact ⟨HC1.out, ⟨_, rfl, OwSp.nil _ _ _⟩, .inl ⟨by decide, _, _, _, HR.out⟩⟩
    · rw [if_neg hbig] at HP2
      have d2 : decide ((rv : Int) > 1024) = false := by simp; omega
      have d2' : decide (1024 < (rv : Int)) = false := by simp; omega
      have d2n : decide (1024 < rv) = false := by simp; omega
      have HR1 := Lib.hid hr1
      clear hr1 HGU
      go_wp2
      go_loopw [6, 20] (fun v i wr => ∃ k : Nat, k ≤ rv ∧ i = .int .u64 k ∧ Lp g (a + ru) S w rv rr k v wr) (fun _ i _ => rv - (intOf i).toNat)
      case atStart => exact ⟨0, by omega, rfl, Lp.start HR1.out HC1.out⟩
      case round =>
        obtain ⟨k, hk, rfl, l, u, q2, hlk, ho, hr2, hc2, he⟩ := hrel
        have HO2 := Lib.hid ho
        have HC2 := Lib.hid hc2
        have HE := Lib.hid he
        by_cases hlt : k < rv
        · have HON := Lib.hid (one_calls g (a + ru + u) S q2 wr (HT.out.ch hc2 HG.out) HG.out hr2)
          obtain ⟨t, ht⟩ : ∃ t, t = pOne q2 := ⟨_, rfl⟩
          rw [← ht] at HON
          have HT2 := Lib.hid ht
          have HLK := Lib.hid hlk
          clear ho hc2 he hr2 ht hlk
          go_wp2_with (fail)
          refine HON.out.mono ?_
          rintro e w2 ⟨hc3, ⟨sv, rfl, rfl⟩, hcase⟩
          obtain ⟨te, ⟨o, p⟩, tu, tr⟩ := t
          simp only at hcase ⊢
          have HCS := Lib.hid hcase
          have HC3 := Lib.hid hc3
          clear hcase hc3
          by_cases hte : te = 0
          · subst hte
            have HO3 := Lib.hid (sps_ch HO2.out HC3.out HO.out)
            have hll := HLK.out
            have HO4 := Lib.hid (HO3.out.below (below_alloc (Below.refl w2.heap.size w2) (.cells #[.int .i64 o, .int .i64 p] 119)))
            have hsz := Nat.le_trans HC2.out.size HC3.out.size
            go_wp2_with (at_builtin; refine append_span_at (w0 := w2.alloc (.cells #[.int .i64 o, .int .i64 p] 119)) w.heap.size rfl (.tmp 31) (.tmp 33) 23 119 16 rfl Tryz.underlying23 infoSp _ l o p rfl (w2.heap.size + 1) (by simp) rfl HO4.out (Below.refl _ _) (by simp; omega) (by omega) (by omega) ?_; intro g2 cap w3 ho3 hb3 hg3 hat3)
            have hr3 : Rr w2 g S (a + ru + u + tu) tr false := by
              rcases HCS.out with ⟨h1, _⟩ | ⟨_, h2⟩
              · exact absurd rfl h1
              · exact h2
            have hch : Ch S w w3 := ((HC2.out.trans HC3.out fun _ _ x => x).alloc _).grown hg3 fun k hk => .inr (HO2.out.base_ k hk)
            have hrr : Rr w3 g S (a + ru + u + tu) tr false := hr3.ch (((Ch.refl _ w2).alloc _).grown hg3 fun k hk => .inl hk) fun k hk he => Nat.lt_irrefl _ (Nat.lt_of_lt_of_le (HO.out k hk) (HO2.out.base_ k he))
            have hps := pSpans_step hlt (by rw [← HT2.out]) HE.out
            rw [← HT2.out] at hps
            go_roundw
            case rel =>
              have ho4 := ho3
              rw [HLK.out] at ho4
              refine ⟨_, _, _, _, _, _, ⟨k + 1, by omega, rfl, ?_⟩, rfl, rfl, rfl, rfl, rfl, by go_num⟩
              exact ⟨l ++ [(o, p)], u + tu, tr, by rw [List.length_append, HLK.out]; rfl, ho4, by rw [← Nat.add_assoc]; exact hrr, hch, hps⟩
            case measure => simp [intOf]; omega
          · have dte : ((te : Int) != 0) = true := by simp; omega
            have HTE := Lib.hid hte
            have hps : pSpans rv rr = ⟨te, l, u, []⟩ := by
              have h9 := HE.out
              rw [show rv - k = (rv - k - 1) + 1 from by omega, pSpans_err _ _ (by rw [← HT2.out]; exact hte), ← HT2.out] at h9
              simpa using h9
            have HPS := Lib.hid hps
            have HO3 := Lib.hid (sps_ch HO2.out HC3.out HO.out)
            have hbl := below_alloc (Below.refl w2.heap.size w2) (.cells #[.int .i64 o, .int .i64 p] 119)
            have HBL := Lib.hid hbl
            clear hte hps hbl
            go_wp2
            go_ret2
            rw [HP2.out, HPS.out, if_pos HTE.out]
            refine ⟨(HC2.out.trans HC3.out fun _ _ x => x).alloc _, ⟨_, rfl, HO3.out.below HBL.out⟩, .inl ⟨HTE.out, ?_⟩⟩
            rcases HCS.out with ⟨_, a', q', sh, h2⟩ | ⟨h2, _⟩
            · exact ⟨_, _, _, h2.below HBL.out⟩
            · exact absurd h2 HTE.out
        · obtain rfl : k = rv := by omega
          obtain ⟨A, c, rfl, -, -, hrd⟩ := ho.reads
          have hl9 : l.length ≤ 1024 := by omega
          have HSD := Lib.hid (sides_calls A c l wr hrd (by omega))
          have hps : pSpans k rr = ⟨0, l, u, q2⟩ := by
            rw [he, Nat.sub_self, pSpans]
            simp
          have HPS := Lib.hid hps
          have HR2 := Lib.hid hr2
          obtain ⟨s, hs⟩ : ∃ s, s = sidesE l := ⟨_, rfl⟩
          rw [← hs] at HSD
          have HS := Lib.hid hs
          clear ho hc2 he hr2 hlk hrd hps hs
          go_wp2_with (fail)
          refine HSD.out.mono ?_
          rintro e w2 ⟨rfl, hb2⟩
          have HB2 := Lib.hid hb2
          clear hb2
          go_wp2
          go_ret2
          rw [HP2.out, HPS.out, if_neg (by simp), ← HS.out]
          by_cases h0 : s = 0
          · subst h0
            rw [if_neg (by simp)]
            exact ⟨HC2.out.then_below HB2.out, ⟨_, rfl, HO2.out.below HB2.out⟩, .inr ⟨rfl, by rw [← Nat.add_assoc]; exact HR2.out.below HB2.out⟩⟩
          · rw [if_pos h0]
            exact ⟨HC2.out.then_below HB2.out, ⟨_, rfl, HO2.out.below HB2.out⟩, .inl ⟨h0, _, _, _, HR2.out.below HB2.out⟩⟩
end Go.Proofs.YtjfekjbmgckkcaaGreatDoor.HeadI
