/- head's walks: begin. -/
import Derived.Test.YtjfekjbmgckkcaaGreatDoorHeadJ
import Derived.Laws.ResultCell
namespace Go.Proofs.YtjfekjbmgckkcaaGreatDoor.HeadL
open Go.RowKit Go.Proofs.YtjfekjbmgckkcaaGreatDoorW.PrintWords
open Go.Proofs.YtjfekjbmgckkcaaGreatDoor.Bits Go.Proofs.YtjfekjbmgckkcaaGreatDoor.Base Go.Proofs.YtjfekjbmgckkcaaGreatDoor.VarPure Go.Proofs.YtjfekjbmgckkcaaGreatDoor.VarbitA Go.Proofs.YtjfekjbmgckkcaaGreatDoor.StreamA Go.Proofs.YtjfekjbmgckkcaaGreatDoor.StreamR Go.Proofs.YtjfekjbmgckkcaaGreatDoor.SpanPure Go.Proofs.YtjfekjbmgckkcaaGreatDoor.SpanBase Go.Proofs.YtjfekjbmgckkcaaGreatDoor.FailAs Go.Proofs.YtjfekjbmgckkcaaGreatDoor.FailB Go.Proofs.YtjfekjbmgckkcaaGreatDoor.FailC Go.Proofs.YtjfekjbmgckkcaaGreatDoor.ThrPure Go.Proofs.YtjfekjbmgckkcaaGreatDoor.ReadP Go.Proofs.YtjfekjbmgckkcaaGreatDoor.HeadA Go.Proofs.YtjfekjbmgckkcaaGreatDoor.HeadB Go.Proofs.YtjfekjbmgckkcaaGreatDoor.HeadF Go.Proofs.YtjfekjbmgckkcaaGreatDoor.HeadH Go.Proofs.YtjfekjbmgckkcaaGreatDoor.HeadJ

/-- a block's six cells are set. -/
abbrev six (w : World) (b : Nat) (v0 v1 v2 v3 v4 v5 : Value) : World := (((((w.setCell ⟨b, 0, none⟩ v0).setCell ⟨b, 1, none⟩ v1).setCell ⟨b, 2, none⟩ v2).setCell ⟨b, 3, none⟩ v3).setCell ⟨b, 4, none⟩ v4).setCell ⟨b, 5, none⟩ v5
theorem ch_six0 {S : Nat → Prop} {w w1 : World} {b : Nat} (h : Ch S w w1) (hb : S b ∨ w.heap.size ≤ b) (v0 v1 v2 v3 v4 v5 : Value) : Ch S w (six w1 b v0 v1 v2 v3 v4 v5) :=
  (((((h.setCell hb v0).setCell hb v1).setCell hb v2).setCell hb v3).setCell hb v4).setCell hb v5
theorem ch_six {S : Nat → Prop} {w w1 : World} {b : Nat} (h : Ch S w w1) (hb : w.heap.size ≤ b) (v0 v1 v2 v3 v4 v5 : Value) : Ch S w (six w1 b v0 v1 v2 v3 v4 v5) := ch_six0 h (.inr hb) v0 v1 v2 v3 v4 v5
theorem six_ch (w1 : World) (b : Nat) (v0 v1 v2 v3 v4 v5 : Value) : Ch (fun k => k = b) w1 (six w1 b v0 v1 v2 v3 v4 v5) := ch_six0 (S := fun k => k = b) (Ch.refl _ w1) (.inl rfl) v0 v1 v2 v3 v4 v5
theorem rr_six {S : Nat → Prop} {w1 : World} {g a b : Nat} {q : List Bool} {sh : Bool} (h : Rr w1 g S a q sh) (hb : ¬ S b) (v0 v1 v2 v3 v4 v5 : Value) : Rr (six w1 b v0 v1 v2 v3 v4 v5) g S a q sh :=
  h.ch (six_ch w1 b v0 v1 v2 v3 v4 v5) fun _ hk he => hb (he ▸ hk)
theorem err_six {w : World} {b : Nat} {cs : Array Value} {t : Nat} {k : Nat × Nat} {l : List Pl} {v z : Value} (h : Err w v l z) (hb : w.heap[b]? = some (.cells cs t k)) (hs : cs.size ≠ 4) (hn : 0 ≠ b) (v0 v1 v2 v3 v4 v5 : Value) : Err (six w b v0 v1 v2 v3 v4 v5) v l z :=
  err_set h hb hs hn (six_ch w b v0 v1 v2 v3 v4 v5)
abbrev zcs : Array Value := #[.int .i64 0, .int .i64 0, .int .i64 0, .int .u64 0, .slice none 0 0, .slice none 0 0]

set_option maxRecDepth 100000 in
set_option maxHeartbeats 6400000 in
theorem begin_calls (g a : Nat) (S : Nat → Prop) (q : List Bool) (w : World) (hT : Tab w) (hE : GlE w) (hG : ¬ S 1) (hGE : ¬ S 0) (h : Rr w g S a q false) :
    Calls Tryz.prog 86 #[.pointer (some ⟨g, 0, none⟩)] w (HP (pBegin q) g a S w) := by
  have hal : Below w.heap.size w (w.alloc (.cells zcs 25)) := below_alloc (Below.refl _ _) _
  have hN : ¬ S w.heap.size := fun x => Nat.lt_irrefl _ (h.old _ x)
  have HEB := Lib.hid (Nat.ne_of_lt (gle_lt hE) : 0 ≠ w.heap.size)
  have HN := Lib.hid hN
  have HT := Lib.hid (hT.below hal)
  have HE := Lib.hid (gle_below hE hal)
  have HG := Lib.hid hG
  have HGE := Lib.hid hGE
  have HOLD := Lib.hid h.old
  have hr0 := h.below hal
  have HC0 := Lib.hid (Ch.of_below (S := S) hal)
  have HB0 := Lib.hid (blk_last w (.cells zcs 25))
  by_cases hs : q.length < 8
  · have HP : Hid (pBegin q = ⟨16, pFlags, 0, hd0, 0, []⟩) := Lib.hid (if_pos hs)
    have HGT := Lib.hid (get_short g a 8 S q false _ hr0 (by omega) (by omega) hs)
    clear hal hN hT hE hG hGE h hr0 hs
    go_enter Tryz.func86, Tryz.ntmps86
    go_wp2_with (fail)
    refine HGT.out.mono ?_
    rintro e w1 ⟨rfl, hr1, hc1⟩
    have HR1 := Lib.hid hr1
    have HC1 := Lib.hid (HC0.out.trans hc1 fun _ _ x => x)
    have HBK := Lib.hid (hc1.blk HB0.out HN.out)
    have HSH := Lib.hid (short_calls g a S [] true w1 hr1)
    have HAT := Lib.hid (HeadA.at_calls 16 pFlags 0 w1 (gle_ch HE.out hc1 HGE.out))
    clear hr1 hc1 HGT
    go_wp2_with (fail)
    refine HSH.out.mono ?_
    rintro e w2 ⟨rfl, rfl⟩
    go_wp2_with (fail)
    refine HAT.out.mono ?_
    rintro e w9 ⟨v9, rfl, he9, hb9⟩
    have hk9 := (Ch.of_below (S := fun _ => False) hb9).blk HBK.out (fun x => x)
    have f0 := obj_free (i := 0) hk9
    have f1 := obj_free (i := 1) hk9
    have f2 := obj_free (i := 2) hk9
    have f3 := obj_free (i := 3) hk9
    have f4 := obj_free (i := 4) hk9
    have f5 := obj_free (i := 5) hk9
    have c0 := obj_cell (i := 0) hk9 rfl
    have c1 := obj_cell (i := 1) hk9 rfl
    have c2 := obj_cell (i := 2) hk9 rfl
    have c3 := obj_cell (i := 3) hk9 rfl
    have c4 := obj_cell (i := 4) hk9 rfl
    have c5 := obj_cell (i := 5) hk9 rfl
    have E9 := Lib.hid he9
    have B9 := Lib.hid hb9
    have K9 := Lib.hid hk9
    clear he9 hb9 hk9
    go_wp2
    refine bodyPost_ret (v := .tuple #[.agg zcs, v9]) (by rw [results_cell_tmp rfl]; go_simp) rfl ?_
    rw [HP.out]
    exact ⟨ch_six (HC1.out.trans (Ch.of_below B9.out) fun _ _ x => x) (Nat.le_refl _) _ _ _ _ _ _, .inl ⟨by decide, ⟨_, rfl, err_six E9.out K9.out (by decide) HEB.out _ _ _ _ _ _⟩, _, _, _, rr_six (HR1.out.below B9.out) HN.out _ _ _ _ _ _⟩⟩
  have HP : Hid (∀ f s, f = val (q.take 8) → s = pS (q.drop 8) → pBegin q = if f % 32 ≠ 0 then ⟨10, pFlags, 0, hd0, 0, []⟩
    else if s.err ≠ 0 then ⟨s.err, pSchema, 0, hd0, 0, []⟩
    else if shapeE s.val ≠ 0 then ⟨shapeE s.val, pSchema, 0, hd0, 0, []⟩
    else if (parseT s.rest).1 ≠ 0 then ⟨(parseT s.rest).1, pZero, 0, hd0, 0, []⟩
    else ⟨0, pZero, 0, ⟨(f / 32 % 2 : Nat), (f / 64 : Nat), s.val, (parseT s.rest).2.1, [], []⟩, 8 + s.used + (parseT s.rest).2.2, s.rest.drop (parseT s.rest).2.2⟩) := Lib.hid (by rintro f s rfl rfl; exact if_neg hs)
  have HGT := Lib.hid (StreamR.get_calls g a 8 S q false _ hr0 (by omega) (by omega) (by omega))
  have hf8 := val_lt8 q
  obtain ⟨f, hf⟩ : ∃ f, f = val (q.take 8) := ⟨_, rfl⟩
  rw [← hf] at HGT hf8
  have HF := Lib.hid hf
  clear hal hN hT hE hG hGE h hr0 hs hf
  go_enter Tryz.func86, Tryz.ntmps86
  go_wp2_with (fail)
  refine HGT.out.mono ?_
  rintro e w1 ⟨rfl, hr1, hc1⟩
  have HR1 := Lib.hid hr1
  have HC1 := Lib.hid (HC0.out.trans hc1 fun _ _ x => x)
  have HC1' := Lib.hid hc1
  have HBK := Lib.hid (hc1.blk HB0.out HN.out)
  have HSH := Lib.hid (short_calls g (a + 8) S (q.drop 8) false w1 hr1)
  have HAT := Lib.hid (HeadA.at_calls 10 pFlags 0 w1 (gle_ch HE.out hc1 HGE.out))
  clear hr1 hc1 HGT
  by_cases hm : f % 32 ≠ 0
  · have d1 : ((f : Int) % 32 != 0) = true := by simp; omega
    have HPB : Hid (pBegin q = ⟨10, pFlags, 0, hd0, 0, []⟩) := Lib.hid (by rw [HP.out f _ HF.out rfl, if_pos hm])
    clear hm HP
    go_wp2_with (fail)
    refine HSH.out.mono ?_
    rintro e w2 ⟨rfl, rfl⟩
    go_wp2_with (fail)
    refine HAT.out.mono ?_
    rintro e w9 ⟨v9, rfl, he9, hb9⟩
    have hk9 := (Ch.of_below (S := fun _ => False) hb9).blk HBK.out (fun x => x)
    have f0 := obj_free (i := 0) hk9
    have f1 := obj_free (i := 1) hk9
    have f2 := obj_free (i := 2) hk9
    have f3 := obj_free (i := 3) hk9
    have f4 := obj_free (i := 4) hk9
    have f5 := obj_free (i := 5) hk9
    have c0 := obj_cell (i := 0) hk9 rfl
    have c1 := obj_cell (i := 1) hk9 rfl
    have c2 := obj_cell (i := 2) hk9 rfl
    have c3 := obj_cell (i := 3) hk9 rfl
    have c4 := obj_cell (i := 4) hk9 rfl
    have c5 := obj_cell (i := 5) hk9 rfl
    have E9 := Lib.hid he9
    have B9 := Lib.hid hb9
    have K9 := Lib.hid hk9
    clear he9 hb9 hk9
    go_wp2
    refine bodyPost_ret (v := .tuple #[.agg zcs, v9]) (by rw [results_cell_tmp rfl]; go_simp) rfl ?_
    rw [HPB.out]
    exact ⟨ch_six (HC1.out.trans (Ch.of_below B9.out) fun _ _ x => x) (Nat.le_refl _) _ _ _ _ _ _, .inl ⟨by decide, ⟨_, rfl, err_six E9.out K9.out (by decide) HEB.out _ _ _ _ _ _⟩, _, _, _, rr_six (HR1.out.below B9.out) HN.out _ _ _ _ _ _⟩⟩
  have d1 : ((f : Int) % 32 != 0) = false := by simp; omega
  have ea : Go.bits .and .u64 ((f : Int) / 32) 1 = (f : Int) / 32 % 2 := by
    have h3 : Go.bits .and .u64 ((f / 32 : Nat) : Int) ((1 : Nat) : Int) = ((f / 32 &&& 1 : Nat) : Int) := u64_and_nat _ _ (by omega) (by decide)
    rw [show ((f : Int) / 32) = ((f / 32 : Nat) : Int) from by simp, show (1 : Int) = ((1 : Nat) : Int) from rfl, h3, Nat.and_one_is_mod]
    rfl
  have hal1 : Below w1.heap.size w1 (w1.alloc (.cells #[.int .i64 ((f : Int) / 32 % 2), .int .i64 ((f : Int) / 32 / 2), .int .i64 0, .int .u64 0, .slice none 0 0, .slice none 0 0] 25)) := below_alloc (Below.refl _ _) _
  have HN1 := Lib.hid (fun x => by have h1 := HOLD.out _ x; have h2 := HC1.out.size; omega : ¬ S w1.heap.size)
  have HLT1 := Lib.hid (blk_lt HBK.out : w.heap.size < w1.heap.size)
  have HTA := Lib.hid ((HT.out.ch HC1'.out HG.out).below hal1)
  have HEA := Lib.hid (gle_below (gle_ch HE.out HC1'.out HGE.out) hal1)
  have HR2 := Lib.hid (HR1.out.below hal1)
  have HCA := Lib.hid (HC1.out.trans (Ch.of_below (S := S) hal1) fun _ _ x => x)
  have HBA := Lib.hid ((Ch.of_below (S := fun _ => False) hal1).blk HBK.out (fun x => x))
  have HKA := Lib.hid (blk_last w1 (.cells #[.int .i64 ((f : Int) / 32 % 2), .int .i64 ((f : Int) / 32 / 2), .int .i64 0, .int .u64 0, .slice none 0 0, .slice none 0 0] 25))
  have HGS := Lib.hid (getS_reads g (a + 8) S (q.drop 8) _ HTA.out HG.out HR2.out)
  obtain ⟨s, hss⟩ : ∃ s, s = pS (q.drop 8) := ⟨_, rfl⟩
  rw [← hss] at HGS
  have HPB : Hid (∀ t, t = parseT s.rest → pBegin q = if s.err ≠ 0 then ⟨s.err, pSchema, 0, hd0, 0, []⟩
    else if shapeE s.val ≠ 0 then ⟨shapeE s.val, pSchema, 0, hd0, 0, []⟩
    else if t.1 ≠ 0 then ⟨t.1, pZero, 0, hd0, 0, []⟩
    else ⟨0, pZero, 0, ⟨(f / 32 % 2 : Nat), (f / 64 : Nat), s.val, t.2.1, [], []⟩, 8 + s.used + t.2.2, s.rest.drop t.2.2⟩) := Lib.hid (by rintro t rfl; rw [HP.out f _ HF.out hss, if_neg hm])
  clear hal1 hm HP hss
  go_wp2_with (fail)
  refine HSH.out.mono ?_
  rintro e w2 ⟨rfl, rfl⟩
  go_wp2_with (fail)
  refine HGS.out.mono ?_
  rintro e w2 ⟨hc2, ⟨v, rfl, rfl⟩, hcase⟩
  obtain ⟨se, sv, su, sr⟩ := s
  simp only at hcase HPB ⊢
  have HC2 := Lib.hid (HCA.out.trans hc2 fun _ _ x => x)
  have HBK := Lib.hid (hc2.blk HBA.out HN.out)
  have HKK := Lib.hid (hc2.blk HKA.out HN1.out)
  have HT2 := Lib.hid (HTA.out.ch hc2 HG.out)
  have HE2 := Lib.hid (gle_ch HEA.out hc2 HGE.out)
  clear hc2 HGS HSH HTA HEA
  by_cases h1 : se ≠ 0
  · have hcase : ∃ a' q' sh, Rr w2 g S a' q' sh := hcase.elim (fun h => h.2) (fun h => absurd h.1 h1)
    have HR3 := Lib.hid hcase
    have HPC : Hid (pBegin q = ⟨se, pSchema, 0, hd0, 0, []⟩) := Lib.hid (by rw [HPB.out _ rfl, if_pos h1])
    have HAT := Lib.hid (HeadA.at_calls se pSchema 0 w2 HE2.out)
    have e1 : ((se : Int) == 0) = false := by simp; omega
    have e2 : ((se : Int) != 0) = true := by simp; omega
    have H1 := Lib.hid h1
    clear hcase h1 HPB
    go_wp2_with (fail)
    refine HAT.out.mono ?_
    rintro e w9 ⟨v9, rfl, he9, hb9⟩
    have hk9 := (Ch.of_below (S := fun _ => False) hb9).blk HBK.out (fun x => x)
    have f0 := obj_free (i := 0) hk9
    have f1 := obj_free (i := 1) hk9
    have f2 := obj_free (i := 2) hk9
    have f3 := obj_free (i := 3) hk9
    have f4 := obj_free (i := 4) hk9
    have f5 := obj_free (i := 5) hk9
    have c0 := obj_cell (i := 0) hk9 rfl
    have c1 := obj_cell (i := 1) hk9 rfl
    have c2 := obj_cell (i := 2) hk9 rfl
    have c3 := obj_cell (i := 3) hk9 rfl
    have c4 := obj_cell (i := 4) hk9 rfl
    have c5 := obj_cell (i := 5) hk9 rfl
    have E9 := Lib.hid he9
    have B9 := Lib.hid hb9
    have K9 := Lib.hid hk9
    clear he9 hb9 hk9
    go_wp2
    refine bodyPost_ret (v := .tuple #[.agg zcs, v9]) (by rw [results_cell_tmp rfl]; go_simp) rfl ?_
    rw [HPC.out]
    exact ⟨ch_six (HC2.out.trans (Ch.of_below B9.out) fun _ _ x => x) (Nat.le_refl _) _ _ _ _ _ _, .inl ⟨H1.out, ⟨_, rfl, err_six E9.out K9.out (by decide) HEB.out _ _ _ _ _ _⟩, (by obtain ⟨a2, q2, s2, h9⟩ := HR3.out; exact ⟨a2, q2, s2, rr_six (h9.below B9.out) HN.out _ _ _ _ _ _⟩)⟩⟩
  obtain rfl := Decidable.not_not.1 h1
  have hcase : Rr w2 g S (a + 8 + su) sr false := hcase.elim (fun h => absurd rfl h.1) (fun h => h.2)
  have HR3 := Lib.hid hcase
  have HSP := Lib.hid (shape_calls sv w2)
  obtain ⟨c, hc⟩ : ∃ c, c = shapeE sv := ⟨_, rfl⟩
  rw [← hc] at HSP HPB
  clear hcase h1 hc
  by_cases h2 : c ≠ 0
  · have HPC : Hid (pBegin q = ⟨c, pSchema, 0, hd0, 0, []⟩) := Lib.hid (by rw [HPB.out _ rfl, if_neg (fun h => h rfl), if_pos h2])
    have HAT := Lib.hid (HeadA.at_calls c pSchema 0 w2 HE2.out)
    have e2 : ((c : Int) != 0) = true := by simp; omega
    have H1 := Lib.hid h2
    clear h2 HPB
    go_wp2_with (fail)
    refine HSP.out.mono ?_
    rintro e w3 ⟨rfl, rfl⟩
    go_wp2_with (fail)
    refine HAT.out.mono ?_
    rintro e w9 ⟨v9, rfl, he9, hb9⟩
    have hk9 := (Ch.of_below (S := fun _ => False) hb9).blk HBK.out (fun x => x)
    have f0 := obj_free (i := 0) hk9
    have f1 := obj_free (i := 1) hk9
    have f2 := obj_free (i := 2) hk9
    have f3 := obj_free (i := 3) hk9
    have f4 := obj_free (i := 4) hk9
    have f5 := obj_free (i := 5) hk9
    have c0 := obj_cell (i := 0) hk9 rfl
    have c1 := obj_cell (i := 1) hk9 rfl
    have c2 := obj_cell (i := 2) hk9 rfl
    have c3 := obj_cell (i := 3) hk9 rfl
    have c4 := obj_cell (i := 4) hk9 rfl
    have c5 := obj_cell (i := 5) hk9 rfl
    have E9 := Lib.hid he9
    have B9 := Lib.hid hb9
    have K9 := Lib.hid hk9
    clear he9 hb9 hk9
    go_wp2
    refine bodyPost_ret (v := .tuple #[.agg zcs, v9]) (by rw [results_cell_tmp rfl]; go_simp) rfl ?_
    rw [HPC.out]
    exact ⟨ch_six (HC2.out.trans (Ch.of_below B9.out) fun _ _ x => x) (Nat.le_refl _) _ _ _ _ _ _, .inl ⟨H1.out, ⟨_, rfl, err_six E9.out K9.out (by decide) HEB.out _ _ _ _ _ _⟩, _, _, _, rr_six (HR3.out.below B9.out) HN.out _ _ _ _ _ _⟩⟩
  obtain rfl := Decidable.not_not.1 h2
  have HKS := Lib.hid (blk_set HKK.out 2 (.int .i64 sv))
  have hcs : Ch (fun k => k = w1.heap.size) w2 (w2.setCell ⟨w1.heap.size, 2, none⟩ (.int .i64 sv)) := (Ch.refl (fun k => k = w1.heap.size) w2).setCell (p := ⟨w1.heap.size, 2, none⟩) (.inl rfl) _
  have HBS := Lib.hid (hcs.blk HBK.out (Nat.ne_of_lt HLT1.out))
  have HES := Lib.hid (gle_ch HE2.out hcs (fun h => by have h5 := gle_lt HE.out; have h6 := HLT1.out; simp at h5; omega))
  have HCS := Lib.hid (HC2.out.setCell (p := ⟨w1.heap.size, 2, none⟩) (.inr (Nat.le_of_lt HLT1.out)) (.int .i64 sv))
  have HRS := Lib.hid (HR3.out.ch hcs (fun k hk he => HN1.out (he ▸ hk)))
  have HGT := Lib.hid (ThrA.get_calls' g (a + 8 + su) S sr _ HRS.out)
  have f2 := obj_free (i := 2) HKK.out
  have c2 := obj_cell (i := 2) HKK.out rfl
  clear h2 hcs
  go_wp2_with (fail)
  refine HSP.out.mono ?_
  rintro e w3 ⟨rfl, rfl⟩
  go_wp2_with (fail)
  obtain ⟨t, ht⟩ : ∃ t, t = parseT sr := ⟨_, rfl⟩
  have HPT := Lib.hid (HPB.out t ht)
  refine HGT.out.mono ?_
  rintro e w3 ⟨hc3, hcase⟩
  rw [← ht] at hcase
  obtain ⟨te, tv, tu⟩ := t
  simp only at hcase HPT ⊢
  have HC3 := Lib.hid (HCS.out.trans hc3 fun _ _ x => x)
  have HBK3 := Lib.hid (hc3.blk HBS.out HN.out)
  have HKK3 := Lib.hid (hc3.blk HKS.out HN1.out)
  have HE3 := Lib.hid (gle_ch HES.out hc3 HGE.out)
  have f3 := obj_free (i := 3) HKK3.out
  have c3 := obj_cell (i := 3) HKK3.out rfl
  clear f2 c2 ht hc3 HGT HPB HRS
  rcases hcase with ⟨h1, rfl, h3⟩ | ⟨h1, rfl, h3⟩
  · have H3 := Lib.hid h3
    have HPC : Hid (pBegin q = ⟨te, pZero, 0, hd0, 0, []⟩) := Lib.hid (by rw [HPT.out, if_neg (fun h => h rfl), if_neg (fun h => h rfl), if_pos h1])
    have e2 : ((te : Int) != 0) = true := by simp; omega
    have H1 := Lib.hid h1
    have hcs : Ch (fun k => k = w1.heap.size) w3 (w3.setCell ⟨w1.heap.size, 3, none⟩ (.int .u64 0)) := (Ch.refl (fun k => k = w1.heap.size) w3).setCell (p := ⟨w1.heap.size, 3, none⟩) (.inl rfl) _
    have HBK := Lib.hid (hcs.blk HBK3.out (Nat.ne_of_lt HLT1.out))
    have HKK := Lib.hid (blk_set HKK3.out 3 (.int .u64 0))
    have HE4 := Lib.hid (gle_ch HE3.out hcs (fun h => by have h5 := gle_lt HE.out; have h6 := HLT1.out; simp at h5; omega))
    have HC4 := Lib.hid (HC3.out.setCell (p := ⟨w1.heap.size, 3, none⟩) (.inr (Nat.le_of_lt HLT1.out)) (.int .u64 0))
    have HRC := Lib.hid (fun a q sh (h : Rr w3 g S a q sh) => h.ch hcs (fun k hk he => HN1.out (he ▸ hk)))
    have HAT := Lib.hid (HeadA.at_calls te pZero 0 _ HE4.out)
    clear h1 h3 HPT hcs
    go_wp2_with (fail)
    refine HAT.out.mono ?_
    rintro e w9 ⟨v9, rfl, he9, hb9⟩
    have hk9 := (Ch.of_below (S := fun _ => False) hb9).blk HBK.out (fun x => x)
    have f0 := obj_free (i := 0) hk9
    have f1 := obj_free (i := 1) hk9
    have f2 := obj_free (i := 2) hk9
    have f3 := obj_free (i := 3) hk9
    have f4 := obj_free (i := 4) hk9
    have f5 := obj_free (i := 5) hk9
    have c0 := obj_cell (i := 0) hk9 rfl
    have c1 := obj_cell (i := 1) hk9 rfl
    have c2 := obj_cell (i := 2) hk9 rfl
    have c3 := obj_cell (i := 3) hk9 rfl
    have c4 := obj_cell (i := 4) hk9 rfl
    have c5 := obj_cell (i := 5) hk9 rfl
    have E9 := Lib.hid he9
    have B9 := Lib.hid hb9
    have K9 := Lib.hid hk9
    clear he9 hb9 hk9
    go_wp2
    refine bodyPost_ret (v := .tuple #[.agg zcs, v9]) (by rw [results_cell_tmp rfl]; go_simp) rfl ?_
    rw [HPC.out]
    exact ⟨ch_six (HC4.out.trans (Ch.of_below B9.out) fun _ _ x => x) (Nat.le_refl _) _ _ _ _ _ _, .inl ⟨H1.out, ⟨_, rfl, err_six E9.out K9.out (by decide) HEB.out _ _ _ _ _ _⟩, (by obtain ⟨a2, q2, s2, h9⟩ := H3.out; exact ⟨a2, q2, s2, rr_six ((HRC.out _ _ _ h9).below B9.out) HN.out _ _ _ _ _ _⟩)⟩⟩
  obtain rfl : te = 0 := h1
  have H3 := Lib.hid h3
  have HPC : Hid (pBegin q = ⟨0, pZero, 0, ⟨(f / 32 % 2 : Nat), (f / 64 : Nat), sv, tv, [], []⟩, 8 + su + tu, sr.drop tu⟩) := Lib.hid (by rw [HPT.out, if_neg (fun h => h rfl), if_neg (fun h => h rfl), if_neg (fun h => h rfl)])
  have hcs : Ch (fun k => k = w1.heap.size) w3 (w3.setCell ⟨w1.heap.size, 3, none⟩ (.int .u64 tv)) := (Ch.refl (fun k => k = w1.heap.size) w3).setCell (p := ⟨w1.heap.size, 3, none⟩) (.inl rfl) _
  have HBK := Lib.hid (hcs.blk HBK3.out (Nat.ne_of_lt HLT1.out))
  have HKK := Lib.hid (blk_set HKK3.out 3 (.int .u64 tv))
  have HE4 := Lib.hid (gle_ch HE3.out hcs (fun h => by have h5 := gle_lt HE.out; have h6 := HLT1.out; simp at h5; omega))
  have HC4 := Lib.hid (HC3.out.setCell (p := ⟨w1.heap.size, 3, none⟩) (.inr (Nat.le_of_lt HLT1.out)) (.int .u64 tv))
  have HRC := Lib.hid (fun a q sh (h : Rr w3 g S a q sh) => h.ch hcs (fun k hk he => HN1.out (he ▸ hk)))
  have k0 := obj_cell (i := 0) HKK3.out rfl
  have k1 := obj_cell (i := 1) HKK3.out rfl
  have k2 := obj_cell (i := 2) HKK3.out rfl
  have k3 := obj_cell (i := 3) HKK3.out rfl
  have k4 := obj_cell (i := 4) HKK3.out rfl
  have k5 := obj_cell (i := 5) HKK3.out rfl
  have g0 := obj_free (i := 0) HBK3.out
  have g1 := obj_free (i := 1) HBK3.out
  have g2 := obj_free (i := 2) HBK3.out
  have g3 := obj_free (i := 3) HBK3.out
  have g4 := obj_free (i := 4) HBK3.out
  have g5 := obj_free (i := 5) HBK3.out
  have d0 := obj_cell (i := 0) HBK3.out rfl
  have d1 := obj_cell (i := 1) HBK3.out rfl
  have d2 := obj_cell (i := 2) HBK3.out rfl
  have d3 := obj_cell (i := 3) HBK3.out rfl
  have d4 := obj_cell (i := 4) HBK3.out rfl
  have d5 := obj_cell (i := 5) HBK3.out rfl
  have hne1 : ¬ w1.heap.size = w.heap.size := Nat.ne_of_gt HLT1.out
  have hne2 : ¬ w.heap.size = w1.heap.size := Nat.ne_of_lt HLT1.out
  clear h3 HPT hcs
  go_wp2
  refine bodyPost_ret (v := .tuple #[.agg #[.int .i64 ((f : Int) / 32 % 2), .int .i64 ((f : Int) / 32 / 2), .int .i64 sv, .int .u64 tv, .slice none 0 0, .slice none 0 0], .nilIface]) (by rw [results_cell_tmp rfl]; go_simp) rfl ?_
  rw [HPC.out]
  have hv1 : ((f / 32 % 2 : Nat) : Int) = (f : Int) / 32 % 2 := by omega
  have hv2 : ((f / 64 : Nat) : Int) = (f : Int) / 32 / 2 := by omega
  refine ⟨ch_six HC4.out (Nat.le_refl _) _ _ _ _ _ _, .inr ⟨rfl, ⟨⟨none, 0, none, 0⟩, ?_, ⟨OwSp.nil _ _ _, OwSp.nil _ _ _⟩⟩, ?_⟩⟩
  · simp only [hcs, hv1, hv2]
    rfl
  · simp only
    rw [show a + (8 + su + tu) = a + 8 + su + tu from by omega]
    exact rr_six (HRC.out _ _ _ H3.out) HN.out _ _ _ _ _ _
end Go.Proofs.YtjfekjbmgckkcaaGreatDoor.HeadL
