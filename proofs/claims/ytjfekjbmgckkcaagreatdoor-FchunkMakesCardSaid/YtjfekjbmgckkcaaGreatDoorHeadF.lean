/- head's walks: one. -/
import Derived.Test.YtjfekjbmgckkcaaGreatDoorReadP
import Derived.Test.YtjfekjbmgckkcaaGreatDoorHeadE
import Derived.Laws.ResultCell
namespace Go.Proofs.YtjfekjbmgckkcaaGreatDoor.HeadF
open Go.RowKit Go.Proofs.YtjfekjbmgckkcaaGreatDoorW.PrintWords
open Go.Proofs.YtjfekjbmgckkcaaGreatDoor.Bits Go.Proofs.YtjfekjbmgckkcaaGreatDoor.Base Go.Proofs.YtjfekjbmgckkcaaGreatDoor.VarPure Go.Proofs.YtjfekjbmgckkcaaGreatDoor.VarbitA Go.Proofs.YtjfekjbmgckkcaaGreatDoor.VarbitB Go.Proofs.YtjfekjbmgckkcaaGreatDoor.VarbitD Go.Proofs.YtjfekjbmgckkcaaGreatDoor.StreamA Go.Proofs.YtjfekjbmgckkcaaGreatDoor.StreamR Go.Proofs.YtjfekjbmgckkcaaGreatDoor.SpanPure Go.Proofs.YtjfekjbmgckkcaaGreatDoor.SpanBase Go.Proofs.YtjfekjbmgckkcaaGreatDoor.ReadP

def pOne (q : List Bool) : PR Sp :=
  if (pU q).err ≠ 0 then ⟨(pU q).err, (0, 0), 0, []⟩
  else if 4096 < (pU q).val then ⟨20, (0, 0), 0, []⟩
  else if (pS (pU q).rest).err ≠ 0 then ⟨(pS (pU q).rest).err, ((pS (pU q).rest).val, (pU q).val), 0, []⟩
  else ⟨0, ((pS (pU q).rest).val, (pU q).val), (pU q).used + (pS (pU q).rest).used, (pS (pU q).rest).rest⟩
def IsSp (s : Sp) (v : Value) (_ : World) : Prop := v = .agg #[.int .i64 s.1, .int .i64 s.2]
/-- two cells of a new block are set. -/
theorem ch_two {S : Nat → Prop} {w w1 : World} (h : Ch S w w1) (u v : Value) : Ch S w ((w1.setCell ⟨w.heap.size, 0, none⟩ u).setCell ⟨w.heap.size, 1, none⟩ v) :=
  (h.setCell (.inr (Nat.le_refl _)) u).setCell (.inr (Nat.le_refl _)) v
theorem rr_two {S : Nat → Prop} {w1 : World} {g a b : Nat} {q : List Bool} {sh : Bool} (h : Rr w1 g S a q sh) (hb : ¬ S b) (u v : Value) : Rr ((w1.setCell ⟨b, 0, none⟩ u).setCell ⟨b, 1, none⟩ v) g S a q sh :=
  have hc : Ch (fun k => k = b) w1 ((w1.setCell ⟨b, 0, none⟩ u).setCell ⟨b, 1, none⟩ v) := ((Ch.refl (fun k => k = b) w1).setCell (p := ⟨b, 0, none⟩) (.inl rfl) u).setCell (p := ⟨b, 1, none⟩) (.inl rfl) v
  h.ch hc fun _ hk he => hb (he ▸ hk)
set_option maxHeartbeats 3200000 in
theorem one_calls (g a : Nat) (S : Nat → Prop) (q : List Bool) (w : World) (hT : Tab w) (hG : ¬ S 1) (h : Rr w g S a q false) :
    Calls Tryz.prog 161 #[.pointer (some ⟨g, 0, none⟩)] w (RP IsSp (pOne q) g a S w) := by
  have hal : Below w.heap.size w (w.alloc (.cells #[.int .i64 0, .int .i64 0] 119)) := below_alloc (Below.refl _ _) _
  have HGU := Lib.hid (getU_reads g a S q _ (hT.below hal) hG (h.below hal))
  have HN := Lib.hid (show ¬ S w.heap.size from fun x => Nat.lt_irrefl _ (h.old _ x))
  have HT := Lib.hid hT
  have HG := Lib.hid hG
  have HO := Lib.hid h.old
  have HAL := Lib.hid (Ch.of_below (S := S) hal)
  have HTA := Lib.hid (hT.below hal)
  have HP : Hid (∀ r t, r = pU q → t = pS r.rest → pOne q = if r.err ≠ 0 then ⟨r.err, (0, 0), 0, []⟩ else if 4096 < r.val then ⟨20, (0, 0), 0, []⟩ else if t.err ≠ 0 then ⟨t.err, (t.val, r.val), 0, []⟩ else ⟨0, (t.val, r.val), r.used + t.used, t.rest⟩) := Lib.hid (by rintro r t rfl rfl; rfl)
  obtain ⟨r, hr⟩ : ∃ r, r = pU q := ⟨_, rfl⟩
  rw [← hr] at HGU
  have HP2 := Lib.hid (HP.out r _ hr rfl)
  clear hT hG h hal hr HP
  go_enter Tryz.func161, Tryz.ntmps161
  go_wp2_with (fail)
  refine HGU.out.mono ?_
  rintro e w1 ⟨hc1, ⟨v, rfl, rfl⟩, hcase⟩
  have hb1 : w1.heap[w.heap.size]? = some (.cells #[.int .i64 0, .int .i64 0] 119 (0, 0)) := hc1.blk (blk_last w _) HN.out
  have c0 := obj_cell (i := 0) hb1 rfl
  have c1 := obj_cell (i := 1) hb1 rfl
  have f0 := obj_free (i := 0) hb1
  have f1 := obj_free (i := 1) hb1
  have HB1 := Lib.hid hb1
  have HC1 := Lib.hid (HAL.out.trans hc1 fun _ _ x => x)
  have HC1' := Lib.hid hc1
  obtain ⟨re, rv, ru, rr⟩ := r
  simp only at hcase HP2 ⊢
  clear hb1 hc1
  rcases hcase with ⟨h1, ⟨a', q', sh, hr1⟩⟩ | ⟨h1, hr1⟩
  · have HR := Lib.hid hr1
    have d1 : ((re : Int) != 0) = true := by simp; omega
    rw [if_pos h1] at HP2
    have H1 := Lib.hid h1
    clear hr1 h1 HGU
    go_wp2
    refine bodyPost_ret (v := .tuple #[.agg #[.int .i64 0, .int .i64 0], .int .i64 re]) (by rw [results_cell_tmp rfl]; go_simp) rfl ?_
    rw [HP2.out]
    exact ⟨ch_two HC1.out _ _, ⟨_, rfl, rfl⟩, .inl ⟨H1.out, _, _, _, rr_two HR.out HN.out _ _⟩⟩
  · subst h1
    rw [if_neg (by simp)] at HP2
    by_cases hbig : 4096 < rv
    · have HR := Lib.hid hr1
      rw [if_pos hbig] at HP2
      have d2 : decide ((rv : Int) > 4096) = true := by simp; omega
      have d2' : decide (4096 < (rv : Int)) = true := by simp; omega
      have d2n : decide (4096 < rv) = true := by simp; omega
      have d2m : decide (rv > 4096) = true := by simp; omega
      clear hr1 hbig HGU
      go_wp2
      refine bodyPost_ret (v := .tuple #[.agg #[.int .i64 0, .int .i64 0], .int .i64 20]) (by rw [results_cell_tmp rfl]; go_simp) rfl ?_
      rw [HP2.out]
      exact ⟨ch_two HC1.out _ _, ⟨_, rfl, rfl⟩, .inl ⟨by decide, _, _, _, rr_two HR.out HN.out _ _⟩⟩
    · rw [if_neg hbig] at HP2
      have d2 : decide ((rv : Int) > 4096) = false := by simp; omega
      have d2' : decide (4096 < (rv : Int)) = false := by simp; omega
      have d2n : decide (4096 < rv) = false := by simp; omega
      have d2m : decide (rv > 4096) = false := by simp; omega
      have hwr : IntKind.i64.wrap (rv : Int) = (rv : Int) := by rw [IntKind.wrap_i64]; omega
      have HGS := Lib.hid (getS_reads g (a + ru) S rr w1 (HTA.out.ch HC1'.out HG.out) HG.out hr1)
      obtain ⟨t, ht⟩ : ∃ t, t = pS rr := ⟨_, rfl⟩
      rw [← ht] at HGS HP2
      clear hr1 hbig HGU ht c0 c1 f0 f1
      go_wp2_with (fail)
      refine HGS.out.mono ?_
      rintro e w2 ⟨hc2, ⟨v, rfl, rfl⟩, hcase⟩
      have hb2 := hc2.blk HB1.out HN.out
      have c0 := obj_cell (i := 0) hb2 rfl
      have c1 := obj_cell (i := 1) hb2 rfl
      have f0 := obj_free (i := 0) hb2
      have f1 := obj_free (i := 1) hb2
      have HC2 := Lib.hid (HC1.out.trans hc2 fun _ _ x => x)
      obtain ⟨te, tv, tu, tr⟩ := t
      simp only at hcase HP2 ⊢
      have HCS := Lib.hid hcase
      clear hb2 hc2 hcase HGS
      go_wp2
      refine bodyPost_ret (v := .tuple #[.agg #[.int .i64 tv, .int .i64 rv], .int .i64 te]) (by rw [results_cell_tmp rfl]; go_simp) rfl ?_
      rw [HP2.out]
      rcases HCS.out with ⟨h1, ⟨a', q', sh, hr2⟩⟩ | ⟨h1, hr2⟩
      · rw [if_pos h1]
        exact ⟨ch_two HC2.out _ _, ⟨_, rfl, rfl⟩, .inl ⟨h1, _, _, _, rr_two hr2 HN.out _ _⟩⟩
      · rw [if_neg (by simpa using h1)]
        have h1 : te = 0 := h1
        subst h1
        rw [Nat.add_assoc] at hr2
        exact ⟨ch_two HC2.out _ _, ⟨_, rfl, rfl⟩, .inr ⟨rfl, rr_two hr2 HN.out _ _⟩⟩
end Go.Proofs.YtjfekjbmgckkcaaGreatDoor.HeadF
