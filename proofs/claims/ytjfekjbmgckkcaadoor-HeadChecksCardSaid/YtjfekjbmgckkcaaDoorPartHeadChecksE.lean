/- what HeadChecks stands on, part 5: Law14A, HeadL, HeadM, Law14B, Ref06K, Ref12, Ref14A, Law14C. -/
import Derived.Test.YtjfekjbmgckkcaaDoorPartHeadChecksD
import Derived.Test.YtjfekjbmgckkcaaDoorPartHeadChecksC
import Derived.Laws.ResultCell
import Derived.OwnWalk
import Derived.Deep.RegionHeld3

/- law 14: what its functions have in common: spans, few, bits, same, tells. -/
namespace Go.Proofs.YtjfekjbmgckkcaaDoor.Law14A
open Go.RowKit Go.Proofs.YtjfekjbmgckkcaaDoorW.PrintWords
open Go.Proofs.YtjfekjbmgckkcaaDoor.Bits Go.Proofs.YtjfekjbmgckkcaaDoor.Base Go.Proofs.YtjfekjbmgckkcaaDoor.VarPure Go.Proofs.YtjfekjbmgckkcaaDoor.VarKit Go.Proofs.YtjfekjbmgckkcaaDoor.StreamA Go.Proofs.YtjfekjbmgckkcaaDoor.StreamR Go.Proofs.YtjfekjbmgckkcaaDoor.SpanPure Go.Proofs.YtjfekjbmgckkcaaDoor.SpanBase Go.Proofs.YtjfekjbmgckkcaaDoor.FailAs Go.Proofs.YtjfekjbmgckkcaaDoor.FailB Go.Proofs.YtjfekjbmgckkcaaDoor.FailC Go.Proofs.YtjfekjbmgckkcaaDoor.HeadA Go.Proofs.YtjfekjbmgckkcaaDoor.HeadB Go.Proofs.YtjfekjbmgckkcaaDoor.HeadE Go.Proofs.YtjfekjbmgckkcaaDoor.Ref01

theorem infoRs : (Tryd.prog.info? 108).map (fun i => (i.zero, i.size, i.bytes)) = some (some (.agg #[.int .i64 0, .int .i64 0]), 2, 16) := by kernel_rfl
set_option maxRecDepth 100000 in
set_option maxHeartbeats 800000 in
theorem spans_calls (A : Option Addr) (c : Nat) (l : List Sp) (w : World) (hr : RdSp w A l) (hm : l.length ≤ 1000000) :
    Calls Tryd.prog 39 #[.slice A l.length c] w fun e w' => ∃ v, e = .returned v ∧ OwSp 108 w' w.heap.size v l ∧ Below w.heap.size w w' := by
  have HR := Lib.hid hr
  clear hr
  go_enter Tryd.func39, Tryd.ntmps39
  go_wp2
  go_loopw [3, 8] (fun v i wr => ∃ (k : Nat), k ≤ l.length ∧ i = .int .i64 k ∧ OwSp 108 wr w.heap.size v (l.take k) ∧ Below w.heap.size w wr) (fun _ i _ => l.length - (intOf i).toNat)
  case atStart => exact ⟨0, by omega, rfl, OwSp.nil _ _ _, Below.refl _ _⟩
  case round =>
    obtain ⟨k, hk, rfl, ho, hb⟩ := hrel
    have HO := Lib.hid ho
    have HB := Lib.hid hb
    have hsz := hb.size
    by_cases hlt : k < l.length
    · obtain ⟨ad, hA, c0, c1⟩ := (HR.out.below hb).at_ k hlt
      subst hA
      have HT := Lib.hid (show l.take (k + 1) = l.take k ++ [l[k]] from List.take_succ_eq_append_getElem hlt)
      obtain ⟨s, hs⟩ : ∃ s, s = l[k] := ⟨_, rfl⟩
      rw [← hs] at c0 c1 HT
      obtain ⟨o, q⟩ := s
      simp only at c0 c1
      have hlk : (l.take k).length ≤ 1000000 := by rw [List.length_take]; omega
      obtain ⟨L, hL⟩ : ∃ L, L = l.take k := ⟨_, rfl⟩
      rw [← hL] at HO HT hlk
      clear hs ho hb hL
      go_wp2_with (at_builtin; refine append_span_at (w0 := w) w.heap.size rfl (.tmp 12) (.tmp 18) 48 108 16 rfl Tryd.underlying48 infoRs _ L o q rfl (wr.heap.size + 1) (by simp) rfl (by exact HO.out.below (below_alloc (Below.refl _ _) _)) (by exact below_alloc HB.out _) (by simp; omega) (by omega) (by omega) ?_; intro g cap w1 ho1 hb1 _ _; have HO1 := Lib.hid ho1; have HB1 := Lib.hid hb1; clear ho1 hb1)
      go_roundw
      case rel => exact ⟨k + 1, by omega, by go_num, by rw [HT.out]; exact HO1.out, HB1.out⟩
      case measure => simp [intOf]; omega
    · obtain rfl : k = l.length := by omega
      rw [List.take_length] at HO
      obtain ⟨A1, c1, rfl, -, -, -⟩ := HO.out.reads
      clear ho hb
      go_wp2
      go_ret
      exact ⟨_, rfl, HO.out, HB.out⟩

/-- what few counts. -/
def sizeF : Int → List Sp → Int
  | n, [] => n
  | n, s :: t => sizeF (n + (if 0 < s.2 then 1 + min s.2 5000 / 10 else 0) + 1) t
def fewF : Int → List Sp → Bool
  | _, [] => true
  | n, s :: t => decide (n + (if 0 < s.2 then 1 + min s.2 5000 / 10 else 0) + 1 ≤ 400) && fewF (n + (if 0 < s.2 then 1 + min s.2 5000 / 10 else 0) + 1) t
def few (l : List Sp) : Bool := fewF 0 l
theorem fewF_len (l : List Sp) : ∀ n, fewF n l = true → 0 ≤ n → n ≤ 400 → n + (l.length : Int) ≤ 400 := by
  induction l with
  | nil => intro n _ _ h; simpa using h
  | cons s t ih =>
    intro n h h0 h6
    simp only [fewF, Bool.and_eq_true, decide_eq_true_eq] at h
    have h1 : 0 ≤ (if 0 < s.2 then 1 + min s.2 5000 / 10 else 0) := by split <;> omega
    have := ih _ h.2 (by omega) h.1
    simp only [List.length_cons]
    omega
theorem few_len {l : List Sp} (h : few l = true) : l.length ≤ 400 := by
  have := fewF_len l 0 h (by decide) (by decide)
  omega
set_option maxHeartbeats 1600000 in
theorem few_calls (A : Option Addr) (c : Nat) (l : List Sp) (w : World) (hr : RdSp w A l) (hm : l.length ≤ 9223372036854775807) :
    Calls Tryd.prog 15 #[.slice A l.length c] w fun e w' => e = .returned (.bool (few l)) ∧ Below w.heap.size w w' := by
  have HR := Lib.hid hr
  clear hr
  go_enter Tryd.func15, Tryd.ntmps15
  go_wp2
  go_loopw [3, 8] (fun n i wr => ∃ (k : Nat) (m : Int), k ≤ l.length ∧ i = .int .i64 k ∧ n = .int .i64 m ∧ 0 ≤ m ∧ m ≤ 400 ∧ Hid (few l = fewF m (l.drop k)) ∧ Below w.heap.size w wr) (fun _ i _ => l.length - (intOf i).toNat)
  case atStart => exact ⟨0, 0, by omega, rfl, rfl, by omega, by omega, Lib.hid rfl, Below.refl _ _⟩
  case round =>
    obtain ⟨k, m, hk, rfl, rfl, hm0, hm6, ht, hb⟩ := hrel
    have HB := Lib.hid hb
    have hsz := hb.size
    by_cases hlt : k < l.length
    · obtain ⟨ad, hA, c0, c1⟩ := (HR.out.below hb).at_ k hlt
      subst hA
      have HD := Lib.hid (show l.drop k = l[k] :: l.drop (k + 1) from List.drop_eq_getElem_cons hlt)
      obtain ⟨s, hs⟩ : ∃ s, s = l[k] := ⟨_, rfl⟩
      rw [← hs] at c0 c1 HD
      obtain ⟨o, q⟩ := s
      simp only at c0 c1
      clear hs hb
      by_cases hq : 0 < q
      · have d1 : decide (q > 0) = true := by simpa using hq
        have d1' : decide (0 < q) = true := by simpa using hq
        by_cases hq5 : q ≤ 5000
        · have e5 : min q 5000 = q := by omega
          have HS : Hid (few l = (decide (m + (1 + q / 10) + 1 ≤ 400) && fewF (m + (1 + q / 10) + 1) (l.drop (k + 1)))) := Lib.hid (by rw [ht.out, HD.out, fewF, if_pos hq, e5])
          go_wp2
          all_goals first
            | (have HF : few l = false := by rw [HS.out, decide_eq_false (by omega)]; rfl
               go_ret
               exact ⟨by rw [HF]; rfl, HB.out.alloc hsz _⟩)
            | (have HF : few l = fewF (m + (1 + q / 10) + 1) (l.drop (k + 1)) := by rw [HS.out, decide_eq_true (by omega)]; rfl
               go_roundw
               case rel => exact ⟨k + 1, _, by omega, by go_num, rfl, by omega, by omega, Lib.hid HF, HB.out.alloc hsz _⟩
               case measure => simp [intOf]; omega)
        · have hq6 : 5000 < q := by omega
          have e5 : min q 5000 = 5000 := by omega
          have HS : Hid (few l = (decide (m + 501 + 1 ≤ 400) && fewF (m + 501 + 1) (l.drop (k + 1)))) := Lib.hid (by rw [ht.out, HD.out, fewF, if_pos hq, e5]; rfl)
          clear hq5
          go_wp2
          all_goals first
            | (have HF : few l = false := by rw [HS.out, decide_eq_false (by omega)]; rfl
               go_ret
               exact ⟨by rw [HF]; rfl, HB.out.alloc hsz _⟩)
            | (have HF : few l = fewF (m + 501 + 1) (l.drop (k + 1)) := by rw [HS.out, decide_eq_true (by omega)]; rfl
               go_roundw
               case rel => exact ⟨k + 1, _, by omega, by go_num, rfl, by omega, by omega, Lib.hid HF, HB.out.alloc hsz _⟩
               case measure => simp [intOf]; omega)
      · have d1 : decide (q > 0) = false := by simpa using hq
        have d1' : decide (0 < q) = false := by simpa using hq
        have HS : Hid (few l = (decide (m + 1 ≤ 400) && fewF (m + 1) (l.drop (k + 1)))) := Lib.hid (by rw [ht.out, HD.out, fewF, if_neg hq, Int.add_zero])
        clear hq
        go_wp2
        all_goals first
          | (have HF : few l = false := by rw [HS.out, decide_eq_false (by omega)]; rfl
             go_ret
             exact ⟨by rw [HF]; rfl, HB.out.alloc hsz _⟩)
          | (have HF : few l = fewF (m + 1) (l.drop (k + 1)) := by rw [HS.out, decide_eq_true (by omega)]; rfl
             go_roundw
             case rel => exact ⟨k + 1, _, by omega, by go_num, rfl, by omega, by omega, Lib.hid HF, HB.out.alloc hsz _⟩
             case measure => simp [intOf]; omega)
    · obtain rfl : k = l.length := by omega
      have HF : Hid (few l = true) := Lib.hid (by rw [ht.out, List.drop_length]; rfl)
      clear ht hb
      go_wp2
      go_ret
      exact ⟨by rw [HF.out]; rfl, HB.out⟩
theorem text_pack (l : List Bool) : (bts (str (pack l)).data.toList).take l.length = l := by
  rw [show (str (pack l)).data.toList = pack l from by simp [str], bts_pack _ _ rfl, List.take_left' rfl]

set_option maxHeartbeats 800000 in
theorem bits_calls (g : Nat) (S : Nat → Prop) (l : List Bool) (w : World) (h : Wr w g S l) (hm : l.length ≤ 1000000) :
    Calls Tryd.prog 13 #[.pointer (some ⟨g, 0, none⟩)] w fun e w' => e = .returned (.string (txt l)) ∧ Below w.heap.size w w' := by
  have HH := Lib.hid h
  have HBY := Lib.hid (bytes_calls g S l w h (by omega))
  have hpl := pack_length l
  have hss := str_size (pack l)
  have HTX := Lib.hid (text_pack l)
  have HLEN := Lib.hid (fun W (hb : Below w.heap.size w W) => len_calls g S l W (h.below hb))
  have HTE := Lib.hid (fun W => text_calls (str (pack l)) l.length W (by rw [hss, hpl]; omega) (by rw [hss, hpl]; omega))
  obtain ⟨s, hs⟩ : ∃ s, s = str (pack l) := ⟨_, rfl⟩
  rw [← hs] at HTX HTE hss
  have d1 : decide ((l.length : Int) < 0) = false := by simp
  have d2 : decide ((l.length : Int) > 8 * (s.size : Int)) = false := by simp; omega
  have d2' : decide (8 * (s.size : Int) < (l.length : Int)) = false := by simp; omega
  have HS := Lib.hid hs
  have hsz : s.size ≤ 1000000 := by omega
  clear h hs hss hpl
  go_enter Tryd.func13, Tryd.ntmps13
  go_wp2_with (fail)
  refine HBY.out.mono ?_
  rintro e w1 ⟨v, rfl, ho, hb⟩
  obtain ⟨D, d, rfl, hd, hr⟩ := ho.reads
  have hcv := RdB.string (P := Tryd.prog) (src := 22) (dst := 9) (e := 5) (c := d) hr rfl Tryd.underlying22 Tryd.underlying5 Tryd.underlying9
  rw [← HS.out] at hcv
  clear ho hr hd
  go_wp2_with (first | (go_at_call 11; refine (HLEN.out _ hb).mono ?_; rintro e w' ⟨rfl, rfl⟩) | (go_at_call 14; refine (HTE.out _).mono ?_; rintro e w' ⟨rfl, rfl⟩))
  go_ret
  exact ⟨by rw [HTX.out]; rfl, hb⟩

end Go.Proofs.YtjfekjbmgckkcaaDoor.Law14A

/- head's walks: begin. -/
namespace Go.Proofs.YtjfekjbmgckkcaaDoor.HeadL
open Go.RowKit Go.Proofs.YtjfekjbmgckkcaaDoorW.PrintWords
open Go.Proofs.YtjfekjbmgckkcaaDoor.Bits Go.Proofs.YtjfekjbmgckkcaaDoor.Base Go.Proofs.YtjfekjbmgckkcaaDoor.VarPure Go.Proofs.YtjfekjbmgckkcaaDoor.VarbitA Go.Proofs.YtjfekjbmgckkcaaDoor.StreamA Go.Proofs.YtjfekjbmgckkcaaDoor.StreamR Go.Proofs.YtjfekjbmgckkcaaDoor.SpanPure Go.Proofs.YtjfekjbmgckkcaaDoor.SpanBase Go.Proofs.YtjfekjbmgckkcaaDoor.FailAs Go.Proofs.YtjfekjbmgckkcaaDoor.FailB Go.Proofs.YtjfekjbmgckkcaaDoor.FailC Go.Proofs.YtjfekjbmgckkcaaDoor.ThrPure Go.Proofs.YtjfekjbmgckkcaaDoor.ReadP Go.Proofs.YtjfekjbmgckkcaaDoor.HeadA Go.Proofs.YtjfekjbmgckkcaaDoor.HeadB Go.Proofs.YtjfekjbmgckkcaaDoor.HeadF Go.Proofs.YtjfekjbmgckkcaaDoor.HeadH Go.Proofs.YtjfekjbmgckkcaaDoor.HeadJ

/-- a block's six cells are set. -/
abbrev six (w : World) (b : Nat) (v0 v1 v2 v3 v4 v5 : Value) : World := (((((w.setCell ⟨b, 0, none⟩ v0).setCell ⟨b, 1, none⟩ v1).setCell ⟨b, 2, none⟩ v2).setCell ⟨b, 3, none⟩ v3).setCell ⟨b, 4, none⟩ v4).setCell ⟨b, 5, none⟩ v5
theorem ch_six0 {S : Nat → Prop} {w w1 : World} {b : Nat} (h : Ch S w w1) (hb : S b ∨ w.heap.size ≤ b) (v0 v1 v2 v3 v4 v5 : Value) : Ch S w (six w1 b v0 v1 v2 v3 v4 v5) :=
  (((((h.setCell hb v0).setCell hb v1).setCell hb v2).setCell hb v3).setCell hb v4).setCell hb v5
theorem ch_six {S : Nat → Prop} {w w1 : World} {b : Nat} (h : Ch S w w1) (hb : w.heap.size ≤ b) (v0 v1 v2 v3 v4 v5 : Value) : Ch S w (six w1 b v0 v1 v2 v3 v4 v5) := ch_six0 h (.inr hb) v0 v1 v2 v3 v4 v5
theorem six_ch (w1 : World) (b : Nat) (v0 v1 v2 v3 v4 v5 : Value) : Ch (fun k => k = b) w1 (six w1 b v0 v1 v2 v3 v4 v5) := ch_six0 (S := fun k => k = b) (Ch.refl _ w1) (.inl rfl) v0 v1 v2 v3 v4 v5
theorem rr_six {S : Nat → Prop} {w1 : World} {g a b : Nat} {q : List Bool} {sh : Bool} (h : Rr w1 g S a q sh) (hb : ¬ S b) (v0 v1 v2 v3 v4 v5 : Value) : Rr (six w1 b v0 v1 v2 v3 v4 v5) g S a q sh :=
  h.ch (six_ch w1 b v0 v1 v2 v3 v4 v5) fun _ hk he => hb (he ▸ hk)
theorem err_six {w : World} {b : Nat} {cs : Array Value} {t : Nat} {k : Nat × Nat} {l : List Pl} {v z : Value} (h : Err w v l z) (hb : w.heap[b]? = some (.cells cs t k)) (hs : cs.size ≠ 4) (hn : 0 ≠ b) (v0 v1 v2 v3 v4 v5 : Value) : Err (six w b v0 v1 v2 v3 v4 v5) v l z :=
  err_set h hb hs hn (six_ch w b v0 v1 v2 v3 v4 v5)
abbrev zcs : Array Value := #[.int .i64 0, .int .i64 0, .int .i64 0, .int .u64 0, .slice none 0 0, .slice none 0 0]

set_option maxRecDepth 100000 in
set_option maxHeartbeats 6400000 in
theorem begin_calls (g a : Nat) (S : Nat → Prop) (q : List Bool) (w : World) (hT : Tab w) (hE : GlE w) (hG : ¬ S 1) (hGE : ¬ S 0) (h : Rr w g S a q false) :
    Calls Tryd.prog 27 #[.pointer (some ⟨g, 0, none⟩)] w (HP (pBegin q) g a S w) := by
  have hal : Below w.heap.size w (w.alloc (.cells zcs 34)) := below_alloc (Below.refl _ _) _
  have hN : ¬ S w.heap.size := fun x => Nat.lt_irrefl _ (h.old _ x)
  have HEB := Lib.hid (Nat.ne_of_lt (gle_lt hE) : 0 ≠ w.heap.size)
  have HN := Lib.hid hN
  have HT := Lib.hid (hT.below hal)
  have HE := Lib.hid (gle_below hE hal)
  have HG := Lib.hid hG
  have HGE := Lib.hid hGE
  have HOLD := Lib.hid h.old
  have hr0 := h.below hal
  have HC0 := Lib.hid (Ch.of_below (S := S) hal)
  have HB0 := Lib.hid (blk_last w (.cells zcs 34))
  by_cases hs : q.length < 8
  · have HP : Hid (pBegin q = ⟨16, pFlags, 0, hd0, 0, []⟩) := Lib.hid (if_pos hs)
    have HGT := Lib.hid (get_short g a 8 S q false _ hr0 (by omega) (by omega) hs)
    clear hal hN hT hE hG hGE h hr0 hs
    go_enter Tryd.func27, Tryd.ntmps27
    go_wp2_with (fail)
    refine HGT.out.mono ?_
    rintro e w1 ⟨rfl, hr1, hc1⟩
    have HR1 := Lib.hid hr1
    have HC1 := Lib.hid (HC0.out.trans hc1 fun _ _ x => x)
    have HBK := Lib.hid (hc1.blk HB0.out HN.out)
    have HSH := Lib.hid (short_calls g a S [] true w1 hr1)
    have HAT := Lib.hid (HeadA.at_calls 16 pFlags 0 w1 (gle_ch HE.out hc1 HGE.out))
    clear hr1 hc1 HGT
    go_wp2_with (fail)
    refine HSH.out.mono ?_
    rintro e w2 ⟨rfl, rfl⟩
    go_wp2_with (fail)
    refine HAT.out.mono ?_
    rintro e w9 ⟨v9, rfl, he9, hb9⟩
    have hk9 := (Ch.of_below (S := fun _ => False) hb9).blk HBK.out (fun x => x)
    have f0 := obj_free (i := 0) hk9
    have f1 := obj_free (i := 1) hk9
    have f2 := obj_free (i := 2) hk9
    have f3 := obj_free (i := 3) hk9
    have f4 := obj_free (i := 4) hk9
    have f5 := obj_free (i := 5) hk9
    have c0 := obj_cell (i := 0) hk9 rfl
    have c1 := obj_cell (i := 1) hk9 rfl
    have c2 := obj_cell (i := 2) hk9 rfl
    have c3 := obj_cell (i := 3) hk9 rfl
    have c4 := obj_cell (i := 4) hk9 rfl
    have c5 := obj_cell (i := 5) hk9 rfl
    have E9 := Lib.hid he9
    have B9 := Lib.hid hb9
    have K9 := Lib.hid hk9
    clear he9 hb9 hk9
    go_wp2
    refine bodyPost_ret (v := .tuple #[.agg zcs, v9]) (by rw [results_cell_tmp rfl]; go_simp) rfl ?_
    rw [HP.out]
    exact ⟨ch_six (HC1.out.trans (Ch.of_below B9.out) fun _ _ x => x) (Nat.le_refl _) _ _ _ _ _ _, .inl ⟨by decide, ⟨_, rfl, err_six E9.out K9.out (by decide) HEB.out _ _ _ _ _ _⟩, _, _, _, rr_six (HR1.out.below B9.out) HN.out _ _ _ _ _ _⟩⟩
  have HP : Hid (∀ f s, f = val (q.take 8) → s = pS (q.drop 8) → pBegin q = if f % 32 ≠ 0 then ⟨10, pFlags, 0, hd0, 0, []⟩
    else if s.err ≠ 0 then ⟨s.err, pSchema, 0, hd0, 0, []⟩
    else if shapeE s.val ≠ 0 then ⟨shapeE s.val, pSchema, 0, hd0, 0, []⟩
    else if (parseT s.rest).1 ≠ 0 then ⟨(parseT s.rest).1, pZero, 0, hd0, 0, []⟩
    else ⟨0, pZero, 0, ⟨(f / 32 % 2 : Nat), (f / 64 : Nat), s.val, (parseT s.rest).2.1, [], []⟩, 8 + s.used + (parseT s.rest).2.2, s.rest.drop (parseT s.rest).2.2⟩) := Lib.hid (by rintro f s rfl rfl; exact if_neg hs)
  have HGT := Lib.hid (StreamR.get_calls g a 8 S q false _ hr0 (by omega) (by omega) (by omega))
  have hf8 := val_lt8 q
  obtain ⟨f, hf⟩ : ∃ f, f = val (q.take 8) := ⟨_, rfl⟩
  rw [← hf] at HGT hf8
  have HF := Lib.hid hf
  clear hal hN hT hE hG hGE h hr0 hs hf
  go_enter Tryd.func27, Tryd.ntmps27
  go_wp2_with (fail)
  refine HGT.out.mono ?_
  rintro e w1 ⟨rfl, hr1, hc1⟩
  have HR1 := Lib.hid hr1
  have HC1 := Lib.hid (HC0.out.trans hc1 fun _ _ x => x)
  have HC1' := Lib.hid hc1
  have HBK := Lib.hid (hc1.blk HB0.out HN.out)
  have HSH := Lib.hid (short_calls g (a + 8) S (q.drop 8) false w1 hr1)
  have HAT := Lib.hid (HeadA.at_calls 10 pFlags 0 w1 (gle_ch HE.out hc1 HGE.out))
  clear hr1 hc1 HGT
  by_cases hm : f % 32 ≠ 0
  · have d1 : ((f : Int) % 32 != 0) = true := by simp; omega
    have HPB : Hid (pBegin q = ⟨10, pFlags, 0, hd0, 0, []⟩) := Lib.hid (by rw [HP.out f _ HF.out rfl, if_pos hm])
    clear hm HP
    go_wp2_with (fail)
    refine HSH.out.mono ?_
    rintro e w2 ⟨rfl, rfl⟩
    go_wp2_with (fail)
    refine HAT.out.mono ?_
    rintro e w9 ⟨v9, rfl, he9, hb9⟩
    have hk9 := (Ch.of_below (S := fun _ => False) hb9).blk HBK.out (fun x => x)
    have f0 := obj_free (i := 0) hk9
    have f1 := obj_free (i := 1) hk9
    have f2 := obj_free (i := 2) hk9
    have f3 := obj_free (i := 3) hk9
    have f4 := obj_free (i := 4) hk9
    have f5 := obj_free (i := 5) hk9
    have c0 := obj_cell (i := 0) hk9 rfl
    have c1 := obj_cell (i := 1) hk9 rfl
    have c2 := obj_cell (i := 2) hk9 rfl
    have c3 := obj_cell (i := 3) hk9 rfl
    have c4 := obj_cell (i := 4) hk9 rfl
    have c5 := obj_cell (i := 5) hk9 rfl
    have E9 := Lib.hid he9
    have B9 := Lib.hid hb9
    have K9 := Lib.hid hk9
    clear he9 hb9 hk9
    go_wp2
    refine bodyPost_ret (v := .tuple #[.agg zcs, v9]) (by rw [results_cell_tmp rfl]; go_simp) rfl ?_
    rw [HPB.out]
    exact ⟨ch_six (HC1.out.trans (Ch.of_below B9.out) fun _ _ x => x) (Nat.le_refl _) _ _ _ _ _ _, .inl ⟨by decide, ⟨_, rfl, err_six E9.out K9.out (by decide) HEB.out _ _ _ _ _ _⟩, _, _, _, rr_six (HR1.out.below B9.out) HN.out _ _ _ _ _ _⟩⟩
  have d1 : ((f : Int) % 32 != 0) = false := by simp; omega
  have ea : Go.bits .and .u64 ((f : Int) / 32) 1 = (f : Int) / 32 % 2 := by
    have h3 : Go.bits .and .u64 ((f / 32 : Nat) : Int) ((1 : Nat) : Int) = ((f / 32 &&& 1 : Nat) : Int) := u64_and_nat _ _ (by omega) (by decide)
    rw [show ((f : Int) / 32) = ((f / 32 : Nat) : Int) from by simp, show (1 : Int) = ((1 : Nat) : Int) from rfl, h3, Nat.and_one_is_mod]
    rfl
  have hal1 : Below w1.heap.size w1 (w1.alloc (.cells #[.int .i64 ((f : Int) / 32 % 2), .int .i64 ((f : Int) / 32 / 2), .int .i64 0, .int .u64 0, .slice none 0 0, .slice none 0 0] 34)) := below_alloc (Below.refl _ _) _
  have HN1 := Lib.hid (fun x => by have h1 := HOLD.out _ x; have h2 := HC1.out.size; omega : ¬ S w1.heap.size)
  have HLT1 := Lib.hid (blk_lt HBK.out : w.heap.size < w1.heap.size)
  have HTA := Lib.hid ((HT.out.ch HC1'.out HG.out).below hal1)
  have HEA := Lib.hid (gle_below (gle_ch HE.out HC1'.out HGE.out) hal1)
  have HR2 := Lib.hid (HR1.out.below hal1)
  have HCA := Lib.hid (HC1.out.trans (Ch.of_below (S := S) hal1) fun _ _ x => x)
  have HBA := Lib.hid ((Ch.of_below (S := fun _ => False) hal1).blk HBK.out (fun x => x))
  have HKA := Lib.hid (blk_last w1 (.cells #[.int .i64 ((f : Int) / 32 % 2), .int .i64 ((f : Int) / 32 / 2), .int .i64 0, .int .u64 0, .slice none 0 0, .slice none 0 0] 34))
  have HGS := Lib.hid (getS_reads g (a + 8) S (q.drop 8) _ HTA.out HG.out HR2.out)
  obtain ⟨s, hss⟩ : ∃ s, s = pS (q.drop 8) := ⟨_, rfl⟩
  rw [← hss] at HGS
  have HPB : Hid (∀ t, t = parseT s.rest → pBegin q = if s.err ≠ 0 then ⟨s.err, pSchema, 0, hd0, 0, []⟩
    else if shapeE s.val ≠ 0 then ⟨shapeE s.val, pSchema, 0, hd0, 0, []⟩
    else if t.1 ≠ 0 then ⟨t.1, pZero, 0, hd0, 0, []⟩
    else ⟨0, pZero, 0, ⟨(f / 32 % 2 : Nat), (f / 64 : Nat), s.val, t.2.1, [], []⟩, 8 + s.used + t.2.2, s.rest.drop t.2.2⟩) := Lib.hid (by rintro t rfl; rw [HP.out f _ HF.out hss, if_neg hm])
  clear hal1 hm HP hss
  go_wp2_with (fail)
  refine HSH.out.mono ?_
  rintro e w2 ⟨rfl, rfl⟩
  go_wp2_with (fail)
  refine HGS.out.mono ?_
  rintro e w2 ⟨hc2, ⟨v, rfl, rfl⟩, hcase⟩
  obtain ⟨se, sv, su, sr⟩ := s
  simp only at hcase HPB ⊢
  have HC2 := Lib.hid (HCA.out.trans hc2 fun _ _ x => x)
  have HBK := Lib.hid (hc2.blk HBA.out HN.out)
  have HKK := Lib.hid (hc2.blk HKA.out HN1.out)
  have HT2 := Lib.hid (HTA.out.ch hc2 HG.out)
  have HE2 := Lib.hid (gle_ch HEA.out hc2 HGE.out)
  clear hc2 HGS HSH HTA HEA
  by_cases h1 : se ≠ 0
  · have hcase : ∃ a' q' sh, Rr w2 g S a' q' sh := hcase.elim (fun h => h.2) (fun h => absurd h.1 h1)
    have HR3 := Lib.hid hcase
    have HPC : Hid (pBegin q = ⟨se, pSchema, 0, hd0, 0, []⟩) := Lib.hid (by rw [HPB.out _ rfl, if_pos h1])
    have HAT := Lib.hid (HeadA.at_calls se pSchema 0 w2 HE2.out)
    have e1 : ((se : Int) == 0) = false := by simp; omega
    have e2 : ((se : Int) != 0) = true := by simp; omega
    have H1 := Lib.hid h1
    clear hcase h1 HPB
    go_wp2_with (fail)
    refine HAT.out.mono ?_
    rintro e w9 ⟨v9, rfl, he9, hb9⟩
    have hk9 := (Ch.of_below (S := fun _ => False) hb9).blk HBK.out (fun x => x)
    have f0 := obj_free (i := 0) hk9
    have f1 := obj_free (i := 1) hk9
    have f2 := obj_free (i := 2) hk9
    have f3 := obj_free (i := 3) hk9
    have f4 := obj_free (i := 4) hk9
    have f5 := obj_free (i := 5) hk9
    have c0 := obj_cell (i := 0) hk9 rfl
    have c1 := obj_cell (i := 1) hk9 rfl
    have c2 := obj_cell (i := 2) hk9 rfl
    have c3 := obj_cell (i := 3) hk9 rfl
    have c4 := obj_cell (i := 4) hk9 rfl
    have c5 := obj_cell (i := 5) hk9 rfl
    have E9 := Lib.hid he9
    have B9 := Lib.hid hb9
    have K9 := Lib.hid hk9
    clear he9 hb9 hk9
    go_wp2
    refine bodyPost_ret (v := .tuple #[.agg zcs, v9]) (by rw [results_cell_tmp rfl]; go_simp) rfl ?_
    rw [HPC.out]
    exact ⟨ch_six (HC2.out.trans (Ch.of_below B9.out) fun _ _ x => x) (Nat.le_refl _) _ _ _ _ _ _, .inl ⟨H1.out, ⟨_, rfl, err_six E9.out K9.out (by decide) HEB.out _ _ _ _ _ _⟩, (by obtain ⟨a2, q2, s2, h9⟩ := HR3.out; exact ⟨a2, q2, s2, rr_six (h9.below B9.out) HN.out _ _ _ _ _ _⟩)⟩⟩
  obtain rfl := Decidable.not_not.1 h1
  have hcase : Rr w2 g S (a + 8 + su) sr false := hcase.elim (fun h => absurd rfl h.1) (fun h => h.2)
  have HR3 := Lib.hid hcase
  have HSP := Lib.hid (shape_calls sv w2)
  obtain ⟨c, hc⟩ : ∃ c, c = shapeE sv := ⟨_, rfl⟩
  rw [← hc] at HSP HPB
  clear hcase h1 hc
  by_cases h2 : c ≠ 0
  · have HPC : Hid (pBegin q = ⟨c, pSchema, 0, hd0, 0, []⟩) := Lib.hid (by rw [HPB.out _ rfl, if_neg (fun h => h rfl), if_pos h2])
    have HAT := Lib.hid (HeadA.at_calls c pSchema 0 w2 HE2.out)
    have e2 : ((c : Int) != 0) = true := by simp; omega
    have H1 := Lib.hid h2
    clear h2 HPB
    go_wp2_with (fail)
    refine HSP.out.mono ?_
    rintro e w3 ⟨rfl, rfl⟩
    go_wp2_with (fail)
    refine HAT.out.mono ?_
    rintro e w9 ⟨v9, rfl, he9, hb9⟩
    have hk9 := (Ch.of_below (S := fun _ => False) hb9).blk HBK.out (fun x => x)
    have f0 := obj_free (i := 0) hk9
    have f1 := obj_free (i := 1) hk9
    have f2 := obj_free (i := 2) hk9
    have f3 := obj_free (i := 3) hk9
    have f4 := obj_free (i := 4) hk9
    have f5 := obj_free (i := 5) hk9
    have c0 := obj_cell (i := 0) hk9 rfl
    have c1 := obj_cell (i := 1) hk9 rfl
    have c2 := obj_cell (i := 2) hk9 rfl
    have c3 := obj_cell (i := 3) hk9 rfl
    have c4 := obj_cell (i := 4) hk9 rfl
    have c5 := obj_cell (i := 5) hk9 rfl
    have E9 := Lib.hid he9
    have B9 := Lib.hid hb9
    have K9 := Lib.hid hk9
    clear he9 hb9 hk9
    go_wp2
    refine bodyPost_ret (v := .tuple #[.agg zcs, v9]) (by rw [results_cell_tmp rfl]; go_simp) rfl ?_
    rw [HPC.out]
    exact ⟨ch_six (HC2.out.trans (Ch.of_below B9.out) fun _ _ x => x) (Nat.le_refl _) _ _ _ _ _ _, .inl ⟨H1.out, ⟨_, rfl, err_six E9.out K9.out (by decide) HEB.out _ _ _ _ _ _⟩, _, _, _, rr_six (HR3.out.below B9.out) HN.out _ _ _ _ _ _⟩⟩
  obtain rfl := Decidable.not_not.1 h2
  have HKS := Lib.hid (blk_set HKK.out 2 (.int .i64 sv))
  have hcs : Ch (fun k => k = w1.heap.size) w2 (w2.setCell ⟨w1.heap.size, 2, none⟩ (.int .i64 sv)) := (Ch.refl (fun k => k = w1.heap.size) w2).setCell (p := ⟨w1.heap.size, 2, none⟩) (.inl rfl) _
  have HBS := Lib.hid (hcs.blk HBK.out (Nat.ne_of_lt HLT1.out))
  have HES := Lib.hid (gle_ch HE2.out hcs (fun h => by have h5 := gle_lt HE.out; have h6 := HLT1.out; simp at h5; omega))
  have HCS := Lib.hid (HC2.out.setCell (p := ⟨w1.heap.size, 2, none⟩) (.inr (Nat.le_of_lt HLT1.out)) (.int .i64 sv))
  have HRS := Lib.hid (HR3.out.ch hcs (fun k hk he => HN1.out (he ▸ hk)))
  have HGT := Lib.hid (ThrA.get_calls' g (a + 8 + su) S sr _ HRS.out)
  have f2 := obj_free (i := 2) HKK.out
  have c2 := obj_cell (i := 2) HKK.out rfl
  clear h2 hcs
  go_wp2_with (fail)
  refine HSP.out.mono ?_
  rintro e w3 ⟨rfl, rfl⟩
  go_wp2_with (fail)
  obtain ⟨t, ht⟩ : ∃ t, t = parseT sr := ⟨_, rfl⟩
  have HPT := Lib.hid (HPB.out t ht)
  refine HGT.out.mono ?_
  rintro e w3 ⟨hc3, hcase⟩
  rw [← ht] at hcase
  obtain ⟨te, tv, tu⟩ := t
  simp only at hcase HPT ⊢
  have HC3 := Lib.hid (HCS.out.trans hc3 fun _ _ x => x)
  have HBK3 := Lib.hid (hc3.blk HBS.out HN.out)
  have HKK3 := Lib.hid (hc3.blk HKS.out HN1.out)
  have HE3 := Lib.hid (gle_ch HES.out hc3 HGE.out)
  have f3 := obj_free (i := 3) HKK3.out
  have c3 := obj_cell (i := 3) HKK3.out rfl
  clear f2 c2 ht hc3 HGT HPB HRS
  rcases hcase with ⟨h1, rfl, h3⟩ | ⟨h1, rfl, h3⟩
  · have H3 := Lib.hid h3
    have HPC : Hid (pBegin q = ⟨te, pZero, 0, hd0, 0, []⟩) := Lib.hid (by rw [HPT.out, if_neg (fun h => h rfl), if_neg (fun h => h rfl), if_pos h1])
    have e2 : ((te : Int) != 0) = true := by simp; omega
    have H1 := Lib.hid h1
    have hcs : Ch (fun k => k = w1.heap.size) w3 (w3.setCell ⟨w1.heap.size, 3, none⟩ (.int .u64 0)) := (Ch.refl (fun k => k = w1.heap.size) w3).setCell (p := ⟨w1.heap.size, 3, none⟩) (.inl rfl) _
    have HBK := Lib.hid (hcs.blk HBK3.out (Nat.ne_of_lt HLT1.out))
    have HKK := Lib.hid (blk_set HKK3.out 3 (.int .u64 0))
    have HE4 := Lib.hid (gle_ch HE3.out hcs (fun h => by have h5 := gle_lt HE.out; have h6 := HLT1.out; simp at h5; omega))
    have HC4 := Lib.hid (HC3.out.setCell (p := ⟨w1.heap.size, 3, none⟩) (.inr (Nat.le_of_lt HLT1.out)) (.int .u64 0))
    have HRC := Lib.hid (fun a q sh (h : Rr w3 g S a q sh) => h.ch hcs (fun k hk he => HN1.out (he ▸ hk)))
    have HAT := Lib.hid (HeadA.at_calls te pZero 0 _ HE4.out)
    clear h1 h3 HPT hcs
    go_wp2_with (fail)
    refine HAT.out.mono ?_
    rintro e w9 ⟨v9, rfl, he9, hb9⟩
    have hk9 := (Ch.of_below (S := fun _ => False) hb9).blk HBK.out (fun x => x)
    have f0 := obj_free (i := 0) hk9
    have f1 := obj_free (i := 1) hk9
    have f2 := obj_free (i := 2) hk9
    have f3 := obj_free (i := 3) hk9
    have f4 := obj_free (i := 4) hk9
    have f5 := obj_free (i := 5) hk9
    have c0 := obj_cell (i := 0) hk9 rfl
    have c1 := obj_cell (i := 1) hk9 rfl
    have c2 := obj_cell (i := 2) hk9 rfl
    have c3 := obj_cell (i := 3) hk9 rfl
    have c4 := obj_cell (i := 4) hk9 rfl
    have c5 := obj_cell (i := 5) hk9 rfl
    have E9 := Lib.hid he9
    have B9 := Lib.hid hb9
    have K9 := Lib.hid hk9
    clear he9 hb9 hk9
    go_wp2
    refine bodyPost_ret (v := .tuple #[.agg zcs, v9]) (by rw [results_cell_tmp rfl]; go_simp) rfl ?_
    rw [HPC.out]
    exact ⟨ch_six (HC4.out.trans (Ch.of_below B9.out) fun _ _ x => x) (Nat.le_refl _) _ _ _ _ _ _, .inl ⟨H1.out, ⟨_, rfl, err_six E9.out K9.out (by decide) HEB.out _ _ _ _ _ _⟩, (by obtain ⟨a2, q2, s2, h9⟩ := H3.out; exact ⟨a2, q2, s2, rr_six ((HRC.out _ _ _ h9).below B9.out) HN.out _ _ _ _ _ _⟩)⟩⟩
  obtain rfl : te = 0 := h1
  have H3 := Lib.hid h3
  have HPC : Hid (pBegin q = ⟨0, pZero, 0, ⟨(f / 32 % 2 : Nat), (f / 64 : Nat), sv, tv, [], []⟩, 8 + su + tu, sr.drop tu⟩) := Lib.hid (by rw [HPT.out, if_neg (fun h => h rfl), if_neg (fun h => h rfl), if_neg (fun h => h rfl)])
  have hcs : Ch (fun k => k = w1.heap.size) w3 (w3.setCell ⟨w1.heap.size, 3, none⟩ (.int .u64 tv)) := (Ch.refl (fun k => k = w1.heap.size) w3).setCell (p := ⟨w1.heap.size, 3, none⟩) (.inl rfl) _
  have HBK := Lib.hid (hcs.blk HBK3.out (Nat.ne_of_lt HLT1.out))
  have HKK := Lib.hid (blk_set HKK3.out 3 (.int .u64 tv))
  have HE4 := Lib.hid (gle_ch HE3.out hcs (fun h => by have h5 := gle_lt HE.out; have h6 := HLT1.out; simp at h5; omega))
  have HC4 := Lib.hid (HC3.out.setCell (p := ⟨w1.heap.size, 3, none⟩) (.inr (Nat.le_of_lt HLT1.out)) (.int .u64 tv))
  have HRC := Lib.hid (fun a q sh (h : Rr w3 g S a q sh) => h.ch hcs (fun k hk he => HN1.out (he ▸ hk)))
  have k0 := obj_cell (i := 0) HKK3.out rfl
  have k1 := obj_cell (i := 1) HKK3.out rfl
  have k2 := obj_cell (i := 2) HKK3.out rfl
  have k3 := obj_cell (i := 3) HKK3.out rfl
  have k4 := obj_cell (i := 4) HKK3.out rfl
  have k5 := obj_cell (i := 5) HKK3.out rfl
  have g0 := obj_free (i := 0) HBK3.out
  have g1 := obj_free (i := 1) HBK3.out
  have g2 := obj_free (i := 2) HBK3.out
  have g3 := obj_free (i := 3) HBK3.out
  have g4 := obj_free (i := 4) HBK3.out
  have g5 := obj_free (i := 5) HBK3.out
  have d0 := obj_cell (i := 0) HBK3.out rfl
  have d1 := obj_cell (i := 1) HBK3.out rfl
  have d2 := obj_cell (i := 2) HBK3.out rfl
  have d3 := obj_cell (i := 3) HBK3.out rfl
  have d4 := obj_cell (i := 4) HBK3.out rfl
  have d5 := obj_cell (i := 5) HBK3.out rfl
  have hne1 : ¬ w1.heap.size = w.heap.size := Nat.ne_of_gt HLT1.out
  have hne2 : ¬ w.heap.size = w1.heap.size := Nat.ne_of_lt HLT1.out
  clear h3 HPT hcs
  go_wp2
  refine bodyPost_ret (v := .tuple #[.agg #[.int .i64 ((f : Int) / 32 % 2), .int .i64 ((f : Int) / 32 / 2), .int .i64 sv, .int .u64 tv, .slice none 0 0, .slice none 0 0], .nilIface]) (by rw [results_cell_tmp rfl]; go_simp) rfl ?_
  rw [HPC.out]
  have hv1 : ((f / 32 % 2 : Nat) : Int) = (f : Int) / 32 % 2 := by omega
  have hv2 : ((f / 64 : Nat) : Int) = (f : Int) / 32 / 2 := by omega
  refine ⟨ch_six HC4.out (Nat.le_refl _) _ _ _ _ _ _, .inr ⟨rfl, ⟨⟨none, 0, none, 0⟩, ?_, ⟨OwSp.nil _ _ _, OwSp.nil _ _ _⟩⟩, ?_⟩⟩
  · simp only [hcs, hv1, hv2]
    rfl
  · simp only
    rw [show a + (8 + su + tu) = a + 8 + su + tu from by omega]
    exact rr_six (HRC.out _ _ _ H3.out) HN.out _ _ _ _ _ _
end Go.Proofs.YtjfekjbmgckkcaaDoor.HeadL

/- head's walks: Get. -/
namespace Go.Proofs.YtjfekjbmgckkcaaDoor.HeadM
open Go.RowKit Go.Proofs.YtjfekjbmgckkcaaDoorW.PrintWords
open Go.Proofs.YtjfekjbmgckkcaaDoor.Bits Go.Proofs.YtjfekjbmgckkcaaDoor.Base Go.Proofs.YtjfekjbmgckkcaaDoor.VarPure Go.Proofs.YtjfekjbmgckkcaaDoor.VarbitA Go.Proofs.YtjfekjbmgckkcaaDoor.StreamA Go.Proofs.YtjfekjbmgckkcaaDoor.StreamR Go.Proofs.YtjfekjbmgckkcaaDoor.SpanPure Go.Proofs.YtjfekjbmgckkcaaDoor.SpanBase Go.Proofs.YtjfekjbmgckkcaaDoor.FailAs Go.Proofs.YtjfekjbmgckkcaaDoor.FailB Go.Proofs.YtjfekjbmgckkcaaDoor.FailC Go.Proofs.YtjfekjbmgckkcaaDoor.ThrPure Go.Proofs.YtjfekjbmgckkcaaDoor.ReadP Go.Proofs.YtjfekjbmgckkcaaDoor.HeadA Go.Proofs.YtjfekjbmgckkcaaDoor.HeadB Go.Proofs.YtjfekjbmgckkcaaDoor.HeadE Go.Proofs.YtjfekjbmgckkcaaDoor.HeadF Go.Proofs.YtjfekjbmgckkcaaDoor.HeadH Go.Proofs.YtjfekjbmgckkcaaDoor.HeadJ Go.Proofs.YtjfekjbmgckkcaaDoor.HeadL

set_option maxRecDepth 100000 in
set_option maxHeartbeats 6400000 in
theorem Get_calls (g a : Nat) (S : Nat → Prop) (q : List Bool) (w : World) (hT : Tab w) (hE : GlE w) (hG : ¬ S 1) (hGE : ¬ S 0) (h : Rr w g S a q false) :
    Calls Tryd.prog 8 #[.pointer (some ⟨g, 0, none⟩)] w (HP (pHead q) g a S w) := by
  have hal : Below w.heap.size w (w.alloc (.cells zcs 34)) := below_alloc (Below.refl _ _) _
  have hN : ¬ S w.heap.size := fun x => Nat.lt_irrefl _ (h.old _ x)
  have HEB := Lib.hid (Nat.ne_of_lt (gle_lt hE) : 0 ≠ w.heap.size)
  have HN := Lib.hid hN
  have HT := Lib.hid (hT.below hal)
  have HE := Lib.hid (gle_below hE hal)
  have HG := Lib.hid hG
  have HGE := Lib.hid hGE
  have HOLD := Lib.hid h.old
  have HC0 := Lib.hid (Ch.of_below (S := S) hal)
  have HB0 := Lib.hid (blk_last w (.cells zcs 34))
  have HBE := Lib.hid (begin_calls g a S q _ HT.out HE.out hG hGE (h.below hal))
  obtain ⟨r, hr⟩ : ∃ r, r = pBegin q := ⟨_, rfl⟩
  rw [← hr] at HBE
  have HP : Hid (∀ P N, P = pGet r.rest → N = pGet P.rest → pHead q = if r.err ≠ 0 then r
    else if P.err ≠ 0 then ⟨P.err, pPos, P.val.length, hd0, 0, []⟩
    else if N.err ≠ 0 then ⟨N.err, pNeg, N.val.length, hd0, 0, []⟩
    else ⟨0, pNeg, 0, { r.val with pos := P.val, neg := N.val }, r.used + P.used + N.used, N.rest⟩) := Lib.hid (by rintro P N rfl rfl; rw [hr]; rfl)
  clear hal hN hT hE hG hGE h hr
  go_enter Tryd.func8, Tryd.ntmps8
  go_wp2_with (fail)
  refine HBE.out.mono ?_
  rintro e w1 ⟨hc1, hcase⟩
  have HC1 := Lib.hid (HC0.out.trans hc1 fun _ _ x => x)
  have HBK := Lib.hid (hc1.blk HB0.out HN.out)
  have HT1 := Lib.hid (HT.out.ch hc1 HG.out)
  have HE1 := Lib.hid (gle_ch HE.out hc1 HGE.out)
  have HLT1 := Lib.hid (blk_lt HBK.out : w.heap.size < w1.heap.size)
  clear hc1 HBE
  rcases hcase with ⟨h1, ⟨v, rfl, he⟩, h3⟩ | ⟨h1, ⟨pl, rfl, ho⟩, h3⟩
  · have HPC : Hid (pHead q = r) := Lib.hid (by rw [HP.out _ _ rfl rfl, if_pos h1])
    have hal1 : Below w1.heap.size w1 (w1.alloc (.cells zcs 34)) := below_alloc (Below.refl _ _) _
    have HEA := Lib.hid (he.below hal1)
    have HRA := Lib.hid (show ∃ a' q' sh, Rr (w1.alloc (.cells zcs 34)) g S a' q' sh from by obtain ⟨a2, q2, s2, h9⟩ := h3; exact ⟨a2, q2, s2, h9.below hal1⟩)
    have HCA := Lib.hid (HC1.out.trans (Ch.of_below (S := S) hal1) fun _ _ x => x)
    have HBA := Lib.hid ((Ch.of_below (S := fun _ => False) hal1).blk HBK.out (fun x => x))
    obtain ⟨ge, rfl⟩ := err_some (by omega) he
    have H1 := Lib.hid h1
    have f0 := obj_free (i := 0) HBA.out
    have f1 := obj_free (i := 1) HBA.out
    have f2 := obj_free (i := 2) HBA.out
    have f3 := obj_free (i := 3) HBA.out
    have f4 := obj_free (i := 4) HBA.out
    have f5 := obj_free (i := 5) HBA.out
    have c0 := obj_cell (i := 0) HBA.out rfl
    have c1 := obj_cell (i := 1) HBA.out rfl
    have c2 := obj_cell (i := 2) HBA.out rfl
    have c3 := obj_cell (i := 3) HBA.out rfl
    have c4 := obj_cell (i := 4) HBA.out rfl
    have c5 := obj_cell (i := 5) HBA.out rfl
    clear h1 he h3 HP hal1
    dsimp only [hcs, hd0]
    go_wp2
    refine bodyPost_ret (v := .tuple #[.agg zcs, .iface 87 (.pointer (some ⟨ge, 0, none⟩))]) (by rw [results_cell_tmp rfl]; go_simp) rfl ?_
    rw [HPC.out]
    refine ⟨ch_six HCA.out (Nat.le_refl _) _ _ _ _ _ _, .inl ⟨H1.out, ⟨_, rfl, err_six HEA.out HBA.out (by decide) HEB.out _ _ _ _ _ _⟩, ?_⟩⟩
    obtain ⟨a2, q2, s2, h9⟩ := HRA.out
    exact ⟨a2, q2, s2, rr_six h9 HN.out _ _ _ _ _ _⟩
  obtain ⟨re, rp, ra, ⟨vr, hint, schema, zt, rpos, rneg⟩, ru, rr⟩ := r
  obtain ⟨A0, c0, B0, d0⟩ := pl
  obtain rfl : re = 0 := h1
  simp only at h3 HP
  have hal1 : Below w1.heap.size w1 (w1.alloc (.cells #[.int .i64 vr, .int .i64 hint, .int .i64 schema, .int .u64 zt, .slice A0 rpos.length c0, .slice B0 rneg.length d0] 34)) := below_alloc (Below.refl _ _) _
  have HN1 := Lib.hid (fun x => by have h1 := HOLD.out _ x; have h2 := HC1.out.size; omega : ¬ S w1.heap.size)
  have HTA := Lib.hid (HT1.out.below hal1)
  have HEA := Lib.hid (gle_below HE1.out hal1)
  have HRA := Lib.hid (h3.below hal1)
  have HCA := Lib.hid (HC1.out.trans (Ch.of_below (S := S) hal1) fun _ _ x => x)
  have HBA := Lib.hid ((Ch.of_below (S := fun _ => False) hal1).blk HBK.out (fun x => x))
  have HKA := Lib.hid (blk_last w1 (.cells #[.int .i64 vr, .int .i64 hint, .int .i64 schema, .int .u64 zt, .slice A0 rpos.length c0, .slice B0 rneg.length d0] 34))
  have HGP := Lib.hid (HeadI.get_calls g (a + ru) S rr _ HTA.out HG.out HRA.out)
  obtain ⟨P, hP⟩ : ∃ P, P = pGet rr := ⟨_, rfl⟩
  rw [← hP] at HGP
  have HPP := Lib.hid (fun N h => HP.out P N hP h)
  have HSZ := Lib.hid (show w1.heap.size < (w1.alloc (.cells #[.int .i64 vr, .int .i64 hint, .int .i64 schema, .int .u64 zt, .slice A0 rpos.length c0, .slice B0 rneg.length d0] 34)).heap.size by simp)
  clear hP ho h3 HP hal1 HBK
  
  dsimp only [hcs]
  go_wp2_with (fail)
  refine HGP.out.mono ?_
  rintro e w2 ⟨hc2, ⟨v, rfl, hv⟩, hcase⟩
  obtain ⟨Pe, pv, Pu, Pr⟩ := P
  simp only at hv hcase HPP ⊢
  obtain ⟨A, c, rfl, hle, hnil, hrd⟩ := OwSp.reads hv
  have HV := Lib.hid hv
  have HC2 := Lib.hid (HCA.out.trans hc2 fun _ _ x => x)
  have HBK2 := Lib.hid (hc2.blk HBA.out HN.out)
  have HKK2 := Lib.hid (hc2.blk HKA.out HN1.out)
  have HT2 := Lib.hid (HTA.out.ch hc2 HG.out)
  have HE2 := Lib.hid (gle_ch HEA.out hc2 HGE.out)
  have HS2 := Lib.hid hc2.size
  have f4 := obj_free (i := 4) HKK2.out
  have c4 := obj_cell (i := 4) HKK2.out rfl
  have hcs : Ch (fun k => k = w1.heap.size) w2 (w2.setCell ⟨w1.heap.size, 4, none⟩ (.slice A pv.length c)) := (Ch.refl (fun k => k = w1.heap.size) w2).setCell (p := ⟨w1.heap.size, 4, none⟩) (.inl rfl) _
  have HBK := Lib.hid (hcs.blk HBK2.out (Nat.ne_of_lt HLT1.out))
  have HKK := Lib.hid (blk_set HKK2.out 4 (.slice A pv.length c))
  have HEN := Lib.hid (fun h => by have h5 := gle_lt HE.out; have h6 := HLT1.out; simp at h5; omega : 0 ≠ w1.heap.size)
  have HE3 := Lib.hid (gle_ch HE2.out hcs HEN.out)
  have HC3 := Lib.hid (HC2.out.setCell (p := ⟨w1.heap.size, 4, none⟩) (.inr (Nat.le_of_lt HLT1.out)) (.slice A pv.length c))
  have HRC := Lib.hid (fun a q sh (h : Rr w2 g S a q sh) => h.ch hcs (fun k hk he => HN1.out (he ▸ hk)))
  have HV3 := Lib.hid (sps_ch hv hcs (fun k hk => by rw [hk]; exact HSZ.out))
  have HCS3 := Lib.hid hcs
  clear hv hc2 hrd hle hnil hcs HGP
  by_cases h1 : Pe ≠ 0
  · have hcase : ∃ a' q' sh, Rr w2 g S a' q' sh := hcase.elim (fun h => h.2) (fun h => absurd h.1 h1)
    have HR3 := Lib.hid hcase
    have HPC : Hid (pHead q = ⟨Pe, pPos, pv.length, hd0, 0, []⟩) := Lib.hid (by rw [HPP.out _ rfl, if_neg (fun h => h rfl), if_pos h1])
    have HAT := Lib.hid (HeadA.at_calls Pe pPos pv.length _ HE3.out)
    have e2 : ((Pe : Int) != 0) = true := by simp; omega
    have H1 := Lib.hid h1
    clear hcase h1 HPP
    go_wp2_with (fail)
    refine HAT.out.mono ?_
    rintro e w9 ⟨v9, rfl, he9, hb9⟩
    have hk9 := (Ch.of_below (S := fun _ => False) hb9).blk HBK.out (fun x => x)
    have f0 := obj_free (i := 0) hk9
    have f1 := obj_free (i := 1) hk9
    have f2 := obj_free (i := 2) hk9
    have f3 := obj_free (i := 3) hk9
    have f4 := obj_free (i := 4) hk9
    have f5 := obj_free (i := 5) hk9
    have c0 := obj_cell (i := 0) hk9 rfl
    have c1 := obj_cell (i := 1) hk9 rfl
    have c2 := obj_cell (i := 2) hk9 rfl
    have c3 := obj_cell (i := 3) hk9 rfl
    have c4 := obj_cell (i := 4) hk9 rfl
    have c5 := obj_cell (i := 5) hk9 rfl
    have E9 := Lib.hid he9
    have B9 := Lib.hid hb9
    have K9 := Lib.hid hk9
    clear he9 hb9 hk9
    go_wp2
    refine bodyPost_ret (v := .tuple #[.agg zcs, v9]) (by rw [results_cell_tmp rfl]; go_simp) rfl ?_
    rw [HPC.out]
    exact ⟨ch_six (HC3.out.trans (Ch.of_below B9.out) fun _ _ x => x) (Nat.le_refl _) _ _ _ _ _ _, .inl ⟨H1.out, ⟨_, rfl, err_six E9.out K9.out (by decide) HEB.out _ _ _ _ _ _⟩, (by obtain ⟨a2, q2, s2, h9⟩ := HR3.out; exact ⟨a2, q2, s2, rr_six ((HRC.out _ _ _ h9).below B9.out) HN.out _ _ _ _ _ _⟩)⟩⟩
  obtain rfl := Decidable.not_not.1 h1
  have hcase : Rr w2 g S (a + ru + Pu) Pr false := hcase.elim (fun h => absurd rfl h.1) (fun h => h.2)
  have HT3 := Lib.hid (HT2.out.ch HCS3.out (fun h => by have h5 := HT.out.lt; have h6 := HLT1.out; simp at h5; omega))
  have HGN := Lib.hid (HeadI.get_calls g (a + ru + Pu) S Pr _ HT3.out HG.out (HRC.out _ _ _ hcase))
  obtain ⟨N, hNN⟩ : ∃ N, N = pGet Pr := ⟨_, rfl⟩
  rw [← hNN] at HGN
  have HPN := Lib.hid (HPP.out N hNN)
  clear hcase h1 hNN HPP
  go_wp2_with (fail)
  refine HGN.out.mono ?_
  rintro e w3 ⟨hc3, ⟨v, rfl, hv⟩, hcase⟩
  obtain ⟨Ne, nv, Nu, Nr⟩ := N
  simp only at hv hcase HPN ⊢
  obtain ⟨B, d, rfl, hle, hnil, hrd⟩ := OwSp.reads hv
  have HW := Lib.hid hv
  have HC4 := Lib.hid (HC3.out.trans hc3 fun _ _ x => x)
  have HBK3 := Lib.hid (hc3.blk HBK.out HN.out)
  have HKK3 := Lib.hid (hc3.blk HKK.out HN1.out)
  have HE4 := Lib.hid (gle_ch HE3.out hc3 HGE.out)
  have HV4 := Lib.hid (sps_ch HV3.out hc3 (fun k hk => by have h1 := HOLD.out k hk; have h2 := HLT1.out; have h3 := HSZ.out; omega))
  have f5 := obj_free (i := 5) HKK3.out
  have c5 := obj_cell (i := 5) HKK3.out rfl
  have hcs : Ch (fun k => k = w1.heap.size) w3 (w3.setCell ⟨w1.heap.size, 5, none⟩ (.slice B nv.length d)) := (Ch.refl (fun k => k = w1.heap.size) w3).setCell (p := ⟨w1.heap.size, 5, none⟩) (.inl rfl) _
  have HBK := Lib.hid (hcs.blk HBK3.out (Nat.ne_of_lt HLT1.out))
  have HE5 := Lib.hid (gle_ch HE4.out hcs HEN.out)
  have HC5 := Lib.hid (HC4.out.setCell (p := ⟨w1.heap.size, 5, none⟩) (.inr (Nat.le_of_lt HLT1.out)) (.slice B nv.length d))
  have HRC := Lib.hid (fun a q sh (h : Rr w3 g S a q sh) => h.ch hcs (fun k hk he => HN1.out (he ▸ hk)))
  have HV5 := Lib.hid (sps_ch HV4.out hcs (fun k hk => by rw [hk]; exact HSZ.out))
  have HW5 := Lib.hid (sps_ch hv hcs (fun k hk => by rw [hk]; have h2 := HSZ.out; have h3 := HS2.out; simp at h2 h3 ⊢; omega))
  clear hv hc3 hrd hle hnil hcs HGN f4 c4
  by_cases h1 : Ne ≠ 0
  · have hcase : ∃ a' q' sh, Rr w3 g S a' q' sh := hcase.elim (fun h => h.2) (fun h => absurd h.1 h1)
    have HR3 := Lib.hid hcase
    have HPC : Hid (pHead q = ⟨Ne, pNeg, nv.length, hd0, 0, []⟩) := Lib.hid (by rw [HPN.out, if_neg (fun h => h rfl), if_neg (fun h => h rfl), if_pos h1])
    have HAT := Lib.hid (HeadA.at_calls Ne pNeg nv.length _ HE5.out)
    have e2 : ((Ne : Int) != 0) = true := by simp; omega
    have H1 := Lib.hid h1
    clear hcase h1 HPN
    go_wp2_with (fail)
    refine HAT.out.mono ?_
    rintro e w9 ⟨v9, rfl, he9, hb9⟩
    have hk9 := (Ch.of_below (S := fun _ => False) hb9).blk HBK.out (fun x => x)
    have f0 := obj_free (i := 0) hk9
    have f1 := obj_free (i := 1) hk9
    have f2 := obj_free (i := 2) hk9
    have f3 := obj_free (i := 3) hk9
    have f4 := obj_free (i := 4) hk9
    have f5 := obj_free (i := 5) hk9
    have c0 := obj_cell (i := 0) hk9 rfl
    have c1 := obj_cell (i := 1) hk9 rfl
    have c2 := obj_cell (i := 2) hk9 rfl
    have c3 := obj_cell (i := 3) hk9 rfl
    have c4 := obj_cell (i := 4) hk9 rfl
    have c5 := obj_cell (i := 5) hk9 rfl
    have E9 := Lib.hid he9
    have B9 := Lib.hid hb9
    have K9 := Lib.hid hk9
    clear he9 hb9 hk9
    go_wp2
    refine bodyPost_ret (v := .tuple #[.agg zcs, v9]) (by rw [results_cell_tmp rfl]; go_simp) rfl ?_
    rw [HPC.out]
    exact ⟨ch_six (HC5.out.trans (Ch.of_below B9.out) fun _ _ x => x) (Nat.le_refl _) _ _ _ _ _ _, .inl ⟨H1.out, ⟨_, rfl, err_six E9.out K9.out (by decide) HEB.out _ _ _ _ _ _⟩, (by obtain ⟨a2, q2, s2, h9⟩ := HR3.out; exact ⟨a2, q2, s2, rr_six ((HRC.out _ _ _ h9).below B9.out) HN.out _ _ _ _ _ _⟩)⟩⟩
  obtain rfl := Decidable.not_not.1 h1
  have hcase : Rr w3 g S (a + ru + Pu + Nu) Nr false := hcase.elim (fun h => absurd rfl h.1) (fun h => h.2)
  have H3 := Lib.hid hcase
  have HPC : Hid (pHead q = ⟨0, pNeg, 0, ⟨vr, hint, schema, zt, pv, nv⟩, ru + Pu + Nu, Nr⟩) := Lib.hid (by rw [HPN.out, if_neg (fun h => h rfl), if_neg (fun h => h rfl), if_neg (fun h => h rfl)])
  have k0 := obj_cell (i := 0) HKK3.out rfl
  have k1 := obj_cell (i := 1) HKK3.out rfl
  have k2 := obj_cell (i := 2) HKK3.out rfl
  have k3 := obj_cell (i := 3) HKK3.out rfl
  have k4 := obj_cell (i := 4) HKK3.out rfl
  have k5 := obj_cell (i := 5) HKK3.out rfl
  have g0 := obj_free (i := 0) HBK3.out
  have g1 := obj_free (i := 1) HBK3.out
  have g2 := obj_free (i := 2) HBK3.out
  have g3 := obj_free (i := 3) HBK3.out
  have g4 := obj_free (i := 4) HBK3.out
  have g5 := obj_free (i := 5) HBK3.out
  have e0 := obj_cell (i := 0) HBK3.out rfl
  have e1 := obj_cell (i := 1) HBK3.out rfl
  have e2 := obj_cell (i := 2) HBK3.out rfl
  have e3 := obj_cell (i := 3) HBK3.out rfl
  have e4 := obj_cell (i := 4) HBK3.out rfl
  have e5 := obj_cell (i := 5) HBK3.out rfl
  have hne1 : ¬ w1.heap.size = w.heap.size := Nat.ne_of_gt HLT1.out
  have hne2 : ¬ w.heap.size = w1.heap.size := Nat.ne_of_lt HLT1.out
  clear h1 hcase HPN
  go_wp2
  refine bodyPost_ret (v := .tuple #[.agg #[.int .i64 vr, .int .i64 hint, .int .i64 schema, .int .u64 zt, .slice A pv.length c, .slice B nv.length d], .nilIface]) (by rw [results_cell_tmp rfl]; go_simp) rfl ?_
  rw [HPC.out]
  have hlo : w.heap.size ≤ (w1.alloc (.cells #[.int .i64 vr, .int .i64 hint, .int .i64 schema, .int .u64 zt, .slice A0 rpos.length c0, .slice B0 rneg.length d0] 34)).heap.size := by have h1 := HLT1.out; have h2 := HSZ.out; omega
  have hlo2 : w.heap.size < (w2.setCell ⟨w1.heap.size, 4, none⟩ (.slice A pv.length c)).heap.size := by have h1 := HLT1.out; have h2 := HSZ.out; have h3 := HS2.out; simp at h2 h3 ⊢; omega
  refine ⟨ch_six HC5.out (Nat.le_refl _) _ _ _ _ _ _, .inr ⟨rfl, ⟨⟨A, c, B, d⟩, rfl, ⟨?_, ?_⟩⟩, ?_⟩⟩
  · exact (sps_ch HV5.out (six_ch _ w.heap.size _ _ _ _ _ _) (fun k hk => by rw [hk]; have h1 := HLT1.out; have h2 := HSZ.out; omega)).lower hlo
  · exact (sps_ch HW5.out (six_ch _ w.heap.size _ _ _ _ _ _) (fun k hk => by rw [hk]; exact hlo2)).lower (Nat.le_of_lt hlo2)
  · simp only
    rw [show a + (ru + Pu + Nu) = a + ru + Pu + Nu from by omega]
    exact rr_six (HRC.out _ _ _ H3.out) HN.out _ _ _ _ _ _
end Go.Proofs.YtjfekjbmgckkcaaDoor.HeadM

/- law 14: awake. -/
namespace Go.Proofs.YtjfekjbmgckkcaaDoor.Law14B
open Go.RowKit Go.Proofs.YtjfekjbmgckkcaaDoorW.PrintWords
open Go.Proofs.YtjfekjbmgckkcaaDoor.Bits Go.Proofs.YtjfekjbmgckkcaaDoor.Base Go.Proofs.YtjfekjbmgckkcaaDoor.VarPure Go.Proofs.YtjfekjbmgckkcaaDoor.VarbitA Go.Proofs.YtjfekjbmgckkcaaDoor.VarbitD Go.Proofs.YtjfekjbmgckkcaaDoor.VarKit Go.Proofs.YtjfekjbmgckkcaaDoor.StreamA Go.Proofs.YtjfekjbmgckkcaaDoor.StreamR Go.Proofs.YtjfekjbmgckkcaaDoor.SpanPure Go.Proofs.YtjfekjbmgckkcaaDoor.SpanBase Go.Proofs.YtjfekjbmgckkcaaDoor.FailAs Go.Proofs.YtjfekjbmgckkcaaDoor.FailB Go.Proofs.YtjfekjbmgckkcaaDoor.FailC Go.Proofs.YtjfekjbmgckkcaaDoor.ThrPure Go.Proofs.YtjfekjbmgckkcaaDoor.ReadP Go.Proofs.YtjfekjbmgckkcaaDoor.HeadA Go.Proofs.YtjfekjbmgckkcaaDoor.HeadB Go.Proofs.YtjfekjbmgckkcaaDoor.HeadC Go.Proofs.YtjfekjbmgckkcaaDoor.HeadD Go.Proofs.YtjfekjbmgckkcaaDoor.HeadPure Go.Proofs.YtjfekjbmgckkcaaDoor.HeadE Go.Proofs.YtjfekjbmgckkcaaDoor.HeadF Go.Proofs.YtjfekjbmgckkcaaDoor.HeadG Go.Proofs.YtjfekjbmgckkcaaDoor.HeadH Go.Proofs.YtjfekjbmgckkcaaDoor.HeadJ Go.Proofs.YtjfekjbmgckkcaaDoor.HeadK Go.Proofs.YtjfekjbmgckkcaaDoor.HeadM

theorem spl_own {w : World} {base : Nat} {e : Nat} {A : Option Addr} {n c : Nat} {l : List Sp} (h : OwSp e w base (.slice A n c) l) (hl : l.length ≤ 1000000) : Spl w A c l := by
  obtain ⟨A', c', he, h1, h2, h3⟩ := h.reads
  injection he with e1 e2 e3
  subst e1 e3
  exact ⟨h3, hl, h1, h2⟩
theorem hdin_out {w : World} {base : Nat} {h : Hd} {p : Lc} (x : HdOut w base h p) (h1 : h.pos.length ≤ 1000000) (h2 : h.neg.length ≤ 1000000) (hz : h.zero < 18446744073709551616) : HdIn w h p := ⟨spl_own x.pos h1, spl_own x.neg h2, hz⟩
theorem own_not {w : World} {base : Nat} {e : Nat} {A : Option Addr} {n c : Nat} {l : List Sp} {S : Nat → Prop} (h : OwSp e w base (.slice A n c) l) (hS : ∀ k, S k → k < base) : ∀ ad, A = some ad → 0 < l.length → ¬ S ad.block := by
  intro ad hA hp hs
  obtain ⟨g, c', he, h1, -, -⟩ := h.form hp
  injection he with e1 e2 e3
  rw [hA] at e1
  injection e1 with e1
  subst e1
  exact Nat.lt_irrefl _ (Nat.lt_of_lt_of_le (hS _ hs) h1)
theorem hdin_nil (w : World) (v i s : Int) (z : Nat) (hz : z < 18446744073709551616) : HdIn w ⟨v, i, s, z, [], []⟩ ⟨none, 0, none, 0⟩ :=
  ⟨spl_own (OwSp.nil 57 w 0) (Nat.zero_le _), spl_own (OwSp.nil 57 w 0) (Nat.zero_le _), hz⟩
def h1 : Hd := ⟨1, 3, 3, 0, [(-2, 2)], []⟩
def h9 : Hd := ⟨0, 0, 9, 0, [], []⟩
theorem err_h1 : (headErr h1).1 = 0 := by decide +kernel
theorem err_h9 : headErr h9 = (21, pSchema) := by decide +kernel
theorem len_h1 : (encH h1).length ≤ 1000 := by decide +kernel
theorem len_hd0 : lenH hd0 = 19 := by decide +kernel
set_option maxRecDepth 100000 in
set_option maxHeartbeats 6400000 in
theorem awake_calls (w : World) (hT : Tab w) (hE : GlE w) :
    Calls Tryd.prog 5 #[] w fun e w' => e = .returned (.bool true) ∧ Below w.heap.size w w' := by
  have HT := Lib.hid hT
  have HE := Lib.hid hE
  have HNW := Lib.hid (newWriter_calls none 0 0 [] w (nil_read w) (by decide) (by decide) (fun _ => rfl) (by decide))
  clear hT hE
  go_enter Tryd.func5, Tryd.ntmps5
  go_wp2_with (fail)
  refine HNW.out.mono ?_
  rintro e w1 ⟨g, S, rfl, hw, hS, hb⟩
  have HP1 : Hid (∃ p : Lc, p = ⟨some ⟨w1.heap.size, 0, none⟩, 1, none, 0⟩) := Lib.hid ⟨_, rfl⟩
  have hb0 := below_alloc (Below.refl w1.heap.size w1) (.cells #[.int .i64 (-2), .int .i64 2] 57)
  have hb1 := below_alloc hb0 (.cells #[.int .i64 1, .int .i64 3, .int .i64 3, .int .u64 0, .slice (some ⟨w1.heap.size, 0, none⟩) 1 1, .slice none 0 0] 34)
  have HOW : Hid (OwSp 57 (w1.alloc (.cells #[.int .i64 (-2), .int .i64 2] 57)) w1.heap.size (.slice (some ⟨w1.heap.size, 0, none⟩) 1 1) [(-2, 2)]) := Lib.hid (OwSp.lit w1 57 [(-2, 2)] (by decide))
  have HIN : Hid (HdIn ((w1.alloc (.cells #[.int .i64 (-2), .int .i64 2] 57)).alloc (.cells #[.int .i64 1, .int .i64 3, .int .i64 3, .int .u64 0, .slice (some ⟨w1.heap.size, 0, none⟩) 1 1, .slice none 0 0] 34)) h1 ⟨some ⟨w1.heap.size, 0, none⟩, 1, none, 0⟩) :=
    Lib.hid ⟨spl_own (HOW.out.below (below_alloc (Below.refl _ _) _)) (by decide), spl_own (OwSp.nil 57 _ 0) (Nat.zero_le _), by decide⟩
  have HBK := Lib.hid (blk_last (w1.alloc (.cells #[.int .i64 (-2), .int .i64 2] 57)) (.cells #[.int .i64 1, .int .i64 3, .int .i64 3, .int .u64 0, .slice (some ⟨w1.heap.size, 0, none⟩) 1 1, .slice none 0 0] 34))
  rw [show (w1.alloc (.cells #[.int .i64 (-2), .int .i64 2] 57)).heap.size = w1.heap.size + 1 from by simp] at HBK
  have HB1 := Lib.hid (below_then hb hb.size hb1)
  have HT1 := Lib.hid ((HT.out.below hb).below hb1)
  have HE1 := Lib.hid (gle_below (gle_below HE.out hb) hb1)
  have HNB := Lib.hid (fun x => Nat.lt_irrefl _ (hw.old _ x) : ¬ S w1.heap.size)
  have HNB1 := Lib.hid (fun x => by have := hw.old _ x; omega : ¬ S (w1.heap.size + 1))
  have HNG := Lib.hid (not_old HT.out hS)
  have HPU := Lib.hid (Put_calls g S _ h1 ⟨some ⟨w1.heap.size, 0, none⟩, 1, none, 0⟩ _ HIN.out HE1.out HT1.out HNG.out (hw.below hb1) (by decide) (fun ad h _ => by injection h with h; subst h; exact HNB.out) (fun ad h _ => by cases h))
  have HS := Lib.hid hS
  have HNE := Lib.hid (fun x => by have := HS.out _ x; have := gle_lt HE.out; omega : ¬ S 0)
  clear hw hS hb hb0 hb1 HNW HP1 HOW
  go_wp2_with (fail)
  refine HPU.out.mono ?_
  rintro e w3 hput
  obtain ⟨-, rfl, S3, hw3, hs3, hc3⟩ : (headErr h1).1 = 0 ∧ e = .returned .nilIface ∧ Upd (fun w S => Wr w g S ([] ++ encH h1)) S _ w3 := by
    rcases hput with h | ⟨h, -⟩
    · exact h
    · exact absurd err_h1 h
  rw [List.nil_append] at hw3
  have HB3 := Lib.hid (HB1.out.trans (hc3.below_of HB1.out.size HS.out))
  have HIN3 : Hid (HdIn w3 h1 ⟨some ⟨w1.heap.size, 0, none⟩, 1, none, 0⟩) := Lib.hid ⟨⟨rd_ch HIN.out.pos.rd hc3 (fun ad h _ => by injection h with h; subst h; exact HNB.out), HIN.out.pos.len, HIN.out.pos.cap, HIN.out.pos.nil⟩, ⟨rd_ch HIN.out.neg.rd hc3 (fun ad h _ => by cases h), HIN.out.neg.len, HIN.out.neg.cap, HIN.out.neg.nil⟩, HIN.out.z⟩
  have HBK3 := Lib.hid (hc3.blk HBK.out HNB1.out)
  have HT3 := Lib.hid (HT1.out.ch hc3 HNG.out)
  have HE3 := Lib.hid (gle_ch HE1.out hc3 HNE.out)
  have hlen := len_h1
  obtain ⟨q, hq⟩ : ∃ q, q = encH h1 := ⟨_, rfl⟩
  have HQ := Lib.hid hq
  rw [← hq] at hw3 hlen
  have HW3 := Lib.hid hw3
  have HLEN := Lib.hid (fun W (h : Below w3.heap.size w3 W) => lift_eq h (len_calls g S3 _ W (hw3.below h)))
  have HBY := Lib.hid (bytes_calls g S3 _ w3 hw3 (by omega))
  clear hw3 hs3 hc3 hq HPU HIN HBK HNB HNB1 HB1 HT1 HE1
  go_wp2_with (fail)
  refine HBY.out.mono ?_
  rintro e w4 ⟨v, rfl, ho, hb4⟩
  obtain ⟨D, d, rfl, hd, hr⟩ := ho.reads
  have hD : D = none → d = 0 := OwI.nilcap ho
  have HNR := Lib.hid (newReader_calls D d q.length (pack q) w4 hr (by rw [pack_length]; omega) hd hD (by rw [pack_length]; omega))
  rw [pack_take_all] at HNR
  have HB4 := Lib.hid hb4
  clear ho hr hd hb4 hD
  go_wp2_with (fail)
  refine (len_calls g S3 _ w4 (HW3.out.below HB4.out)).mono ?_
  rintro e w4' ⟨rfl, rfl⟩
  go_wp2_with (fail)
  refine HNR.out.mono ?_
  rintro e w5 ⟨gr, SR, rfl, hR, hSR, hb5⟩
  have HB5 := Lib.hid (below_then HB4.out HB4.out.size hb5)
  have HT5 := Lib.hid ((HT3.out.below HB4.out).below hb5)
  have HE5 := Lib.hid (gle_below (gle_below HE3.out HB4.out) hb5)
  have HSR := Lib.hid (fun k hk => Nat.le_trans HB4.out.size (hSR k hk) : ∀ k, SR k → w3.heap.size ≤ k)
  have HNG5 := Lib.hid (not_old HT3.out HSR.out)
  have HNE5 := Lib.hid (fun x => by have := HSR.out _ x; have := gle_lt HE3.out; omega : ¬ SR 0)
  have HPH : Hid (pHead q = ⟨0, pNeg, 0, h1, q.length, []⟩) := Lib.hid (by have h := pHead_enc h1 [] err_h1 (by decide); rw [List.append_nil, ← HQ.out] at h; exact h)
  have HG := Lib.hid (Get_calls gr 0 SR q w5 HT5.out HE5.out HNG5.out HNE5.out hR)
  rw [HPH.out] at HG
  have HB5' := Lib.hid hb5
  clear hR hSR hb5 HNR HT3 HE3
  go_wp2_with (fail)
  refine HG.out.mono ?_
  rintro e w6 ⟨hc6, hcase⟩
  obtain ⟨p6, rfl, ho6⟩ : ∃ p, e = .returned (.tuple #[.agg (hcs h1 p).toArray, .nilIface]) ∧ HdOut w6 w5.heap.size h1 p := by
    rcases hcase with ⟨h, -⟩ | ⟨-, h, -⟩
    · exact absurd rfl h
    · exact h
  obtain ⟨A6, c6, B6, d6⟩ := p6
  dsimp only [hcs, h1, List.length]
  have HB6 := Lib.hid (ch_new HB5.out HB5.out.size HSR.out hc6)
  have HT6 := Lib.hid (HT5.out.ch hc6 HNG5.out)
  have HE6 := Lib.hid (gle_ch HE5.out hc6 HNE5.out)
  have hb6a := below_alloc (Below.refl w6.heap.size w6) (.cells #[.int .i64 1, .int .i64 3, .int .i64 3, .int .u64 0, .slice A6 1 c6, .slice B6 0 d6] 34)
  have HIN6 := Lib.hid ((hdin_out ho6 (by decide) (by decide) (by decide)).below hb6a)
  have HBK6 := Lib.hid (blk_last w6 (.cells #[.int .i64 1, .int .i64 3, .int .i64 3, .int .u64 0, .slice A6 1 c6, .slice B6 0 d6] 34))
  have HB6a := Lib.hid (below_then HB6.out HB6.out.size hb6a)
  have HT6a := Lib.hid (HT6.out.below hb6a)
  have HE6a := Lib.hid (gle_below HE6.out hb6a)
  have HCK := Lib.hid (check_calls h9 ⟨none, 0, none, 0⟩ _ (hdin_nil _ 0 0 9 0 (by decide)) HE6a.out)
  rw [err_h9] at HCK
  clear hc6 hcase ho6 hb6a HG HB5 HT5 HE5 HB5' HT6 HE6
  go_wp2_with (fail)
  refine HCK.out.mono ?_
  rintro e w7 ⟨v7, rfl, he7, hb7⟩
  have HAT := Lib.hid (FailE.at_calls pSchema he7)
  have HB7 := Lib.hid (below_then HB6a.out HB6a.out.size hb7)
  have hb7' := hb7
  have HIN7 := Lib.hid (HIN6.out.below hb7)
  have HBK7 := Lib.hid ((Ch.of_below (S := fun _ => False) hb7).blk HBK6.out (fun x => x))
  have HE7 := Lib.hid he7
  have HT7 := Lib.hid (HT6a.out.below hb7)
  clear he7 hb7 HCK hb7'
  go_wp2_with (fail)
  refine HAT.out.mono ?_
  rintro e w8 ⟨rfl, hb8⟩
  have HB8 := Lib.hid (below_then HB7.out HB7.out.size hb8)
  have HIN8 := Lib.hid (HIN7.out.below hb8)
  have hbk8 := (Ch.of_below (S := fun _ => False) hb8).blk HBK7.out (fun x => x)
  have HT8 := Lib.hid (HT7.out.below hb8)
  have he8 := HE7.out.below hb8
  have HE8 := Lib.hid he8
  have hbk3 := (Ch.of_below (S := fun _ => False) HB8.out).blk HBK3.out (fun x => x)
  have HIN3' := Lib.hid (HIN3.out.below HB8.out)
  have HLN := Lib.hid (HW3.out.below HB8.out)
  have k0 := obj_cell (i := 0) hbk8 rfl
  have k1 := obj_cell (i := 1) hbk8 rfl
  have k2 := obj_cell (i := 2) hbk8 rfl
  have k3 := obj_cell (i := 3) hbk8 rfl
  have k4 := obj_cell (i := 4) hbk8 rfl
  have k5 := obj_cell (i := 5) hbk8 rfl
  have c0 := obj_cell (i := 0) hbk3 rfl
  have c1 := obj_cell (i := 1) hbk3 rfl
  have c2 := obj_cell (i := 2) hbk3 rfl
  have c3 := obj_cell (i := 3) hbk3 rfl
  have c4 := obj_cell (i := 4) hbk3 rfl
  have c5 := obj_cell (i := 5) hbk3 rfl
  have HEQ := Lib.hid (Equal_calls h1 h1 ⟨A6, c6, B6, d6⟩ ⟨some ⟨w1.heap.size, 0, none⟩, 1, none, 0⟩ w8 HIN8.out HIN3'.out)
  have hat : FailE.atF (plc (21 : Nat) pSchema 0) pSchema = (0, true) := by decide +kernel
  rw [hat]
  have HB3' := Lib.hid hbk3
  clear hb8 hbk8 he8 hbk3 hat HAT
  go_wp2_with (fail)
  refine HEQ.out.mono ?_
  rintro e w9 ⟨rfl, hb9⟩
  rw [show eqH h1 h1 = true from decide_eq_true rfl]
  have HB9 := Lib.hid (below_then HB8.out HB8.out.size hb9)
  have hbk3 := (Ch.of_below (S := fun _ => False) hb9).blk HB3'.out (fun x => x)
  have c0 := obj_cell (i := 0) hbk3 rfl
  have c1 := obj_cell (i := 1) hbk3 rfl
  have c2 := obj_cell (i := 2) hbk3 rfl
  have c3 := obj_cell (i := 3) hbk3 rfl
  have c4 := obj_cell (i := 4) hbk3 rfl
  have c5 := obj_cell (i := 5) hbk3 rfl
  have HLE := Lib.hid (Len_calls h1 ⟨some ⟨w1.heap.size, 0, none⟩, 1, none, 0⟩ w9 (HIN3'.out.below hb9) (HE8.out.below hb9).gl (HT8.out.below hb9))
  rw [show lenH h1 = (encH h1).length from if_pos err_h1, ← HQ.out] at HLE
  have HE9 := Lib.hid (HE8.out.below hb9)
  have HT9 := Lib.hid (HT8.out.below hb9)
  have HW9 := Lib.hid (HLN.out.below hb9)
  clear hb9 hbk3 HEQ k0 k1 k2 k3 k4 k5 HIN3 HIN8 HIN7 HIN6
  go_wp2_with (fail)
  refine HLE.out.mono ?_
  rintro e w10 ⟨rfl, hb10⟩
  have HB10 := Lib.hid (below_then HB9.out HB9.out.size hb10)
  have HE10 := Lib.hid (HE9.out.below hb10)
  have HLH := Lib.hid (Len_calls hd0 ⟨none, 0, none, 0⟩ w10 (hdin_nil _ 0 0 0 0 (by decide)) (HE9.out.below hb10).gl (HT9.out.below hb10))
  rw [len_hd0] at HLH
  have HLW := Lib.hid (len_calls g S3 _ w10 (HW9.out.below hb10))
  clear hb10 HLE c0 c1 c2 c3 c4 c5
  go_wp2_with (fail)
  refine HLW.out.mono ?_
  rintro e w11 ⟨rfl, rfl⟩
  go_wp2_with (fail)
  refine HLH.out.mono ?_
  rintro e w12 ⟨rfl, hb12⟩
  have HB12 := Lib.hid (below_then HB10.out HB10.out.size hb12)
  have HCO := Lib.hid (code_calls (HE10.out.below hb12))
  rw [show codeOf (plc (21 : Nat) pSchema 0) .nilIface = 21 from rfl] at HCO
  clear hb12 HLH HLW
  go_wp2_with (fail)
  refine HCO.out.mono ?_
  rintro e w13 ⟨rfl, hb13⟩
  have HB13 := Lib.hid (below_then HB12.out HB12.out.size hb13)
  clear hb13 HCO
  go_wp2
  go_ret
  exact ⟨rfl, below_then HB3.out HB3.out.size HB13.out⟩
end Go.Proofs.YtjfekjbmgckkcaaDoor.Law14B

/- the reference of layer 6: what is right; the union. -/
namespace Go.Proofs.YtjfekjbmgckkcaaDoor.Ref06K
open Go.RowKit Go.Proofs.YtjfekjbmgckkcaaDoorW.PrintWords
open Go.Proofs.YtjfekjbmgckkcaaDoor.Base Go.Proofs.YtjfekjbmgckkcaaDoor.SpanPure Go.Proofs.YtjfekjbmgckkcaaDoor.SpanBase Go.Proofs.YtjfekjbmgckkcaaDoor.SpanA Go.Proofs.YtjfekjbmgckkcaaDoor.SpanB 

set_option maxRecDepth 100000 in
set_option maxHeartbeats 3200000 in
theorem check_calls (A : Option Addr) (c : Nat) (l : List Sp) (w : World) (hr : RdSp w A l) (hm : l.length ≤ 1000000000) :
    Calls Tryd.prog 63 #[.slice A l.length c] w fun e w' => e = .returned (.int .i64 (chk l)) ∧ Below w.heap.size w w' := by
  have HR := Lib.hid hr
  clear hr
  by_cases h1 : 1024 < l.length
  · rw [show chk l = 12 from if_pos h1]
    have d1 : decide ((l.length : Int) > 1024) = true := by simp; omega
    have d1' : decide (1024 < (l.length : Int)) = true := by simp; omega
    have d1n : decide (1024 < l.length) = true := by simp; omega
    go_enter Tryd.func63, Tryd.ntmps63
    go_wp2
    go_ret
    exact ⟨rfl, Below.refl _ _⟩
  have d1 : decide ((l.length : Int) > 1024) = false := by simp; omega
  have d1' : decide (1024 < (l.length : Int)) = false := by simp; omega
  have d1n : decide (1024 < l.length) = false := by simp; omega
  have HYES : Hid (rightF true 0 0 l = true → chk l = 0) := Lib.hid (fun h => by rw [chk, if_neg h1, if_pos h])
  have HNO : Hid (rightF true 0 0 l = false → Ending.returned (.int .i64 20) = .returned (.int .i64 (chk l))) := Lib.hid (fun h => by rw [chk, if_neg h1, h]; rfl)
  clear h1
  go_enter Tryd.func63, Tryd.ntmps63
  go_wp2
  go_loopw [3, 4, 5] (fun t n i wr => ∃ (k : Nat) (a m : Int), k ≤ l.length ∧ i = .int .i64 k ∧ t = .int .i64 a ∧ n = .int .i64 m ∧ -1048576 ≤ a ∧ a ≤ 1048577 ∧ 0 ≤ m ∧ m ≤ 4096 ∧ Hid (k = 0 → a = 0) ∧ Hid (rightF true 0 0 l = rightF (decide (k = 0)) a m (l.drop k)) ∧ Below w.heap.size w wr) (fun _ _ i _ => l.length - (intOf i).toNat)
  case atStart => exact ⟨0, 0, 0, by omega, rfl, rfl, rfl, by omega, by omega, by omega, by omega, Lib.hid (fun _ => rfl), Lib.hid rfl, Below.refl _ _⟩
  case round =>
    obtain ⟨k, a, m, hk, rfl, rfl, rfl, ha1, ha2, hm1, hm2, hz, hd, hb⟩ := hrel
    have HB := Lib.hid hb
    have hsz := hb.size
    by_cases hlt : k < l.length
    · obtain ⟨ad, hA, c0, c1⟩ := (HR.out.below hb).at_ k hlt
      subst hA
      have HD := Lib.hid (show l.drop k = l[k] :: l.drop (k + 1) from List.drop_eq_getElem_cons hlt)
      obtain ⟨s, hs⟩ : ∃ s, s = l[k] := ⟨_, rfl⟩
      rw [← hs] at c0 c1 HD
      obtain ⟨o, q⟩ := s
      simp only at c0 c1
      have HX := Lib.hid (right_step k a m o q (l.drop (k + 1)))
      have HZ : Hid (0 < k ∨ a = 0) := Lib.hid (by rcases Nat.eq_zero_or_pos k with h | h; exact .inr (hz.out h); exact .inl h)
      clear hs hb
      by_cases hg : -1048576 ≤ o ∧ o ≤ 2097152 ∧ (k = 0 → o ≤ 1048576) ∧ (0 < k → 0 ≤ o) ∧ 0 ≤ q ∧ q ≤ 4096
      · obtain ⟨g1, g2, g3, g4, g5, g6⟩ := hg
        obtain ⟨Q, rfl⟩ := Int.eq_ofNat_of_zero_le g5
        have t1 : decide (o < -1048576) = false := by simp; omega
        have t2 : decide (o > 2097152) = false := by simp; omega
        have t2' : decide (2097152 < o) = false := by simp; omega
        have t5 : decide ((Q : Int) < 0) = false := by simp
        have t6 : decide ((Q : Int) > 4096) = false := by simp; omega
        have t6' : decide (4096 < (Q : Int)) = false := by simp; omega
        have t6n : decide (4096 < Q) = false := by simp; omega
        have hz0 := HZ.out
        have ho1 : -1048576 ≤ a + o ∨ True := .inr trivial
        have HK : Hid (∀ (K : Bool), K = decide (k = 0) → True) := Lib.hid (fun _ _ => trivial)
        by_cases hat : -1048576 ≤ a + o ∧ a + o ≤ 1048576
        · obtain ⟨D, hD⟩ : ∃ D, D = a + o := ⟨_, rfl⟩
          have HF : Hid (1048577 < D + (Q : Int) ∨ 4096 < m + (Q : Int) → rightF true 0 0 l = false) := Lib.hid (fun h => by
            rw [hd.out, HD.out, HX.out, decide_eq_false (by omega)]; rfl)
          have HT : Hid (D + (Q : Int) ≤ 1048577 → m + (Q : Int) ≤ 4096 → rightF true 0 0 l = rightF (decide (k + 1 = 0)) (D + (Q : Int)) (m + (Q : Int)) (l.drop (k + 1))) := Lib.hid (fun h h' => by
            rw [hd.out, HD.out, HX.out, decide_eq_true (by omega), ← hD]; rfl)
          rw [← hD] at hat
          obtain ⟨hat1, hat2⟩ := hat
          have u1 : decide (D < -1048576) = false := by simp; omega
          have u2 : decide (D > 1048576) = false := by simp; omega
          have u2' : decide (1048576 < D) = false := by simp; omega
          have hDD := hD
          have HCONT : Hid (∀ (wq : World), Below w.heap.size w wq → D + (Q : Int) ≤ 1048577 → m + (Q : Int) ≤ 4096 → ∃ (k' : Nat) (a' m' : Int), k' ≤ l.length ∧ Value.int .i64 ((k : Int) + 1) = .int .i64 k' ∧ Value.int .i64 (D + (Q : Int)) = .int .i64 a' ∧ Value.int .i64 (m + (Q : Int)) = .int .i64 m' ∧ -1048576 ≤ a' ∧ a' ≤ 1048577 ∧ 0 ≤ m' ∧ m' ≤ 4096 ∧ Hid (k' = 0 → a' = 0) ∧ Hid (rightF true 0 0 l = rightF (decide (k' = 0)) a' m' (l.drop k')) ∧ Below w.heap.size w wq) := Lib.hid (by
            intro wq h1 h2 h3
            exact ⟨k + 1, D + (Q : Int), m + (Q : Int), by omega, by go_num, rfl, rfl, by omega, by omega, by omega, by omega, Lib.hid (fun h => by omega), Lib.hid (HT.out h2 h3), h1⟩)
          clear hz HX HZ HD hd HK ho1 HT
          have HDD := Lib.hid hD
          obtain ⟨wo, rfl⟩ : ∃ wo : World, wo = wr := ⟨_, rfl⟩
          have hcase : (((k : Int) == 0) = true ∧ decide ((k : Int) > 0) = false ∧ decide (0 < (k : Int)) = false ∧ decide (0 < k) = false ∧ decide (o > 1048576) = false ∧ decide (1048576 < o) = false) ∨
              (((k : Int) == 0) = false ∧ decide ((k : Int) > 0) = true ∧ decide (0 < (k : Int)) = true ∧ decide (0 < k) = true ∧ decide (o < 0) = false ∧ decide (0 > o) = false) := by
            by_cases hk0 : k = 0
            · have := g3 hk0
              left; simp; omega
            · have := g4 (by omega)
              right; simp; omega
          have hao1 : -1048576 ≤ a + o := by omega
          have hao2 : a + o ≤ 1048576 := by omega
          clear g3 g4 hz0 hD hDD
          rcases hcase with ⟨e1, e2, e3, e4, e5, e6⟩ | ⟨e1, e2, e3, e4, e5, e6⟩
          all_goals
            go_wp2_with (fail)
            rw [← HDD.out]
            go_loop [3, 4, 7] (fun t n i => ∃ j : Nat, j ≤ Q ∧ i = .int .i64 j ∧ t = .int .i64 (D + (j : Int)) ∧ n = .int .i64 (m + (j : Int)) ∧ D + (j : Int) ≤ 1048577) (fun _ _ i => Q - (intOf i).toNat)
            case atStart => exact ⟨0, by omega, rfl, by simp, by simp, by omega⟩
            case round =>
              obtain ⟨j, hj, rfl, rfl, rfl, hDj⟩ := hrel
              by_cases hjl : j < Q
              · by_cases hbig : D + (j : Int) = 1048577
                · have v1 : decide (D + (j : Int) > 1048576) = true := by simp; omega
                  have v1' : decide (1048576 < D + (j : Int)) = true := by simp; omega
                  have HN := Lib.hid (HNO.out (HF.out (.inl (by omega))))
                  clear hbig
                  go_wp2
                  go_ret
                  exact ⟨HN.out, HB.out.alloc hsz _⟩
                · have v1 : decide (D + (j : Int) > 1048576) = false := by simp; omega
                  have v1' : decide (1048576 < D + (j : Int)) = false := by simp; omega
                  have hbb : D + (j : Int) ≤ 1048576 := by omega
                  clear hbig
                  go_wp2
                  go_round
                  case rel => exact ⟨j + 1, by omega, by go_num, by go_num, by go_num, by omega⟩
                  case measure => simp [intOf]; omega
              · obtain rfl : j = Q := by omega
                by_cases hbig : 4096 < m + (j : Int)
                · have v1 : decide (m + (j : Int) > 4096) = true := by simp; omega
                  have v1' : decide (4096 < m + (j : Int)) = true := by simp; omega
                  have HN := Lib.hid (HNO.out (HF.out (.inr (by omega))))
                  clear hbig
                  go_wp2
                  go_ret
                  exact ⟨HN.out, HB.out.alloc hsz _⟩
                · have v1 : decide (m + (j : Int) > 4096) = false := by simp; omega
                  have v1' : decide (4096 < m + (j : Int)) = false := by simp; omega
                  have hbb : m + (j : Int) ≤ 4096 := by omega
                  clear hbig
                  go_wp2
                  go_roundw
                  case rel => exact HCONT.out _ (HB.out.alloc hsz _) hDj hbb
                  case measure => simp [intOf]; omega
        · have HN := Lib.hid (HNO.out (by rw [hd.out, HD.out, HX.out, decide_eq_false (by omega)]; rfl))
          have hcase : (((k : Int) == 0) = true ∧ decide ((k : Int) > 0) = false ∧ decide (0 < (k : Int)) = false ∧ decide (0 < k) = false ∧ decide (o > 1048576) = false ∧ decide (1048576 < o) = false) ∨
              (((k : Int) == 0) = false ∧ decide ((k : Int) > 0) = true ∧ decide (0 < (k : Int)) = true ∧ decide (0 < k) = true ∧ decide (o < 0) = false ∧ decide (0 > o) = false) := by
            by_cases hk0 : k = 0
            · have := g3 hk0
              left; simp; omega
            · have := g4 (by omega)
              right; simp; omega
          by_cases hlo : a + o < -1048576
          · have u1 : decide (a + o < -1048576) = true := by simpa using hlo
            clear g3 g4 hz0 hat hz hd HD HX HZ HK ho1 hlo
            rcases hcase with ⟨e1, e2, e3, e4, e5, e6⟩ | ⟨e1, e2, e3, e4, e5, e6⟩
            all_goals
              go_wp2
              go_ret
              exact ⟨HN.out, HB.out.alloc hsz _⟩
          · have u1 : decide (a + o < -1048576) = false := by simp; omega
            have u2 : decide (a + o > 1048576) = true := by simp; omega
            have u2' : decide (1048576 < a + o) = true := by simp; omega
            clear g3 g4 hz0 hat hz hd HD HX HZ HK ho1 hlo
            rcases hcase with ⟨e1, e2, e3, e4, e5, e6⟩ | ⟨e1, e2, e3, e4, e5, e6⟩
            all_goals
              go_wp2
              go_ret
              exact ⟨HN.out, HB.out.alloc hsz _⟩
      · have hz0 := HZ.out
        have HN := Lib.hid (HNO.out (by rw [hd.out, HD.out, HX.out, decide_eq_false (by omega)]; rfl))
        have HG := Lib.hid hg
        clear hz hd HD HX HZ hg hz0
        go_wp2
        all_goals first
          | (go_ret
             exact ⟨HN.out, HB.out.alloc hsz _⟩)
          | (exfalso
             exact HG.out (by omega))
    · obtain rfl : k = l.length := by omega
      have HF : Hid (chk l = 0) := Lib.hid (HYES.out (by rw [hd.out, List.drop_length]; rfl))
      clear hd hz hb
      go_wp2
      go_ret
      exact ⟨by rw [HF.out]; rfl, HB.out⟩
end Go.Proofs.YtjfekjbmgckkcaaDoor.Ref06K

/- the references of layers 9 and 12: a head's schema and threshold; a threshold's byte, its bits, and a reading of them. -/
namespace Go.Proofs.YtjfekjbmgckkcaaDoor.Ref12
open Go.RowKit Go.Proofs.YtjfekjbmgckkcaaDoorW.PrintWords
open Go.Proofs.YtjfekjbmgckkcaaDoor.Bits Go.Proofs.YtjfekjbmgckkcaaDoor.Base Go.Proofs.YtjfekjbmgckkcaaDoor.VarPure Go.Proofs.YtjfekjbmgckkcaaDoor.ThrPure Go.Proofs.YtjfekjbmgckkcaaDoor.HeadA Go.Proofs.YtjfekjbmgckkcaaDoor.HeadK Go.Proofs.YtjfekjbmgckkcaaDoor.Ref01

theorem results_cell1 {fn : Func} {p : Tmp} {ty : TypeId} (h : fn.results = #[.cell p ty]) (tmps : Array Value) (P : Program) (w : World) :
    (results fn tmps).run P w = ((asAddr (tmps.getD p undef)).run P w).andThen fun a w₁ => (loadVar ty a).run P w₁ := by
  simp only [results, h]
  simp [Sem.run_bind, Result.andThen]
  try (split <;> rfl)
theorem results_ttc {fn : Func} {p u v : Tmp} {ty : TypeId} (h : fn.results = #[.tmp u, .tmp v, .cell p ty]) (tmps : Array Value) (P : Program) (w : World) :
    (results fn tmps).run P w = ((asAddr (tmps.getD p undef)).run P w).andThen fun a w₁ => ((loadVar ty a).run P w₁).andThen fun x w₂ => .ok (.tuple #[tmps.getD u undef, tmps.getD v undef, x]) w₂ := by
  simp only [results, h]
  simp [Sem.run_bind, Result.andThen]
  try (split <;> rfl)
theorem results_ctc {fn : Func} {p r v : Tmp} {ty ty2 : TypeId} (h : fn.results = #[.cell p ty, .tmp v, .cell r ty2]) (tmps : Array Value) (P : Program) (w : World) :
    (results fn tmps).run P w = ((asAddr (tmps.getD p undef)).run P w).andThen fun a w₁ => ((loadVar ty a).run P w₁).andThen fun x w₂ =>
      ((asAddr (tmps.getD r undef)).run P w₂).andThen fun b w₃ => ((loadVar ty2 b).run P w₃).andThen fun y w₄ => .ok (.tuple #[x, tmps.getD v undef, y]) w₄ := by
  simp only [results, h]
  simp [Sem.run_bind, Result.andThen]
  try (split <;> rfl)
theorem cut_lo {P : Program} (t : TypeId) (ht : P.underlying t = some .string) (s : ByteArray) (l : List Bool) (n : Nat) (hs : s = txt l) (h : n ≤ l.length) (w : World) : (Instr.slice t (.string s) none (some (.int .i64 n)) none).run P w = .ok (.string (txt (l.take n))) w := by
  subst hs
  rw [run_slice_string_h w t _ ht .i64 _ (Int.natCast_nonneg _) (by rw [txt_size]; omega), Int.toNat_natCast, extract_txt, List.drop_zero, Nat.sub_zero]
theorem cut_hi {P : Program} (t : TypeId) (ht : P.underlying t = some .string) (s : ByteArray) (l : List Bool) (n : Nat) (hs : s = txt l) (h : n ≤ l.length) (w : World) : (Instr.slice t (.string s) (some (.int .i64 n)) none none).run P w = .ok (.string (txt (l.drop n))) w := by
  subst hs
  rw [run_slice_string_l w t _ ht .i64 _ (Int.natCast_nonneg _) (by rw [txt_size]; omega), Int.toNat_natCast, extract_txt, txt_size, List.take_of_length_le (by rw [List.length_drop]; omega)]
theorem cut_mid {P : Program} (t : TypeId) (ht : P.underlying t = some .string) (s : ByteArray) (l : List Bool) (i j : Nat) (hs : s = txt l) (h1 : i ≤ j) (h2 : j ≤ l.length) (w : World) : (Instr.slice t (.string s) (some (.int .i64 i)) (some (.int .i64 j)) none).run P w = .ok (.string (txt ((l.drop i).take (j - i)))) w := by
  subst hs
  rw [Ref04.cut_str t ht _ _ _ (Int.natCast_nonneg _) (by omega) (by rw [txt_size]; omega), Int.toNat_natCast, Int.toNat_natCast, extract_txt]
def headE (s : Int) (z : Nat) : Nat := if s < -4 ∨ 8 < s then 21 else if thrOk z then 0 else 11
theorem headE_s (s : Int) : headE s 0 = shapeE s := by unfold headE shapeE; split <;> rfl
theorem headE_z (z : Nat) : headE 0 z = if thrOk z then 0 else 11 := rfl
theorem Head_calls (s : Int) (z : Nat) (w : World) : Calls Tryd.prog 40 #[.int .i64 s, .int .u64 z] w fun e w' => e = .returned (.int .i64 (headE s z)) ∧ w = w' := by
  by_cases h1 : s < -4
  · have HE : Hid (headE s z = 21) := Lib.hid (if_pos (.inl h1))
    have d1 : decide (s < -4) = true := decide_eq_true h1
    clear h1
    go_enter Tryd.func40, Tryd.ntmps40
    go_wp2
    go_ret
    exact ⟨by rw [HE.out]; rfl, rfl⟩
  · have d1 : decide (s < -4) = false := decide_eq_false h1
    by_cases h2 : 8 < s
    · have HE : Hid (headE s z = 21) := Lib.hid (if_pos (.inr h2))
      have d2 : decide (s > 8) = true := decide_eq_true h2
      have d2' : decide (8 < s) = true := decide_eq_true h2
      clear h1 h2
      go_enter Tryd.func40, Tryd.ntmps40
      go_wp2
      go_ret
      exact ⟨by rw [HE.out]; rfl, rfl⟩
    · have d2 : decide (s > 8) = false := decide_eq_false h2
      have d2' : decide (8 < s) = false := decide_eq_false h2
      by_cases h3 : z < 9218868437227405312
      · have HE : Hid (headE s z = 0) := Lib.hid (by unfold headE; rw [if_neg (by omega), if_pos (show thrOk z = true from decide_eq_true h3)])
        have d3 : decide ((z : Int) ≥ 9218868437227405312) = false := by simp; omega
        have d3' : decide (9218868437227405312 ≤ (z : Int)) = false := by simp; omega
        have d3n : decide (9218868437227405312 ≤ z) = false := by simp; omega
        clear h1 h2 h3
        go_enter Tryd.func40, Tryd.ntmps40
        go_wp2
        go_ret
        exact ⟨by rw [HE.out]; rfl, rfl⟩
      · have HE : Hid (headE s z = 11) := Lib.hid (by unfold headE; rw [if_neg (by omega), if_neg (by unfold thrOk; rw [decide_eq_true_eq]; exact h3)])
        have d3 : decide ((z : Int) ≥ 9218868437227405312) = true := by simp; omega
        have d3' : decide (9218868437227405312 ≤ (z : Int)) = true := by simp; omega
        have d3n : decide (9218868437227405312 ≤ z) = true := by simp; omega
        clear h1 h2 h3
        go_enter Tryd.func40, Tryd.ntmps40
        go_wp2
        go_ret
        exact ⟨by rw [HE.out]; rfl, rfl⟩
/-- what a reading tells of some bits. -/
def P12 (q : List Bool) (w : World) (e : Ending) (w' : World) : Prop := e = .returned (.tuple #[.int .u64 (parseT q).2.1, .int .i64 (parseT q).2.2, .int .i64 (parseT q).1]) ∧ w = w'
end Go.Proofs.YtjfekjbmgckkcaaDoor.Ref12

/- the reference of layer 14: what is wrong with spans, with a head. -/
namespace Go.Proofs.YtjfekjbmgckkcaaDoor.Ref14A
open Go.RowKit Go.Proofs.YtjfekjbmgckkcaaDoorW.PrintWords
open Go.Proofs.YtjfekjbmgckkcaaDoor.Bits Go.Proofs.YtjfekjbmgckkcaaDoor.Base Go.Proofs.YtjfekjbmgckkcaaDoor.StreamA Go.Proofs.YtjfekjbmgckkcaaDoor.SpanPure Go.Proofs.YtjfekjbmgckkcaaDoor.SpanBase Go.Proofs.YtjfekjbmgckkcaaDoor.ThrPure Go.Proofs.YtjfekjbmgckkcaaDoor.HeadA Go.Proofs.YtjfekjbmgckkcaaDoor.HeadB Go.Proofs.YtjfekjbmgckkcaaDoor.Ref12

set_option maxHeartbeats 1600000 in
theorem Sides_calls (A : Option Addr) (c : Nat) (l : List Sp) (w : World) (hr : RdSp w A l) (hm : l.length ≤ 1000000000) :
    Calls Tryd.prog 41 #[.slice A l.length c] w fun e w' => e = .returned (.int .i64 (sidesE l)) ∧ Below w.heap.size w w' := by
  have HR := Lib.hid hr
  have HC := Lib.hid (Ref06K.check_calls A c l w hr hm)
  clear hr
  by_cases h0 : ¬ chk l = 0
  · have HE : Hid (sidesE l = chk l) := Lib.hid (if_pos h0)
    obtain ⟨k, hk⟩ : ∃ k, k = chk l := ⟨_, rfl⟩
    rw [← hk] at HC HE h0
    have e1 : ((k : Int) != 0) = true := by simp; omega
    clear h0 hk
    go_enter Tryd.func41, Tryd.ntmps41
    go_wp2_with (fail)
    refine HC.out.mono ?_
    rintro e w1 ⟨rfl, hb1⟩
    have B1 := Lib.hid hb1
    clear hb1
    go_wp2
    go_ret
    exact ⟨by rw [HE.out]; rfl, B1.out⟩
  have h0 := Decidable.not_not.1 h0
  rw [h0] at HC
  have HE : Hid (sidesE l = if canonF true l then 0 else 23) := Lib.hid (by unfold sidesE; rw [if_neg (by omega), canonical, h0]; simp)
  clear h0
  go_enter Tryd.func41, Tryd.ntmps41
  go_wp2_with (fail)
  refine HC.out.mono ?_
  rintro e w1 ⟨rfl, hb1⟩
  have B1 := Lib.hid hb1
  have HR1 := Lib.hid (HR.out.below hb1)
  clear hb1 HC
  go_wp2
  go_loop [4] (fun i => ∃ (k : Nat), k ≤ l.length ∧ i = .int .i64 k ∧ Hid (canonF true l = canonF (decide (k = 0)) (l.drop k))) (fun i => l.length - (intOf i).toNat)
  case atStart => exact ⟨0, by omega, rfl, Lib.hid rfl⟩
  case round =>
    obtain ⟨k, hk, rfl, hd⟩ := hrel
    by_cases hlt : k < l.length
    · obtain ⟨ad, hA, c0, c1⟩ := HR1.out.at_ k hlt
      subst hA
      have HD := Lib.hid (show l.drop k = l[k] :: l.drop (k + 1) from List.drop_eq_getElem_cons hlt)
      obtain ⟨s, hs⟩ : ∃ s, s = l[k] := ⟨_, rfl⟩
      rw [← hs] at c0 c1 HD
      obtain ⟨o, q⟩ := s
      simp only at c0 c1
      have HX : Hid (canonF (decide (k = 0)) ((o, q) :: l.drop (k + 1)) = (decide (q ≠ 0 ∧ (0 < k → o ≠ 0)) && canonF (decide (k + 1 = 0)) (l.drop (k + 1)))) := Lib.hid (by
        rw [canonF, decide_eq_false (Nat.succ_ne_zero k)]
        congr 1
        rw [Bool.eq_iff_iff, Bool.and_eq_true, Bool.or_eq_true, decide_eq_true_iff, decide_eq_true_iff, decide_eq_true_iff, decide_eq_true_iff]
        simp only
        omega)
      clear hs
      by_cases h1 : q = 0
      · have e1 : (q == 0) = true := by simpa using h1
        have HF : Hid (canonF true l = false) := Lib.hid (by rw [hd.out, HD.out, HX.out, decide_eq_false (by omega)]; rfl)
        clear h1
        go_wp2
        go_ret
        exact ⟨by rw [HE.out, HF.out]; rfl, B1.out⟩
      · have e1 : (q == 0) = false := by simpa using h1
        by_cases h2 : 0 < k
        · have e2 : decide ((k : Int) > 0) = true := by simp; omega
          have e2' : decide (0 < (k : Int)) = true := by simp; omega
          have e2n : decide (0 < k) = true := by simp; omega
          by_cases h3 : o = 0
          · have e3 : (o == 0) = true := by simpa using h3
            have HF : Hid (canonF true l = false) := Lib.hid (by rw [hd.out, HD.out, HX.out, decide_eq_false (by omega)]; rfl)
            clear h1 h3
            go_wp2
            go_ret
            exact ⟨by rw [HE.out, HF.out]; rfl, B1.out⟩
          · have e3 : (o == 0) = false := by simpa using h3
            have HF : Hid (canonF true l = canonF (decide (k + 1 = 0)) (l.drop (k + 1))) := Lib.hid (by rw [hd.out, HD.out, HX.out, decide_eq_true (by omega)]; rfl)
            clear h1 h3
            go_wp2
            go_round
            case rel => exact ⟨k + 1, by omega, by go_num, HF⟩
            case measure => simp [intOf]; omega
        · have e2 : decide ((k : Int) > 0) = false := by simp; omega
          have e2' : decide (0 < (k : Int)) = false := by simp; omega
          have e2n : decide (0 < k) = false := by simp; omega
          have HF : Hid (canonF true l = canonF (decide (k + 1 = 0)) (l.drop (k + 1))) := Lib.hid (by rw [hd.out, HD.out, HX.out, decide_eq_true (by omega)]; rfl)
          clear h1
          go_wp2
          go_round
          case rel => exact ⟨k + 1, by omega, by go_num, HF⟩
          case measure => simp [intOf]; omega
    · obtain rfl : k = l.length := by omega
      have HF : Hid (canonF true l = true) := Lib.hid (by rw [hd.out, List.drop_length]; rfl)
      clear hd
      go_wp2
      go_ret
      exact ⟨by rw [HE.out, HF.out]; rfl, B1.out⟩
/-- what is wrong, as the reference tells it. -/
def wr (c : Nat) (p : ByteArray) (n : Nat) : Value := if c = 0 then .agg #[.int .i64 0, .string ⟨#[]⟩, .int .i64 0] else .agg #[.int .i64 c, .string p, .int .i64 n]
theorem below_three {n : Nat} {w w1 : World} {b : Nat} (h : Below n w w1) (hb : n ≤ b) (v0 v1 v2 : Value) : Below n w (((w1.setCell ⟨b, 0, none⟩ v0).setCell ⟨b, 1, none⟩ v1).setCell ⟨b, 2, none⟩ v2) :=
  ((h.setCell hb v0).setCell hb v1).setCell hb v2
set_option maxHeartbeats 3200000 in
theorem Check14_calls (h : Hd) (p : Lc) (w : World) (hh : HdIn w h p) :
    Calls Tryd.prog 19 #[.agg (hcs h p).toArray] w fun e w' => e = .returned (wr (headErr h).1 (headErr h).2 0) ∧ Below w.heap.size w w' := by
  obtain ⟨vr, hint, schema, zt, pos, neg⟩ := h
  obtain ⟨A, c, B, d⟩ := p
  obtain ⟨hp, hn, hz⟩ := hh
  simp only at hp hn hz
  show Calls Tryd.prog 19 #[.agg #[.int .i64 vr, .int .i64 hint, .int .i64 schema, .int .u64 zt, .slice A pos.length c, .slice B neg.length d]] w _
  by_cases h1 : vr < 0
  · have HE : Hid (headErr ⟨vr, hint, schema, zt, pos, neg⟩ = (25, pVariant)) := Lib.hid (if_pos (by simp only; omega))
    have d1 : decide (vr < 0) = true := decide_eq_true h1
    clear hp hn
    go_enter Tryd.func19, Tryd.ntmps19
    go_wp2
    refine bodyPost_ret (v := .agg #[.int .i64 25, .string ⟨#[118, 97, 114, 105, 97, 110, 116]⟩, .int .i64 0]) (by rw [results_cell1 rfl]; go_simp) rfl ?_
    exact ⟨by rw [HE.out]; rfl, below_alloc (below_alloc (Below.refl _ _) _) _⟩
  have d1 : decide (vr < 0) = false := decide_eq_false h1
  by_cases h2 : 1 < vr
  · have HE : Hid (headErr ⟨vr, hint, schema, zt, pos, neg⟩ = (25, pVariant)) := Lib.hid (if_pos (by simp only; omega))
    have d2 : decide (vr > 1) = true := decide_eq_true h2
    have d2' : decide (1 < vr) = true := decide_eq_true h2
    clear hp hn
    go_enter Tryd.func19, Tryd.ntmps19
    go_wp2
    refine bodyPost_ret (v := .agg #[.int .i64 25, .string ⟨#[118, 97, 114, 105, 97, 110, 116]⟩, .int .i64 0]) (by rw [results_cell1 rfl]; go_simp) rfl ?_
    exact ⟨by rw [HE.out]; rfl, below_alloc (below_alloc (Below.refl _ _) _) _⟩
  have d2 : decide (vr > 1) = false := decide_eq_false h2
  have d2' : decide (1 < vr) = false := decide_eq_false h2
  have n1 : ¬ (vr ≠ 0 ∧ vr ≠ 1) := by omega
  by_cases h3 : hint < 0
  · have HE : Hid (headErr ⟨vr, hint, schema, zt, pos, neg⟩ = (26, pHint)) := Lib.hid (by unfold headErr; simp only; rw [if_neg n1, if_pos (.inl h3)])
    have d3 : decide (hint < 0) = true := decide_eq_true h3
    clear hp hn
    go_enter Tryd.func19, Tryd.ntmps19
    go_wp2
    refine bodyPost_ret (v := .agg #[.int .i64 26, .string ⟨#[104, 105, 110, 116]⟩, .int .i64 0]) (by rw [results_cell1 rfl]; go_simp) rfl ?_
    exact ⟨by rw [HE.out]; rfl, below_alloc (below_alloc (Below.refl _ _) _) _⟩
  have d3 : decide (hint < 0) = false := decide_eq_false h3
  by_cases h4 : 3 < hint
  · have HE : Hid (headErr ⟨vr, hint, schema, zt, pos, neg⟩ = (26, pHint)) := Lib.hid (by unfold headErr; simp only; rw [if_neg n1, if_pos (.inr h4)])
    have d4 : decide (hint > 3) = true := decide_eq_true h4
    have d4' : decide (3 < hint) = true := decide_eq_true h4
    clear hp hn
    go_enter Tryd.func19, Tryd.ntmps19
    go_wp2
    refine bodyPost_ret (v := .agg #[.int .i64 26, .string ⟨#[104, 105, 110, 116]⟩, .int .i64 0]) (by rw [results_cell1 rfl]; go_simp) rfl ?_
    exact ⟨by rw [HE.out]; rfl, below_alloc (below_alloc (Below.refl _ _) _) _⟩
  have d4 : decide (hint > 3) = false := decide_eq_false h4
  have d4' : decide (3 < hint) = false := decide_eq_false h4
  have n2 : ¬ (hint < 0 ∨ 3 < hint) := by omega
  have H1 := Lib.hid (fun W => Head_calls schema 0 W)
  have H2 := Lib.hid (fun W => Head_calls 0 zt W)
  rw [headE_s] at H1
  rw [headE_z] at H2
  clear h1 h2 h3 h4
  by_cases h5 : shapeE schema ≠ 0
  · have h21 : shapeE schema = 21 := by unfold shapeE at h5 ⊢; by_cases hs : schema < -4 ∨ 8 < schema; exact if_pos hs; rw [if_neg hs] at h5; exact absurd rfl h5
    have HE : Hid (headErr ⟨vr, hint, schema, zt, pos, neg⟩ = (21, pSchema)) := Lib.hid (by unfold headErr; simp only; rw [if_neg n1, if_neg n2, if_pos h5])
    rw [h21] at H1
    clear hp hn n1 n2 h5 h21 H2
    go_enter Tryd.func19, Tryd.ntmps19
    go_wp2_with (fail)
    refine (H1.out _).mono ?_
    rintro e w9 ⟨rfl, rfl⟩
    go_wp2
    refine bodyPost_ret (v := .agg #[.int .i64 21, .string ⟨#[115, 99, 104, 101, 109, 97]⟩, .int .i64 0]) (by rw [results_cell1 rfl]; go_simp) rfl ?_
    exact ⟨by rw [HE.out]; rfl, below_alloc (below_alloc (Below.refl _ _) _) _⟩
  rw [Decidable.not_not.1 h5] at H1
  cases hk : thrOk zt with
  | false =>
    have HE : Hid (headErr ⟨vr, hint, schema, zt, pos, neg⟩ = (11, pZero)) := Lib.hid (by unfold headErr; simp only; rw [if_neg n1, if_neg n2, if_neg h5, if_pos hk])
    rw [hk] at H2
    clear hp hn n1 n2 h5 hk
    go_enter Tryd.func19, Tryd.ntmps19
    go_wp2_with (fail)
    refine (H1.out _).mono ?_
    rintro e w9 ⟨rfl, rfl⟩
    go_wp2_with (fail)
    refine (H2.out _).mono ?_
    rintro e w9 ⟨rfl, rfl⟩
    go_wp2
    refine bodyPost_ret (v := .agg #[.int .i64 11, .string ⟨#[122, 101, 114, 111]⟩, .int .i64 0]) (by rw [results_cell1 rfl]; go_simp) rfl ?_
    exact ⟨by rw [HE.out]; rfl, below_alloc (below_alloc (Below.refl _ _) _) _⟩
  | true =>
    rw [hk] at H2
    have hb0 := below_alloc (below_alloc (Below.refl w.heap.size w) (.cells #[.int .i64 vr, .int .i64 hint, .int .i64 schema, .int .u64 zt, .slice A pos.length c, .slice B neg.length d] 50)) (.cells #[.int .i64 0, .string ⟨#[]⟩, .int .i64 0] 53)
    have HK0 := Lib.hid ((Below.heap_alloc (w.alloc (.cells #[.int .i64 vr, .int .i64 hint, .int .i64 schema, .int .u64 zt, .slice A pos.length c, .slice B neg.length d] 50)) (.cells #[.int .i64 0, .string ⟨#[]⟩, .int .i64 0] 53) w.heap.size (blk_lt (blk_last w _))).trans (blk_last w _))
    have HK1 := Lib.hid (blk_last (w.alloc (.cells #[.int .i64 vr, .int .i64 hint, .int .i64 schema, .int .u64 zt, .slice A pos.length c, .slice B neg.length d] 50)) (.cells #[.int .i64 0, .string ⟨#[]⟩, .int .i64 0] 53))
    rw [show (w.alloc (.cells #[.int .i64 vr, .int .i64 hint, .int .i64 schema, .int .u64 zt, .slice A pos.length c, .slice B neg.length d] 50)).heap.size = w.heap.size + 1 from by simp] at HK1
    have HSP := Lib.hid (Sides_calls A c pos _ (hp.below hb0).rd (by have := hp.len; omega))
    have HSN := Lib.hid (fun W (h : Below w.heap.size w W) => Sides_calls B d neg W (hn.below h).rd (by have := hn.len; omega))
    have HB0 := Lib.hid hb0
    have HN : Hid (headErr ⟨vr, hint, schema, zt, pos, neg⟩ = if sidesE pos ≠ 0 then (sidesE pos, pPos) else (sidesE neg, pNeg)) := Lib.hid (by unfold headErr; simp only; rw [if_neg n1, if_neg n2, if_neg h5, if_neg (by rw [hk]; decide)])
    obtain ⟨sp, hsp⟩ : ∃ x, x = sidesE pos := ⟨_, rfl⟩
    rw [← hsp] at HSP HN
    clear hp hn n1 n2 h5 hk hb0 hsp
    by_cases h6 : sp ≠ 0
    · have HE : Hid (headErr ⟨vr, hint, schema, zt, pos, neg⟩ = (sp, pPos)) := Lib.hid (by rw [HN.out, if_pos h6])
      have e6 : ((sp : Int) != 0) = true := by simp; omega
      have HW : Hid (wr sp pPos 0 = .agg #[.int .i64 sp, .string pPos, .int .i64 0]) := Lib.hid (if_neg h6)
      clear h6 HN
      go_enter Tryd.func19, Tryd.ntmps19
      go_wp2_with (fail)
      refine (H1.out _).mono ?_
      rintro e w9 ⟨rfl, rfl⟩
      go_wp2_with (fail)
      refine (H2.out _).mono ?_
      rintro e w9 ⟨rfl, rfl⟩
      go_wp2_with (fail)
      refine HSP.out.mono ?_
      rintro e w3 ⟨rfl, hb3⟩
      have HB3 := Lib.hid (below_then HB0.out HB0.out.size hb3)
      have hk0 := (Ch.of_below (S := fun _ => False) hb3).blk HK0.out (fun x => x)
      have hk1 := (Ch.of_below (S := fun _ => False) hb3).blk HK1.out (fun x => x)
      have c0 := obj_cell (i := 0) hk1 rfl
      have c1 := obj_cell (i := 1) hk1 rfl
      have c2 := obj_cell (i := 2) hk1 rfl
      have f0 := obj_free (i := 0) hk1
      have f1 := obj_free (i := 1) hk1
      have f2 := obj_free (i := 2) hk1
      clear hb3 hk0 hk1
      go_wp2
      refine bodyPost_ret (v := .agg #[.int .i64 sp, .string ⟨#[112, 111, 115]⟩, .int .i64 0]) (by rw [results_cell1 rfl]; go_simp) rfl ?_
      exact ⟨by rw [HE.out, HW.out]; rfl, below_three HB3.out (Nat.le_succ _) _ _ _⟩
    have h6 := Decidable.not_not.1 h6
    rw [h6] at HSP
    obtain ⟨sn, hsn⟩ : ∃ x, x = sidesE neg := ⟨_, rfl⟩
    rw [← hsn] at HSN HN
    have HE : Hid (headErr ⟨vr, hint, schema, zt, pos, neg⟩ = (sn, pNeg)) := Lib.hid (by rw [HN.out, if_neg (by omega)])
    clear h6 HN hsn
    go_enter Tryd.func19, Tryd.ntmps19
    go_wp2_with (fail)
    refine (H1.out _).mono ?_
    rintro e w9 ⟨rfl, rfl⟩
    go_wp2_with (fail)
    refine (H2.out _).mono ?_
    rintro e w9 ⟨rfl, rfl⟩
    go_wp2_with (fail)
    refine HSP.out.mono ?_
    rintro e w3 ⟨rfl, hb3⟩
    have HB3 := Lib.hid (below_then HB0.out HB0.out.size hb3)
    have hk0 := (Ch.of_below (S := fun _ => False) hb3).blk HK0.out (fun x => x)
    have hk1 := (Ch.of_below (S := fun _ => False) hb3).blk HK1.out (fun x => x)
    have c0 := obj_cell (i := 0) hk0 rfl
    have c1 := obj_cell (i := 1) hk0 rfl
    have c2 := obj_cell (i := 2) hk0 rfl
    have c3 := obj_cell (i := 3) hk0 rfl
    have c4 := obj_cell (i := 4) hk0 rfl
    have c5 := obj_cell (i := 5) hk0 rfl
    have HK3 := Lib.hid hk1
    clear hb3 hk0 hk1
    go_wp2_with (fail)
    refine (HSN.out _ HB3.out).mono ?_
    rintro e w4 ⟨rfl, hb4⟩
    have HB4 := Lib.hid (below_then HB3.out HB3.out.size hb4)
    have hk1 := (Ch.of_below (S := fun _ => False) hb4).blk HK3.out (fun x => x)
    clear c0
    clear c1
    clear c2
    clear c3
    clear c4
    clear c5
    have c0 := obj_cell (i := 0) hk1 rfl
    have c1 := obj_cell (i := 1) hk1 rfl
    have c2 := obj_cell (i := 2) hk1 rfl
    have f0 := obj_free (i := 0) hk1
    have f1 := obj_free (i := 1) hk1
    have f2 := obj_free (i := 2) hk1
    clear hb4 hk1
    by_cases h7 : sn = 0
    · subst h7
      go_wp2
      refine bodyPost_ret (v := .agg #[.int .i64 0, .string ⟨#[]⟩, .int .i64 0]) (by rw [results_cell1 rfl]; go_simp) rfl ?_
      exact ⟨by rw [HE.out]; rfl, below_three HB4.out (Nat.le_succ _) _ _ _⟩
    · have e7 : ((sn : Int) != 0) = true := by simp; omega
      have HW : Hid (wr sn pNeg 0 = .agg #[.int .i64 sn, .string pNeg, .int .i64 0]) := Lib.hid (if_neg h7)
      clear h7
      go_wp2
      refine bodyPost_ret (v := .agg #[.int .i64 sn, .string ⟨#[110, 101, 103]⟩, .int .i64 0]) (by rw [results_cell1 rfl]; go_simp) rfl ?_
      exact ⟨by rw [HE.out, HW.out]; rfl, below_three HB4.out (Nat.le_succ _) _ _ _⟩
end Go.Proofs.YtjfekjbmgckkcaaDoor.Ref14A

/- law 14: are two heads one; a head as the document has it; is an error just what is wrong. -/
namespace Go.Proofs.YtjfekjbmgckkcaaDoor.Law14C
open Go.RowKit Go.Proofs.YtjfekjbmgckkcaaDoorW.PrintWords
open Go.Proofs.YtjfekjbmgckkcaaDoor.Bits Go.Proofs.YtjfekjbmgckkcaaDoor.Base Go.Proofs.YtjfekjbmgckkcaaDoor.VarKit Go.Proofs.YtjfekjbmgckkcaaDoor.StreamA Go.Proofs.YtjfekjbmgckkcaaDoor.SpanPure Go.Proofs.YtjfekjbmgckkcaaDoor.SpanBase Go.Proofs.YtjfekjbmgckkcaaDoor.FailAs Go.Proofs.YtjfekjbmgckkcaaDoor.FailB Go.Proofs.YtjfekjbmgckkcaaDoor.FailC Go.Proofs.YtjfekjbmgckkcaaDoor.HeadA Go.Proofs.YtjfekjbmgckkcaaDoor.HeadB Go.Proofs.YtjfekjbmgckkcaaDoor.HeadC Go.Proofs.YtjfekjbmgckkcaaDoor.HeadE Go.Proofs.YtjfekjbmgckkcaaDoor.Ref12 Go.Proofs.YtjfekjbmgckkcaaDoor.Ref14A Go.Proofs.YtjfekjbmgckkcaaDoor.Law14A Go.Proofs.YtjfekjbmgckkcaaDoor.HeadL

set_option maxHeartbeats 1600000 in
theorem same_calls (A B : Option Addr) (c d : Nat) (a b : List Sp) (w : World) (ha : RdSp w A a) (hb : RdSp w B b) (hma : a.length ≤ 1000000000) (hmb : b.length ≤ 1000000000) :
    Calls Tryd.prog 38 #[.slice A a.length c, .slice B b.length d] w fun e w' => e = .returned (.bool (decide (a = b))) ∧ Drawn0 w w' := by
  have HA := Lib.hid ha
  have HB := Lib.hid hb
  clear ha hb
  by_cases hl : a.length = b.length
  · have hlb : ((a.length : Int) != (b.length : Int)) = false := by simp [hl]
    have hlc : ((a.length : Int) == (b.length : Int)) = true := by simp [hl]
    have HL := Lib.hid hl
    clear hl
    go_enter Tryd.func38, Tryd.ntmps38
    go_wp2
    repeat (go_quiet (fail); try go_wp2)
    go_loopw [13] (fun i wr => ∃ k : Nat, k ≤ a.length ∧ i = .int .i64 k ∧ Hid (a.take k = b.take k) ∧ Drawn0 w wr) (fun i _ => a.length - (intOf i).toNat)
    case atStart => exact ⟨0, by omega, rfl, rfl, by repeat (first | exact Drawn0.refl _ | apply Drawn0.step)⟩
    case round =>
      obtain ⟨k, hk, rfl, ht, ⟨m, rfl⟩⟩ := hrel
      by_cases hlt : k < a.length
      · have hlt2 : k < b.length := by have := HL.out; omega
        obtain ⟨ad, rfl, hc, hc'⟩ := HA.out.at_ k hlt
        obtain ⟨bd, rfl, hd, hd'⟩ := HB.out.at_ k hlt2
        by_cases he : a[k] = b[k]
        · have HT : Hid (a.take (k + 1) = b.take (k + 1)) := Lib.hid (by rw [List.take_succ_eq_append_getElem hlt, List.take_succ_eq_append_getElem hlt2, ht.out, he])
          rw [← he] at hd hd'
          obtain ⟨⟨o, q⟩, hs⟩ : ∃ s, s = a[k] := ⟨_, rfl⟩
          rw [← hs] at hc hc' hd hd'
          simp only at hc hc' hd hd'
          clear ht he hs
          go_wp2_with (fail)
          go_quiet (fail)
          go_wp2
          go_roundw
          case rel => exact ⟨k + 1, by omega, by go_num, HT, by repeat (first | exact Drawn0.refl _ | apply Drawn0.step)⟩
          case measure => simp [intOf]; omega
        · have HF : Hid (decide (a = b) = false) := Lib.hid (by
            rw [decide_eq_false]
            rintro rfl
            exact he rfl)
          obtain ⟨⟨o, q⟩, hs⟩ : ∃ s, s = a[k] := ⟨_, rfl⟩
          obtain ⟨⟨o2, q2⟩, hs2⟩ : ∃ s, s = b[k] := ⟨_, rfl⟩
          rw [← hs] at hc hc' he
          rw [← hs2] at hd hd' he
          simp only at hc hc' hd hd'
          by_cases h1 : o = o2
          · have h2 : ¬ q = q2 := fun h => he (by rw [h1, h])
            subst h1
            have e1 : (q == q2) = false := by simpa using h2
            have e2 : (q != q2) = true := by simpa using h2
            clear ht he hs hs2 h2
            go_wp2_with (fail)
            go_quiet (fail)
            go_wp2
            go_ret
            exact ⟨by rw [HF.out]; rfl, by repeat (first | exact Drawn0.refl _ | apply Drawn0.step)⟩
          · have e1 : (o == o2) = false := by simpa using h1
            have e2 : (o != o2) = true := by simpa using h1
            clear ht he hs hs2 h1
            go_wp2_with (fail)
            go_quiet (fail)
            go_wp2
            go_ret
            exact ⟨by rw [HF.out]; rfl, by repeat (first | exact Drawn0.refl _ | apply Drawn0.step)⟩
      · obtain rfl : k = a.length := by omega
        have HT : Hid (decide (a = b) = true) := Lib.hid (decide_eq_true (by have h := ht.out; rw [List.take_length, HL.out, List.take_length] at h; exact h))
        clear ht
        go_wp2
        repeat (go_quiet (fail); try go_wp2)
        go_ret
        exact ⟨by rw [HT.out]; rfl, by repeat (first | exact Drawn0.refl _ | apply Drawn0.step)⟩
  · have hlb : ((a.length : Int) != (b.length : Int)) = true := by simp; omega
    have hlc : ((a.length : Int) == (b.length : Int)) = false := by simp; omega
    have HT := Lib.hid (show decide (a = b) = false from decide_eq_false fun h => hl (by rw [h]))
    clear hl
    go_enter Tryd.func38, Tryd.ntmps38
    go_wp2
    repeat (go_quiet (fail); try go_wp2)
    go_ret
    exact ⟨by rw [HT.out]; rfl, by repeat (first | exact Drawn0.refl _ | apply Drawn0.step)⟩
set_option maxRecDepth 100000 in
set_option maxHeartbeats 3200000 in
theorem one_calls (x y : Hd) (p r : Lc) (w : World) (hx : HdIn w x p) (hy : HdIn w y r) :
    Calls Tryd.prog 17 #[.agg (hcs x p).toArray, .agg (hcs y r).toArray] w fun e w' => e = .returned (.bool (eqH x y)) ∧ Below w.heap.size w w' := by
  obtain ⟨v1, i1, s1, z1, l1, m1⟩ := x
  obtain ⟨v2, i2, s2, z2, l2, m2⟩ := y
  obtain ⟨A, c, B, d⟩ := p
  obtain ⟨A', c', B', d'⟩ := r
  obtain ⟨hl1, hm1, -⟩ := hx
  obtain ⟨hl2, hm2, -⟩ := hy
  simp only at hl1 hm1 hl2 hm2
  show Calls Tryd.prog 17 #[.agg #[.int .i64 v1, .int .i64 i1, .int .i64 s1, .int .u64 z1, .slice A l1.length c, .slice B m1.length d], .agg #[.int .i64 v2, .int .i64 i2, .int .i64 s2, .int .u64 z2, .slice A' l2.length c', .slice B' m2.length d']] w _
  have HL := Lib.hid (fun W (h : Below w.heap.size w W) => same_calls A A' c c' l1 l2 W (hl1.below h).rd (hl2.below h).rd (by have := hl1.len; omega) (by have := hl2.len; omega))
  have HM := Lib.hid (fun W (h : Below w.heap.size w W) => same_calls B B' d d' m1 m2 W (hm1.below h).rd (hm2.below h).rd (by have := hm1.len; omega) (by have := hm2.len; omega))
  have HB := Lib.hid (below_alloc (below_alloc (Below.refl w.heap.size w) (.cells #[.int .i64 v1, .int .i64 i1, .int .i64 s1, .int .u64 z1, .slice A l1.length c, .slice B m1.length d] 50)) (.cells #[.int .i64 v2, .int .i64 i2, .int .i64 s2, .int .u64 z2, .slice A' l2.length c', .slice B' m2.length d'] 50))
  clear hl1 hm1 hl2 hm2
  by_cases hv1 : ¬ v1 = v2
  · have HF : Hid (eqH ⟨v1, i1, s1, z1, l1, m1⟩ ⟨v2, i2, s2, z2, l2, m2⟩ = false) := Lib.hid (decide_eq_false fun h => hv1 (by injection h))
    have ev1 : (v1 == v2) = false := by simp; omega
    clear hv1
    go_enter Tryd.func17, Tryd.ntmps17
    go_wp2
    go_ret
    exact ⟨by rw [HF.out]; rfl, HB.out⟩
  have hv1 := Decidable.not_not.1 hv1
  subst hv1
  by_cases hi1 : ¬ i1 = i2
  · have HF : Hid (eqH ⟨v1, i1, s1, z1, l1, m1⟩ ⟨v1, i2, s2, z2, l2, m2⟩ = false) := Lib.hid (decide_eq_false fun h => hi1 (by injection h))
    have ei1 : (i1 == i2) = false := by simp; omega
    clear hi1
    go_enter Tryd.func17, Tryd.ntmps17
    go_wp2
    go_ret
    exact ⟨by rw [HF.out]; rfl, HB.out⟩
  have hi1 := Decidable.not_not.1 hi1
  subst hi1
  by_cases hs1 : ¬ s1 = s2
  · have HF : Hid (eqH ⟨v1, i1, s1, z1, l1, m1⟩ ⟨v1, i1, s2, z2, l2, m2⟩ = false) := Lib.hid (decide_eq_false fun h => hs1 (by injection h))
    have es1 : (s1 == s2) = false := by simp; omega
    clear hs1
    go_enter Tryd.func17, Tryd.ntmps17
    go_wp2
    go_ret
    exact ⟨by rw [HF.out]; rfl, HB.out⟩
  have hs1 := Decidable.not_not.1 hs1
  subst hs1
  by_cases hz1 : ¬ z1 = z2
  · have HF : Hid (eqH ⟨v1, i1, s1, z1, l1, m1⟩ ⟨v1, i1, s1, z2, l2, m2⟩ = false) := Lib.hid (decide_eq_false fun h => hz1 (by injection h))
    have ez1 : (((z1 : Int)) == ((z2 : Int))) = false := by simp; omega
    clear hz1
    go_enter Tryd.func17, Tryd.ntmps17
    go_wp2
    go_ret
    exact ⟨by rw [HF.out]; rfl, HB.out⟩
  have hz1 := Decidable.not_not.1 hz1
  subst hz1
  by_cases hl1 : ¬ l1 = l2
  · have HF : Hid (eqH ⟨v1, i1, s1, z1, l1, m1⟩ ⟨v1, i1, s1, z1, l2, m2⟩ = false) := Lib.hid (decide_eq_false fun h => hl1 (by injection h))
    rw [decide_eq_false hl1] at HL
    clear hl1
    go_enter Tryd.func17, Tryd.ntmps17
    go_wp2_with (fail)
    refine (HL.out _ HB.out).mono ?_
    rintro e w' ⟨rfl, ⟨n1, rfl⟩⟩
    go_wp2
    go_ret
    exact ⟨by rw [HF.out]; rfl, below_drewN HB.out _⟩
  have hl1 := Decidable.not_not.1 hl1
  rw [decide_eq_true hl1] at HL
  subst hl1
  by_cases hm1 : ¬ m1 = m2
  · have HF : Hid (eqH ⟨v1, i1, s1, z1, l1, m1⟩ ⟨v1, i1, s1, z1, l1, m2⟩ = false) := Lib.hid (decide_eq_false fun h => hm1 (by injection h))
    rw [decide_eq_false hm1] at HM
    clear hm1
    go_enter Tryd.func17, Tryd.ntmps17
    go_wp2_with (fail)
    refine (HL.out _ HB.out).mono ?_
    rintro e w' ⟨rfl, ⟨n1, rfl⟩⟩
    go_wp2_with (fail)
    refine (HM.out _ (below_drewN HB.out _)).mono ?_
    rintro e w' ⟨rfl, ⟨n2, rfl⟩⟩
    go_wp2
    go_ret
    exact ⟨by rw [HF.out]; rfl, below_drewN HB.out _⟩
  have hm1 := Decidable.not_not.1 hm1
  rw [decide_eq_true hm1] at HM
  subst hm1
  have HF : Hid (eqH ⟨v1, i1, s1, z1, l1, m1⟩ ⟨v1, i1, s1, z1, l1, m1⟩ = true) := Lib.hid (decide_eq_true rfl)
  go_enter Tryd.func17, Tryd.ntmps17
  go_wp2_with (fail)
  refine (HL.out _ HB.out).mono ?_
  rintro e w' ⟨rfl, ⟨n1, rfl⟩⟩
  go_wp2_with (fail)
  refine (HM.out _ (below_drewN HB.out _)).mono ?_
  rintro e w' ⟨rfl, ⟨n2, rfl⟩⟩
  go_wp2
  go_ret
  exact ⟨by rw [HF.out]; rfl, below_drewN HB.out _⟩
set_option maxHeartbeats 1600000 in
theorem tells_calls (v : Value) (c : Nat) (nm : ByteArray) (n : Nat) (w : World) (h : Err w v (plc c nm n) .nilIface) (hc : c ≠ 0) :
    Calls Tryd.prog 20 #[v, .agg #[.int .i64 c, .string nm, .int .i64 n]] w fun e w' => e = .returned (.bool true) ∧ Below w.heap.size w w' := by
  have hb0 := below_alloc (Below.refl w.heap.size w) (.cells #[.int .i64 c, .string nm, .int .i64 n] 53)
  have HB0 := Lib.hid hb0
  have hpl : plc (c : Int) nm n = [⟨c, nm, n⟩, ⟨c, ⟨#[]⟩, 0⟩] := if_neg (by omega)
  rw [hpl] at h
  have h0 := h.below hb0
  have HAT := Lib.hid (FailE.at_calls nm h0)
  rw [show FailE.atF [⟨(c : Int), nm, (n : Int)⟩, ⟨c, ⟨#[]⟩, 0⟩] nm = ((n : Int), true) from if_pos rfl] at HAT
  have HK := Lib.hid (blk_last w (.cells #[.int .i64 c, .string nm, .int .i64 n] 53))
  have H0 := Lib.hid h0
  clear hb0 hpl h h0
  go_enter Tryd.func20, Tryd.ntmps20
  go_wp2_with (fail)
  refine HAT.out.mono ?_
  rintro e w1 ⟨rfl, hb1⟩
  have HB1 := Lib.hid (below_then HB0.out HB0.out.size hb1)
  have hk1 := (Ch.of_below (S := fun _ => False) hb1).blk HK.out (fun x => x)
  have HS := Lib.hid (fun W (hb : Below w1.heap.size w1 W) => (⟨hb, obj_cell (i := 0) ((Ch.of_below (S := fun _ => False) hb).blk hk1 (fun x => x)) rfl, obj_cell (i := 2) ((Ch.of_below (S := fun _ => False) hb).blk hk1 (fun x => x)) rfl⟩ : Below w1.heap.size w1 W ∧ W.cell? ⟨w.heap.size, 0, none⟩ = some (.int .i64 c) ∧ W.cell? ⟨w.heap.size, 2, none⟩ = some (.int .i64 n)))
  have HCO : Hid (∀ W, Below w1.heap.size w1 W → Calls Tryd.prog 24 #[v] W fun e w' => e = .returned (.int .i64 c) ∧ Below w1.heap.size w1 w') := Lib.hid (fun W hb => lift hb hb.size (code_calls ((H0.out.below hb1).below hb)))
  have HDE : Hid (∀ W, Below w1.heap.size w1 W → Calls Tryd.prog 42 #[v] W fun e w' => e = .returned (.int .i64 2) ∧ Below w1.heap.size w1 w') := Lib.hid (fun W hb => lift hb hb.size (FailE.depth_calls ((H0.out.below hb1).below hb) (by simp)))
  have hcc : ((c : Int) == (c : Int)) = true := by simp
  have hnn : ((n : Int) == (n : Int)) = true := by simp
  have hs1 := HS.out w1 (Below.refl _ _)
  clear hb1 hk1 HAT
  go_wp2_with (fail)
  go_region_held3 (fun W => Below w1.heap.size w1 W ∧ W.cell? ⟨w.heap.size, 0, none⟩ = some (.int .i64 c) ∧ W.cell? ⟨w.heap.size, 2, none⟩ = some (.int .i64 n))
    (first | exact HS.out _ (below_drew (by first | exact Below.refl _ _ | exact (And.left (by assumption)))) | exact HS.out _ (by assumption) | assumption)
    (first
    | (go_at_call 24; refine (HCO.out _ (And.left (by assumption))).mono ?_; rintro e w2 ⟨rfl, hb2⟩)
    | (go_at_call 42; refine (HDE.out _ (And.left (by assumption))).mono ?_; rintro e w2 ⟨rfl, hb3⟩))
  go_wp2
  go_ret
  exact ⟨rfl, below_then HB1.out HB1.out.size (by assumption)⟩
end Go.Proofs.YtjfekjbmgckkcaaDoor.Law14C
