/- fail.Text. -/
import Derived.Test.YtaenincbmlcjiaaDoorFailG
import Derived.Deep.RegionHeld3
namespace Go.Proofs.YtaenincbmlcjiaaDoor.FailH
open Go.RowKit Go.Extern.Stop Go.Stop Go.Extern Go.Proofs.YtaenincbmlcjiaaDoorW.PrintWords
open Go.Proofs.YtaenincbmlcjiaaDoor.Bits Go.Proofs.YtaenincbmlcjiaaDoor.Base Go.Proofs.YtaenincbmlcjiaaDoor.FailAs Go.Proofs.YtaenincbmlcjiaaDoor.FailB Go.Proofs.YtaenincbmlcjiaaDoor.FailC Go.Proofs.YtaenincbmlcjiaaDoor.FailD Go.Proofs.YtaenincbmlcjiaaDoor.FailE Go.Proofs.YtaenincbmlcjiaaDoor.FailF Go.Proofs.YtaenincbmlcjiaaDoor.FailG

/-- the text of an error. -/
def textOf (l : List Pl) (z : Value) : ByteArray := txtF l ⟨#[]⟩ ++ endT z (codeOf l z)
theorem txtF_size (l : List Pl) : ∀ X, Few l → (txtF l X).size ≤ X.size + 80 * l.length := by
  induction l with
  | nil => intro X _; exact Nat.le_refl _
  | cons p t ih =>
    intro X h
    have h1 := ih (X ++ piece p) fun q hq => h q (List.mem_cons_of_mem _ hq)
    have h2 := piece_size (h p List.mem_cons_self)
    rw [ByteArray.size_append] at h1
    rw [txtF, List.length_cons]
    omega
theorem endT_size (z : Value) (c : Int) (h : In64 c) : (endT z c).size ≤ 30 := by
  have h1 := Lib.itoa_length_le c h.1 h.2
  have h2 : (⟨#[99, 108, 111, 115, 101, 100]⟩ : ByteArray).size = 6 := rfl
  unfold endT
  split
  · rw [size_str]; omega
  · omega
set_option maxRecDepth 100000 in
set_option maxHeartbeats 3200000 in
theorem text_iface (T : Nat) (x z : Value) (a : Addr) (l : List Pl) (w : World) (h : Err w (.iface T x) l z) (hz : EndA z a) (hg : GlC w a) (ht : GlT w) (hl : l.length ≤ 1000) (hf : Few l) (hc : In64 (codeOf l z)) :
    Calls Tryd.prog 16 #[.iface T x] w fun e w' => e = .returned (.string (textOf l z)) ∧ Below w.heap.size w w' := by
  have hb := below_alloc (below_alloc (Below.refl w.heap.size w) (.cells #[.string ⟨#[]⟩] 9)) (.cells #[.iface T x] 27)
  have HE := Lib.hid (each_text w _ (.iface T x) z l h hb w.heap.size (w.heap.size + 1) (Nat.le_refl _) (by omega) (by simp; omega) (by simp) (by omega)
    (by rw [Below.heap_alloc _ _ _ (by simp)]; exact heap_alloc_new w _)
    (by have := heap_alloc_new (w.alloc (.cells #[.string ⟨#[]⟩] 9)) (.cells #[.iface T x] 27); simpa using this) hl hf ht)
  have HC := Lib.hid (fun W (h' : Below w.heap.size w W) => code_calls (h.below h'))
  have HN := Lib.hid (fun W (h' : Below w.heap.size w W) => ending_calls (codeOf l z) hz (glc_below hg h') (glt_below ht h') hc)
  have hs1 := txtF_size l ⟨#[]⟩ hf
  have hs0 : (⟨#[]⟩ : ByteArray).size = 0 := rfl
  have hs2 := endT_size z (codeOf l z) hc
  obtain ⟨X, hX⟩ : ∃ X, X = txtF l ⟨#[]⟩ := ⟨_, rfl⟩
  rw [← hX] at hs1 HE
  obtain ⟨c, hcc⟩ : ∃ c, c = codeOf l z := ⟨_, rfl⟩
  rw [← hcc] at HC HN hs2
  obtain ⟨Y, hY⟩ : ∃ Y, Y = endT z c := ⟨_, rfl⟩
  rw [← hY] at HN hs2
  have HF : Hid (textOf l z = X ++ Y) := Lib.hid (by rw [textOf, hX, hY, hcc])
  have sm : ¬ (9223372036854775807 < X.size + Y.size) := by omega
  clear h hz hg ht hf hc hb hX hcc hY hs0
  go_enter Tryd.func16, Tryd.ntmps16
  go_wp2_with (fail)
  refine HE.out.mono ?_
  rintro e w1 ⟨rfl, hb1, hx1, hr1⟩
  have hxl := blk_lt hx1
  have hrl := blk_lt hr1
  have HK := Lib.hid (fun W (h : Below w1.heap.size w1 W) => (⟨one_cell ((h.block _ hxl).trans hx1), one_cell ((h.block _ hrl).trans hr1)⟩ : W.cell? ⟨w.heap.size, 0, none⟩ = some (.string X) ∧ W.cell? ⟨w.heap.size + 1, 0, none⟩ = some z))
  have HB1 := Lib.hid hb1
  have HC1 := Lib.hid (fun W (h' : Below w1.heap.size w1 W) => lift h' h'.size (HC.out W (below_then HB1.out HB1.out.size h')))
  have HN1 := Lib.hid (fun W (h' : Below w1.heap.size w1 W) => lift h' h'.size (HN.out W (below_then HB1.out HB1.out.size h')))
  have hb0 := Below.refl w1.heap.size w1
  obtain ⟨c1, c2⟩ := HK.out w1 hb0
  clear hx1 hr1 hb1 HE HC HN
  go_wp2_with (fail)
  go_region_held3 (fun W => W.cell? ⟨w.heap.size, 0, none⟩ = some (.string X) ∧ W.cell? ⟨w.heap.size + 1, 0, none⟩ = some z)
    (first | exact HK.out _ (by first | exact below_drew hb0 | assumption))
    (first
      | (go_at_call 10; refine (HC1.out _ (by first | exact below_drew hb0 | assumption)).mono ?_; rintro e w2 ⟨rfl, hb2⟩)
      | (go_at_call 28; refine (HN1.out _ (by first | exact below_drew hb0 | assumption)).mono ?_; rintro e w3 ⟨rfl, hb3⟩))
  go_wp2
  go_ret
  exact ⟨by rw [HF.out]; rfl, below_then HB1.out HB1.out.size hb3⟩
/-- fail.Text. -/
theorem text_calls {v z : Value} {a : Addr} {l : List Pl} {w : World} (h : Err w v l z) (hz : EndA z a) (hg : GlC w a) (ht : GlT w) (hl : l.length ≤ 1000) (hf : Few l) (hc : In64 (codeOf l z)) (hn : l ≠ [] ∨ z ≠ .nilIface) :
    Calls Tryd.prog 16 #[v] w fun e w' => e = .returned (.string (textOf l z)) ∧ Below w.heap.size w w' := by
  rcases err_form h.ch h.z with ⟨rfl, rfl, rfl⟩ | ⟨T, x, rfl⟩
  · rcases hn with hn | hn <;> exact absurd rfl hn
  · exact text_iface T x z a l w h hz hg ht hl hf hc
/-- (*Error).Error. -/
theorem error_calls {z : Value} {a : Addr} {l : List Pl} {w : World} {p : Addr} (h : Err w (.iface 50 (.pointer (some p))) l z) (hz : EndA z a) (hg : GlC w a) (ht : GlT w) (hl : l.length ≤ 1000) (hf : Few l) (hc : In64 (codeOf l z)) :
    Calls Tryd.prog 20 #[.pointer (some p)] w fun e w' => e = .returned (.string (textOf l z)) ∧ Below w.heap.size w w' := by
  have HT := Lib.hid (text_iface _ _ z a l w h hz hg ht hl hf hc)
  clear h hz hg ht hf hc
  go_enter Tryd.func20, Tryd.ntmps20
  go_wp2_with (go_at_call 16; refine HT.out.mono ?_; rintro e w1 ⟨rfl, hb1⟩)
  go_ret
  exact ⟨rfl, hb1⟩
end Go.Proofs.YtaenincbmlcjiaaDoor.FailH
