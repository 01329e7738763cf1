/- the text of an error: its places, and what is within. -/
import Derived.Test.YtaenincbmlcjiaaDoorFailF
namespace Go.Proofs.YtaenincbmlcjiaaDoor.FailG
open Go.RowKit Go.Extern.Stop Go.Stop Go.Extern Go.Proofs.YtaenincbmlcjiaaDoorW.PrintWords
open Go.Proofs.YtaenincbmlcjiaaDoor.Bits Go.Proofs.YtaenincbmlcjiaaDoor.Base Go.Proofs.YtaenincbmlcjiaaDoor.FailAs Go.Proofs.YtaenincbmlcjiaaDoor.FailB Go.Proofs.YtaenincbmlcjiaaDoor.FailC Go.Proofs.YtaenincbmlcjiaaDoor.FailD Go.Proofs.YtaenincbmlcjiaaDoor.FailE Go.Proofs.YtaenincbmlcjiaaDoor.FailF


set_option maxRecDepth 100000 in
set_option maxHeartbeats 3200000 in
theorem each_text (w0 w : World) (v z : Value) (l : List Pl) (h : Err w0 v l z) (hb : Below w0.heap.size w0 w) (xb rb : Nat) (hxb : w0.heap.size ≤ xb) (hrb : w0.heap.size ≤ rb) (hxw : xb < w.heap.size) (hrw : rb < w.heap.size) (n1 : xb ≠ rb) (hx : w.heap[xb]? = some (.cells #[.string ⟨#[]⟩] 9 (0, 0))) (hr : w.heap[rb]? = some (.cells #[v] 27 (0, 0))) (hl : l.length ≤ 1000) (hf : Few l) (hgt : GlT w0) :
    Calls Tryd.prog 22 #[v, .func (.func 26) #[] #[.pointer (some ⟨xb, 0, none⟩), .pointer (some ⟨rb, 0, none⟩)]] w fun e w' => e = .returned (.tuple #[]) ∧ Below w0.heap.size w0 w' ∧ w'.heap[xb]? = some (.cells #[.string (txtF l ⟨#[]⟩)] 9 (0, 0)) ∧ w'.heap[rb]? = some (.cells #[z] 27 (0, 0)) := by
  have HB0 := Lib.hid (below_alloc hb (.cells #[.pointer none] 50))
  have HE := Lib.hid h
  have hsz := hb.size
  obtain ⟨tb, htb⟩ : ∃ tb, tb = w.heap.size := ⟨_, rfl⟩
  have HTB := Lib.hid htb
  have HFW := Lib.hid hf
  have HGT := Lib.hid hgt
  clear hgt
  have hst : (w.alloc (.cells #[.pointer none] 50)).heap[xb]? = some (.cells #[.string ⟨#[]⟩] 9 (0, 0)) ∧ (w.alloc (.cells #[.pointer none] 50)).heap[rb]? = some (.cells #[v] 27 (0, 0)) := ⟨by rw [Below.heap_alloc _ _ _ hxw]; exact hx, by rw [Below.heap_alloc _ _ _ hrw]; exact hr⟩
  have HST := Lib.hid hst
  clear h hb hst htb hx hr hf
  go_enter Tryd.func22, Tryd.ntmps22
  go_wp2_with (fail)
  rw [← HTB.out]
  go_loopg [0] (l.length + 1) (fun k v wr => ∃ (t : List Pl) (old : Value), k = t.length + 1 ∧ Hid (ErrC w0 v t z) ∧ Below w0.heap.size w0 wr ∧ w.heap.size < wr.heap.size ∧ (wr.cell? ⟨tb, 0, none⟩ = some old ∧ wr.frozen? ⟨tb, 0, none⟩ = false) ∧ (∃ X : ByteArray, Hid (txtF l ⟨#[]⟩ = txtF t X) ∧ Hid (Few t) ∧ X.size + 80 * t.length ≤ 80000 ∧ wr.heap[xb]? = some (.cells #[.string X] 9 (0, 0)) ∧ wr.heap[rb]? = some (.cells #[v] 27 (0, 0))))
  case atStart => exact ⟨l, .pointer none, rfl, Lib.hid HE.out.ch, HB0.out, by simp, ⟨by rw [HTB.out]; simp, by rw [HTB.out]; simp⟩, ⟨⟨#[]⟩, Lib.hid rfl, HFW, (by show 0 + _ ≤ _; omega), HST.out⟩⟩
  case round =>
    obtain ⟨t, old, rfl, hc, hbb, hlt, ⟨ht0, hf0⟩, hst⟩ := hrel
    have HB := Lib.hid hbb
    have HST := Lib.hid hst
    have HG := Lib.hid (gle_below HE.out.gl hbb)
    have htb : tb < wr.heap.size := by rw [HTB.out]; exact hlt
    have htb0 : w0.heap.size ≤ tb := by rw [HTB.out]; exact hsz
    cases t with
    | nil =>
      have hv : _ = z := hc.out
      subst hv
      rcases HE.out.z with hz | ⟨a, hz⟩
      · subst hz
        clear hbb hst ht0 hf0 hc
        go_wp2_with (go_at_call 21; refine (as_nil _ _).mono ?_; rintro e w1 ⟨rfl, rfl⟩)
        obtain ⟨X, hX, -, -, hx1, hr1⟩ := HST.out
        have HX := Lib.hid hX
        have HX1 := Lib.hid hx1
        have HR1 := Lib.hid hr1
        clear hX hx1 hr1
        go_end0
        exact ⟨rfl, HB.out, by rw [HX.out]; exact HX1.out, HR1.out⟩
      · subst hz
        have HA := Lib.hid (as_closed a ⟨tb, 0, none⟩ old wr HG.out ht0)
        clear hbb hst ht0 hf0 hc
        go_wp2_with (go_at_call 21; refine HA.out.mono ?_; rintro e w1 ⟨rfl, hb1⟩; have HB1 := Lib.hid hb1; clear hb1)
        have HB := Lib.hid (below_then HB.out HB.out.size HB1.out)
        obtain ⟨X, hX, -, -, hx1, hr1⟩ := HST.out
        have HX := Lib.hid hX
        have HX1 := Lib.hid ((HB1.out.block xb (by omega)).trans hx1)
        have HR1 := Lib.hid ((HB1.out.block rb (by omega)).trans hr1)
        clear hX hx1 hr1
        go_end0
        exact ⟨rfl, HB.out, by rw [HX.out]; exact HX1.out, HR1.out⟩
    | cons p t =>
      obtain ⟨g, u, hv, hg, hr⟩ := hc.out
      subst hv
      have HA := Lib.hid (as_hit ⟨g, 0, none⟩ ⟨tb, 0, none⟩ old wr HG.out ht0 hf0)
      have HR := Lib.hid hr
      have hgl := blk_lt hg
      have HGC := Lib.hid hg
      clear hbb hst ht0 hf0 hc hr hg
      go_wp2_with (fail)
      refine HA.out.mono ?_
      rintro e w1 ⟨rfl, hh⟩
      have hb1 : Below w0.heap.size w0 w1 := HB.out.trans (hh.ch.below_of (by omega) (fun k hk => by rw [hk]; exact htb0))
      have HB1 := Lib.hid hb1
      have hsz1 := hh.ch.size
      have HH := Lib.hid hh
      have ht1 := hh.at_
      have HG1 := Lib.hid ((hb1.block g hgl).trans HGC.out)
      clear hh hb1 HA
      obtain ⟨X, hX, hfw, hsz9, hx0, hr0⟩ := HST.out
      have hne1 : tb ≠ xb := by rw [HTB.out]; omega
      have hne2 : tb ≠ rb := by rw [HTB.out]; omega
      have hfm := err_form HR.out HE.out.z
      have hu : u = .nilIface ∨ ∃ T x, u = .iface T x := hfm.elim (fun h => .inl h.1) .inr
      rw [List.length_cons] at hsz9
      have hpc := piece_size (hfw.out p List.mem_cons_self)
      have hsx : (X ++ piece p).size + 80 * t.length ≤ 80000 := by rw [ByteArray.size_append]; omega
      have HD := Lib.hid (text_ask g xb rb p u (Value.iface 50 (.pointer (some ⟨g, 0, none⟩))) X w1 HG1.out (HH.out.ch.blk hx0 (fun h => hne1 h.symm)) (HH.out.ch.blk hr0 (fun h => hne2 h.symm)) n1 (by omega) hu (by omega) (hfw.out p List.mem_cons_self) (glt_below HGT.out HB1.out))
      have HXX : Hid (txtF l ⟨#[]⟩ = txtF t (X ++ piece p)) := Lib.hid hX.out
      have HFT : Hid (Few t) := Lib.hid fun q hq => hfw.out q (List.mem_cons_of_mem _ hq)
      clear hX hfw hx0 hr0 hfm
      go_wp2_with (fail)
      refine HD.out.mono ?_
      rintro e w2 ⟨rfl, hc2, hx2, hr2⟩
      have HB2 := Lib.hid (HB1.out.trans (hc2.below_of (by omega) (fun k hk => by rcases hk with rfl | rfl <;> assumption)))
      have hsz2 := hc2.size
      have ht2 := hc2.cell ht1 (show ¬ (tb = xb ∨ tb = rb) from fun h => h.elim hne1 hne2)
      have hf2 : w2.frozen? ⟨tb, 0, none⟩ = false := by rw [Ch.frozen hc2 (by omega) (show ¬ (tb = xb ∨ tb = rb) from fun h => h.elim hne1 hne2)]; exact HH.out.fr
      have hv2 := (err_cells (hc2.blk HG1.out (show ¬ (g = xb ∨ g = rb) from by omega))).2.2.2
      have HX2 := Lib.hid hx2
      have HR2 := Lib.hid hr2
      have HF2 := Lib.hid hf2
      have HT2 := Lib.hid ht2
      clear hc2 hx2 hr2 HD ht1 hf2 hne1 hne2
      rcases hu with rfl | ⟨T, x, rfl⟩
      all_goals (
        go_wp2
        go_roundg (t.length + 1)
        case measure => simp
        case rel => exact ⟨t, _, rfl, HR, HB2.out, by omega, ⟨HT2.out, HF2.out⟩, _, HXX, HFT, hsx, HX2.out, HR2.out⟩)

/-- what stands behind all places. -/
def endT (z : Value) (c : Int) : ByteArray := match z with
  | .nilIface => str (Lib.itoa c)
  | _ => ⟨#[99, 108, 111, 115, 101, 100]⟩
set_option maxHeartbeats 800000 in
theorem ending_calls {z : Value} {a : Addr} {w : World} (c : Int) (hz : EndA z a) (hg : GlC w a) (ht : GlT w) (hc : In64 c) :
    Calls Tryd.prog 28 #[z, .int .i64 c] w fun e w' => e = .returned (.string (endT z c)) ∧ Below w.heap.size w w' := by
  rcases hz with rfl | rfl
  · have HI := Lib.hid (itoa_calls c w hc ht)
    have HF : Hid (endT .nilIface c = str (Lib.itoa c)) := Lib.hid rfl
    go_enter Tryd.func28, Tryd.ntmps28
    go_wp2_with (go_at_call 27; refine HI.out.mono ?_; rintro e w1 ⟨rfl, hb1⟩)
    go_ret
    exact ⟨by rw [HF.out]; rfl, hb1⟩
  · have HC := Lib.hid (closed_calls (v := .iface 110 (.pointer (some a))) (l := []) (w := w) (a := a) rfl (.inr rfl) hg)
    rw [show isz (.iface 110 (.pointer (some a))) = true from rfl] at HC
    have HB := Lib.hid (Below.refl w.heap.size w)
    have HF : Hid (endT (.iface 110 (.pointer (some a))) c = ⟨#[99, 108, 111, 115, 101, 100]⟩) := Lib.hid rfl
    clear hg ht
    go_enter Tryd.func28, Tryd.ntmps28
    go_wp2_with (go_at_call 15; refine HC.out.mono ?_; rintro e w1 ⟨rfl, rfl⟩)
    go_ret
    exact ⟨by rw [HF.out]; rfl, HB.out⟩
end Go.Proofs.YtaenincbmlcjiaaDoor.FailG
