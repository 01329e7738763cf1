/- the errors of a chain one by one: Depth, At; the text's parts. -/
import Derived.Test.YtjfekjbmgckkcaaGreatDoorFailD
import Derived.BigRegion
import Derived.Deep.RegionHeld3
namespace Go.Proofs.YtjfekjbmgckkcaaGreatDoor.FailE
open Go.RowKit Go.Extern.Stop Go.Stop Go.Extern Go.Proofs.YtjfekjbmgckkcaaGreatDoorW.PrintWords
open Go.Proofs.YtjfekjbmgckkcaaGreatDoor.Base Go.Proofs.YtjfekjbmgckkcaaGreatDoor.FailAs Go.Proofs.YtjfekjbmgckkcaaGreatDoor.FailB Go.Proofs.YtjfekjbmgckkcaaGreatDoor.FailC Go.Proofs.YtjfekjbmgckkcaaGreatDoor.FailD

theorem frozen_of {w w' : World} {g : Nat} (h : w'.heap[g]? = w.heap[g]?) : w'.frozen? ⟨g, 0, none⟩ = w.frozen? ⟨g, 0, none⟩ := by
  simp only [World.frozen?, h]
theorem Ch.frozen {S : Nat → Prop} {w w' : World} {g : Nat} (h : Ch S w w') (hl : g < w.heap.size) (hg : ¬ S g) : w'.frozen? ⟨g, 0, none⟩ = w.frozen? ⟨g, 0, none⟩ := frozen_of (h.block g hl hg)
theorem one_cell {w : World} {g : Nat} {u : Value} {T : TypeId} (h : w.heap[g]? = some (.cells #[u] T (0, 0))) : w.cell? ⟨g, 0, none⟩ = some u := by simp [World.cell?, h]
theorem one_frozen {w : World} {g : Nat} {u : Value} {T : TypeId} (h : w.heap[g]? = some (.cells #[u] T (0, 0))) : w.frozen? ⟨g, 0, none⟩ = false := by simp [World.frozen?, h]
theorem err_cells {w : World} {g : Nat} {p : Pl} {u : Value} (h : w.heap[g]? = some (.cells #[.int .i64 p.code, .string p.name, .int .i64 p.at_, u] 186 (0, 0))) :
    w.cell? ⟨g, 0, none⟩ = some (.int .i64 p.code) ∧ w.cell? ⟨g, 1, none⟩ = some (.string p.name) ∧ w.cell? ⟨g, 2, none⟩ = some (.int .i64 p.at_) ∧ w.cell? ⟨g, 3, none⟩ = some u := by
  simp [World.cell?, h]
/-- the first one of a place. -/
def atF : List Pl → ByteArray → Int × Bool
  | [], _ => (0, false)
  | p :: t, nm => if p.name = nm then (p.at_, true) else atF t nm

/-! ### the closures -/
theorem dep_ask (g nb n : Nat) (w : World) (hn : w.heap[nb]? = some (.cells #[.int .i64 n] 3 (0, 0))) (hm : n ≤ 10000000) :
    Calls Tryz.prog 152 #[.pointer (some ⟨g, 0, none⟩), .pointer (some ⟨nb, 0, none⟩)] w fun e w' => e = .returned (.bool true) ∧ Ch (fun k => k = nb) w w' ∧ w'.heap[nb]? = some (.cells #[.int .i64 ((n + 1 : Nat) : Int)] 3 (0, 0)) := by
  have c1 := one_cell hn
  have f1 := one_frozen hn
  have HC := Lib.hid ((Ch.refl (fun k => k = nb) w).setCell (p := ⟨nb, 0, none⟩) (.inl rfl) (.int .i64 ((n : Int) + 1)))
  have HS := Lib.hid (one_setCell (u := .int .i64 ((n : Int) + 1)) hn)
  clear hn
  go_enter Tryz.func152, Tryz.ntmps152
  go_wp2
  go_ret
  exact ⟨rfl, HC.out, HS.out⟩

def AtPost (p : Pl) (nm : ByteArray) (a0 : Int) (ob ab : Nat) (w : World) (e : Ending) (w' : World) : Prop :=
  e = .returned (.bool (!decide (p.name = nm))) ∧ Ch (fun k => k = ob ∨ k = ab) w w' ∧
    w'.heap[ob]? = some (.cells #[.bool (decide (p.name = nm))] 4 (0, 0)) ∧ w'.heap[ab]? = some (.cells #[.int .i64 (if p.name = nm then p.at_ else a0)] 3 (0, 0))
set_option maxHeartbeats 1600000 in
theorem at_ask (g pb ob ab : Nat) (p : Pl) (u : Value) (nm : ByteArray) (b0 : Bool) (a0 : Int) (w : World) (hg : w.heap[g]? = some (.cells #[.int .i64 p.code, .string p.name, .int .i64 p.at_, u] 186 (0, 0)))
    (hp : w.heap[pb]? = some (.cells #[.string nm] 9 (0, 0))) (ho : w.heap[ob]? = some (.cells #[.bool b0] 4 (0, 0))) (ha : w.heap[ab]? = some (.cells #[.int .i64 a0] 3 (0, 0))) (h1 : ob ≠ ab) (h2 : g ≠ ob) :
    Calls Tryz.prog 146 #[.pointer (some ⟨g, 0, none⟩), .pointer (some ⟨pb, 0, none⟩), .pointer (some ⟨ob, 0, none⟩), .pointer (some ⟨ab, 0, none⟩)] w (AtPost p nm a0 ob ab w) := by
  have cp := one_cell hp
  have co := one_cell ho
  have ca := one_cell ha
  have fo := one_frozen ho
  have fa := one_frozen ha
  obtain ⟨-, c1, c2, -⟩ := err_cells hg
  have hob := blk_lt ho
  have hab := blk_lt ha
  by_cases hn : p.name = nm
  · have e1 : (p.name.toList == nm.toList) = true := by rw [beq_str]; simpa using hn
    have HF : Hid (decide (p.name = nm) = true) := Lib.hid (by simpa using hn)
    have HN := Lib.hid (if_pos hn : (if p.name = nm then p.at_ else a0) = p.at_)
    have HO := Lib.hid (one_setCell (u := .bool true) ho)
    have HA := Lib.hid (one_setCell (u := .int .i64 p.at_) ((Below.heap_setCell w ⟨ob, 0, none⟩ (.bool true) ab (fun h => h1 h.symm)).trans ha))
    have HC := Lib.hid (((Ch.refl (fun k => k = ob ∨ k = ab) w).setCell (p := ⟨ob, 0, none⟩) (.inl (.inl rfl)) (.bool true)).setCell (p := ⟨ab, 0, none⟩) (.inl (.inr rfl)) (.int .i64 p.at_))
    have HO2 := Lib.hid ((Below.heap_setCell (w.setCell ⟨ob, 0, none⟩ (.bool true)) ⟨ab, 0, none⟩ (.int .i64 p.at_) ob h1).trans HO.out)
    clear hg hp ho ha hn
    go_enter Tryz.func146, Tryz.ntmps146
    go_wp2
    go_region
    all_goals go_wp2
    all_goals (go_ret; exact ⟨by rw [HF.out]; rfl, HC.out.drew, by rw [HF.out]; exact HO2.out, by rw [HN.out]; exact HA.out⟩)
  · have e1 : (p.name.toList == nm.toList) = false := by rw [beq_str]; simpa using hn
    have HF : Hid (decide (p.name = nm) = false) := Lib.hid (by simpa using hn)
    have HN := Lib.hid (if_neg hn : (if p.name = nm then p.at_ else a0) = a0)
    have HO := Lib.hid (one_setCell (u := .bool false) ho)
    have HA := Lib.hid ((Below.heap_setCell w ⟨ob, 0, none⟩ (.bool false) ab (fun h => h1 h.symm)).trans ha)
    have HC := Lib.hid ((Ch.refl (fun k => k = ob ∨ k = ab) w).setCell (p := ⟨ob, 0, none⟩) (.inl (.inl rfl)) (.bool false))
    clear hg hp ho ha hn
    go_enter Tryz.func146, Tryz.ntmps146
    go_wp2
    go_region
    all_goals go_wp2
    all_goals (go_ret; exact ⟨by rw [HF.out]; rfl, HC.out.drew, by rw [HF.out]; exact HO.out, by rw [HN.out]; exact HA.out⟩)

set_option maxRecDepth 100000 in
set_option maxHeartbeats 3200000 in
theorem each_depth (w0 w : World) (v z : Value) (l : List Pl) (h : Err w0 v l z) (hb : Below w0.heap.size w0 w) (nb : Nat) (hnb : w0.heap.size ≤ nb) (hnw : nb < w.heap.size) (hn : w.heap[nb]? = some (.cells #[.int .i64 0] 3 (0, 0))) (hl : l.length ≤ 1000000) :
    Calls Tryz.prog 145 #[v, .func (.func 152) #[] #[.pointer (some ⟨nb, 0, none⟩)]] w fun e w' => e = .returned (.tuple #[]) ∧ Below w0.heap.size w0 w' ∧ w'.heap[nb]? = some (.cells #[.int .i64 l.length] 3 (0, 0)) := by
  have HB0 := Lib.hid (below_alloc hb (.cells #[.pointer none] 182))
  have HE := Lib.hid h
  have hsz := hb.size
  obtain ⟨tb, htb⟩ : ∃ tb, tb = w.heap.size := ⟨_, rfl⟩
  have HTB := Lib.hid htb
  have hst : l.length ≤ l.length ∧ (w.alloc (.cells #[.pointer none] 182)).heap[nb]? = some (.cells #[.int .i64 ((l.length - l.length : Nat) : Int)] 3 (0, 0)) := ⟨Nat.le_refl _, by rw [Below.heap_alloc _ _ _ hnw, hn, Nat.sub_self]; rfl⟩
  have HST := Lib.hid hst
  clear h hb hst htb hn
  go_enter Tryz.func145, Tryz.ntmps145
  go_wp2_with (fail)
  rw [← HTB.out]
  go_loopg [0] (l.length + 1) (fun k v wr => ∃ (t : List Pl) (old : Value), k = t.length + 1 ∧ Hid (ErrC w0 v t z) ∧ Below w0.heap.size w0 wr ∧ w.heap.size < wr.heap.size ∧ (wr.cell? ⟨tb, 0, none⟩ = some old ∧ wr.frozen? ⟨tb, 0, none⟩ = false) ∧ (t.length ≤ l.length ∧ wr.heap[nb]? = some (.cells #[.int .i64 ((l.length - t.length : Nat) : Int)] 3 (0, 0))))
  case atStart => exact ⟨l, .pointer none, rfl, Lib.hid HE.out.ch, HB0.out, by simp, ⟨by rw [HTB.out]; simp, by rw [HTB.out]; simp⟩, HST.out⟩
  case round =>
    obtain ⟨t, old, rfl, hc, hbb, hlt, ⟨ht0, hf0⟩, hst⟩ := hrel
    have HB := Lib.hid hbb
    have HST := Lib.hid hst
    have HG := Lib.hid (gle_below HE.out.gl hbb)
    have htb : tb < wr.heap.size := by rw [HTB.out]; exact hlt
    have htb0 : w0.heap.size ≤ tb := by rw [HTB.out]; exact hsz
    cases t with
    | nil =>
      have hv : _ = z := hc.out
      subst hv
      rcases HE.out.z with hz | ⟨a, hz⟩
      · subst hz
        clear hbb hst ht0 hf0 hc
        go_wp2_with (go_at_call 123; refine (as_nil _ _).mono ?_; rintro e w1 ⟨rfl, rfl⟩)
        go_end0
        exact ⟨rfl, HB.out, HST.out.2⟩
      · subst hz
        have HA := Lib.hid (as_closed a ⟨tb, 0, none⟩ old wr HG.out ht0)
        clear hbb hst ht0 hf0 hc
        go_wp2_with (go_at_call 123; refine HA.out.mono ?_; rintro e w1 ⟨rfl, hb1⟩; have HB1 := Lib.hid hb1; clear hb1)
        have HB := Lib.hid (below_then HB.out HB.out.size HB1.out)
        have HS2 := Lib.hid ((HB1.out.block nb (by omega)).trans HST.out.2)
        go_end0
        exact ⟨rfl, HB.out, HS2.out⟩
    | cons p t =>
      obtain ⟨g, u, hv, hg, hr⟩ := hc.out
      subst hv
      have HA := Lib.hid (as_hit ⟨g, 0, none⟩ ⟨tb, 0, none⟩ old wr HG.out ht0 hf0)
      have HR := Lib.hid hr
      have hgl := blk_lt hg
      have HGC := Lib.hid hg
      clear hbb hst ht0 hf0 hc hr hg
      go_wp2_with (fail)
      refine HA.out.mono ?_
      rintro e w1 ⟨rfl, hh⟩
      have hb1 : Below w0.heap.size w0 w1 := HB.out.trans (hh.ch.below_of (by omega) (fun k hk => by rw [hk]; exact htb0))
      have HB1 := Lib.hid hb1
      have hsz1 := hh.ch.size
      have HH := Lib.hid hh
      have ht1 := hh.at_
      have HG1 := Lib.hid ((hb1.block g hgl).trans HGC.out)
      clear hh hb1 HA
      have HD := Lib.hid (dep_ask g nb (l.length - (p :: t).length) w1 (HH.out.ch.blk HST.out.2 (by show ¬ nb = tb; rw [HTB.out]; omega)) (by omega))
      go_wp2_with (fail)
      refine HD.out.mono ?_
      rintro e w2 ⟨rfl, hc2, hn2⟩
      have htl : (p :: t).length ≤ l.length := HST.out.1
      rw [List.length_cons] at htl
      rw [show l.length - (p :: t).length + 1 = l.length - t.length from by rw [List.length_cons]; omega] at hn2
      have HB2 := Lib.hid (HB1.out.trans (hc2.below_of (by omega) (fun k hk => by rw [hk]; exact hnb)))
      have hsz2 := hc2.size
      have hne : tb ≠ nb := by rw [HTB.out]; omega
      have ht2 := hc2.cell ht1 (show ¬ tb = nb from hne)
      have hf2 : w2.frozen? ⟨tb, 0, none⟩ = false := by rw [Ch.frozen hc2 (by omega) hne]; exact HH.out.fr
      have hu := (err_cells (hc2.blk HG1.out (show ¬ g = nb from by omega))).2.2.2
      have HN2 := Lib.hid hn2
      have HF2 := Lib.hid hf2
      have HT2 := Lib.hid ht2
      clear hc2 hn2 HD ht1 hf2
      go_wp2
      go_roundg (t.length + 1)
      case measure => simp
      case rel => exact ⟨t, _, rfl, HR, HB2.out, by omega, ⟨HT2.out, HF2.out⟩, by omega, HN2.out⟩

/-- fail.Depth. -/
theorem depth_calls {v z : Value} {l : List Pl} {w : World} (h : Err w v l z) (hl : l.length ≤ 1000000) :
    Calls Tryz.prog 79 #[v] w fun e w' => e = .returned (.int .i64 l.length) ∧ Below w.heap.size w w' := by
  have HE := Lib.hid (each_depth w (w.alloc (.cells #[.int .i64 0] 3)) v z l h (below_alloc (Below.refl _ _) _) w.heap.size (Nat.le_refl _) (by simp) (heap_alloc_new w _) hl)
  clear h
  go_enter Tryz.func79, Tryz.ntmps79
  go_wp2_with (fail)
  refine HE.out.mono ?_
  rintro e w1 ⟨rfl, hb1, hn1⟩
  have HB := Lib.hid hb1
  have hc := one_cell hn1
  clear hb1 hn1 HE
  go_wp2
  go_ret
  exact ⟨rfl, HB.out⟩

set_option maxRecDepth 100000 in
set_option maxHeartbeats 3200000 in
theorem each_at (w0 w : World) (v z : Value) (l : List Pl) (h : Err w0 v l z) (hb : Below w0.heap.size w0 w) (nm : ByteArray) (pb ob ab : Nat) (hpb : w0.heap.size ≤ pb) (hob : w0.heap.size ≤ ob) (hab : w0.heap.size ≤ ab) (hpw : pb < w.heap.size) (how : ob < w.heap.size) (haw : ab < w.heap.size) (n1 : ob ≠ ab) (n2 : pb ≠ ob) (n3 : pb ≠ ab) (hp : w.heap[pb]? = some (.cells #[.string nm] 9 (0, 0))) (ho : w.heap[ob]? = some (.cells #[.bool false] 4 (0, 0))) (ha : w.heap[ab]? = some (.cells #[.int .i64 0] 3 (0, 0))) :
    Calls Tryz.prog 145 #[v, .func (.func 146) #[] #[.pointer (some ⟨pb, 0, none⟩), .pointer (some ⟨ob, 0, none⟩), .pointer (some ⟨ab, 0, none⟩)]] w fun e w' => e = .returned (.tuple #[]) ∧ Below w0.heap.size w0 w' ∧ w'.heap[ob]? = some (.cells #[.bool (atF l nm).2] 4 (0, 0)) ∧ w'.heap[ab]? = some (.cells #[.int .i64 (atF l nm).1] 3 (0, 0)) := by
  have HB0 := Lib.hid (below_alloc hb (.cells #[.pointer none] 182))
  have HE := Lib.hid h
  have hsz := hb.size
  obtain ⟨tb, htb⟩ : ∃ tb, tb = w.heap.size := ⟨_, rfl⟩
  have HTB := Lib.hid htb
  have hst : (w.alloc (.cells #[.pointer none] 182)).heap[pb]? = some (.cells #[.string nm] 9 (0, 0)) ∧ (w.alloc (.cells #[.pointer none] 182)).heap[ob]? = some (.cells #[.bool false] 4 (0, 0)) ∧ (w.alloc (.cells #[.pointer none] 182)).heap[ab]? = some (.cells #[.int .i64 0] 3 (0, 0)) := ⟨by rw [Below.heap_alloc _ _ _ hpw]; exact hp, by rw [Below.heap_alloc _ _ _ how]; exact ho, by rw [Below.heap_alloc _ _ _ haw]; exact ha⟩
  have HST := Lib.hid hst
  clear h hb hst htb hp ho ha
  go_enter Tryz.func145, Tryz.ntmps145
  go_wp2_with (fail)
  rw [← HTB.out]
  go_loopg [0] (l.length + 1) (fun k v wr => ∃ (t : List Pl) (old : Value), k = t.length + 1 ∧ Hid (ErrC w0 v t z) ∧ Below w0.heap.size w0 wr ∧ w.heap.size < wr.heap.size ∧ (wr.cell? ⟨tb, 0, none⟩ = some old ∧ wr.frozen? ⟨tb, 0, none⟩ = false) ∧ (Hid (atF l nm = atF t nm) ∧ wr.heap[pb]? = some (.cells #[.string nm] 9 (0, 0)) ∧ wr.heap[ob]? = some (.cells #[.bool false] 4 (0, 0)) ∧ wr.heap[ab]? = some (.cells #[.int .i64 0] 3 (0, 0))))
  case atStart => exact ⟨l, .pointer none, rfl, Lib.hid HE.out.ch, HB0.out, by simp, ⟨by rw [HTB.out]; simp, by rw [HTB.out]; simp⟩, ⟨Lib.hid rfl, HST.out⟩⟩
  case round =>
    obtain ⟨t, old, rfl, hc, hbb, hlt, ⟨ht0, hf0⟩, hst⟩ := hrel
    have HB := Lib.hid hbb
    have HST := Lib.hid hst
    have HG := Lib.hid (gle_below HE.out.gl hbb)
    have htb : tb < wr.heap.size := by rw [HTB.out]; exact hlt
    have htb0 : w0.heap.size ≤ tb := by rw [HTB.out]; exact hsz
    cases t with
    | nil =>
      have hv : _ = z := hc.out
      subst hv
      rcases HE.out.z with hz | ⟨a, hz⟩
      · subst hz
        clear hbb hst ht0 hf0 hc
        go_wp2_with (go_at_call 123; refine (as_nil _ _).mono ?_; rintro e w1 ⟨rfl, rfl⟩)
        have HF : Hid (atF l nm = (0, false)) := Lib.hid HST.out.1.out
        go_end0
        exact ⟨rfl, HB.out, by rw [HF.out]; exact HST.out.2.2⟩
      · subst hz
        have HA := Lib.hid (as_closed a ⟨tb, 0, none⟩ old wr HG.out ht0)
        clear hbb hst ht0 hf0 hc
        go_wp2_with (go_at_call 123; refine HA.out.mono ?_; rintro e w1 ⟨rfl, hb1⟩; have HB1 := Lib.hid hb1; clear hb1)
        have HB := Lib.hid (below_then HB.out HB.out.size HB1.out)
        have HF : Hid (atF l nm = (0, false)) := Lib.hid HST.out.1.out
        have HS2 := Lib.hid (And.intro ((HB1.out.block ob (by omega)).trans HST.out.2.2.1) ((HB1.out.block ab (by omega)).trans HST.out.2.2.2))
        go_end0
        exact ⟨rfl, HB.out, by rw [HF.out]; exact HS2.out⟩
    | cons p t =>
      obtain ⟨g, u, hv, hg, hr⟩ := hc.out
      subst hv
      have HA := Lib.hid (as_hit ⟨g, 0, none⟩ ⟨tb, 0, none⟩ old wr HG.out ht0 hf0)
      have HR := Lib.hid hr
      have hgl := blk_lt hg
      have HGC := Lib.hid hg
      clear hbb hst ht0 hf0 hc hr hg
      go_wp2_with (fail)
      refine HA.out.mono ?_
      rintro e w1 ⟨rfl, hh⟩
      have hb1 : Below w0.heap.size w0 w1 := HB.out.trans (hh.ch.below_of (by omega) (fun k hk => by rw [hk]; exact htb0))
      have HB1 := Lib.hid hb1
      have hsz1 := hh.ch.size
      have HH := Lib.hid hh
      have ht1 := hh.at_
      have HG1 := Lib.hid ((hb1.block g hgl).trans HGC.out)
      clear hh hb1 HA
      obtain ⟨hat, hp0, ho0, ha0⟩ := HST.out
      have hne1 : tb ≠ pb := by rw [HTB.out]; omega
      have hne2 : tb ≠ ob := by rw [HTB.out]; omega
      have hne3 : tb ≠ ab := by rw [HTB.out]; omega
      have HD := Lib.hid (at_ask g pb ob ab p u nm false 0 w1 HG1.out (HH.out.ch.blk hp0 (fun h => hne1 h.symm)) (HH.out.ch.blk ho0 (fun h => hne2 h.symm)) (HH.out.ch.blk ha0 (fun h => hne3 h.symm)) n1 (by omega))
      have HP1 := Lib.hid (HH.out.ch.blk hp0 (fun h => hne1 h.symm))
      have HAT := hat
      clear hat hp0 ho0 ha0
      go_wp2_with (fail)
      refine HD.out.mono ?_
      rintro e w2 ⟨rfl, hc2, ho2, ha2⟩
      have HB2 := Lib.hid (HB1.out.trans (hc2.below_of (by omega) (fun k hk => by rcases hk with rfl | rfl <;> assumption)))
      have hsz2 := hc2.size
      have HP2 := Lib.hid (hc2.blk HP1.out (fun h => h.elim n2 n3))
      have ht2 := hc2.cell ht1 (show ¬ (tb = ob ∨ tb = ab) from fun h => h.elim hne2 hne3)
      have hf2 : w2.frozen? ⟨tb, 0, none⟩ = false := by rw [Ch.frozen hc2 (by omega) (show ¬ (tb = ob ∨ tb = ab) from fun h => h.elim hne2 hne3)]; exact HH.out.fr
      have hu := (err_cells (hc2.blk HG1.out (show ¬ (g = ob ∨ g = ab) from by omega))).2.2.2
      have HO2 := Lib.hid ho2
      have HA2 := Lib.hid ha2
      have HF2 := Lib.hid hf2
      have HT2 := Lib.hid ht2
      clear hc2 ho2 ha2 HD ht1 hf2 hne1 hne2 hne3
      by_cases hn : p.name = nm
      · have HF : Hid (atF l nm = (p.at_, true)) := Lib.hid (by rw [HAT.out, atF, if_pos hn])
        rw [if_pos hn] at HA2
        rw [decide_eq_true hn] at HO2 ⊢
        clear hn
        go_wp2
        go_end0
        exact ⟨rfl, HB2.out, by rw [HF.out]; exact ⟨HO2.out, HA2.out⟩⟩
      · have HF : Hid (atF l nm = atF t nm) := Lib.hid (by rw [HAT.out, atF, if_neg hn])
        rw [if_neg hn] at HA2
        rw [decide_eq_false hn] at HO2 ⊢
        clear hn
        go_wp2
        go_roundg (t.length + 1)
        case measure => simp
        case rel => exact ⟨t, _, rfl, HR, HB2.out, by omega, ⟨HT2.out, HF2.out⟩, HF, HP2.out, HO2.out, HA2.out⟩

/-- fail.At. -/
theorem at_calls {v z : Value} {l : List Pl} {w : World} (nm : ByteArray) (h : Err w v l z) :
    Calls Tryz.prog 71 #[v, .string nm] w fun e w' => e = .returned (.tuple #[.int .i64 (atF l nm).1, .bool (atF l nm).2]) ∧ Below w.heap.size w w' := by
  have hb := below_alloc (below_alloc (below_alloc (Below.refl w.heap.size w) (.cells #[.string nm] 9)) (.cells #[.int .i64 0] 3)) (.cells #[.bool false] 4)
  have HE := Lib.hid (each_at w _ v z l h hb nm w.heap.size (w.heap.size + 1 + 1) (w.heap.size + 1) (Nat.le_refl _) (by omega) (by omega) (by simp; omega) (by simp) (by simp) (by omega) (by omega) (by omega)
    (by rw [Below.heap_alloc _ _ _ (by simp; omega), Below.heap_alloc _ _ _ (by simp)]; exact heap_alloc_new w _)
    (by have := heap_alloc_new ((w.alloc (.cells #[.string nm] 9)).alloc (.cells #[.int .i64 0] 3)) (.cells #[.bool false] 4); simpa using this)
    (by rw [Below.heap_alloc _ _ _ (by simp)]; have := heap_alloc_new (w.alloc (.cells #[.string nm] 9)) (.cells #[.int .i64 0] 3); simpa using this))
  clear h hb
  go_enter Tryz.func71, Tryz.ntmps71
  go_wp2_with (fail)
  refine HE.out.mono ?_
  rintro e w1 ⟨rfl, hb1, ho1, ha1⟩
  have HB := Lib.hid hb1
  have hc := one_cell ho1
  have hd := one_cell ha1
  generalize hr : atF l nm = r at *
  obtain ⟨r1, r2⟩ := r
  have HR := Lib.hid hr
  simp only at hc hd
  clear hr hb1 ho1 ha1 HE
  go_wp2_with (fail)
  go_quiet (fail)
  go_wp2
  go_ret2
  rw [HR.out]
  exact ⟨rfl, pw_below_drewN HB.out _⟩
end Go.Proofs.YtjfekjbmgckkcaaGreatDoor.FailE
