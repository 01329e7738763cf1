/- the text of an error. -/
import Derived.Test.YtaenincbmlcjiaaDoorFailE
import Derived.Test.YtaenincbmlcjiaaDoorShelf
import Derived.Lib.ItoaLen
import Derived.Deep.RegionWith
import Derived.Lib.AppendIntMem
namespace Go.Proofs.YtaenincbmlcjiaaDoor.FailF
open Go.RowKit Go.Extern.Stop Go.Stop Go.Extern Go.Proofs.YtaenincbmlcjiaaDoorW.PrintWords
open Go.Proofs.YtaenincbmlcjiaaDoor.Bits Go.Proofs.YtaenincbmlcjiaaDoor.Base Go.Proofs.YtaenincbmlcjiaaDoor.FailAs Go.Proofs.YtaenincbmlcjiaaDoor.FailB Go.Proofs.YtaenincbmlcjiaaDoor.FailC Go.Proofs.YtaenincbmlcjiaaDoor.FailD Go.Proofs.YtaenincbmlcjiaaDoor.FailE

/-- the table that strconv.Itoa asks for. -/
def GlT (w : World) : Prop := Lib.TabIs Tryd.prog w "internal/strconv.uint64pow10" .u64 Lib.pow10Tab
theorem glt_below {w w' : World} (h : GlT w) (hb : Below w.heap.size w w') : GlT w' := by
  unfold GlT Lib.TabIs World.var? at h ⊢
  cases hg : Tryd.prog.globalNamed "internal/strconv.uint64pow10" with
  | none => simp [hg] at h
  | some g =>
    simp only [hg, Option.bind_some] at h ⊢
    have hlt : g < w.heap.size := by
      rcases Nat.lt_or_ge g w.heap.size with h' | h'
      · exact h'
      · simp [Array.getElem?_eq_none h'] at h
    rw [hb.block g hlt]
    exact h
theorem lift {P : Program} {f : Nat} {args : Array Value} {n : Nat} {w W : World} {Q : Ending → Prop} (hb : Below n w W) (hn : n ≤ W.heap.size) (h : Calls P f args W fun e w' => Q e ∧ Below W.heap.size W w') :
    Calls P f args W fun e w' => Q e ∧ Below n w w' := h.mono fun _ _ ⟨h1, h2⟩ => ⟨h1, below_then hb hn h2⟩
def In64 (n : Int) : Prop := -9223372036854775808 ≤ n ∧ n ≤ 9223372036854775807
theorem itoa_calls (n : Int) (w : World) (hn : In64 n) (ht : GlT w) : Calls Tryd.prog 27 #[.int .i64 n] w fun e w' => e = .returned (.string (str (Lib.itoa n))) ∧ Below w.heap.size w w' :=
  (Tryd.strconv_Itoa n hn.1 hn.2 w ht).mono fun _ _ ⟨h1, k, os, h2⟩ => ⟨h1, h2 ▸ Lib.below_grow _ w (Nat.le_refl _) k os⟩
/-- a place, and its number. -/
def piece (p : Pl) : ByteArray := if p.name = ⟨#[]⟩ then ⟨#[]⟩ else p.name ++ ⟨#[32]⟩ ++ str (Lib.itoa p.at_) ++ ⟨#[58, 32]⟩
def txtF : List Pl → ByteArray → ByteArray
  | [], X => X
  | p :: t, X => txtF t (X ++ piece p)
theorem size_str (l : List UInt8) : (str l).size = l.length := by simp [str, ByteArray.size]
/-- places that are short, numbers of 64 bits. -/
def Few (l : List Pl) : Prop := ∀ p ∈ l, p.name.size ≤ 50 ∧ In64 p.at_
theorem piece_size {p : Pl} (h : p.name.size ≤ 50 ∧ In64 p.at_) : (piece p).size ≤ 80 := by
  unfold piece
  split
  · decide
  · have := Lib.itoa_length_le p.at_ h.2.1 h.2.2
    rw [ByteArray.size_append, ByteArray.size_append, ByteArray.size_append, size_str]
    have h1 : (⟨#[32]⟩ : ByteArray).size = 1 := rfl
    have h2 : (⟨#[58, 32]⟩ : ByteArray).size = 2 := rfl
    omega
theorem ba_empty (X : ByteArray) : X ++ (⟨#[]⟩ : ByteArray) = X := by
  apply ByteArray.ext; simp
/-- what a step of the text needs. -/
def TS (xb g : Nat) (p : Pl) (W : World) : Prop := W.frozen? ⟨xb, 0, none⟩ = false ∧ W.cell? ⟨g, 1, none⟩ = some (.string p.name) ∧ W.cell? ⟨g, 2, none⟩ = some (.int .i64 p.at_)
theorem TS.of {xb g : Nat} {p : Pl} {u : Value} {W : World} {Y : ByteArray} {T : TypeId} (hx : W.heap[xb]? = some (.cells #[.string Y] T (0, 0))) (hg : W.heap[g]? = some (.cells #[.int .i64 p.code, .string p.name, .int .i64 p.at_, u] 54 (0, 0))) : TS xb g p W :=
  ⟨one_frozen hx, (err_cells hg).2.1, (err_cells hg).2.2.1⟩
theorem add_run {P : Program} (t : TypeId) (a b : ByteArray) (h : a.size + b.size ≤ 9223372036854775807) (W : World) : (binOp .add t (.string a) (.string b)).run P W = .ok (.string (a ++ b)) W := by
  simp only [binOp, run_string_add_sum W a b h]
def TextPost (p : Pl) (u : Value) (X : ByteArray) (xb rb : Nat) (w : World) (e : Ending) (w' : World) : Prop :=
  e = .returned (.bool true) ∧ Ch (fun k => k = xb ∨ k = rb) w w' ∧ w'.heap[xb]? = some (.cells #[.string (X ++ piece p)] 9 (0, 0)) ∧ w'.heap[rb]? = some (.cells #[u] 27 (0, 0))
set_option maxRecDepth 100000 in
set_option maxHeartbeats 25600000 in
theorem text_ask (g xb rb : Nat) (p : Pl) (u u0 : Value) (X : ByteArray) (w : World) (hg : w.heap[g]? = some (.cells #[.int .i64 p.code, .string p.name, .int .i64 p.at_, u] 54 (0, 0)))
    (hx : w.heap[xb]? = some (.cells #[.string X] 9 (0, 0))) (hr : w.heap[rb]? = some (.cells #[u0] 27 (0, 0))) (h1 : xb ≠ rb) (h2 : g ≠ xb) (hu : u = .nilIface ∨ ∃ T x, u = .iface T x) (hs : X.size ≤ 1000000) (hp : p.name.size ≤ 50 ∧ In64 p.at_) (ht : GlT w) :
    Calls Tryd.prog 26 #[.pointer (some ⟨g, 0, none⟩), .pointer (some ⟨xb, 0, none⟩), .pointer (some ⟨rb, 0, none⟩)] w (TextPost p u X xb rb w) := by
  have hxb := blk_lt hx
  have hrb := blk_lt hr
  have hgb := blk_lt hg
  by_cases hn : p.name = ⟨#[]⟩
  · have e1 : (p.name.toList != []) = false := by rw [hn, Lib.toList_data]; rfl
    have e2 : p.name.toList.isEmpty = true := by rw [hn, Lib.toList_data]; rfl
    have HP : Hid (X ++ piece p = X) := Lib.hid (by unfold piece; rw [if_pos hn, ba_empty])
    have cr := one_cell hr
    have fr := one_frozen hr
    obtain ⟨-, c1, -, c3⟩ := err_cells hg
    have HR := Lib.hid (one_setCell (u := u) hr)
    have HC := Lib.hid ((Ch.refl (fun k => k = xb ∨ k = rb) w).setCell (p := ⟨rb, 0, none⟩) (.inl (.inr rfl)) u)
    have HX := Lib.hid ((Below.heap_setCell w ⟨rb, 0, none⟩ u xb h1).trans hx)
    clear hn hg hx hr hs hp ht
    go_enter Tryd.func26, Tryd.ntmps26
    rcases hu with rfl | ⟨T, x, rfl⟩
    all_goals (go_wp2; go_ret; exact ⟨rfl, HC.out, by rw [HP.out]; exact HX.out, HR.out⟩)
  · have e1 : (p.name.toList != []) = true := by
      rw [Lib.toList_data]; simp; intro h; exact hn (ByteArray.ext (Array.toList_inj.1 (by simpa using h)))
    have e2 : p.name.toList.isEmpty = false := by
      rw [Lib.toList_data]; simp; intro h; exact hn (ByteArray.ext h)
    have HI := Lib.hid (fun W (h : Below w.heap.size w W) => lift h h.size (itoa_calls p.at_ W hp.2 (glt_below ht h)))
    have hd := Lib.itoa_length_le p.at_ hp.2.1 hp.2.2
    rw [← size_str] at hd
    have hpz := hp.1
    generalize hD : str (Lib.itoa p.at_) = D at *
    have HP : Hid (X ++ (p.name ++ ⟨#[32]⟩ ++ D ++ ⟨#[58, 32]⟩) = X ++ piece p) := Lib.hid (by unfold piece; rw [if_neg hn, hD])
    have HK := Lib.hid (fun W (h : Below w.heap.size w W) => (TS.of ((h.block xb hxb).trans hx) ((h.block g hgb).trans hg) : TS xb g p W))
    have HK2 := Lib.hid (fun W Y (h : Below w.heap.size w W) => (TS.of (one_setCell (u := .string Y) ((h.block xb hxb).trans hx)) ((Below.heap_setCell W ⟨xb, 0, none⟩ (.string Y) g h2).trans ((h.block g hgb).trans hg)) : TS xb g p (W.setCell ⟨xb, 0, none⟩ (.string Y))))
    have hb0 := Below.refl w.heap.size w
    obtain ⟨c2, c3, c4⟩ := HK.out w hb0
    have c1 := one_cell hx
    have hxr := fun W (h : Below w.heap.size w W) => (one_cell ((h.block xb hxb).trans hx) : W.cell? ⟨xb, 0, none⟩ = some (.string X))
    have hfr := fun W (h : Below w.heap.size w W) => (one_frozen ((h.block xb hxb).trans hx) : W.frozen? ⟨xb, 0, none⟩ = false)
    have hg1 := fun W (h : Below w.heap.size w W) => (err_cells ((h.block g hgb).trans hg)).2.1
    have hg2 := fun W (h : Below w.heap.size w W) => (err_cells ((h.block g hgb).trans hg)).2.2.1
    have HEND : Hid (∀ W, Below w.heap.size w W → ∃ v5, (W.setCell ⟨xb, 0, none⟩ (.string (X ++ piece p))).heap[rb]? = some (.cells #[v5] 27 (0, 0)) ∧ (W.setCell ⟨xb, 0, none⟩ (.string (X ++ piece p))).heap[xb]? = some (.cells #[.string (X ++ piece p)] 9 (0, 0)) ∧ Ch (fun k => k = xb) w (W.setCell ⟨xb, 0, none⟩ (.string (X ++ piece p))) ∧ (W.setCell ⟨xb, 0, none⟩ (.string (X ++ piece p))).cell? ⟨g, 3, none⟩ = some u) :=
      Lib.hid fun W h => ⟨u0, (Below.heap_setCell W ⟨xb, 0, none⟩ _ rb (fun h => h1 h.symm)).trans ((h.block rb hrb).trans hr), one_setCell ((h.block xb hxb).trans hx), ((Ch.of_below h : Ch (fun k => k = xb) w W).setCell (p := ⟨xb, 0, none⟩) (.inl rfl) (.string (X ++ piece p))), (err_cells ((Below.heap_setCell W ⟨xb, 0, none⟩ (.string (X ++ piece p)) g h2).trans ((h.block g hgb).trans hg))).2.2.2⟩
    have HG := Lib.hid hg
    have HX := Lib.hid hx
    have HR := Lib.hid hr
    have z1 : (⟨#[32]⟩ : ByteArray).size = 1 := rfl
    have z2 : (⟨#[58, 32]⟩ : ByteArray).size = 2 := rfl
    have s1 : ¬ (9223372036854775807 < p.name.size + 1) := by omega
    have s2 : ¬ (9223372036854775807 < p.name.size + 1 + D.size) := by omega
    have s3 : ¬ (9223372036854775807 < p.name.size + 1 + D.size + 2) := by omega
    have s4 : ¬ (9223372036854775807 < X.size + (p.name.size + 1 + D.size + 2)) := by omega
    clear hn hg hx hr hp ht hD z1 z2
    go_enter Tryd.func26, Tryd.ntmps26
    go_wp2
    go_region_with (go_at_call 27; refine (HI.out _ ?_).mono ?_; (first | exact hb0 | exact below_drew hb0 | assumption); rintro e w6 ⟨rfl, hb6⟩)
    all_goals (
      rw [HP.out]
      obtain ⟨v5, r1, r2, r3, r4⟩ := HEND.out w6 hb6
      generalize w6.setCell ⟨xb, 0, none⟩ (.string (X ++ piece p)) = w7 at *
      have HE1 := Lib.hid (one_setCell (u := u) r1)
      have HE2 := Lib.hid ((r3.mono (fun k _ h => (.inl h : k = xb ∨ k = rb))).setCell (p := ⟨rb, 0, none⟩) (.inl (.inr rfl)) u)
      have HE3 := Lib.hid ((Below.heap_setCell w7 ⟨rb, 0, none⟩ u xb h1).trans r2)
      have q1 := one_cell r1
      have q2 := one_frozen r1
      clear r1 r2 r3 hb6 hxr c1 c2 c3 c4 hfr hg1 hg2 s1 s2 s3 s4 hb0 HI HK HK2 HEND
      rcases hu with rfl | ⟨T, x, rfl⟩
      all_goals (go_wp2; go_ret; exact ⟨rfl, HE2.out, HE3.out, HE1.out⟩))
end Go.Proofs.YtaenincbmlcjiaaDoor.FailF
