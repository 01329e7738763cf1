/- law 02: what its functions have in common: small, places; the fixed answer. -/
import Derived.Test.YtaenincbmlcjiaaDoorRef02B
namespace Go.Proofs.YtaenincbmlcjiaaDoor.Law02A
open Go.RowKit Go.Proofs.YtaenincbmlcjiaaDoorW.PrintWords
open Go.Proofs.YtaenincbmlcjiaaDoor.Bits Go.Proofs.YtaenincbmlcjiaaDoor.Base Go.Proofs.YtaenincbmlcjiaaDoor.SpanBase Go.Proofs.YtaenincbmlcjiaaDoor.FailAs Go.Proofs.YtaenincbmlcjiaaDoor.FailB Go.Proofs.YtaenincbmlcjiaaDoor.FailC Go.Proofs.YtaenincbmlcjiaaDoor.FailD Go.Proofs.YtaenincbmlcjiaaDoor.FailE Go.Proofs.YtaenincbmlcjiaaDoor.FailF Go.Proofs.YtaenincbmlcjiaaDoor.FailG Go.Proofs.YtaenincbmlcjiaaDoor.FailH Go.Proofs.YtaenincbmlcjiaaDoor.Rep Go.Proofs.YtaenincbmlcjiaaDoor.Ref02 Go.Proofs.YtaenincbmlcjiaaDoor.Ref02B

theorem infoPl : (Tryd.prog.info? 41).map (fun i => (i.zero, i.size, i.bytes)) = some (some (.agg #[.string ⟨#[]⟩, .int .i64 0]), np.k, 24) := by kernel_rfl
def short (l : List NP) : Bool := l.all fun x => decide (x.1.size ≤ 50)
def small (l : List NP) : Bool := short l && decide (l.length ≤ 30)
theorem short_cons (x : NP) (l : List NP) : short (x :: l) = (decide (x.1.size ≤ 50) && short l) := rfl
set_option maxRecDepth 100000 in
set_option maxHeartbeats 800000 in
theorem small_calls (A : Option Addr) (c : Nat) (l : List NP) (w : World) (hr : RdC w A (all np l)) (hm : l.length ≤ 9223372036854775807) :
    Calls Tryd.prog 6 #[.slice A l.length c] w fun e w' => e = .returned (.bool (small l)) ∧ Below w.heap.size w w' := by
  have HR := Lib.hid hr
  clear hr
  go_enter Tryd.func6, Tryd.ntmps6
  go_wp2
  go_loopw [7] (fun i wr => ∃ (k : Nat), k ≤ l.length ∧ i = .int .i64 k ∧ Hid (short l = short (l.drop k)) ∧ Below w.heap.size w wr) (fun i _ => l.length - (intOf i).toNat)
  case atStart => exact ⟨0, by omega, rfl, Lib.hid rfl, Below.refl _ _⟩
  case round =>
    obtain ⟨k, hk, rfl, ht, hb⟩ := hrel
    have HB := Lib.hid hb
    have hsz := hb.size
    by_cases hlt : k < l.length
    · obtain ⟨ad, hA, c0, c1⟩ := np_at (HR.out.below hb) k hlt
      subst hA
      have HD : Hid (short l = (decide (l[k].1.size ≤ 50) && short (l.drop (k + 1)))) := Lib.hid (by rw [ht.out, List.drop_eq_getElem_cons hlt, short_cons])
      obtain ⟨p, hp⟩ : ∃ p, p = l[k] := ⟨_, rfl⟩
      rw [← hp] at c0 c1 HD
      obtain ⟨x, y⟩ := p
      simp only at c0 c1 HD
      clear hp hb ht
      by_cases hx : x.size ≤ 50
      · have HN : Hid (short l = short (l.drop (k + 1))) := Lib.hid (by rw [HD.out, decide_eq_true hx, Bool.true_and])
        have d1 : decide ((x.size : Int) > 50) = false := by simp; omega
        have d1' : decide (50 < (x.size : Int)) = false := by simp; omega
        have d1n : decide (50 < x.size) = false := by simp; omega
        go_wp2
        go_roundw
        case rel => exact ⟨k + 1, by omega, by go_num, HN, HB.out.alloc hsz _⟩
        case measure => simp [intOf]; omega
      · have HF : Hid (small l = false) := Lib.hid (by unfold small; rw [HD.out, decide_eq_false hx]; rfl)
        have d1 : decide ((x.size : Int) > 50) = true := by simp; omega
        have d1' : decide (50 < (x.size : Int)) = true := by simp; omega
        have d1n : decide (50 < x.size) = true := by simp; omega
        go_wp2
        go_ret
        exact ⟨by rw [HF.out]; rfl, HB.out.alloc hsz _⟩
    · obtain rfl : k = l.length := by omega
      have hs : short l = true := by rw [ht.out, List.drop_length]; rfl
      by_cases h3 : l.length ≤ 30
      · have HF : Hid (small l = true) := Lib.hid (by unfold small; rw [hs, decide_eq_true h3]; rfl)
        have d1 : decide ((l.length : Int) ≤ 30) = true := by simp; omega
        have d1n : decide (l.length ≤ 30) = true := by simp; omega
        clear ht hb
        go_wp2
        go_ret
        exact ⟨by rw [HF.out]; rfl, HB.out⟩
      · have HF : Hid (small l = false) := Lib.hid (by unfold small; rw [decide_eq_false h3, Bool.and_false])
        have d1 : decide ((l.length : Int) ≤ 30) = false := by simp; omega
        have d1n : decide (l.length ≤ 30) = false := by simp; omega
        clear ht hb
        go_wp2
        go_ret
        exact ⟨by rw [HF.out]; rfl, HB.out⟩
set_option maxRecDepth 100000 in
set_option maxHeartbeats 800000 in
theorem places_calls (A : Option Addr) (c : Nat) (l : List NP) (w : World) (hr : RdC w A (all np l)) (hm : l.length ≤ 1000) :
    Calls Tryd.prog 14 #[.slice A l.length c] w fun e w' => ∃ v, e = .returned v ∧ OwX np 41 w' w.heap.size v l.reverse ∧ Below w.heap.size w w' := by
  have HR := Lib.hid hr
  clear hr
  go_enter Tryd.func14, Tryd.ntmps14
  go_wp2
  go_loopw [3, 8] (fun v i wr => ∃ (k : Nat), k ≤ l.length ∧ i = .int .i64 k ∧ OwX np 41 wr w.heap.size v (l.reverse.take k) ∧ Below w.heap.size w wr) (fun _ i _ => l.length - (intOf i).toNat)
  case atStart => exact ⟨0, by omega, rfl, OwX.nil _ _ _ _, Below.refl _ _⟩
  case round =>
    obtain ⟨k, hk, rfl, ho, hb⟩ := hrel
    have HB := Lib.hid hb
    have HO := Lib.hid ho
    have hsz := hb.size
    by_cases hlt : k < l.length
    · obtain ⟨ad, hA, c0, c1⟩ := np_at (HR.out.below hb) (l.length - 1 - k) (by omega)
      subst hA
      have hkr : k < l.reverse.length := by rw [List.length_reverse]; exact hlt
      have HT : Hid (l.reverse.take (k + 1) = l.reverse.take k ++ [l[l.length - 1 - k]]) := Lib.hid (by rw [List.take_succ_eq_append_getElem hkr, List.getElem_reverse])
      have hlk : (l.reverse.take k).length ≤ 1000 := by rw [List.length_take]; omega
      obtain ⟨p, hp⟩ : ∃ p, p = l[l.length - 1 - k] := ⟨_, rfl⟩
      rw [← hp] at c0 c1 HT
      obtain ⟨x, y⟩ := p
      simp only at c0 c1
      obtain ⟨L, hL⟩ : ∃ L, L = l.reverse.take k := ⟨_, rfl⟩
      rw [← hL] at HO HT hlk
      have b0 : (0 : Int) ≤ (l.length : Int) - 1 - (k : Int) := by omega
      have b1 : (l.length : Int) - 1 - (k : Int) < (l.length : Int) := by omega
      have lt0 : (k : Int) < (l.length : Int) := by omega
      clear hp hb ho hL
      go_wp2_with (at_builtin; refine append_any (r := np) (w0 := w) w.heap.size rfl (.tmp 19) (.tmp 25) 38 41 _ 24 rfl Tryd.underlying38 infoPl rfl (by decide) _ L (x, y) _ rfl rfl (wr.heap.size + 1) (by simp) rfl (by exact HO.out.below (below_alloc (Below.refl _ _) _)) (by exact below_alloc HB.out _) (by simp; omega) (by omega) (by omega) ?_; intro v1 w1 ho1 hb1 _; have HO1 := Lib.hid ho1; have HB1 := Lib.hid hb1; clear ho1 hb1)
      go_roundw
      case rel => exact ⟨k + 1, by omega, by go_num, by rw [HT.out]; exact HO1.out, HB1.out⟩
      case measure => simp [intOf]; omega
    · obtain rfl : k = l.length := by omega
      rw [show l.length = l.reverse.length from List.length_reverse.symm, List.take_length] at HO
      clear hb ho
      go_wp2
      go_ret
      exact ⟨_, rfl, HO.out, HB.out⟩
/-- what fail asks of the world. -/
structure Gl (w : World) (a : Addr) : Prop where
  et : GlE w
  cl : GlC w a
  tab : GlT w
theorem Gl.below {w W : World} {a : Addr} (h : Gl w a) (hb : Below w.heap.size w W) : Gl W a := ⟨gle_below h.et hb, glc_below h.cl hb, glt_below h.tab hb⟩
/-- the chain of some places, all with one code. -/
def chain (c : Int) (m : List NP) : List Pl := m.map fun x => ⟨c, x.1, x.2⟩
theorem chain_few {c : Int} {m : List NP} (h : FewR m) : Few (chain c m) := by
  intro p hp
  obtain ⟨x, hx, rfl⟩ := List.mem_map.1 hp
  exact h x hx
theorem chain_at (c : Int) (m : List NP) (nm : ByteArray) : atF (chain c m) nm = ((atR m nm).1, (atR m nm).2 == 1) := by
  induction m with
  | nil => rfl
  | cons x t ih =>
    show (if x.1 = nm then (x.2, true) else atF (chain c t) nm) = _
    rw [atR]
    split
    · rfl
    · exact ih
theorem chain_txt (c : Int) (m : List NP) (Z : ByteArray) : ∀ X, txtF (chain c m) X ++ Z = X ++ textR m Z := by
  induction m with
  | nil => intro X; rfl
  | cons x t ih =>
    intro X
    show txtF (chain c t) (X ++ piece ⟨c, x.1, x.2⟩) ++ Z = X ++ (pieceR x ++ textR t Z)
    rw [ih, ByteArray.append_assoc]
    rfl
theorem textR_none (m : List NP) (Z : ByteArray) : textR (m ++ [(⟨#[]⟩, 0)]) Z = textR m Z := by
  unfold textR
  rw [List.foldr_append]
  congr 1
theorem textOf_chain (c : Int) (m : List NP) (z : Value) (h : codeOf (chain c m) z = c) : textOf (chain c m) z = textR m (endT z c) := by
  rw [textOf, h, chain_txt]
  apply ByteArray.ext; simp
theorem chain_len (c : Int) (m : List NP) : (chain c m).length = m.length := by simp [chain]
theorem rev_take {α : Type} (l : List α) (k : Nat) (h : k < l.length) (b : List α) : (l.take (k + 1)).reverse ++ b = l[k] :: ((l.take k).reverse ++ b) := by
  rw [List.take_succ_eq_append_getElem h, List.reverse_append]; rfl
theorem small_short {l : List NP} (h : small l = true) : (∀ x ∈ l, x.1.size ≤ 50) ∧ l.length ≤ 30 := by
  unfold small short at h
  rw [Bool.and_eq_true, decide_eq_true_eq, List.all_eq_true] at h
  exact ⟨fun x hx => by simpa using h.1 x hx, h.2⟩
theorem lit_size : (⟨#[99, 104, 117, 110, 107]⟩ : ByteArray).size = 5 := rfl
set_option maxRecDepth 100000 in
set_option maxHeartbeats 3200000 in
theorem awake_calls (a : Addr) (w : World) (hg : Gl w a) :
    Calls Tryd.prog 7 #[] w fun e w' => e = .returned (.bool true) ∧ Below w.heap.size w w' := by
  have HG := Lib.hid hg
  have HN := Lib.hid (new_code 10 w hg.et (by decide))
  clear hg
  go_enter Tryd.func7, Tryd.ntmps7
  go_wp2_with (fail)
  refine HN.out.mono ?_
  rintro e w1 ⟨v1, rfl, he1, hb1⟩
  have B1 := Lib.hid hb1
  have HW := Lib.hid (wrap_calls ⟨#[99, 104, 117, 110, 107]⟩ 3 he1 (.inl (by simp)))
  clear hb1 he1 HN
  go_wp2_with (fail)
  refine HW.out.mono ?_
  rintro e w2 ⟨v2, rfl, he2, hb2⟩
  have B2 := Lib.hid (below_then B1.out B1.out.size hb2)
  have he2 : Err w2 v2 [⟨10, ⟨#[99, 104, 117, 110, 107]⟩, 3⟩, ⟨10, ⟨#[]⟩, 0⟩] .nilIface := he2
  have E2 := Lib.hid he2
  have HA := Lib.hid (at_calls ⟨#[99, 104, 117, 110, 107]⟩ he2)
  rw [show atF [⟨10, ⟨#[99, 104, 117, 110, 107]⟩, 3⟩, ⟨10, ⟨#[]⟩, 0⟩] ⟨#[99, 104, 117, 110, 107]⟩ = (3, true) from by rw [atF, if_pos rfl]] at HA
  simp only at HA
  clear hb2 he2 HW
  go_wp2_with (fail)
  refine HA.out.mono ?_
  rintro e w3 ⟨rfl, hb3⟩
  have B3 := Lib.hid (below_then B2.out B2.out.size hb3)
  have E3 := Lib.hid (E2.out.below hb3)
  have HC := Lib.hid (code_calls E3.out)
  rw [show codeOf [⟨10, ⟨#[99, 104, 117, 110, 107]⟩, 3⟩, ⟨10, ⟨#[]⟩, 0⟩] .nilIface = 10 from rfl] at HC
  clear hb3 HA E2
  go_wp2_with (fail)
  refine HC.out.mono ?_
  rintro e w4 ⟨rfl, hb4⟩
  have B4 := Lib.hid (below_then B3.out B3.out.size hb4)
  have E4 := Lib.hid (E3.out.below hb4)
  have HD := Lib.hid (depth_calls E4.out (by decide))
  clear hb4 HC E3
  go_wp2_with (fail)
  refine HD.out.mono ?_
  rintro e w5 ⟨rfl, hb5⟩
  have B5 := Lib.hid (below_then B4.out B4.out.size hb5)
  have E5 := Lib.hid (E4.out.below hb5)
  have HL := Lib.hid (closed_calls E5.out.ch (.inl rfl) (HG.out.below B5.out).cl)
  rw [show isz .nilIface = false from rfl] at HL
  clear hb5 HD E4
  go_wp2_with (fail)
  refine HL.out.mono ?_
  rintro e w6 ⟨rfl, rfl⟩
  have HGC := (HG.out.below B5.out).cl
  have HW2 := Lib.hid (wrap_calls (v := .iface 110 (.pointer (some a))) (l := []) (z := .iface 110 (.pointer (some a))) ⟨#[97]⟩ 1 ⟨rfl, .inr ⟨a, rfl⟩, (HG.out.below B5.out).et⟩ (.inr (by simp)))
  have hgc : w5.cell? ⟨0, 0, none⟩ = some (.iface 110 (.pointer (some a))) := HGC
  clear HL HGC
  go_wp2_with (fail)
  refine HW2.out.mono ?_
  rintro e w7 ⟨v7, rfl, he7, hb7⟩
  have B7 := Lib.hid (below_then B5.out B5.out.size hb7)
  have HL2 := Lib.hid (closed_calls he7.ch (.inr rfl) (HG.out.below B7.out).cl)
  rw [show isz (.iface 110 (.pointer (some a))) = true from rfl] at HL2
  clear hb7 he7 HW2 hgc
  go_wp2_with (fail)
  refine HL2.out.mono ?_
  rintro e w8 ⟨rfl, rfl⟩
  have HC2 := Lib.hid (code_nil w7)
  clear HL2
  go_wp2_with (fail)
  refine HC2.out.mono ?_
  rintro e w9 ⟨rfl, hb9⟩
  have B9 := Lib.hid (below_then B7.out B7.out.size hb9)
  clear hb9
  go_wp2
  go_ret
  exact ⟨rfl, B9.out⟩
end Go.Proofs.YtaenincbmlcjiaaDoor.Law02A
