/- the reference of layer 2: the first of a name; the text of places. The law's places. -/
import Derived.Test.YtaenincbmlcjiaaDoorRef02
import Derived.Test.YtaenincbmlcjiaaDoorLawBase
import Derived.Deep.RegionHeld3
namespace Go.Proofs.YtaenincbmlcjiaaDoor.Ref02B
open Go.RowKit Go.Proofs.YtaenincbmlcjiaaDoorW.PrintWords
open Go.Proofs.YtaenincbmlcjiaaDoor.Bits Go.Proofs.YtaenincbmlcjiaaDoor.Base Go.Proofs.YtaenincbmlcjiaaDoor.SpanBase Go.Proofs.YtaenincbmlcjiaaDoor.FailB Go.Proofs.YtaenincbmlcjiaaDoor.FailE Go.Proofs.YtaenincbmlcjiaaDoor.FailF Go.Proofs.YtaenincbmlcjiaaDoor.Rep Go.Proofs.YtaenincbmlcjiaaDoor.Ref02

/-- a name, and a number there. -/
abbrev NP := ByteArray × Int
def np : Rep NP := pair text (int .i64)
theorem np_at {w : World} {A : Option Addr} {l : List NP} (h : RdC w A (all np l)) (i : Nat) (hi : i < l.length) :
    ∃ ad, A = some ad ∧ w.cell? (ad.add (i * 2)) = some (.string l[i].1) ∧ w.cell? ⟨(ad.add (i * 2)).block, (ad.add (i * 2)).off + 1, none⟩ = some (.int .i64 l[i].2) := by
  obtain ⟨ad, he, hc⟩ := RdC.elem h i hi (by decide)
  refine ⟨ad, he, hc 0 _ rfl, ?_⟩
  rw [← add_one, SpanBase.add_add]
  exact hc 1 _ rfl
/-- the number of the first one of a name. -/
def atR : List NP → ByteArray → Int × Int
  | [], _ => (0, 0)
  | p :: t, nm => if p.1 = nm then (p.2, 1) else atR t nm
set_option maxRecDepth 100000 in
set_option maxHeartbeats 800000 in
theorem at_calls (A : Option Addr) (c : Nat) (l : List NP) (nm : ByteArray) (w : World) (hr : RdC w A (all np l)) (hm : l.length ≤ 1000000) :
    Calls Tryd.prog 13 #[.slice A l.length c, .string nm] w fun e w' => e = .returned (.tuple #[.int .i64 (atR l nm).1, .int .i64 (atR l nm).2]) ∧ w = w' := by
  have HR := Lib.hid hr
  clear hr
  go_enter Tryd.func13, Tryd.ntmps13
  go_wp2
  go_loop [6] (fun i => ∃ k : Nat, k ≤ l.length ∧ i = .int .i64 k ∧ Hid (atR l nm = atR (l.drop k) nm)) (fun i => l.length - (intOf i).toNat)
  case atStart => exact ⟨0, by omega, rfl, Lib.hid rfl⟩
  case round =>
    obtain ⟨k, hk, rfl, hn⟩ := hrel
    by_cases hlt : k < l.length
    · obtain ⟨ad, hA, c0, c1⟩ := np_at HR.out k hlt
      subst hA
      have HD : Hid (atR l nm = if l[k].1 = nm then (l[k].2, 1) else atR (l.drop (k + 1)) nm) := Lib.hid (by rw [hn.out, List.drop_eq_getElem_cons hlt, atR])
      have b0 : (0 : Int) ≤ (k : Int) := by omega
      have b1 : (k : Int) < (l.length : Int) := by omega
      obtain ⟨p, hp⟩ : ∃ p, p = l[k] := ⟨_, rfl⟩
      rw [← hp] at c0 c1 HD
      obtain ⟨x, y⟩ := p
      simp only at c0 c1 HD
      clear hp hn
      by_cases he : x = nm
      · have e1 : (x.toList == nm.toList) = true := by rw [beq_str]; simpa using he
        rw [if_pos he] at HD
        subst he
        go_wp2
        go_ret2
        rw [HD.out]
        exact ⟨rfl, rfl⟩
      · have e1 : (x.toList == nm.toList) = false := by rw [beq_str]; simpa using he
        rw [if_neg he] at HD
        clear he
        go_wp2
        go_round
        case rel => exact ⟨k + 1, by omega, by go_num, HD⟩
        case measure => simp [intOf]; omega
    · obtain rfl : k = l.length := by omega
      have HF : Hid (atR l nm = (0, 0)) := Lib.hid (by rw [hn.out, List.drop_length]; rfl)
      clear hn
      go_wp2
      go_ret2
      rw [HF.out]
      exact ⟨rfl, rfl⟩
/-- a place's text. -/
def pieceR (p : NP) : ByteArray := piece ⟨0, p.1, p.2⟩
def textR (l : List NP) (z : ByteArray) : ByteArray := l.foldr (fun p X => pieceR p ++ X) z
def FewR (l : List NP) : Prop := ∀ p ∈ l, p.1.size ≤ 50 ∧ In64 p.2
theorem textR_size (l : List NP) (z : ByteArray) (h : FewR l) : (textR l z).size ≤ 80 * l.length + z.size := by
  induction l with
  | nil => simp [textR]
  | cons p t ih =>
    have h1 := ih fun q hq => h q (List.mem_cons_of_mem _ hq)
    have h2 := piece_size (p := ⟨0, p.1, p.2⟩) (h p List.mem_cons_self)
    rw [show textR (p :: t) z = pieceR p ++ textR t z from rfl, ByteArray.size_append, List.length_cons]
    unfold pieceR
    omega
set_option maxRecDepth 100000 in
set_option maxHeartbeats 6400000 in
theorem text_calls (A : Option Addr) (c : Nat) (l : List NP) (z : ByteArray) (w : World) (hr : RdC w A (all np l)) (hm : l.length ≤ 1000) (hz : z.size ≤ 1000) (hf : FewR l) :
    Calls Tryd.prog 17 #[.slice A l.length c, .string z] w fun e w' => e = .returned (.string (textR l z)) ∧ Below w.heap.size w w' := by
  have HR := Lib.hid hr
  have HF := Lib.hid hf
  clear hr hf
  go_enter Tryd.func17, Tryd.ntmps17
  go_wp2
  go_loopw [5, 6] (fun x i wr => ∃ k : Nat, k ≤ l.length ∧ i = .int .i64 ((k : Int) - 1) ∧ x = .string (textR (l.drop k) z) ∧ Below w.heap.size w wr) (fun _ i _ => (intOf i + 1).toNat)
  case atStart => exact ⟨l.length, by omega, rfl, by rw [List.drop_length]; rfl, Below.refl _ _⟩
  case round =>
    obtain ⟨k, hk, rfl, rfl, hb⟩ := hrel
    have HB := Lib.hid hb
    have hsz := hb.size
    cases k with
    | zero =>
      clear hb
      go_wp2
      go_ret
      exact ⟨rfl, HB.out⟩
    | succ k =>
      have hlt : k < l.length := by omega
      obtain ⟨ad, hA, c0, c1⟩ := np_at (HR.out.below hb) k hlt
      subst hA
      have hfk := HF.out l[k] (List.getElem_mem hlt)
      have HT : Hid (textR (l.drop k) z = pieceR l[k] ++ textR (l.drop (k + 1)) z) := Lib.hid (by rw [List.drop_eq_getElem_cons hlt]; rfl)
      have hts := textR_size (l.drop (k + 1)) z fun q hq => HF.out q (List.mem_of_mem_drop hq)
      rw [List.length_drop] at hts
      have HK : Hid (∀ W, Below wr.heap.size wr W → W.cell? (ad.add (k * 2)) = some (.string l[k].1) ∧ W.cell? ⟨(ad.add (k * 2)).block, (ad.add (k * 2)).off + 1, none⟩ = some (.int .i64 l[k].2)) := Lib.hid (fun W h => by
        obtain ⟨ad', hA', d0, d1⟩ := np_at ((HR.out.below hb).below h) k hlt
        injection hA' with hA'
        subst hA'
        exact ⟨d0, d1⟩)
      obtain ⟨p, hp⟩ : ∃ p, p = l[k] := ⟨_, rfl⟩
      rw [← hp] at c0 c1 HT hfk HK
      obtain ⟨x, y⟩ := p
      simp only at c0 c1 hfk HK
      obtain ⟨X, hX⟩ : ∃ X, X = textR (l.drop (k + 1)) z := ⟨_, rfl⟩
      rw [← hX] at HT hts ⊢
      obtain ⟨hx, hy⟩ := hfk
      have ek : ((k + 1 : Nat) : Int) - 1 = (k : Int) := by omega
      rw [ek]
      have b0 : (0 : Int) ≤ (k : Int) := by omega
      have b1 : (k : Int) < (l.length : Int) := by omega
      have g0 : decide ((k : Int) ≥ 0) = true := by simp
      have g0' : decide (0 ≤ (k : Int)) = true := by simp
      clear hp hX ek
      by_cases he : x = ⟨#[]⟩
      · have e1 : (x.toList != []) = false := by rw [he, Lib.toList_data]; rfl
        have e2 : x.toList.isEmpty = true := by rw [he, Lib.toList_data]; rfl
        have HP : Hid (textR (l.drop k) z = X) := Lib.hid (by rw [HT.out, pieceR, piece, if_pos he]; apply ByteArray.ext; simp)
        clear he hb
        go_wp2
        go_roundw
        case rel => exact ⟨k, by omega, rfl, by rw [HP.out], HB.out⟩
        case measure => simp [intOf]
      · have e1 : (x.toList != []) = true := by
          rw [Lib.toList_data]; simp; intro h; exact he (ByteArray.ext (Array.toList_inj.1 (by simpa using h)))
        have e2 : x.toList.isEmpty = false := by
          rw [Lib.toList_data]; simp; intro h; exact he (ByteArray.ext h)
        have hd := Lib.itoa_length_le y hy.1 hy.2
        rw [← size_str] at hd
        have HI := Lib.hid (fun W (h : Below wr.heap.size wr W) => lift h h.size (digits_calls y W hy))
        have HP : Hid (x ++ ⟨#[32]⟩ ++ str (Lib.itoa y) ++ ⟨#[58, 32]⟩ ++ X = textR (l.drop k) z) := Lib.hid (by rw [HT.out, pieceR, piece, if_neg he])
        generalize str (Lib.itoa y) = D at *
        have s1 : ¬ (9223372036854775807 < x.size + 1) := by omega
        have s2 : ¬ (9223372036854775807 < x.size + 1 + D.size) := by omega
        have s3 : ¬ (9223372036854775807 < x.size + 1 + D.size + 2) := by omega
        have s4 : ¬ (9223372036854775807 < x.size + 1 + D.size + 2 + X.size) := by omega
        have hb0 := Below.refl wr.heap.size wr
        clear he hb
        go_wp2
        go_region_held3 (fun W => W.cell? (ad.add (k * 2)) = some (.string x) ∧ W.cell? ⟨(ad.add (k * 2)).block, (ad.add (k * 2)).off + 1, none⟩ = some (.int .i64 y))
          (first | exact HK.out _ (by first | exact below_drew hb0 | assumption))
          ((go_at_call 18; refine (HI.out _ (by first | exact below_drew hb0 | assumption)).mono ?_; rintro e w6 ⟨rfl, hb6⟩))
        have HB6 := Lib.hid (below_then HB.out hsz hb6)
        rw [HP.out]
        clear hb6 s1 s2 s3 s4
        go_wp2
        go_roundw
        case rel => exact ⟨k, by omega, rfl, rfl, HB6.out⟩
        case measure => simp [intOf]
end Go.Proofs.YtaenincbmlcjiaaDoor.Ref02B
