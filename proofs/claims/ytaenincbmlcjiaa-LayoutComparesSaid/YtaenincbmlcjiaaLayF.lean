/- layout's walks: what two lists lack; whether one covers another. -/
import Derived.Test.YtaenincbmlcjiaaLayE
import Derived.Test.YtaenincbmlcjiaaSpanFrom
namespace Go.Proofs.Ytaenincbmlcjiaa.LayF
open Go.RowKit Go.Proofs.YtaenincbmlcjiaaW.PrintWords
open Go.Proofs.Ytaenincbmlcjiaa.Base Go.Proofs.Ytaenincbmlcjiaa.SpanPure Go.Proofs.Ytaenincbmlcjiaa.SpanPure2 Go.Proofs.Ytaenincbmlcjiaa.LayPure Go.Proofs.Ytaenincbmlcjiaa.LayPure3 Go.Proofs.Ytaenincbmlcjiaa.SpanBase Go.Proofs.Ytaenincbmlcjiaa.SpanA Go.Proofs.Ytaenincbmlcjiaa.SpanB Go.Proofs.Ytaenincbmlcjiaa.SpanD Go.Proofs.Ytaenincbmlcjiaa.SpanG Go.Proofs.Ytaenincbmlcjiaa.LayA Go.Proofs.Ytaenincbmlcjiaa.LayE Go.Proofs.Ytaenincbmlcjiaa.SpanFrom

/-- a list that is read. -/
structure IsS (w : World) (A : Option Addr) (c : Nat) (l : List Sp) : Prop where
  rd : RdSp w A l
  len : l.length ≤ 1000000
  cap : l.length ≤ c
  nil : A = none → c = 0
theorem IsS.below {w W : World} {A : Option Addr} {c : Nat} {l : List Sp} (h : IsS w A c l) (hb : Below w.heap.size w W) : IsS W A c l := ⟨h.rd.below hb, h.len, h.cap, h.nil⟩
/-- a world that came of three worlds. -/
structure Th (a b c W : World) : Prop where
  x : Below a.heap.size a W
  y : Below b.heap.size b W
  z : Below c.heap.size c W
theorem Th.next {a b c W W' : World} (h : Th a b c W) (hb : Below W.heap.size W W') : Th a b c W' := ⟨below_then h.x h.x.size hb, below_then h.y h.y.size hb, below_then h.z h.z.size hb⟩
theorem Th.drew {a b c W : World} (h : Th a b c W) (q : Nat) : Th a b c (W.drewN q) := ⟨pw_below_drewN h.x q, pw_below_drewN h.y q, pw_below_drewN h.z q⟩

/-- the places of both. -/
def both (a b : List Sp) : List Int := uni (places a) (places b)
/-- what the union of two lists is refused with. -/
def cerr (a b : List Sp) : Nat := if chk a ≠ 0 then chk a else if chk b ≠ 0 then chk b else if 4096 < (both a b).length ∨ 1024 < (fromL (both a b)).length then 12 else 0
theorem cerr_zero {a b : List Sp} (h : cerr a b = 0) : chk a = 0 ∧ chk b = 0 ∧ (both a b).length ≤ 4096 ∧ (fromL (both a b)).length ≤ 1024 := by
  unfold cerr at h
  split at h
  · omega
  · split at h
    · omega
    · split at h
      · omega
      · omega
def UPost (a b : List Sp) (w : World) (e : Ending) (w' : World) : Prop :=
  Below w.heap.size w w' ∧ ((cerr a b ≠ 0 ∧ e = .returned (.tuple #[.slice none 0 0, .int .i64 (cerr a b)])) ∨ (cerr a b = 0 ∧ ∃ v, e = .returned (.tuple #[v, .int .i64 0]) ∧ OwSp 43 w' w.heap.size v (fromL (both a b))))
theorem union_c {A B : Option Addr} {c d : Nat} {a b : List Sp} {w : World} (ha : IsS w A c a) (hb : IsS w B d b) :
    Calls Try.prog 25 #[.slice A a.length c, .slice B b.length d] w (UPost a b w) := by
  have la := ha.len
  have lb := hb.len
  refine (union_calls A B c d a b w ha.rd hb.rd (by omega) (by omega) ha.cap hb.cap ha.nil hb.nil).mono ?_
  rintro e w' ⟨hw, ⟨g1, rfl⟩ | ⟨g1, g2, rfl⟩ | ⟨g1, g2, g3, rfl⟩ | ⟨g1, g2, g3, g4, v, rfl, g5⟩⟩
  · have e : cerr a b = chk a := if_pos g1
    exact ⟨hw, .inl ⟨by rw [e]; exact g1, by rw [e]⟩⟩
  · have e : cerr a b = chk b := by unfold cerr; rw [if_neg (by omega), if_pos g2]
    exact ⟨hw, .inl ⟨by rw [e]; exact g2, by rw [e]⟩⟩
  · have e : cerr a b = 12 := by unfold cerr both; rw [if_neg (by omega), if_neg (by omega), if_pos g3]
    exact ⟨hw, .inl ⟨by rw [e]; decide, by rw [e]; rfl⟩⟩
  · have e : cerr a b = 0 := by unfold cerr both; rw [if_neg (by omega), if_neg (by omega), if_neg (by omega)]
    exact ⟨hw, .inr ⟨e, v, rfl, g5⟩⟩
theorem places_good {A : Option Addr} {c : Nat} {l : List Sp} {w : World} (h : IsS w A c l) (h0 : chk l = 0) :
    Calls Try.prog 42 #[.slice A l.length c] w fun e w' => ∃ v, e = .returned (.tuple #[v, .int .i64 0]) ∧ OwI 3 .i64 w' w.heap.size v (places l) ∧ Below w.heap.size w w' := by
  have ll := h.len
  refine (SpanD.places_calls A c l w h.rd (by omega) h.cap h.nil).mono ?_
  rintro e w' ⟨hw, ⟨g1, rfl⟩ | ⟨g1, v, rfl, g5⟩⟩
  · omega
  · exact ⟨v, rfl, g5, hw⟩
/-- of both there is a list. -/
theorem both_facts {a b : List Sp} (h : cerr a b = 0) : chk (fromL (both a b)) = 0 ∧ places (fromL (both a b)) = both a b ∧ canonical (fromL (both a b)) = true := by
  obtain ⟨h1, h2, h3, h4⟩ := cerr_zero h
  obtain ⟨k1, k2, k3, k4⟩ := fromL_facts (uni_rising (places_in (right_of h1)) (places_in (right_of h2))) h3 h4
  exact ⟨k1, k2, k4⟩

/-- what Compare hands back. -/
def ComPost (a b : List Sp) (w : World) (e : Ending) (w' : World) : Prop :=
  Below w.heap.size w w' ∧ ((cerr a b ≠ 0 ∧ e = .returned (.tuple #[.slice none 0 0, .slice none 0 0, .int .i64 (cerr a b)])) ∨
    (cerr a b = 0 ∧ ∃ f g, e = .returned (.tuple #[f, g, .int .i64 0]) ∧ OwSp 53 w' w.heap.size f (lacks (places a) (both a b)) ∧ OwSp 53 w' w.heap.size g (lacks (places b) (both a b))))
set_option maxRecDepth 100000 in
set_option maxHeartbeats 1600000 in
theorem compare_calls {A B : Option Addr} {c d : Nat} {a b : List Sp} {w : World} (ha : IsS w A c a) (hb : IsS w B d b) :
    Calls Try.prog 35 #[.slice A a.length c, .slice B b.length d] w (ComPost a b w) := by
  have HU := Lib.hid (union_c ha hb)
  have HA := Lib.hid ha
  have HB := Lib.hid hb
  clear ha hb
  go_enter Try.func35, Try.ntmps35
  go_wp2_with (fail)
  refine HU.out.mono ?_
  rintro e w1 ⟨hb1, ⟨h0, rfl⟩ | ⟨h0, v, rfl, ho⟩⟩
  · have e1 : ((cerr a b : Int) != 0) = true := by simp; exact h0
    have HB1 := Lib.hid hb1
    have H0 := Lib.hid h0
    clear hb1 h0 HU
    go_wp2
    go_ret3
    exact ⟨HB1.out, .inl ⟨H0.out, rfl⟩⟩
  · obtain ⟨k1, k2, k3⟩ := both_facts h0
    obtain ⟨g1, g2, g3, g4⟩ := cerr_zero h0
    obtain ⟨L, hL⟩ : ∃ L, L = fromL (both a b) := ⟨_, rfl⟩
    rw [← hL] at ho k1 k2 g4
    obtain ⟨A1, c1, rfl, hc1, hA1, hr1⟩ := ho.reads
    have HP1 := Lib.hid (places_good (⟨hr1, by omega, hc1, hA1⟩ : IsS w1 A1 c1 L) k1)
    rw [k2] at HP1
    have HP2 := Lib.hid (fun W (h : Below w.heap.size w W) => places_good (HA.out.below h) g1)
    have HP3 := Lib.hid (fun W (h : Below w.heap.size w W) => places_good (HB.out.below h) g2)
    have HB1 := Lib.hid hb1
    have H0 := Lib.hid h0
    have la : (places a).length ≤ 4096 := places_len (right_of g1)
    have lb : (places b).length ≤ 4096 := places_len (right_of g2)
    obtain ⟨U, hU⟩ : ∃ U, U = both a b := ⟨_, rfl⟩
    rw [← hU] at HP1 g3
    have HUU := Lib.hid hU
    obtain ⟨P, hP⟩ : ∃ P, P = places a := ⟨_, rfl⟩
    rw [← hP] at HP2 la
    have HPP := Lib.hid hP
    obtain ⟨Q, hQ⟩ : ∃ Q, Q = places b := ⟨_, rfl⟩
    rw [← hQ] at HP3 lb
    have HQQ := Lib.hid hQ
    clear hb1 h0 HU ho hr1 hA1 k1 k2 k3 hL g1 g2 hU hP hQ
    go_wp2_with (fail)
    refine HP1.out.mono ?_
    rintro e w2 ⟨v2, rfl, ho2, hb2⟩
    obtain ⟨A2, c2, rfl, -, hr2⟩ := ho2.reads
    have T2 : Hid (Th w w1 w2 w2) := Lib.hid ⟨below_then HB1.out HB1.out.size hb2, hb2, Below.refl _ _⟩
    have HR2 := Lib.hid hr2
    clear ho2 hb2 hr2 HP1
    go_wp2_with (fail)
    refine (HP2.out _ T2.out.x).mono ?_
    rintro e w3 ⟨v3, rfl, ho3, hb3⟩
    obtain ⟨A3, c3, rfl, -, hr3⟩ := ho3.reads
    have T3 := Lib.hid (T2.out.next hb3)
    have HR3 := Lib.hid hr3
    clear ho3 hb3 hr3 HP2
    go_wp2_with (fail)
    refine (HP3.out _ T3.out.x).mono ?_
    rintro e w4 ⟨v4, rfl, ho4, hb4⟩
    obtain ⟨A4, c4, rfl, -, hr4⟩ := ho4.reads
    have T4 := Lib.hid (T3.out.next hb4)
    have HL1 := Lib.hid (lacks_calls A3 A2 c3 c2 P U w4 (HR3.out.below hb4) (HR2.out.below T4.out.z) (by omega) (by omega))
    have HL2 := Lib.hid (fun W (h : Below w4.heap.size w4 W) => lacks_calls A4 A2 c4 c2 Q U W (hr4.below h) (HR2.out.below (below_then T4.out.z T4.out.z.size h)) (by omega) (by omega))
    clear ho4 hb4 hr4 HP3
    go_wp2_with (fail)
    refine HL1.out.mono ?_
    rintro e w5 ⟨v5, rfl, ho5, hb5⟩
    have T5 := Lib.hid (T4.out.next hb5)
    have HO5 := Lib.hid ho5
    have HL2' := Lib.hid (HL2.out w5 hb5)
    have hz4 := T4.out.x.size
    clear ho5 hb5 HL1 HL2
    go_wp2_with (fail)
    refine HL2'.out.mono ?_
    rintro e w6 ⟨v6, rfl, ho6, hb6⟩
    have T6 := Lib.hid (T5.out.next hb6)
    have HO6 := Lib.hid ho6
    have HO56 := Lib.hid (HO5.out.below hb6)
    have hz5 := T5.out.x.size
    clear ho6 hb6 HL2' HO5
    go_wp2
    go_ret3
    refine ⟨T6.out.x, .inr ⟨H0.out, v5, v6, rfl, ?_, ?_⟩⟩
    · rw [← HPP.out, ← HUU.out]; exact HO56.out.lower hz4
    · rw [← HQQ.out, ← HUU.out]; exact HO6.out.lower hz5
/-- has a list all places of another? -/
def covers (a b : List Sp) : Bool := decide (cerr a b = 0) && decide (lacks (places a) (both a b) = [])
theorem both_rise (a b : List Sp) : Rise (both a b) := (uni_spec _ _).1
theorem covers_iff {a b : List Sp} (h : cerr a b = 0) : covers a b = true ↔ ∀ y ∈ places b, y ∈ places a := by
  obtain ⟨g1, g2, g3, g4⟩ := cerr_zero h
  have hs : ∀ y ∈ places a, y ∈ both a b := fun y hy => ((uni_spec _ _).2 y).2 (.inl hy)
  have hsp := lacks_spec (places_rise (right_of g1)) (both_rise a b) hs g3
  unfold covers
  rw [decide_eq_true h, Bool.true_and, decide_eq_true_eq]
  constructor
  · intro he y hy
    have h3 := hsp.2.2 ((places a).map some) none (by simp)
    rw [he] at h3
    have hm : LayPure3.look (places a) ((places a).map some) none y ∈ (both a b).map (LayPure3.look (places a) ((places a).map some) none) := List.mem_map_of_mem (((uni_spec _ _).2 y).2 (.inr hy))
    rw [← h3] at hm
    by_cases hya : y ∈ places a
    · exact hya
    · rw [LayPure3.look_not _ _ _ _ hya] at hm
      simp [expand, expL] at hm
  · intro hall
    have he : both a b = places a := rise_ext (both_rise a b) (places_rise (right_of g1)) fun x => by
      rw [both, (uni_spec _ _).2]
      exact ⟨fun h => h.elim id (hall x), .inl⟩
    have hc := hsp.2.1
    rw [he, Int.sub_self] at hc
    cases hl : lacks (places a) (both a b) with
    | nil => rfl
    | cons s t =>
      exfalso
      have hr := hsp.1
      rw [hl] at hr
      rw [he] at hl
      rw [hl] at hc
      have h1 := rightI_all _ _ _ _ hr s List.mem_cons_self
      have h2 : s.2 ≤ cntF (0 + s.2) t := by
        have h5 := cntF_mono t (0 + s.2) fun u hu => by have := rightI_all _ _ _ _ hr u (List.mem_cons_of_mem _ hu); omega
        omega
      rw [cntF] at hc
      omega
set_option maxRecDepth 100000 in
set_option maxHeartbeats 800000 in
theorem covers_calls {A B : Option Addr} {c d : Nat} {a b : List Sp} {w : World} (ha : IsS w A c a) (hb : IsS w B d b) :
    Calls Try.prog 36 #[.slice A a.length c, .slice B b.length d] w fun e w' => e = .returned (.bool (covers a b)) ∧ Below w.heap.size w w' := by
  have HC := Lib.hid (compare_calls ha hb)
  clear ha hb
  go_enter Try.func36, Try.ntmps36
  go_wp2_with (fail)
  refine HC.out.mono ?_
  rintro e w1 ⟨hb1, ⟨h0, rfl⟩ | ⟨h0, f, g, rfl, ho, -⟩⟩
  · have e1 : ((cerr a b : Int) == 0) = false := by simp; exact h0
    have HB1 := Lib.hid hb1
    have HF : Hid (covers a b = false) := Lib.hid (by unfold covers; rw [decide_eq_false h0]; rfl)
    clear hb1 h0 HC
    go_wp2
    go_ret
    exact ⟨by rw [HF.out]; rfl, HB1.out⟩
  · obtain ⟨A1, c1, rfl, -, -, -⟩ := ho.reads
    have HB1 := Lib.hid hb1
    by_cases hl : lacks (places a) (both a b) = []
    · have HF : Hid (covers a b = true) := Lib.hid (by unfold covers; rw [decide_eq_true h0, hl]; rfl)
      rw [hl, List.length_nil]
      clear hb1 h0 HC ho hl
      go_wp2
      go_ret
      exact ⟨by rw [HF.out]; rfl, HB1.out⟩
    · have HF : Hid (covers a b = false) := Lib.hid (by unfold covers; rw [decide_eq_false hl, Bool.and_false])
      obtain ⟨n, hn⟩ : ∃ n, n = (lacks (places a) (both a b)).length := ⟨_, rfl⟩
      have e1 : ((n : Int) == 0) = false := by
        have : 0 < n := by rw [hn]; exact List.length_pos_iff.2 hl
        simp; omega
      rw [← hn]
      clear hb1 h0 HC ho hl hn
      go_wp2
      go_ret
      exact ⟨by rw [HF.out]; rfl, HB1.out⟩
end Go.Proofs.Ytaenincbmlcjiaa.LayF
