/- law 06: the union of any two lists has the places of both, and is the same from both sides. -/
import Derived.Test.YtaenincbmlcjiaaSpanFrom
import Derived.Test.YtaenincbmlcjiaaOpenSp
namespace Go.Proofs.Ytaenincbmlcjiaa.SpanUnions
open Go.RowKit Go.Proofs.YtaenincbmlcjiaaW.PrintWords
open Go.Proofs.Ytaenincbmlcjiaa.Base Go.Proofs.Ytaenincbmlcjiaa.SpanPure Go.Proofs.Ytaenincbmlcjiaa.SpanPure2 Go.Proofs.Ytaenincbmlcjiaa.SpanBase Go.Proofs.Ytaenincbmlcjiaa.SpanA Go.Proofs.Ytaenincbmlcjiaa.SpanB Go.Proofs.Ytaenincbmlcjiaa.SpanD Go.Proofs.Ytaenincbmlcjiaa.SpanG Go.Proofs.Ytaenincbmlcjiaa.Ref06 Go.Proofs.Ytaenincbmlcjiaa.Law06A Go.Proofs.Ytaenincbmlcjiaa.Law06B Go.Proofs.Ytaenincbmlcjiaa.LawBase Go.Proofs.Ytaenincbmlcjiaa.OpenSp Go.Proofs.Ytaenincbmlcjiaa.SpanFrom

/-- what is known of a list argument. -/
structure IsL (w : World) (A : Option Addr) (c : Nat) (l : List Sp) : Prop where
  rd : RdSp w A l
  len : l.length ≤ 600
  cap : l.length ≤ c
  nil : A = none → c = 0
theorem IsL.below {w W : World} {A : Option Addr} {c : Nat} {l : List Sp} (h : IsL w A c l) (hb : Below w.heap.size w W) : IsL W A c l := ⟨h.rd.below hb, h.len, h.cap, h.nil⟩
def err (a b : List Sp) : Nat := if chk a = 0 then chk b else chk a
theorem err_ne {a b : List Sp} (h : chk a ≠ 0 ∨ chk b ≠ 0) : ((err a b : Int) != 0) = true := by
  unfold err
  by_cases h0 : chk a = 0
  · rw [if_pos h0]; exact ne_chk (by omega)
  · rw [if_neg h0]; exact ne_chk h0
theorem union_err {A B : Option Addr} {c d : Nat} {a b : List Sp} {w : World} (ha : IsL w A c a) (hb : IsL w B d b) (h : chk a ≠ 0 ∨ chk b ≠ 0) :
    Calls Try.prog 25 #[.slice A a.length c, .slice B b.length d] w fun e w' => e = .returned (.tuple #[.slice none 0 0, .int .i64 (err a b)]) ∧ Below w.heap.size w w' := by
  have la := ha.len
  have lb := hb.len
  refine (union_calls A B c d a b w ha.rd hb.rd (by omega) (by omega) ha.cap hb.cap ha.nil hb.nil).mono ?_
  rintro e w' ⟨hw, ⟨h1, rfl⟩ | ⟨h1, h2, rfl⟩ | ⟨h1, h2, -⟩ | ⟨h1, h2, -⟩⟩
  · exact ⟨by unfold err; rw [if_neg h1], hw⟩
  · exact ⟨by unfold err; rw [if_pos h1], hw⟩
  · omega
  · omega
theorem union_good {A B : Option Addr} {c d : Nat} {a b : List Sp} {w : World} (ha : IsL w A c a) (hb : IsL w B d b) (h1 : chk a = 0) (h2 : chk b = 0) (L : List Sp) (hL : L = fromL (uni (places a) (places b))) (hn : (uni (places a) (places b)).length ≤ 4096) (hl : L.length ≤ 1024) :
    Calls Try.prog 25 #[.slice A a.length c, .slice B b.length d] w fun e w' => ∃ v, e = .returned (.tuple #[v, .int .i64 0]) ∧ OwSp 43 w' w.heap.size v L ∧ Below w.heap.size w w' := by
  have la := ha.len
  have lb := hb.len
  subst hL
  refine (union_calls A B c d a b w ha.rd hb.rd (by omega) (by omega) ha.cap hb.cap ha.nil hb.nil).mono ?_
  rintro e w' ⟨hw, ⟨g1, rfl⟩ | ⟨g1, g2, rfl⟩ | ⟨g1, g2, g3, -⟩ | ⟨g1, g2, g3, g4, v, rfl, g5⟩⟩
  · omega
  · omega
  · omega
  · exact ⟨v, rfl, g5, hw⟩
theorem union_many {A B : Option Addr} {c d : Nat} {a b : List Sp} {w : World} (ha : IsL w A c a) (hb : IsL w B d b) (h1 : chk a = 0) (h2 : chk b = 0) (hn : 4096 < (uni (places a) (places b)).length ∨ 1024 < (fromL (uni (places a) (places b))).length) :
    Calls Try.prog 25 #[.slice A a.length c, .slice B b.length d] w fun e w' => e = .returned (.tuple #[.slice none 0 0, .int .i64 12]) ∧ Below w.heap.size w w' := by
  have la := ha.len
  have lb := hb.len
  refine (union_calls A B c d a b w ha.rd hb.rd (by omega) (by omega) ha.cap hb.cap ha.nil hb.nil).mono ?_
  rintro e w' ⟨hw, ⟨g1, rfl⟩ | ⟨g1, g2, rfl⟩ | ⟨g1, g2, g3, rfl⟩ | ⟨g1, g2, g3, g4, v, rfl, g5⟩⟩
  · omega
  · omega
  · exact ⟨rfl, hw⟩
  · omega
theorem uni_facts {a b : List Sp} (h1 : chk a = 0) (h2 : chk b = 0) : rising (uni (places a) (places b)) = true ∧ (uni (places a) (places b)).length ≤ 8192 ∧ runs (uni (places a) (places b)) = (fromL (uni (places a) (places b))).length := by
  have r1 := uni_rising (places_in (right_of h1)) (places_in (right_of h2))
  obtain ⟨f, hb⟩ := fromL_built r1
  have := uni_len (places a) (places b)
  have := places_len (right_of h1)
  have := places_len (right_of h2)
  exact ⟨r1, by omega, hb.len.symm⟩

set_option maxRecDepth 100000 in
set_option maxHeartbeats 1600000 in
theorem wrong (A B : Option Addr) (c d : Nat) (a b : List Sp) (w : World) (ha : IsL w A c a) (hb : IsL w B d b) (hsa : small a = true) (hsb : small b = true) (h : chk a ≠ 0 ∨ chk b ≠ 0) :
    Calls Try.prog 6 #[.slice A a.length c, .slice B b.length d] w fun e w' => e = .returned (.bool true) ∧ Below w.heap.size w w' := by
  have la := ha.len
  have lb := hb.len
  have h1 := small_calls A c a w ha.rd (by omega)
  rw [hsa] at h1
  have HS1 := Lib.hid h1
  have HS2 := Lib.hid (fun W (h : Below w.heap.size w W) => lift h h.size (small_calls B d b W (hb.rd.below h) (by omega)))
  rw [hsb] at HS2
  have HU1 := Lib.hid (fun W (h' : Below w.heap.size w W) => lift h' h'.size (union_err (ha.below h') (hb.below h') h))
  have HU2 := Lib.hid (fun W (h' : Below w.heap.size w W) => lift h' h'.size (union_err (hb.below h') (ha.below h') (Or.symm h)))
  have HC1 := Lib.hid (fun W (h : Below w.heap.size w W) => lift h h.size (SpanA.check_calls A c a W (ha.rd.below h) (by omega)))
  have HC2 := Lib.hid (fun W (h : Below w.heap.size w W) => lift h h.size (SpanA.check_calls B d b W (hb.rd.below h) (by omega)))
  have HAW := Lib.hid (fun W (h : Below w.heap.size w W) => lift h h.size (awake_calls W))
  have e2 := err_ne (Or.symm h)
  have e1 : (chk a = 0 ∧ ((chk a : Int) != 0) = false ∧ ((chk a : Int) == 0) = true ∧ ((chk b : Int) != 0) = true ∧ err a b = chk b) ∨ (chk a ≠ 0 ∧ ((chk a : Int) != 0) = true ∧ ((chk a : Int) == 0) = false ∧ err a b = chk a) := by
    by_cases h0 : chk a = 0
    · exact .inl ⟨h0, by rw [h0]; rfl, by rw [h0]; rfl, ne_chk (by omega), if_pos h0⟩
    · exact .inr ⟨h0, ne_chk h0, by simp; exact h0, if_neg h0⟩
  clear h1 ha hb hsa hsb h
  generalize err a b = E at *
  generalize err b a = F at *
  rcases e1 with ⟨-, e3, e4, e5, rfl⟩ | ⟨-, e3, e4, rfl⟩
  all_goals
    go_enter Try.func6, Try.ntmps6
    go_wp2_with (first
      | (go_at_call 11; first
          | (refine HS1.out.mono ?_; rintro e w1 ⟨rfl, hb1⟩; have HB1 := Lib.hid hb1; clear HS1 hb1)
          | (refine (HS2.out _ HB1.out).mono ?_; rintro e w2 ⟨rfl, hb2⟩; have HB2 := Lib.hid hb2; clear hb2))
      | (go_at_call 25; first
          | (refine (HU1.out _ HB2.out).mono ?_; rintro e w3 ⟨rfl, hb3⟩; have HB3 := Lib.hid hb3; clear HU1 hb3)
          | (refine (HU2.out _ HB3.out).mono ?_; rintro e w4 ⟨rfl, hb4⟩; have HB4 := Lib.hid hb4; clear hb4))
      | (go_at_call 23; first
          | (refine (HC1.out _ HB4.out).mono ?_; rintro e w5 ⟨rfl, hb5⟩; have HB5 := Lib.hid hb5; clear HC1 hb5)
          | (refine (HC2.out _ HB5.out).mono ?_; rintro e w6 ⟨rfl, hb6⟩; have HB6 := Lib.hid hb6; clear hb6))
      | (go_at_call 12; refine (HAW.out _ HB6.out).mono ?_; rintro e w9 ⟨rfl, hb9⟩))
    go_ret
    exact ⟨rfl, hb9⟩

set_option maxRecDepth 100000 in
set_option maxHeartbeats 3200000 in
theorem many (A B : Option Addr) (c d : Nat) (a b : List Sp) (w : World) (ha : IsL w A c a) (hb : IsL w B d b) (hsa : small a = true) (hsb : small b = true) (h1 : chk a = 0) (h2 : chk b = 0) (hn : 4096 < (uni (places a) (places b)).length ∨ 1024 < (fromL (uni (places a) (places b))).length) :
    Calls Try.prog 6 #[.slice A a.length c, .slice B b.length d] w fun e w' => e = .returned (.bool true) ∧ Below w.heap.size w w' := by
  have la := ha.len
  have lb := hb.len
  have h3 := small_calls A c a w ha.rd (by omega)
  rw [hsa] at h3
  have HS1 := Lib.hid h3
  have HS2 := Lib.hid (fun W (h : Below w.heap.size w W) => lift h h.size (small_calls B d b W (hb.rd.below h) (by omega)))
  rw [hsb] at HS2
  have HU1 := Lib.hid (fun W (h' : Below w.heap.size w W) => lift h' h'.size (union_many (ha.below h') (hb.below h') h1 h2 hn))
  have HU2 := Lib.hid (fun W (h' : Below w.heap.size w W) => lift h' h'.size (union_many (hb.below h') (ha.below h') h2 h1 (by rw [uni_comm]; exact hn)))
  have HC1 := Lib.hid (fun W (h : Below w.heap.size w W) => lift h h.size (SpanA.check_calls A c a W (ha.rd.below h) (by omega)))
  have HC2 := Lib.hid (fun W (h : Below w.heap.size w W) => lift h h.size (SpanA.check_calls B d b W (hb.rd.below h) (by omega)))
  rw [h1] at HC1
  rw [h2] at HC2
  have HAW := Lib.hid (fun W (h : Below w.heap.size w W) => lift h h.size (awake_calls W))
  have HR1 := Lib.hid (fun W (h : Below w.heap.size w W) => ref_calls A c a W (ha.rd.below h) (by omega))
  have HR2 := Lib.hid (fun W (h : Below w.heap.size w W) => ref_calls B d b W (hb.rd.below h) (by omega))
  have p1 := places_len (right_of h1)
  have p2 := places_len (right_of h2)
  have q1 := Lib.hid (places_rise (right_of h1))
  have q2 := Lib.hid (places_rise (right_of h2))
  obtain ⟨u1, u2, u3⟩ := uni_facts h1 h2
  have U1 := Lib.hid (rising_in u1)
  have K1 := Lib.hid h1
  have K2 := Lib.hid h2
  obtain ⟨P, hP⟩ : ∃ P, P = places a := ⟨_, rfl⟩
  obtain ⟨Q, hQ⟩ : ∃ Q, Q = places b := ⟨_, rfl⟩
  rw [← hP] at p1 q1
  rw [← hQ] at p2 q2
  rw [← hP, ← hQ] at hn u2 u3 U1
  obtain ⟨U, hU⟩ : ∃ U, U = uni P Q := ⟨_, rfl⟩
  rw [← hU] at hn u2 u3 U1
  have HP := Lib.hid hP
  have HQ := Lib.hid hQ
  have HUU := Lib.hid hU
  have e1 : (decide ((U.length : Int) > 4096) = true ∧ decide (4096 < (U.length : Int)) = true ∧ decide (4096 < U.length) = true) ∨ ((decide ((U.length : Int) > 4096) = false ∧ decide (4096 < (U.length : Int)) = false ∧ decide (4096 < U.length) = false) ∧ (decide ((runs U : Int) > 1024) = true ∧ decide (1024 < (runs U : Int)) = true ∧ decide (1024 < runs U) = true)) := by
    simp only [decide_eq_true_eq, decide_eq_false_iff_not]
    omega
  clear h3 ha hb hsa hsb h1 h2 hn u1 u3 hP hQ hU
  go_enter Try.func6, Try.ntmps6
  go_wp2_with (first
    | (go_at_call 11; first
        | (refine HS1.out.mono ?_; rintro e w1 ⟨rfl, hb1⟩; have HB1 := Lib.hid hb1; clear HS1 hb1)
        | (refine (HS2.out _ HB1.out).mono ?_; rintro e w2 ⟨rfl, hb2⟩; have HB2 := Lib.hid hb2; clear hb2))
    | (go_at_call 25; first
        | (refine (HU1.out _ HB2.out).mono ?_; rintro e w3 ⟨rfl, hb3⟩; have HB3 := Lib.hid hb3; clear HU1 hb3)
        | (refine (HU2.out _ HB3.out).mono ?_; rintro e w4 ⟨rfl, hb4⟩; have HB4 := Lib.hid hb4; clear hb4))
    | (go_at_call 23; first
        | (refine (HC1.out _ HB4.out).mono ?_; rintro e w5 ⟨rfl, hb5⟩; have HB5 := Lib.hid hb5; clear HC1 hb5)
        | (refine (HC2.out _ HB5.out).mono ?_; rintro e w6 ⟨rfl, hb6⟩; have HB6 := Lib.hid hb6; clear hb6)))
  refine (HR1.out _ HB6.out).mono ?_
  rintro e w7 ⟨v7, rfl, ho7, hb7⟩
  obtain ⟨A7, c7, rfl, -, -, hr7⟩ := ho7.reads
  have HB7 := Lib.hid (below_then HB6.out HB6.out.size hb7)
  have HP7 := Lib.hid (Ref06B.places_calls A7 c7 a w7 hr7 (by omega) K1.out)
  rw [← HP.out] at HP7
  clear ho7 hb7 hr7
  go_wp2_with (fail)
  refine HP7.out.mono ?_
  rintro e w8 ⟨v8, rfl, ho8, hb8⟩
  obtain ⟨A8, c8, rfl, -, hr8⟩ := ho8.reads
  have HB8 := Lib.hid (below_then HB7.out HB7.out.size hb8)
  have HR8 := Lib.hid hr8
  clear ho8 hb8 hr8
  go_wp2_with (fail)
  refine (HR2.out _ HB8.out).mono ?_
  rintro e w9 ⟨v9, rfl, ho9, hb9⟩
  obtain ⟨A9, c9, rfl, -, -, hr9⟩ := ho9.reads
  have HB9 := Lib.hid (below_then HB8.out HB8.out.size hb9)
  have HC9 := Lib.hid hb9
  have HP9 := Lib.hid (Ref06B.places_calls A9 c9 b w9 hr9 (by omega) K2.out)
  rw [← HQ.out] at HP9
  clear ho9 hb9 hr9
  go_wp2_with (fail)
  refine HP9.out.mono ?_
  rintro e w10 ⟨v10, rfl, ho10, hb10⟩
  obtain ⟨A10, c10, rfl, -, hr10⟩ := ho10.reads
  have HB10 := Lib.hid (below_then HB9.out HB9.out.size hb10)
  have HC10 := Lib.hid (below_then HC9.out HC9.out.size hb10)
  have HM := Lib.hid (Ref06D.merge_calls A8 A10 c8 c10 P Q w10 (HR8.out.below HC10.out) hr10 (by omega) (by omega) q1.out q2.out)
  rw [← HUU.out] at HM
  clear ho10 hb10 hr10
  go_wp2_with (fail)
  refine HM.out.mono ?_
  rintro e w11 ⟨v11, rfl, ho11, hb11⟩
  obtain ⟨A11, c11, rfl, -, hr11⟩ := ho11.reads
  have HB11 := Lib.hid (below_then HB10.out HB10.out.size hb11)
  have HRN := Lib.hid (Ref06B.runs_calls A11 c11 U w11 hr11 (by omega) U1.out)
  clear ho11 hb11 hr11 HM HP9 HP7 HR1 HR2 HS2 HU2 HC2
  rcases e1 with ⟨e1, e2, e3⟩ | ⟨⟨e1, e2, e3⟩, e4, e5, e6⟩
  · go_wp2_with (go_at_call 12; refine (HAW.out _ HB11.out).mono ?_; rintro e w12 ⟨rfl, hb12⟩)
    go_ret
    exact ⟨rfl, hb12⟩
  · go_wp2_with (first
      | (go_at_call 20; refine HRN.out.mono ?_; rintro e w' ⟨rfl, q, rfl⟩)
      | (go_at_call 12; refine (HAW.out _ (pw_below_drewN HB11.out q)).mono ?_; rintro e w12 ⟨rfl, hb12⟩))
    go_ret
    exact ⟨rfl, hb12⟩
/-- a world that came of three worlds. -/
structure Th (a b c W : World) : Prop where
  x : Below a.heap.size a W
  y : Below b.heap.size b W
  z : Below c.heap.size c W
theorem Th.next {a b c W W' : World} (h : Th a b c W) (hb : Below W.heap.size W W') : Th a b c W' := ⟨below_then h.x h.x.size hb, below_then h.y h.y.size hb, below_then h.z h.z.size hb⟩
theorem Th.drew {a b c W : World} (h : Th a b c W) (q : Nat) : Th a b c (W.drewN q) := ⟨pw_below_drewN h.x q, pw_below_drewN h.y q, pw_below_drewN h.z q⟩

set_option maxRecDepth 100000 in
set_option maxHeartbeats 3200000 in
theorem good (A B : Option Addr) (c d : Nat) (a b : List Sp) (w : World) (ha : IsL w A c a) (hb : IsL w B d b) (hsa : small a = true) (hsb : small b = true) (h1 : chk a = 0) (h2 : chk b = 0) (hn : (uni (places a) (places b)).length ≤ 4096 ∧ (fromL (uni (places a) (places b))).length ≤ 1024) :
    Calls Try.prog 6 #[.slice A a.length c, .slice B b.length d] w fun e w' => e = .returned (.bool true) ∧ Below w.heap.size w w' := by
  have la := ha.len
  have lb := hb.len
  have h3 := small_calls A c a w ha.rd (by omega)
  rw [hsa] at h3
  have HS1 := Lib.hid h3
  have HS2 := Lib.hid (fun W (h : Below w.heap.size w W) => lift h h.size (small_calls B d b W (hb.rd.below h) (by omega)))
  rw [hsb] at HS2
  obtain ⟨k1, k2, k3, k4⟩ := fromL_facts (uni_facts h1 h2).1 hn.1 hn.2
  obtain ⟨L, hL⟩ : ∃ L, L = fromL (uni (places a) (places b)) := ⟨_, rfl⟩
  rw [← hL] at k1 k2 k3 k4
  have HU1 := Lib.hid (fun W (h' : Below w.heap.size w W) => union_good (ha.below h') (hb.below h') h1 h2 L hL hn.1 (by rw [hL]; exact hn.2))
  have HU2 := Lib.hid (fun W (h' : Below w.heap.size w W) => union_good (hb.below h') (ha.below h') h2 h1 L (by rw [uni_comm]; exact hL) (by rw [uni_comm]; exact hn.1) (by rw [hL]; exact hn.2))
  have hl : L.length ≤ 1024 := by rw [hL]; exact hn.2
  clear hL
  have KL := Lib.hid k1
  have HC1 := Lib.hid (fun W (h : Below w.heap.size w W) => SpanA.check_calls A c a W (ha.rd.below h) (by omega))
  have HC2 := Lib.hid (fun W (h : Below w.heap.size w W) => SpanA.check_calls B d b W (hb.rd.below h) (by omega))
  rw [h1] at HC1
  rw [h2] at HC2
  have HAW := Lib.hid (fun W (h : Below w.heap.size w W) => lift h h.size (awake_calls W))
  have HR1 := Lib.hid (fun W (h : Below w.heap.size w W) => ref_calls A c a W (ha.rd.below h) (by omega))
  have HR2 := Lib.hid (fun W (h : Below w.heap.size w W) => ref_calls B d b W (hb.rd.below h) (by omega))
  have p1 := places_len (right_of h1)
  have p2 := places_len (right_of h2)
  have q1 := Lib.hid (places_rise (right_of h1))
  have q2 := Lib.hid (places_rise (right_of h2))
  obtain ⟨u1, u2, u3⟩ := uni_facts h1 h2
  have U1 := Lib.hid (rising_in u1)
  have K1 := Lib.hid h1
  have K2 := Lib.hid h2
  obtain ⟨P, hP⟩ : ∃ P, P = places a := ⟨_, rfl⟩
  obtain ⟨Q, hQ⟩ : ∃ Q, Q = places b := ⟨_, rfl⟩
  rw [← hP] at p1 q1
  rw [← hQ] at p2 q2
  have HE := Lib.hid (fun W (h : Below w.heap.size w W) => SpanG.equal_calls A B c d a b W (ha.rd.below h) (hb.rd.below h) (by omega) (by omega) ha.cap hb.cap ha.nil hb.nil)
  rw [show decide (chk a = 0 ∧ chk b = 0 ∧ places a = places b) = decide (places a = places b) from by simp [h1, h2], ← hP, ← hQ] at HE
  rw [← hP, ← hQ] at hn u2 u3 U1 k2 k3
  obtain ⟨U, hU⟩ : ∃ U, U = uni P Q := ⟨_, rfl⟩
  rw [← hU] at hn u2 u3 U1 k2 k3
  have HP := Lib.hid hP
  have HQ := Lib.hid hQ
  have HUU := Lib.hid hU
  have e1 : decide ((U.length : Int) > 4096) = false ∧ decide (4096 < (U.length : Int)) = false ∧ decide (4096 < U.length) = false := by
    simp only [decide_eq_false_iff_not]
    omega
  have e2 : decide ((runs U : Int) > 1024) = false ∧ decide (1024 < (runs U : Int)) = false ∧ decide (1024 < runs U) = false := by
    simp only [decide_eq_false_iff_not]
    omega
  obtain ⟨e1, e1', e1''⟩ := e1
  obtain ⟨e2, e2', e2''⟩ := e2
  have K3 := Lib.hid k2
  have K4 := Lib.hid k4
  obtain ⟨T, hT⟩ : ∃ T, T = decide (P = Q) := ⟨_, rfl⟩
  rw [← hT] at HE
  have HT := Lib.hid hT
  clear h3 ha hb hsa hsb h1 h2 hn u1 u3 hP hQ hU k1 k2 k3 k4 hT
  go_enter Try.func6, Try.ntmps6
  go_wp2_with (first
    | (go_at_call 11; first
        | (refine HS1.out.mono ?_; rintro e w1 ⟨rfl, hb1⟩; have HB1 := Lib.hid hb1; clear HS1 hb1)
        | (refine (HS2.out _ HB1.out).mono ?_; rintro e w2 ⟨rfl, hb2⟩; have HB2 := Lib.hid hb2; clear hb2)))
  refine (HU1.out _ HB2.out).mono ?_
  rintro e w3 ⟨v3, rfl, ho3, hb3⟩
  obtain ⟨A3, c3, rfl, hc3, hA3, hr3⟩ := ho3.reads
  have HB3 := Lib.hid (below_then HB2.out HB2.out.size hb3)
  have HR3 := Lib.hid hr3
  have HU2' := Lib.hid (HU2.out w3 HB3.out)
  clear ho3 hb3 hr3 HU1 HU2
  go_wp2_with (fail)
  refine HU2'.out.mono ?_
  rintro e w4 ⟨v4, rfl, ho4, hb4⟩
  obtain ⟨A4, c4, rfl, hc4, hA4, hr4⟩ := ho4.reads
  have HB4 := Lib.hid (below_then HB3.out HB3.out.size hb4)
  have T4 : Hid (Th w w3 w4 w4) := Lib.hid ⟨HB4.out, hb4, Below.refl _ _⟩
  have HR4 := Lib.hid hr4
  have HE2 := Lib.hid (fun W (h3 : Below w3.heap.size w3 W) (h4 : Below w4.heap.size w4 W) => SpanG.equal_calls A3 A4 c3 c4 L L W (HR3.out.below h3) (HR4.out.below h4) (by omega) (by omega) hc3 hc4 hA3 hA4)
  rw [show decide (chk L = 0 ∧ chk L = 0 ∧ places L = places L) = true from by simp [KL.out]] at HE2
  have HCA := Lib.hid (fun W (h3 : Below w3.heap.size w3 W) => canonical_calls A3 c3 L W (HR3.out.below h3) (by omega))
  rw [K4.out] at HCA
  have HR := Lib.hid (fun W (h3 : Below w3.heap.size w3 W) => ref_calls A3 c3 L W (HR3.out.below h3) (by omega))
  clear ho4 hb4 hr4 HU2' hA3 hA4
  go_wp2_with (first
    | (go_at_call 23; first
        | (refine (HC1.out _ HB4.out).mono ?_; rintro e w5 ⟨rfl, hb5⟩; have T5 := Lib.hid (T4.out.next hb5); clear HC1 hb5)
        | (refine (HC2.out _ T5.out.x).mono ?_; rintro e w6 ⟨rfl, hb6⟩; have T6 := Lib.hid (T5.out.next hb6); clear hb6)))
  refine (HR1.out _ T6.out.x).mono ?_
  rintro e w7 ⟨v7, rfl, ho7, hb7⟩
  obtain ⟨A7, c7, rfl, -, -, hr7⟩ := ho7.reads
  have T7 := Lib.hid (T6.out.next hb7)
  have HP7 := Lib.hid (Ref06B.places_calls A7 c7 a w7 hr7 (by omega) K1.out)
  rw [← HP.out] at HP7
  clear ho7 hb7 hr7 HR1
  go_wp2_with (fail)
  refine HP7.out.mono ?_
  rintro e w8 ⟨v8, rfl, ho8, hb8⟩
  obtain ⟨A8, c8, rfl, -, hr8⟩ := ho8.reads
  have T8 := Lib.hid (T7.out.next hb8)
  have HR8 := Lib.hid hr8
  clear ho8 hb8 hr8 HP7
  go_wp2_with (fail)
  refine (HR2.out _ T8.out.x).mono ?_
  rintro e w9 ⟨v9, rfl, ho9, hb9⟩
  obtain ⟨A9, c9, rfl, -, -, hr9⟩ := ho9.reads
  have T9 := Lib.hid (T8.out.next hb9)
  have HC9 := Lib.hid hb9
  have HP9 := Lib.hid (Ref06B.places_calls A9 c9 b w9 hr9 (by omega) K2.out)
  rw [← HQ.out] at HP9
  clear ho9 hb9 hr9 HR2
  go_wp2_with (fail)
  refine HP9.out.mono ?_
  rintro e w10 ⟨v10, rfl, ho10, hb10⟩
  obtain ⟨A10, c10, rfl, -, hr10⟩ := ho10.reads
  have T10 := Lib.hid (T9.out.next hb10)
  have HC10 := Lib.hid (below_then HC9.out HC9.out.size hb10)
  have HR10 := Lib.hid hr10
  have HM := Lib.hid (Ref06D.merge_calls A8 A10 c8 c10 P Q w10 (HR8.out.below HC10.out) hr10 (by omega) (by omega) q1.out q2.out)
  rw [← HUU.out] at HM
  clear ho10 hb10 hr10 HP9
  go_wp2_with (fail)
  refine HM.out.mono ?_
  rintro e w11 ⟨v11, rfl, ho11, hb11⟩
  obtain ⟨A11, c11, rfl, -, hr11⟩ := ho11.reads
  have T11 := Lib.hid (T10.out.next hb11)
  have V11 : Hid (Th w8 w10 w11 w11) := Lib.hid ⟨below_then HC10.out HC10.out.size hb11, hb11, Below.refl _ _⟩
  have HR11 := Lib.hid hr11
  have HRN := Lib.hid (Ref06B.runs_calls A11 c11 U w11 hr11 (by omega) U1.out)
  clear ho11 hb11 hr11 HM
  go_wp2_with (first
    | (go_at_call 20; refine HRN.out.mono ?_; rintro e w' ⟨rfl, q, rfl⟩)
    | (go_at_call 24; refine (HE2.out _ (T11.out.drew q).y (T11.out.drew q).z).mono ?_; rintro e w13 ⟨rfl, hb13⟩; have T13 := Lib.hid ((T11.out.drew q).next hb13); have V13 := Lib.hid ((V11.out.drew q).next hb13); clear hb13)
    | (go_at_call 21; refine (HCA.out _ T13.out.y).mono ?_; rintro e w14 ⟨rfl, hb14⟩; have T14 := Lib.hid (T13.out.next hb14); have V14 := Lib.hid (V13.out.next hb14); clear hb14))
  refine (HR.out _ T14.out.y).mono ?_
  rintro e w15 ⟨v15, rfl, ho15, hb15⟩
  obtain ⟨A15, c15, rfl, -, -, hr15⟩ := ho15.reads
  have T15 := Lib.hid (T14.out.next hb15)
  have V15 := Lib.hid (V14.out.next hb15)
  have HP15 := Lib.hid (Ref06B.places_calls A15 c15 L w15 hr15 (by omega) KL.out)
  rw [K3.out] at HP15
  clear ho15 hb15 hr15 HR
  go_wp2_with (fail)
  refine HP15.out.mono ?_
  rintro e w16 ⟨v16, rfl, ho16, hb16⟩
  obtain ⟨A16, c16, rfl, -, hr16⟩ := ho16.reads
  have T16 := Lib.hid (T15.out.next hb16)
  have V16 := Lib.hid (V15.out.next hb16)
  have HS := Lib.hid (same_calls A16 A11 c16 c11 U U w16 hr16 (HR11.out.below V16.out.z) (by omega) (by omega))
  rw [show decide (U = U) = true from by simp] at HS
  have HS2 := Lib.hid (fun W (h : Below w8.heap.size w8 W) (h' : Below w10.heap.size w10 W) => same_calls A8 A10 c8 c10 P Q W (HR8.out.below h) (HR10.out.below h') (by omega) (by omega))
  rw [← HT.out] at HS2
  clear ho16 hb16 hr16 HP15
  go_wp2_with (first
    | (go_at_call 19; first
        | (refine HS.out.mono ?_; rintro e w17 ⟨rfl, q17, rfl⟩; have T17 := Lib.hid (T16.out.drew q17); have V17 := Lib.hid (V16.out.drew q17); clear HS)
        | (refine (HS2.out _ V18.out.x V18.out.y).mono ?_; rintro e w19 ⟨rfl, q19, rfl⟩; have T19 := Lib.hid (T18.out.drew q19); clear HS2))
    | (go_at_call 24; refine (HE.out _ T17.out.x).mono ?_; rintro e w18 ⟨rfl, hb18⟩; have T18 := Lib.hid (T17.out.next hb18); have V18 := Lib.hid (V17.out.next hb18); clear hb18)
    | (go_at_call 12; refine (HAW.out _ T19.out.x).mono ?_; rintro e w20 ⟨rfl, hb20⟩))
  go_ret
  exact ⟨rfl, hb20⟩

set_option maxHeartbeats 800000 in
theorem narrow (A B : Option Addr) (c d : Nat) (a b : List Sp) (w : World) (ra : RdSp w A a) (rb : RdSp w B b) (la : a.length ≤ 9223372036854775807) (lb : b.length ≤ 9223372036854775807) (hs : small a = false ∨ small a = true ∧ small b = false) :
    Calls Try.prog 6 #[.slice A a.length c, .slice B b.length d] w fun e w' => e = .returned (.bool true) ∧ Below w.heap.size w w' := by
  have HS1 := Lib.hid (small_calls A c a w ra la)
  have HS2 := Lib.hid (fun W (h : Below w.heap.size w W) => lift h h.size (small_calls B d b W (rb.below h) lb))
  have HAW := Lib.hid (fun W (h : Below w.heap.size w W) => lift h h.size (awake_calls W))
  clear ra rb
  rcases hs with hs | ⟨hs, hs2⟩
  · rw [hs] at HS1
    clear hs HS2
    go_enter Try.func6, Try.ntmps6
    go_wp2_with (first
      | (go_at_call 11; refine HS1.out.mono ?_; rintro e w1 ⟨rfl, hb1⟩; have HB1 := Lib.hid hb1; clear hb1)
      | (go_at_call 12; refine (HAW.out _ HB1.out).mono ?_; rintro e w9 ⟨rfl, hb9⟩))
    go_ret
    exact ⟨rfl, hb9⟩
  · rw [hs] at HS1
    rw [hs2] at HS2
    clear hs hs2
    go_enter Try.func6, Try.ntmps6
    go_wp2_with (first
      | (go_at_call 11; first
          | (refine HS1.out.mono ?_; rintro e w1 ⟨rfl, hb1⟩; have HB1 := Lib.hid hb1; clear HS1 hb1)
          | (refine (HS2.out _ HB1.out).mono ?_; rintro e w2 ⟨rfl, hb2⟩; have HB2 := Lib.hid hb2; clear hb2))
      | (go_at_call 12; refine (HAW.out _ HB2.out).mono ?_; rintro e w9 ⟨rfl, hb9⟩))
    go_ret
    exact ⟨rfl, hb9⟩
theorem walk (a0 : Option Addr) (len0 cap0 : Nat) (z0 : List Sp) (a1 : Option Addr) (len1 cap1 : Nat) (z1 : List Sp) (w : World) (h0 : IsSps w a0 len0 cap0 z0) (h1 : IsSps w a1 len1 cap1 z1) :
    Calls Try.prog 6 #[.slice a0 len0 cap0, .slice a1 len1 cap1] w fun e w' => e = .returned (.bool true) ∧ Below w.heap.size w w' := by
  obtain ⟨ra, rfl, hca, hna, hma, -⟩ := h0
  obtain ⟨rb, rfl, hcb, hnb, hmb, -⟩ := h1
  unfold maxLen at hma hmb
  cases hs : small z0 with
  | false => exact narrow a0 a1 cap0 cap1 z0 z1 w ra rb (by omega) (by omega) (.inl hs)
  | true =>
    cases hs2 : small z1 with
    | false => exact narrow a0 a1 cap0 cap1 z0 z1 w ra rb (by omega) (by omega) (.inr ⟨hs, hs2⟩)
    | true =>
      have ha : IsL w a0 cap0 z0 := ⟨ra, small_len hs, hca, hna⟩
      have hb : IsL w a1 cap1 z1 := ⟨rb, small_len hs2, hcb, hnb⟩
      by_cases hw : chk z0 ≠ 0 ∨ chk z1 ≠ 0
      · exact wrong a0 a1 cap0 cap1 z0 z1 w ha hb hs hs2 hw
      · by_cases hm : 4096 < (uni (places z0) (places z1)).length ∨ 1024 < (fromL (uni (places z0) (places z1))).length
        · exact many a0 a1 cap0 cap1 z0 z1 w ha hb hs hs2 (by omega) (by omega) hm
        · exact good a0 a1 cap0 cap1 z0 z1 w ha hb hs hs2 (by omega) (by omega) (by omega)
end Go.Proofs.Ytaenincbmlcjiaa.SpanUnions
