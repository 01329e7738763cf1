/- law 08: by the forward inserts a's values are at the union's places, by the backward ones b's; all else is nought. -/
import Derived.Test.YtaenincbmlcjiaaLayAw
import Derived.Test.YtaenincbmlcjiaaLayPure4
import Derived.Test.YtaenincbmlcjiaaOpenSp
namespace Go.Proofs.Ytaenincbmlcjiaa.LayCmp
open Go.RowKit Go.Proofs.YtaenincbmlcjiaaW.PrintWords
open Go.Proofs.Ytaenincbmlcjiaa.Base Go.Proofs.Ytaenincbmlcjiaa.SpanPure Go.Proofs.Ytaenincbmlcjiaa.SpanPure2 Go.Proofs.Ytaenincbmlcjiaa.LayPure Go.Proofs.Ytaenincbmlcjiaa.LayPure2 Go.Proofs.Ytaenincbmlcjiaa.LayPure3 Go.Proofs.Ytaenincbmlcjiaa.LayPure4 Go.Proofs.Ytaenincbmlcjiaa.SpanBase Go.Proofs.Ytaenincbmlcjiaa.SpanG Go.Proofs.Ytaenincbmlcjiaa.LayA Go.Proofs.Ytaenincbmlcjiaa.LayB Go.Proofs.Ytaenincbmlcjiaa.LayC Go.Proofs.Ytaenincbmlcjiaa.LayD Go.Proofs.Ytaenincbmlcjiaa.LayE Go.Proofs.Ytaenincbmlcjiaa.LayF Go.Proofs.Ytaenincbmlcjiaa.LayG Go.Proofs.Ytaenincbmlcjiaa.LayH Go.Proofs.Ytaenincbmlcjiaa.LawBase Go.Proofs.Ytaenincbmlcjiaa.OpenSp Go.Proofs.Ytaenincbmlcjiaa.Ref06
open Go.Proofs.Ytaenincbmlcjiaa.LayAw (awake_calls)
open Go.Proofs.Ytaenincbmlcjiaa.Law06B (lift)

def inAll (Q P : List Int) : Bool := Q.all fun z => decide (z ∈ P)
theorem inAll_snoc (Q P : List Int) (k : Nat) (h : k < Q.length) : inAll (Q.take (k + 1)) P = (inAll (Q.take k) P && decide (Q[k] ∈ P)) := by
  unfold inAll
  rw [List.take_succ_eq_append_getElem h, List.all_append]
  simp
theorem rightI_len (n : Int) (l : List Sp) : ∀ last c, rightI n last c l = true → c + (l.length : Int) ≤ cntF c l := by
  induction l with
  | nil => intro _ c _; simp [cntF]
  | cons s t ih =>
    intro last c h
    rw [rightI, Bool.and_eq_true, decide_eq_true_eq] at h
    have := ih _ _ h.2
    rw [cntF, List.length_cons]
    omega
theorem right_len {n : Int} {l : List Sp} (h : right n l = true) : l.length ≤ 4096 := by
  have h1 := rightI_len n l _ _ h
  have h2 := right_cnt h
  omega
/-- what two lists lack. -/
structure Lack (P U : List Int) (F : List Sp) : Prop where
  r : right P.length F = true
  n : cntF 0 F = (U.length : Int) - P.length
  x : ∀ v : List Int, v.length = P.length → expand v F 0 = U.map (LayPure3.look P v 0)
  l : F.length ≤ 4096
  p : ∀ s ∈ F, 0 ≤ s.2
theorem lack_of {a b : List Sp} (h : cerr a b = 0) : Lack (places a) (both a b) (lacks (places a) (both a b)) ∧ Lack (places b) (both a b) (lacks (places b) (both a b)) := by
  obtain ⟨g1, g2, g3, -⟩ := cerr_zero h
  have h1 := lacks_spec (places_rise (right_of g1)) (both_rise a b) (fun y hy => ((uni_spec _ _).2 y).2 (.inl hy)) g3
  have h2 := lacks_spec (places_rise (right_of g2)) (both_rise a b) (fun y hy => ((uni_spec _ _).2 y).2 (.inr hy)) g3
  exact ⟨⟨h1.1, h1.2.1, fun v hv => h1.2.2 v 0 hv, right_len h1.1, fun s hs => by have := rightI_all _ _ _ _ h1.1 s hs; omega⟩,
    ⟨h2.1, h2.2.1, fun v hv => h2.2.2 v 0 hv, right_len h2.1, fun s hs => by have := rightI_all _ _ _ _ h2.1 s hs; omega⟩⟩

set_option maxRecDepth 100000 in
set_option maxHeartbeats 800000 in
theorem wrong (A B : Option Addr) (c d : Nat) (a b : List Sp) (by_ : Int) (w : World) (ha : IsS w A c a) (hb : IsS w B d b) (hsa : small a = true) (hsb : small b = true) (h0 : cerr a b ≠ 0) :
    Calls Try.prog 9 #[.slice A a.length c, .slice B b.length d, .int .i64 by_] w fun e w' => e = .returned (.bool true) ∧ Below w.heap.size w w' := by
  have HS1 := Lib.hid (fun W (h : Below w.heap.size w W) => small_calls A c a W (ha.below h).rd (by have := ha.len; omega))
  have HS2 := Lib.hid (fun W (h : Below w.heap.size w W) => small_calls B d b W (hb.below h).rd (by have := hb.len; omega))
  rw [hsa] at HS1
  rw [hsb] at HS2
  have HC := Lib.hid (fun W (h : Below w.heap.size w W) => compare_calls (ha.below h) (hb.below h))
  have HU := Lib.hid (fun W (h : Below w.heap.size w W) => union_c (ha.below h) (hb.below h))
  have HV := Lib.hid (fun W (h : Below w.heap.size w W) => lift h h.size (covers_calls (ha.below h) (hb.below h)))
  have hcv : covers a b = false := by unfold covers; rw [decide_eq_false h0]; rfl
  rw [hcv] at HV
  have HAW := Lib.hid (fun W (h : Below w.heap.size w W) => lift h h.size (awake_calls W))
  have H0 := Lib.hid h0
  obtain ⟨E, hE⟩ : ∃ E, E = cerr a b := ⟨_, rfl⟩
  have HE := Lib.hid hE
  have e1 : ((E : Int) != 0) = true := by simp; omega
  clear ha hb hsa hsb h0 hcv hE
  go_enter Try.func9, Try.ntmps9
  go_wp2_with (fail)
  refine (HS1.out _ (Below.refl _ _)).mono ?_
  rintro e w1 ⟨rfl, hb1⟩
  have B1 := Lib.hid hb1
  clear HS1 hb1
  go_wp2_with (fail)
  refine (HS2.out _ B1.out).mono ?_
  rintro e w2 ⟨rfl, hb2⟩
  have B2 := Lib.hid (below_then B1.out B1.out.size hb2)
  clear HS2 hb2
  go_wp2_with (fail)
  refine (HC.out _ B2.out).mono ?_
  rintro e w3 ⟨hb3, ⟨-, rfl⟩ | ⟨h0, -⟩⟩
  · have B3 := Lib.hid (below_then B2.out B2.out.size hb3)
    rw [← HE.out]
    clear HC hb3
    go_wp2_with (fail)
    refine (HU.out _ B3.out).mono ?_
    rintro e w4 ⟨hb4, ⟨-, rfl⟩ | ⟨h0, -⟩⟩
    · have B4 := Lib.hid (below_then B3.out B3.out.size hb4)
      rw [← HE.out]
      clear HU hb4
      go_wp2_with (first
        | (go_at_call 36; refine (HV.out _ B4.out).mono ?_; rintro e w5 ⟨rfl, hb5⟩; have B5 := Lib.hid hb5; clear hb5)
        | (go_at_call 27; refine (HAW.out _ B5.out).mono ?_; rintro e w9 ⟨rfl, hb9⟩))
      go_ret
      exact ⟨rfl, hb9⟩
    · exact absurd h0 H0.out
  · exact absurd h0 H0.out

set_option maxRecDepth 100000 in
set_option maxHeartbeats 3200000 in
theorem good (A B : Option Addr) (c d : Nat) (a b : List Sp) (by_ : Int) (w : World) (ha : IsS w A c a) (hb : IsS w B d b) (hsa : small a = true) (hsb : small b = true) (h0 : cerr a b = 0) :
    Calls Try.prog 9 #[.slice A a.length c, .slice B b.length d, .int .i64 by_] w fun e w' => e = .returned (.bool true) ∧ Below w.heap.size w w' := by
  have HS1 := Lib.hid (fun W (h : Below w.heap.size w W) => small_calls A c a W (ha.below h).rd (by have := ha.len; omega))
  have HS2 := Lib.hid (fun W (h : Below w.heap.size w W) => small_calls B d b W (hb.below h).rd (by have := hb.len; omega))
  rw [hsa] at HS1
  rw [hsb] at HS2
  have HC := Lib.hid (fun W (h : Below w.heap.size w W) => compare_calls (ha.below h) (hb.below h))
  have HU := Lib.hid (fun W (h : Below w.heap.size w W) => union_c (ha.below h) (hb.below h))
  have HV := Lib.hid (fun W (h : Below w.heap.size w W) => covers_calls (ha.below h) (hb.below h))
  have HRA := Lib.hid (fun W (h : Below w.heap.size w W) => LayG.ref_calls A c a W (ha.below h).rd ha.len)
  have HRB := Lib.hid (fun W (h : Below w.heap.size w W) => LayG.ref_calls B d b W (hb.below h).rd hb.len)
  have HAW := Lib.hid (fun W (h : Below w.heap.size w W) => lift h h.size (awake_calls W))
  obtain ⟨k1, k2, k3⟩ := both_facts h0
  obtain ⟨g1, g2, g3, g4⟩ := cerr_zero h0
  obtain ⟨hf, hg⟩ := lack_of h0
  have hcv : covers a b = inAll (places b) (places a) := by rw [Bool.eq_iff_iff, covers_iff h0, inAll, List.all_eq_true]; simp
  rw [hcv] at HV
  have la := places_len (right_of g1)
  have lb := places_len (right_of g2)
  have laa := ha.len
  have lbb := hb.len
  have HPA := Lib.hid (fun A' c' W (h : RdSp W A' a) => Ref06B.places_calls A' c' a W h (by omega) g1)
  have HPB := Lib.hid (fun A' c' W (h : RdSp W A' b) => Ref06B.places_calls A' c' b W h (by omega) g2)
  have HPU := Lib.hid (fun A' c' W (h : RdSp W A' (fromL (both a b))) => Ref06B.places_calls A' c' (fromL (both a b)) W h (by omega) k1)
  rw [k2] at HPU
  have H0 := Lib.hid h0
  have hu3 : ∀ (v : Value) (W : World) (n : Nat), OwSp 43 W n v (fromL (both a b)) → ∃ A' c', v = .slice A' (fromL (both a b)).length c' ∧ RdSp W A' (fromL (both a b)) := fun v W n h => by
    obtain ⟨A', c', h1, -, -, h4⟩ := h.reads
    exact ⟨A', c', h1, h4⟩
  have HU3 := Lib.hid hu3
  have HRU := Lib.hid (fun A' c' W (h : RdSp W A' (fromL (both a b))) => LayG.ref_calls A' c' _ W h (by omega))
  generalize hP : places a = P at *
  generalize hQ : places b = Q at *
  generalize hU : both a b = U at *
  generalize hL : fromL U = L at *
  generalize hLF : lacks P U = LF at *
  generalize hLG : lacks Q U = LG at *
  have EP := Lib.hid hP
  have EQ := Lib.hid hQ
  have EU := Lib.hid hU
  have EL := Lib.hid hL
  have EF := Lib.hid hLF
  have EG := Lib.hid hLG
  have HF := Lib.hid hf
  have HG := Lib.hid hg
  clear ha hb hsa hsb h0 hcv k1 k2 k3 g1 g2 g4 hf hg hu3 hP hQ hU hL hLF hLG
  go_enter Try.func9, Try.ntmps9
  have B_0 : Hid (Below w.heap.size w w) := Lib.hid (Below.refl _ _)
  go_wp2_with (fail)
  refine (HS1.out _ B_0.out).mono ?_
  rintro e w1 ⟨rfl, hb⟩
  have B_1 := Lib.hid (below_then B_0.out B_0.out.size hb)
  clear hb HS1
  go_wp2_with (fail)
  refine (HS2.out _ B_1.out).mono ?_
  rintro e w2 ⟨rfl, hb⟩
  have B_2 := Lib.hid (below_then B_1.out B_1.out.size hb)
  clear hb HS2
  go_wp2_with (fail)
  refine (HC.out _ B_2.out).mono ?_
  rintro e w3 ⟨hb, ⟨h0, -⟩ | ⟨-, f, g, rfl, hof, hog⟩⟩
  · exact absurd H0.out h0
  have B_3 := Lib.hid (below_then B_2.out B_2.out.size hb)
  clear hb HC
  rw [EP.out, EU.out, EF.out] at hof
  rw [EQ.out, EU.out, EG.out] at hog
  obtain ⟨Af, cf, rfl, -, -, hrf⟩ := hof.reads
  obtain ⟨Ag, cg, rfl, -, -, hrg⟩ := hog.reads
  have F_3 := Lib.hid (hrf)
  have Gg_3 := Lib.hid (hrg)
  clear hof hog hrf hrg
  go_wp2_with (fail)
  refine (HU.out _ B_3.out).mono ?_
  rintro e w4 ⟨hb, ⟨h0, -⟩ | ⟨-, u, rfl, hou⟩⟩
  · exact absurd H0.out h0
  have F_4 := Lib.hid (F_3.out.below hb)
  have Gg_4 := Lib.hid (Gg_3.out.below hb)
  clear F_3 Gg_3
  have B_4 := Lib.hid (below_then B_3.out B_3.out.size hb)
  clear hb HU
  rw [EU.out, EL.out] at hou
  obtain ⟨Au, cu, rfl, hru⟩ := HU3.out _ _ _ hou
  have U_4 := Lib.hid (hru)
  clear hou hru
  go_wp2_with (fail)
  refine (HRA.out _ B_4.out).mono ?_
  rintro e w5 ⟨v, rfl, ho, hb⟩
  have F_5 := Lib.hid (F_4.out.below hb)
  have Gg_5 := Lib.hid (Gg_4.out.below hb)
  have U_5 := Lib.hid (U_4.out.below hb)
  clear F_4 Gg_4 U_4
  have B_5 := Lib.hid (below_then B_4.out B_4.out.size hb)
  obtain ⟨A1x, c1x, rfl, -, -, hr⟩ := ho.reads
  have HR1 := Lib.hid hr
  clear hb ho hr
  go_wp2_with (fail)
  refine (HPA.out _ _ _ HR1.out).mono ?_
  rintro e w6 ⟨v, rfl, ho, hb⟩
  have F_6 := Lib.hid (F_5.out.below hb)
  have Gg_6 := Lib.hid (Gg_5.out.below hb)
  have U_6 := Lib.hid (U_5.out.below hb)
  clear F_5 Gg_5 U_5
  have B_6 := Lib.hid (below_then B_5.out B_5.out.size hb)
  obtain ⟨Ax, cx, rfl, -, hr⟩ := ho.reads
  clear hb 
  have x_6 := Lib.hid (hr)
  clear ho hr HR1 HPA
  go_wp2_with (fail)
  refine (HRB.out _ B_6.out).mono ?_
  rintro e w7 ⟨v, rfl, ho, hb⟩
  have F_7 := Lib.hid (F_6.out.below hb)
  have Gg_7 := Lib.hid (Gg_6.out.below hb)
  have U_7 := Lib.hid (U_6.out.below hb)
  have x_7 := Lib.hid (x_6.out.below hb)
  clear F_6 Gg_6 U_6 x_6
  have B_7 := Lib.hid (below_then B_6.out B_6.out.size hb)
  obtain ⟨A1y, c1y, rfl, -, -, hr⟩ := ho.reads
  have HR1 := Lib.hid hr
  clear hb ho hr
  go_wp2_with (fail)
  refine (HPB.out _ _ _ HR1.out).mono ?_
  rintro e w8 ⟨v, rfl, ho, hb⟩
  have F_8 := Lib.hid (F_7.out.below hb)
  have Gg_8 := Lib.hid (Gg_7.out.below hb)
  have U_8 := Lib.hid (U_7.out.below hb)
  have x_8 := Lib.hid (x_7.out.below hb)
  clear F_7 Gg_7 U_7 x_7
  have B_8 := Lib.hid (below_then B_7.out B_7.out.size hb)
  obtain ⟨Ay, cy, rfl, -, hr⟩ := ho.reads
  clear hb 
  have y_8 := Lib.hid (hr)
  clear ho hr HR1 HPB
  go_wp2_with (fail)
  refine (HRU.out _ _ _ U_8.out).mono ?_
  rintro e w9 ⟨v, rfl, ho, hb⟩
  have F_9 := Lib.hid (F_8.out.below hb)
  have Gg_9 := Lib.hid (Gg_8.out.below hb)
  have U_9 := Lib.hid (U_8.out.below hb)
  have x_9 := Lib.hid (x_8.out.below hb)
  have y_9 := Lib.hid (y_8.out.below hb)
  clear F_8 Gg_8 U_8 x_8 y_8
  have B_9 := Lib.hid (below_then B_8.out B_8.out.size hb)
  obtain ⟨A1z, c1z, rfl, -, -, hr⟩ := ho.reads
  have HR1 := Lib.hid hr
  clear hb ho hr
  go_wp2_with (fail)
  refine (HPU.out _ _ _ HR1.out).mono ?_
  rintro e w10 ⟨v, rfl, ho, hb⟩
  have F_10 := Lib.hid (F_9.out.below hb)
  have Gg_10 := Lib.hid (Gg_9.out.below hb)
  have U_10 := Lib.hid (U_9.out.below hb)
  have x_10 := Lib.hid (x_9.out.below hb)
  have y_10 := Lib.hid (y_9.out.below hb)
  clear F_9 Gg_9 U_9 x_9 y_9
  have B_10 := Lib.hid (below_then B_9.out B_9.out.size hb)
  obtain ⟨Az, cz, rfl, -, hr⟩ := ho.reads
  clear hb 
  have z_10 := Lib.hid (hr)
  clear ho hr HR1 HPU
  clear U_10
  clear HRA HRB HRU
  go_wp2_with (fail)
  refine (numbers_calls P.length by_ _ (by omega)).mono ?_
  rintro e w11 ⟨v, rfl, ho, hb⟩
  have F_11 := Lib.hid (F_10.out.below hb)
  have Gg_11 := Lib.hid (Gg_10.out.below hb)
  have x_11 := Lib.hid (x_10.out.below hb)
  have y_11 := Lib.hid (y_10.out.below hb)
  have z_11 := Lib.hid (z_10.out.below hb)
  clear F_10 Gg_10 x_10 y_10 z_10
  have B_11 := Lib.hid (below_then B_10.out B_10.out.size hb)
  obtain ⟨Av, cv, rfl, hv, hr⟩ := ho.reads
  have Nv := Lib.hid (nums8_len P.length by_)
  rw [Nv.out] at hv ⊢
  clear hb 
  have v_11 := Lib.hid (hr)
  clear ho hr
  go_wp2_with (fail)
  refine (numbers_calls Q.length by_ _ (by omega)).mono ?_
  rintro e w12 ⟨v, rfl, ho, hb⟩
  have F_12 := Lib.hid (F_11.out.below hb)
  have Gg_12 := Lib.hid (Gg_11.out.below hb)
  have x_12 := Lib.hid (x_11.out.below hb)
  have y_12 := Lib.hid (y_11.out.below hb)
  have z_12 := Lib.hid (z_11.out.below hb)
  have v_12 := Lib.hid (v_11.out.below hb)
  clear F_11 Gg_11 x_11 y_11 z_11 v_11
  have B_12 := Lib.hid (below_then B_11.out B_11.out.size hb)
  obtain ⟨Aq, cq, rfl, hq, hr⟩ := ho.reads
  have Nq := Lib.hid (nums8_len Q.length by_)
  rw [Nq.out] at hq ⊢
  clear hb 
  have q_12 := Lib.hid (hr)
  clear ho hr
  obtain ⟨V, hV⟩ : ∃ V, V = nums8 P.length by_ := ⟨_, rfl⟩
  obtain ⟨Y, hY⟩ : ∃ Y, Y = nums8 Q.length by_ := ⟨_, rfl⟩
  rw [← hV] at Nv v_12
  rw [← hY] at Nq q_12
  have XF := Lib.hid (HF.out.x V Nv.out)
  have XG := Lib.hid (HG.out.x Y Nq.out)
  have lU : U.length ≤ 4096 := g3
  have bV : V.length ≤ 4096 := by rw [Nv.out]; omega
  have bY : Y.length ≤ 4096 := by rw [Nq.out]; omega
  clear hV hY
  have HXX := Lib.hid (expand_calls Av Af cv cf V LF 0 _ v_12.out F_12.out (by omega) (by have := HF.out.l; omega) (by rw [Nv.out]; omega))
  rw [Nv.out] at HXX
  go_wp2_with (fail)
  refine (HXX.out).mono ?_
  rintro e w13 ⟨hb, ⟨h0, -⟩ | ⟨-, v, rfl, ho⟩⟩
  · rw [Nv.out, HF.out.r] at h0; cases h0
  have F_13 := Lib.hid (F_12.out.below hb)
  have Gg_13 := Lib.hid (Gg_12.out.below hb)
  have x_13 := Lib.hid (x_12.out.below hb)
  have y_13 := Lib.hid (y_12.out.below hb)
  have z_13 := Lib.hid (z_12.out.below hb)
  have v_13 := Lib.hid (v_12.out.below hb)
  have q_13 := Lib.hid (q_12.out.below hb)
  clear F_12 Gg_12 x_12 y_12 z_12 v_12 q_12
  have B_13 := Lib.hid (below_then B_12.out B_12.out.size hb)
  rw [XF.out] at ho
  obtain ⟨Ap, cp, rfl, -, hr⟩ := ho.reads
  clear hb 
  have p_13 := Lib.hid (hr)
  clear ho hr HXX
  have HXX := Lib.hid (expand_calls Aq Ag cq cg Y LG 0 _ q_13.out Gg_13.out (by omega) (by have := HG.out.l; omega) (by rw [Nq.out]; omega))
  rw [Nq.out] at HXX
  go_wp2_with (fail)
  refine (HXX.out).mono ?_
  rintro e w14 ⟨hb, ⟨h0, -⟩ | ⟨-, v, rfl, ho⟩⟩
  · rw [Nq.out, HG.out.r] at h0; cases h0
  have F_14 := Lib.hid (F_13.out.below hb)
  have Gg_14 := Lib.hid (Gg_13.out.below hb)
  have x_14 := Lib.hid (x_13.out.below hb)
  have y_14 := Lib.hid (y_13.out.below hb)
  have z_14 := Lib.hid (z_13.out.below hb)
  have v_14 := Lib.hid (v_13.out.below hb)
  have q_14 := Lib.hid (q_13.out.below hb)
  have p_14 := Lib.hid (p_13.out.below hb)
  clear F_13 Gg_13 x_13 y_13 z_13 v_13 q_13 p_13
  have B_14 := Lib.hid (below_then B_13.out B_13.out.size hb)
  rw [XG.out] at ho
  obtain ⟨Ar, cr, rfl, -, hr⟩ := ho.reads
  clear hb 
  have r_14 := Lib.hid (hr)
  clear ho hr HXX
  clear XF XG
  rw [List.length_map]
  go_wp2
  go_loop [21, 101] (fun cv i => ∃ (k : Nat) (b : Bool), k ≤ Q.length ∧ i = .int .i64 k ∧ cv = .bool b ∧ Hid (b = inAll (Q.take k) P)) (fun _ i => Q.length - (intOf i).toNat)
  case atStart => exact ⟨0, true, by omega, rfl, rfl, Lib.hid rfl⟩
  case round =>
    obtain ⟨k, b, hk, rfl, rfl, hbb⟩ := hrel
    by_cases hlt : k < Q.length
    · obtain ⟨ad, hA, c0⟩ := RdI.at_ y_14.out k hlt
      subst hA
      obtain ⟨q, hq9⟩ : ∃ q, q = Q[k] := ⟨_, rfl⟩
      have HT : Hid (inAll (Q.take (k + 1)) P = (b && decide (q ∈ P))) := Lib.hid (by rw [hbb.out, inAll_snoc Q P k hlt, hq9])
      rw [← hq9] at c0
      have HHS := Lib.hid (has_calls Ax cx P q _ x_14.out (by omega))
      clear hq9 hbb
      cases b with
      | true =>
        go_wp2_with (go_at_call 39; refine HHS.out.mono ?_; rintro e w' ⟨rfl, rfl⟩)
        go_round
        case rel => exact ⟨k + 1, decide (q ∈ P), by omega, by go_num, rfl, Lib.hid (by rw [HT.out, Bool.true_and])⟩
        case measure => simp [intOf]; omega
      | false =>
        go_wp2
        go_round
        case rel => exact ⟨k + 1, false, by omega, by go_num, rfl, Lib.hid (by rw [HT.out, Bool.false_and])⟩
        case measure => simp [intOf]; omega
    · obtain rfl : k = Q.length := by omega
      rw [List.take_length] at hbb
      have hbo := hbb.out
      have HVV := Lib.hid (fun W h => HV.out W h)
      simp only [← hbo] at HVV
      clear hbb hlt hk HV hbo
      have HXX := Lib.hid (refexp_calls Av Ax Az cv cx cz V P U _ v_14.out x_14.out z_14.out (by rw [Nv.out]) (by omega) (by omega))
      rw [Nv.out] at HXX
      go_wp2_with (fail)
      refine (HXX.out).mono ?_
      rintro e w15 ⟨v, rfl, ho, hb⟩
      have F_15 := Lib.hid (F_14.out.below hb)
      have Gg_15 := Lib.hid (Gg_14.out.below hb)
      have x_15 := Lib.hid (x_14.out.below hb)
      have y_15 := Lib.hid (y_14.out.below hb)
      have z_15 := Lib.hid (z_14.out.below hb)
      have v_15 := Lib.hid (v_14.out.below hb)
      have q_15 := Lib.hid (q_14.out.below hb)
      have p_15 := Lib.hid (p_14.out.below hb)
      have r_15 := Lib.hid (r_14.out.below hb)
      clear F_14 Gg_14 x_14 y_14 z_14 v_14 q_14 p_14 r_14
      have B_15 := Lib.hid (below_then B_14.out B_14.out.size hb)
      obtain ⟨Ak1, ck1, rfl, -, hr⟩ := ho.reads
      have HSM := Lib.hid (LayB.same_calls Ap Ak1 cp ck1 _ _ _ p_15.out hr (by rw [List.length_map]; omega) (by rw [List.length_map]; omega))
      rw [List.length_map, show decide (U.map (LayPure3.look P V 0) = U.map (LayPure3.look P V 0)) = true from by simp] at HSM
      rw [List.length_map]
      clear HXX ho hr
      clear hb 
      go_wp2_with (fail)
      refine (HSM.out).mono ?_
      rintro e w9 ⟨rfl, q9, rfl⟩
      have F_16 := Lib.hid (F_15.out.below (pw_below_drewN (Below.refl _ _) q9))
      have Gg_16 := Lib.hid (Gg_15.out.below (pw_below_drewN (Below.refl _ _) q9))
      have x_16 := Lib.hid (x_15.out.below (pw_below_drewN (Below.refl _ _) q9))
      have y_16 := Lib.hid (y_15.out.below (pw_below_drewN (Below.refl _ _) q9))
      have z_16 := Lib.hid (z_15.out.below (pw_below_drewN (Below.refl _ _) q9))
      have v_16 := Lib.hid (v_15.out.below (pw_below_drewN (Below.refl _ _) q9))
      have q_16 := Lib.hid (q_15.out.below (pw_below_drewN (Below.refl _ _) q9))
      have p_16 := Lib.hid (p_15.out.below (pw_below_drewN (Below.refl _ _) q9))
      have r_16 := Lib.hid (r_15.out.below (pw_below_drewN (Below.refl _ _) q9))
      clear F_15 Gg_15 x_15 y_15 z_15 v_15 q_15 p_15 r_15
      have B_16 := Lib.hid (pw_below_drewN B_15.out q9)
      generalize World.drewN _ q9 = w16 at *
      clear HSM
      have HXX := Lib.hid (refexp_calls Aq Ay Az cq cy cz Y Q U _ q_16.out y_16.out z_16.out (by rw [Nq.out]) (by omega) (by omega))
      rw [Nq.out] at HXX
      go_wp2_with (fail)
      refine (HXX.out).mono ?_
      rintro e w17 ⟨v, rfl, ho, hb⟩
      have F_17 := Lib.hid (F_16.out.below hb)
      have Gg_17 := Lib.hid (Gg_16.out.below hb)
      have x_17 := Lib.hid (x_16.out.below hb)
      have y_17 := Lib.hid (y_16.out.below hb)
      have z_17 := Lib.hid (z_16.out.below hb)
      have v_17 := Lib.hid (v_16.out.below hb)
      have q_17 := Lib.hid (q_16.out.below hb)
      have p_17 := Lib.hid (p_16.out.below hb)
      have r_17 := Lib.hid (r_16.out.below hb)
      clear F_16 Gg_16 x_16 y_16 z_16 v_16 q_16 p_16 r_16
      have B_17 := Lib.hid (below_then B_16.out B_16.out.size hb)
      obtain ⟨Ak2, ck2, rfl, -, hr⟩ := ho.reads
      have HSM := Lib.hid (LayB.same_calls Ar Ak2 cr ck2 _ _ _ r_17.out hr (by rw [List.length_map]; omega) (by rw [List.length_map]; omega))
      rw [List.length_map, show decide (U.map (LayPure3.look Q Y 0) = U.map (LayPure3.look Q Y 0)) = true from by simp] at HSM
      rw [List.length_map]
      clear HXX ho hr
      clear hb 
      go_wp2_with (fail)
      refine (HSM.out).mono ?_
      rintro e w9 ⟨rfl, q9, rfl⟩
      have F_18 := Lib.hid (F_17.out.below (pw_below_drewN (Below.refl _ _) q9))
      have Gg_18 := Lib.hid (Gg_17.out.below (pw_below_drewN (Below.refl _ _) q9))
      have x_18 := Lib.hid (x_17.out.below (pw_below_drewN (Below.refl _ _) q9))
      have y_18 := Lib.hid (y_17.out.below (pw_below_drewN (Below.refl _ _) q9))
      have z_18 := Lib.hid (z_17.out.below (pw_below_drewN (Below.refl _ _) q9))
      have v_18 := Lib.hid (v_17.out.below (pw_below_drewN (Below.refl _ _) q9))
      have q_18 := Lib.hid (q_17.out.below (pw_below_drewN (Below.refl _ _) q9))
      have p_18 := Lib.hid (p_17.out.below (pw_below_drewN (Below.refl _ _) q9))
      have r_18 := Lib.hid (r_17.out.below (pw_below_drewN (Below.refl _ _) q9))
      clear F_17 Gg_17 x_17 y_17 z_17 v_17 q_17 p_17 r_17
      have B_18 := Lib.hid (pw_below_drewN B_17.out q9)
      generalize World.drewN _ q9 = w18 at *
      clear HSM
      have HXX := Lib.hid (many_calls Af cf LF _ F_18.out (by have := HF.out.l; omega) HF.out.p (by rw [HF.out.n]; omega))
      rw [HF.out.n] at HXX
      go_wp2_with (fail)
      refine (HXX.out).mono ?_
      rintro e w19 ⟨rfl, hb⟩
      have F_19 := Lib.hid (F_18.out.below hb)
      have Gg_19 := Lib.hid (Gg_18.out.below hb)
      have x_19 := Lib.hid (x_18.out.below hb)
      have y_19 := Lib.hid (y_18.out.below hb)
      have z_19 := Lib.hid (z_18.out.below hb)
      have v_19 := Lib.hid (v_18.out.below hb)
      have q_19 := Lib.hid (q_18.out.below hb)
      have p_19 := Lib.hid (p_18.out.below hb)
      have r_19 := Lib.hid (r_18.out.below hb)
      clear F_18 Gg_18 x_18 y_18 z_18 v_18 q_18 p_18 r_18
      have B_19 := Lib.hid (below_then B_18.out B_18.out.size hb)
      clear hb HXX
      have HXX := Lib.hid (many_calls Ag cg LG _ Gg_19.out (by have := HG.out.l; omega) HG.out.p (by rw [HG.out.n]; omega))
      rw [HG.out.n] at HXX
      go_wp2_with (fail)
      refine (HXX.out).mono ?_
      rintro e w20 ⟨rfl, hb⟩
      have F_20 := Lib.hid (F_19.out.below hb)
      have Gg_20 := Lib.hid (Gg_19.out.below hb)
      have x_20 := Lib.hid (x_19.out.below hb)
      have y_20 := Lib.hid (y_19.out.below hb)
      have z_20 := Lib.hid (z_19.out.below hb)
      have v_20 := Lib.hid (v_19.out.below hb)
      have q_20 := Lib.hid (q_19.out.below hb)
      have p_20 := Lib.hid (p_19.out.below hb)
      have r_20 := Lib.hid (r_19.out.below hb)
      clear F_19 Gg_19 x_19 y_19 z_19 v_19 q_19 p_19 r_19
      have B_20 := Lib.hid (below_then B_19.out B_19.out.size hb)
      clear hb HXX
      have HXX := Lib.hid (right_calls Af cf LF P.length _ F_20.out (by have := HF.out.l; omega))
      rw [HF.out.r] at HXX
      go_wp2_with (fail)
      refine (HXX.out).mono ?_
      rintro e w21 ⟨rfl, hb⟩
      have F_21 := Lib.hid (F_20.out.below hb)
      have Gg_21 := Lib.hid (Gg_20.out.below hb)
      have x_21 := Lib.hid (x_20.out.below hb)
      have y_21 := Lib.hid (y_20.out.below hb)
      have z_21 := Lib.hid (z_20.out.below hb)
      have v_21 := Lib.hid (v_20.out.below hb)
      have q_21 := Lib.hid (q_20.out.below hb)
      have p_21 := Lib.hid (p_20.out.below hb)
      have r_21 := Lib.hid (r_20.out.below hb)
      clear F_20 Gg_20 x_20 y_20 z_20 v_20 q_20 p_20 r_20
      have B_21 := Lib.hid (below_then B_20.out B_20.out.size hb)
      clear hb HXX
      go_wp2_with (fail)
      refine (HVV.out _ B_21.out).mono ?_
      rintro e w22 ⟨rfl, hb⟩
      have F_22 := Lib.hid (F_21.out.below hb)
      have Gg_22 := Lib.hid (Gg_21.out.below hb)
      have x_22 := Lib.hid (x_21.out.below hb)
      have y_22 := Lib.hid (y_21.out.below hb)
      have z_22 := Lib.hid (z_21.out.below hb)
      have v_22 := Lib.hid (v_21.out.below hb)
      have q_22 := Lib.hid (q_21.out.below hb)
      have p_22 := Lib.hid (p_21.out.below hb)
      have r_22 := Lib.hid (r_21.out.below hb)
      clear F_21 Gg_21 x_21 y_21 z_21 v_21 q_21 p_21 r_21
      have B_22 := Lib.hid (below_then B_21.out B_21.out.size hb)
      clear hb 
      go_wp2_with (fail)
      refine (HAW.out _ B_22.out).mono ?_
      rintro e w9 ⟨rfl, hb9⟩
      go_wp2
      go_ret
      exact ⟨rfl, hb9⟩

set_option maxRecDepth 100000 in
set_option maxHeartbeats 800000 in
theorem narrow (A B : Option Addr) (c d : Nat) (a b : List Sp) (by_ : Int) (w : World) (ra : RdSp w A a) (rb : RdSp w B b) (ma : a.length ≤ 9223372036854775807) (mb : b.length ≤ 9223372036854775807) (hs : small a = false ∨ small a = true ∧ small b = false) :
    Calls Try.prog 9 #[.slice A a.length c, .slice B b.length d, .int .i64 by_] w fun e w' => e = .returned (.bool true) ∧ Below w.heap.size w w' := by
  have HS1 := Lib.hid (fun W (h : Below w.heap.size w W) => small_calls A c a W (ra.below h) ma)
  have HS2 := Lib.hid (fun W (h : Below w.heap.size w W) => lift h h.size (small_calls B d b W (rb.below h) mb))
  have HAW := Lib.hid (fun W (h : Below w.heap.size w W) => lift h h.size (awake_calls W))
  clear ra rb
  rcases hs with hs | ⟨hs, hs2⟩
  · rw [hs] at HS1
    clear hs HS2
    go_enter Try.func9, Try.ntmps9
    go_wp2_with (first
      | (go_at_call 34; refine (HS1.out _ (Below.refl _ _)).mono ?_; rintro e w1 ⟨rfl, hb1⟩; have HB1 := Lib.hid hb1; clear hb1)
      | (go_at_call 27; refine (HAW.out _ HB1.out).mono ?_; rintro e w9 ⟨rfl, hb9⟩))
    go_ret
    exact ⟨rfl, hb9⟩
  · rw [hs] at HS1
    rw [hs2] at HS2
    clear hs hs2
    go_enter Try.func9, Try.ntmps9
    go_wp2_with (fail)
    refine (HS1.out _ (Below.refl _ _)).mono ?_
    rintro e w1 ⟨rfl, hb1⟩
    have HB1 := Lib.hid hb1
    clear hb1
    go_wp2_with (first
      | (go_at_call 34; refine (HS2.out _ HB1.out).mono ?_; rintro e w2 ⟨rfl, hb2⟩; have HB2 := Lib.hid hb2; clear hb2)
      | (go_at_call 27; refine (HAW.out _ HB2.out).mono ?_; rintro e w9 ⟨rfl, hb9⟩))
    go_ret
    exact ⟨rfl, hb9⟩
theorem walk (a0 : Option Addr) (len0 cap0 : Nat) (z0 : List Sp) (a1 : Option Addr) (len1 cap1 : Nat) (z1 : List Sp) (s : Int) (w : World) (h0 : IsSps w a0 len0 cap0 z0) (h1 : IsSps w a1 len1 cap1 z1) (_ : (Lit.int .i64 s).wf = true) :
    Calls Try.prog 9 #[.slice a0 len0 cap0, .slice a1 len1 cap1, .int .i64 s] w fun e w' => e = .returned (.bool true) ∧ Below w.heap.size w w' := by
  obtain ⟨ra, rfl, hca, hna, hma, -⟩ := h0
  obtain ⟨rb, rfl, hcb, hnb, hmb, -⟩ := h1
  unfold maxLen at hma hmb
  cases hs : small z0 with
  | false => exact narrow a0 a1 cap0 cap1 z0 z1 s w ra rb (by omega) (by omega) (.inl hs)
  | true =>
    cases hs2 : small z1 with
    | false => exact narrow a0 a1 cap0 cap1 z0 z1 s w ra rb (by omega) (by omega) (.inr ⟨hs, hs2⟩)
    | true =>
      have ha : IsS w a0 cap0 z0 := ⟨ra, by have := small_len hs; omega, hca, hna⟩
      have hb : IsS w a1 cap1 z1 := ⟨rb, by have := small_len hs2; omega, hcb, hnb⟩
      by_cases hw : cerr z0 z1 = 0
      · exact good a0 a1 cap0 cap1 z0 z1 s w ha hb hs hs2 hw
      · exact wrong a0 a1 cap0 cap1 z0 z1 s w ha hb hs hs2 hw
end Go.Proofs.Ytaenincbmlcjiaa.LayCmp
