/- times' walks: numbers are read. -/
import Derived.Test.YtlbkdmggafkghaaDoorTimesA
namespace Go.Proofs.YtlbkdmggafkghaaDoor.TimesB
open Go.RowKit Go.Proofs.YtlbkdmggafkghaaDoorW.PrintWords
open Go.Proofs.YtlbkdmggafkghaaDoor.Bits Go.Proofs.YtlbkdmggafkghaaDoor.Base Go.Proofs.YtlbkdmggafkghaaDoor.VarPure Go.Proofs.YtlbkdmggafkghaaDoor.TimesPure Go.Proofs.YtlbkdmggafkghaaDoor.VarbitA Go.Proofs.YtlbkdmggafkghaaDoor.VarbitB Go.Proofs.YtlbkdmggafkghaaDoor.VarbitD Go.Proofs.YtlbkdmggafkghaaDoor.StreamA Go.Proofs.YtlbkdmggafkghaaDoor.StreamR Go.Proofs.YtlbkdmggafkghaaDoor.VarKit Go.Proofs.YtlbkdmggafkghaaDoor.TimesA

/-- a number with a sign, as 64 bits. -/
theorem i64_u64' (v : Int) (h : -9223372036854775808 ≤ v ∧ v ≤ 9223372036854775807) : i64 (u64 v) = v := i64_u64 v h.1 h.2
/-- what is read of a group: the number and the step; none: it isn't what would have been put. -/
def readT (sg : Bool) (last step n k : Nat) (x : List Bool) : Option (Nat × Nat) :=
  if n = 0 then
    if sg then (if okS k x then some (u64 (sgd (val x) (behind k)), 0) else none)
    else (if okU k x then some (val x, 0) else none)
  else if okS k x then some (add64 last (add64 step (u64 (sgd (val x) (behind k)))), add64 step (u64 (sgd (val x) (behind k)))) else none
theorem val64 {k : Nat} {x : List Bool} (hx : x.length = behind k) : val x < 18446744073709551616 := by
  have h1 := val_lt x
  have h2 : (2 : Nat) ^ x.length ≤ 2 ^ 64 := Nat.pow_le_pow_right (by decide) (by rw [hx]; exact behind_le)
  omega

/-! ### rows of int64 -/
/-- what a row of int64 and a reader are behind a number that was asked. -/
def GotS (g gx a : Nat) (S : Nat → Prop) (q : List Bool) (last step n : Nat) (w : World) (e : Ending) (w' : World) : Prop :=
  Ch (fun k => S k ∨ k = gx) w w' ∧ ((parse q = none ∧ e = .returned (.tuple #[.int .i64 0, .int .i64 16]) ∧ (∃ a', Rr w' g S a' [] true) ∧ TrS w' gx last step n) ∨
    ∃ k x t, parse q = some (k, x, t) ∧ Rr w' g S (a + front k + behind k) t false ∧
      ((readT true last step n k x = none ∧ e = .returned (.tuple #[.int .i64 0, .int .i64 10]) ∧ TrS w' gx last step n) ∨
        ∃ v st, readT true last step n k x = some (v, st) ∧ e = .returned (.tuple #[.int .i64 (i64 v), .int .i64 0]) ∧ TrS w' gx v st (n + 1) ∧ v < 18446744073709551616 ∧ st < 18446744073709551616))

set_option maxHeartbeats 800000 in
theorem firstS_calls (g gx a : Nat) (S : Nat → Prop) (q : List Bool) (w : World) (hT : Tab w) (hG : ¬ S 0) (h : Rr w g S a q false) :
    Calls Tryd.prog 63 #[.pointer (some ⟨gx, 0, none⟩), .pointer (some ⟨g, 0, none⟩)] w
      (Got (fun k x => if okS k x then .tuple #[.int .i64 (sgd (val x) (behind k)), .int .i64 0] else .tuple #[.int .i64 0, .int .i64 10]) (.tuple #[.int .i64 0, .int .i64 16]) g a S q w) := by
  have HSG := Lib.hid (signedS_calls gx w)
  have HGE := Lib.hid (getS_calls g a S q w hT hG h)
  clear hT hG h
  go_enter Tryd.func63, Tryd.ntmps63
  go_wp2_with (go_at_call 68; refine HSG.out.mono ?_; rintro e w' ⟨rfl, rfl⟩)
  refine HGE.out.mono ?_
  rintro e w1 ⟨hc, ⟨hp, rfl, hr⟩ | ⟨k, x, t, hp, he, hr⟩⟩
  · have H1 := Lib.hid hc
    have H2 := Lib.hid hp
    have H3 := Lib.hid hr
    clear hc hp hr
    go_wp2
    go_ret2
    exact ⟨H1.out, .inl ⟨H2.out, rfl, H3.out⟩⟩
  · have H1 := Lib.hid hc
    have H2 := Lib.hid hp
    have H3 := Lib.hid hr
    cases ho : okS k x with
    | true =>
      simp only [ho, if_true] at he
      subst he
      have HO := Lib.hid ho
      clear hc hp hr ho
      go_wp2
      go_ret2
      refine ⟨H1.out, .inr ⟨k, x, t, H2.out, ?_, H3.out⟩⟩
      simp only [HO.out, if_true]
      rfl
    | false =>
      simp only [ho] at he
      subst he
      have HO := Lib.hid ho
      clear hc hp hr ho
      go_wp2
      go_ret2
      refine ⟨H1.out, .inr ⟨k, x, t, H2.out, ?_, H3.out⟩⟩
      simp only [HO.out]
      rfl

set_option maxHeartbeats 1600000 in
theorem getS_row (g gx a : Nat) (S : Nat → Prop) (q : List Bool) (last step n : Nat) (w : World) (hT : Tab w) (hG : ¬ S 0) (hx : TrS w gx last step n) (hr : Rr w g S a q false) (hgx : ¬ S gx) (hn : n < 1000000) :
    Calls Tryd.prog 34 #[.pointer (some ⟨gx, 0, none⟩), .pointer (some ⟨g, 0, none⟩)] w (GotS g gx a S q last step n w) := by
  have c2 : w.cell? ⟨gx, 2, none⟩ = some (.int .i64 n) := obj_cell hx.1 rfl
  have hl := hx.2.1
  have hs := hx.2.2.1
  have HXC := Lib.hid (fun w1 (hc : Ch S w w1) => hx.ch hc hgx)
  have HTX := Lib.hid (fun v st (w1 : World) (hc : Ch S w w1) (hv : v < 18446744073709551616) (hst : st < 18446744073709551616) => takeS_calls gx last step n v st w1 (hx.ch hc hgx) hv hst hn)
  have HCH := Lib.hid (fun (w1 w2 : World) (h1 : Ch S w w1) (h2 : Ch (fun k => k = gx) w1 w2) => ((h1.mono fun k _ h => .inl h).trans h2 fun i _ h => .inr h : Ch (fun k => S k ∨ k = gx) w w2))
  have HCS := Lib.hid (fun (w1 : World) (h1 : Ch S w w1) => (h1.mono fun k _ h => .inl h : Ch (fun k => S k ∨ k = gx) w w1))
  have HRC := Lib.hid (fun (w1 w2 : World) (a' : Nat) (t : List Bool) (b : Bool) (h : Rr w1 g S a' t b) (h2 : Ch (fun k => k = gx) w1 w2) => (h.ch h2 fun k hk he => hgx (he ▸ hk) : Rr w2 g S a' t b))
  by_cases h0 : n = 0
  · subst h0
    have HF := Lib.hid (firstS_calls g gx a S q w hT hG hr)
    clear hT hG hx hr hgx
    go_enter Tryd.func34, Tryd.ntmps34
    go_wp2_with (fail)
    refine HF.out.mono ?_
    rintro e w1 ⟨hc, ⟨hp, rfl, hr⟩ | ⟨k, x, t, hp, he, hr⟩⟩
    · have H1 := Lib.hid hc
      have H2 := Lib.hid hp
      have H3 := Lib.hid hr
      clear hc hp hr
      go_wp2
      go_ret2
      exact ⟨HCS.out _ H1.out, .inl ⟨H2.out, rfl, H3.out, HXC.out _ H1.out⟩⟩
    · have H1 := Lib.hid hc
      have H2 := Lib.hid hp
      have H3 := Lib.hid hr
      cases ho : okS k x with
      | true =>
        simp only [ho, if_true] at he
        subst he
        have hkx := parse_some hp
        have hvx := val64 hkx.2.2
        have hsr := sgd_range (val x) k hkx.1 (by rw [← hkx.2.2]; exact val_lt x)
        have hiu := i64_u64 _ hsr.1 hsr.2
        have HTK := Lib.hid (HTX.out (u64 (sgd (val x) (behind k))) 0 w1 hc (u64_lt _) (by decide))
        rw [show i64 0 = 0 from rfl] at HTK
        rw [hiu] at HTK
        have HRD := Lib.hid (show readT true last step 0 k x = some (u64 (sgd (val x) (behind k)), 0) from by simp [readT, ho])
        have HIU := Lib.hid (hiu)
        have HVX := Lib.hid hvx
        obtain ⟨z, hz⟩ : ∃ z, z = sgd (val x) (behind k) := ⟨_, rfl⟩
        simp only [← hz] at HTK HRD HIU HVX
        simp only [← hz]
        have HZ := Lib.hid hz
        clear hc hp hr ho hz hkx hsr hiu hvx
        go_wp2_with (go_at_call 64; refine HTK.out.mono ?_; rintro e w2 ⟨rfl, hx2, hc2⟩; have HX2 := Lib.hid hx2; have HC2 := Lib.hid hc2; clear hx2 hc2)
        go_ret2
        refine ⟨HCH.out _ _ H1.out HC2.out, .inr ⟨k, x, t, H2.out, HRC.out _ _ _ _ _ H3.out HC2.out, .inr ⟨_, 0, HRD.out, ?_, HX2.out, u64_lt _, by decide⟩⟩⟩
        rw [HIU.out]
        rfl
      | false =>
        simp only [ho] at he
        subst he
        have HRD := Lib.hid (show readT true last step 0 k x = none from by simp [readT, ho])
        clear hc hp hr ho
        go_wp2
        go_ret2
        exact ⟨HCS.out _ H1.out, .inr ⟨k, x, t, H2.out, H3.out, .inl ⟨HRD.out, rfl, HXC.out _ H1.out⟩⟩⟩
  · have d0 : ((n : Int) == 0) = false := by simp; omega
    have HGE := Lib.hid (getS_calls g a S q w hT hG hr)
    have HN0 := Lib.hid h0
    clear hT hG hx hr hgx h0
    go_enter Tryd.func34, Tryd.ntmps34
    go_wp2_with (fail)
    refine HGE.out.mono ?_
    rintro e w1 ⟨hc, ⟨hp, rfl, hr⟩ | ⟨k, x, t, hp, he, hr⟩⟩
    · have H1 := Lib.hid hc
      have H2 := Lib.hid hp
      have H3 := Lib.hid hr
      clear hc hp hr
      go_wp2
      go_ret2
      exact ⟨HCS.out _ H1.out, .inl ⟨H2.out, rfl, H3.out, HXC.out _ H1.out⟩⟩
    · have H1 := Lib.hid hc
      have H2 := Lib.hid hp
      have H3 := Lib.hid hr
      cases ho : okS k x with
      | true =>
        simp only [ho, if_true] at he
        subst he
        have hkx := parse_some hp
        have hsr := sgd_range (val x) k hkx.1 (by rw [← hkx.2.2]; exact val_lt x)
        have hiu := i64_u64 _ hsr.1 hsr.2
        obtain ⟨d, hd⟩ : ∃ d, d = u64 (sgd (val x) (behind k)) := ⟨_, rfl⟩
        have hd64 : d < 18446744073709551616 := by rw [hd]; exact u64_lt _
        have HRD := Lib.hid (show readT true last step n k x = some (add64 last (add64 step d), add64 step d) from by rw [hd]; simp [readT, ho, HN0.out])
        rw [← hd] at hiu
        have e1 := wrap_add step d hs hd64
        have hs2 := add64_lt step d
        obtain ⟨st, hst⟩ : ∃ st, st = add64 step d := ⟨_, rfl⟩
        rw [← hst] at e1 hs2 HRD
        have e2 := wrap_add last st hl hs2
        skip
        have hl2 := add64_lt last st
        obtain ⟨nl, hnl⟩ : ∃ nl, nl = add64 last st := ⟨_, rfl⟩
        rw [← hnl] at e2 hl2 HRD
        have hx1 := HXC.out _ hc
        have c0 : w1.cell? ⟨gx, 0, none⟩ = some (.int .i64 (i64 last)) := obj_cell hx1.1 rfl
        have c1 : w1.cell? ⟨gx, 1, none⟩ = some (.int .i64 (i64 step)) := obj_cell hx1.1 rfl
        have HTK := Lib.hid (fun m => HTX.out nl st (w1.drewN m) (hc.drewN m) hl2 hs2)
        have HHL := Lib.hid hl2
        have HHS := Lib.hid hs2
        have HC1 := Lib.hid hc
        rw [← hiu]
        clear hc hp hr ho hkx hsr hiu hd hst hnl hx1 hl2 hs2
        go_wp2_with (first | (go_at_call 64; refine (HTK.out 0).mono ?_; rintro e w2 ⟨rfl, hx2, hc2⟩; have hd0 := hx2.1; refine stop_here ?_))
        refine Lib.hid ?_
        have d0 : w2.cell? ⟨gx, 0, none⟩ = some (.int .i64 (i64 nl)) := obj_cell hx2.1 rfl
        have HX2 := Lib.hid hx2
        have HC2 := Lib.hid hc2
        clear hx2 hc2 hd0 c0 c1 c2
        go_wp2
        go_ret2
        exact ⟨HCH.out _ _ HC1.out HC2.out, .inr ⟨k, x, t, H2.out, HRC.out _ _ _ _ _ H3.out HC2.out, .inr ⟨nl, st, HRD.out, rfl, HX2.out, HHL.out, HHS.out⟩⟩⟩
      | false =>
        simp only [ho] at he
        subst he
        have HRD := Lib.hid (show readT true last step n k x = none from by simp [readT, ho, HN0.out])
        clear hc hp hr ho
        go_wp2
        go_ret2
        exact ⟨HCS.out _ H1.out, .inr ⟨k, x, t, H2.out, H3.out, .inl ⟨HRD.out, rfl, HXC.out _ H1.out⟩⟩⟩

/-! ### rows of uint64 -/
/-- what a row of uint64 and a reader are behind a number that was asked. -/
def GotU (g gx a : Nat) (S : Nat → Prop) (q : List Bool) (last step n : Nat) (w : World) (e : Ending) (w' : World) : Prop :=
  Ch (fun k => S k ∨ k = gx) w w' ∧ ((parse q = none ∧ e = .returned (.tuple #[.int .u64 0, .int .i64 16]) ∧ (∃ a', Rr w' g S a' [] true) ∧ TrU w' gx last step n) ∨
    ∃ k x t, parse q = some (k, x, t) ∧ Rr w' g S (a + front k + behind k) t false ∧
      ((readT false last step n k x = none ∧ e = .returned (.tuple #[.int .u64 0, .int .i64 10]) ∧ TrU w' gx last step n) ∨
        ∃ v st, readT false last step n k x = some (v, st) ∧ e = .returned (.tuple #[.int .u64 v, .int .i64 0]) ∧ TrU w' gx v st (n + 1) ∧ v < 18446744073709551616 ∧ st < 18446744073709551616))

set_option maxHeartbeats 800000 in
theorem firstU_calls (g gx a : Nat) (S : Nat → Prop) (q : List Bool) (w : World) (hT : Tab w) (hG : ¬ S 0) (h : Rr w g S a q false) :
    Calls Tryd.prog 65 #[.pointer (some ⟨gx, 0, none⟩), .pointer (some ⟨g, 0, none⟩)] w
      (Got (fun k x => if okU k x then .tuple #[.int .u64 (val x), .int .i64 0] else .tuple #[.int .u64 0, .int .i64 10]) (.tuple #[.int .u64 0, .int .i64 16]) g a S q w) := by
  have HSG := Lib.hid (signedU_calls gx w)
  have HGE := Lib.hid (getU_calls g a S q w hT hG h)
  clear hT hG h
  go_enter Tryd.func65, Tryd.ntmps65
  go_wp2_with (go_at_call 70; refine HSG.out.mono ?_; rintro e w' ⟨rfl, rfl⟩)
  refine HGE.out.mono ?_
  rintro e w1 ⟨hc, ⟨hp, rfl, hr⟩ | ⟨k, x, t, hp, he, hr⟩⟩
  · have H1 := Lib.hid hc
    have H2 := Lib.hid hp
    have H3 := Lib.hid hr
    clear hc hp hr
    go_wp2
    go_ret2
    exact ⟨H1.out, .inl ⟨H2.out, rfl, H3.out⟩⟩
  · have H1 := Lib.hid hc
    have H2 := Lib.hid hp
    have H3 := Lib.hid hr
    cases ho : okU k x with
    | true =>
      simp only [ho, if_true] at he
      subst he
      have HO := Lib.hid ho
      clear hc hp hr ho
      go_wp2
      go_ret2
      refine ⟨H1.out, .inr ⟨k, x, t, H2.out, ?_, H3.out⟩⟩
      simp only [HO.out, if_true]
      rfl
    | false =>
      simp only [ho] at he
      subst he
      have HO := Lib.hid ho
      clear hc hp hr ho
      go_wp2
      go_ret2
      refine ⟨H1.out, .inr ⟨k, x, t, H2.out, ?_, H3.out⟩⟩
      simp only [HO.out]
      rfl

set_option maxHeartbeats 1600000 in
theorem getU_row (g gx a : Nat) (S : Nat → Prop) (q : List Bool) (last step n : Nat) (w : World) (hT : Tab w) (hG : ¬ S 0) (hx : TrU w gx last step n) (hr : Rr w g S a q false) (hgx : ¬ S gx) (hn : n < 1000000) :
    Calls Tryd.prog 35 #[.pointer (some ⟨gx, 0, none⟩), .pointer (some ⟨g, 0, none⟩)] w (GotU g gx a S q last step n w) := by
  have c2 : w.cell? ⟨gx, 2, none⟩ = some (.int .i64 n) := obj_cell hx.1 rfl
  have hl := hx.2.1
  have hs := hx.2.2.1
  have HXC := Lib.hid (fun w1 (hc : Ch S w w1) => hx.ch hc hgx)
  have HTX := Lib.hid (fun v st (w1 : World) (hc : Ch S w w1) (hv : v < 18446744073709551616) (hst : st < 18446744073709551616) => takeU_calls gx last step n v st w1 (hx.ch hc hgx) hv hst hn)
  have HCH := Lib.hid (fun (w1 w2 : World) (h1 : Ch S w w1) (h2 : Ch (fun k => k = gx) w1 w2) => ((h1.mono fun k _ h => .inl h).trans h2 fun i _ h => .inr h : Ch (fun k => S k ∨ k = gx) w w2))
  have HCS := Lib.hid (fun (w1 : World) (h1 : Ch S w w1) => (h1.mono fun k _ h => .inl h : Ch (fun k => S k ∨ k = gx) w w1))
  have HRC := Lib.hid (fun (w1 w2 : World) (a' : Nat) (t : List Bool) (b : Bool) (h : Rr w1 g S a' t b) (h2 : Ch (fun k => k = gx) w1 w2) => (h.ch h2 fun k hk he => hgx (he ▸ hk) : Rr w2 g S a' t b))
  by_cases h0 : n = 0
  · subst h0
    have HF := Lib.hid (firstU_calls g gx a S q w hT hG hr)
    clear hT hG hx hr hgx
    go_enter Tryd.func35, Tryd.ntmps35
    go_wp2_with (fail)
    refine HF.out.mono ?_
    rintro e w1 ⟨hc, ⟨hp, rfl, hr⟩ | ⟨k, x, t, hp, he, hr⟩⟩
    · have H1 := Lib.hid hc
      have H2 := Lib.hid hp
      have H3 := Lib.hid hr
      clear hc hp hr
      go_wp2
      go_ret2
      exact ⟨HCS.out _ H1.out, .inl ⟨H2.out, rfl, H3.out, HXC.out _ H1.out⟩⟩
    · have H1 := Lib.hid hc
      have H2 := Lib.hid hp
      have H3 := Lib.hid hr
      cases ho : okU k x with
      | true =>
        simp only [ho, if_true] at he
        subst he
        have hkx := parse_some hp
        have hvx := val64 hkx.2.2
        skip
        skip
        have HTK := Lib.hid (HTX.out (val x) 0 w1 hc (hvx) (by decide))
        rw [show i64 0 = 0 from rfl] at HTK
        skip
        have HRD := Lib.hid (show readT false last step 0 k x = some (val x, 0) from by simp [readT, ho])
        have HIU := Lib.hid (hvx)
        have HVX := Lib.hid hvx
        obtain ⟨z, hz⟩ : ∃ z, z = val x := ⟨_, rfl⟩
        simp only [← hz] at HTK HRD HIU HVX
        simp only [← hz]
        have HZ := Lib.hid hz
        clear hc hp hr ho hz hkx  hvx
        go_wp2_with (go_at_call 66; refine HTK.out.mono ?_; rintro e w2 ⟨rfl, hx2, hc2⟩; have HX2 := Lib.hid hx2; have HC2 := Lib.hid hc2; clear hx2 hc2)
        go_ret2
        refine ⟨HCH.out _ _ H1.out HC2.out, .inr ⟨k, x, t, H2.out, HRC.out _ _ _ _ _ H3.out HC2.out, .inr ⟨_, 0, HRD.out, ?_, HX2.out, HVX.out, by decide⟩⟩⟩
        skip
        rfl
      | false =>
        simp only [ho] at he
        subst he
        have HRD := Lib.hid (show readT false last step 0 k x = none from by simp [readT, ho])
        clear hc hp hr ho
        go_wp2
        go_ret2
        exact ⟨HCS.out _ H1.out, .inr ⟨k, x, t, H2.out, H3.out, .inl ⟨HRD.out, rfl, HXC.out _ H1.out⟩⟩⟩
  · have d0 : ((n : Int) == 0) = false := by simp; omega
    have HGE := Lib.hid (getS_calls g a S q w hT hG hr)
    have HN0 := Lib.hid h0
    clear hT hG hx hr hgx h0
    go_enter Tryd.func35, Tryd.ntmps35
    go_wp2_with (fail)
    refine HGE.out.mono ?_
    rintro e w1 ⟨hc, ⟨hp, rfl, hr⟩ | ⟨k, x, t, hp, he, hr⟩⟩
    · have H1 := Lib.hid hc
      have H2 := Lib.hid hp
      have H3 := Lib.hid hr
      clear hc hp hr
      go_wp2
      go_ret2
      exact ⟨HCS.out _ H1.out, .inl ⟨H2.out, rfl, H3.out, HXC.out _ H1.out⟩⟩
    · have H1 := Lib.hid hc
      have H2 := Lib.hid hp
      have H3 := Lib.hid hr
      cases ho : okS k x with
      | true =>
        simp only [ho, if_true] at he
        subst he
        have hkx := parse_some hp
        have hsr := sgd_range (val x) k hkx.1 (by rw [← hkx.2.2]; exact val_lt x)
        have hiu := i64_u64 _ hsr.1 hsr.2
        obtain ⟨d, hd⟩ : ∃ d, d = u64 (sgd (val x) (behind k)) := ⟨_, rfl⟩
        have hd64 : d < 18446744073709551616 := by rw [hd]; exact u64_lt _
        have HRD := Lib.hid (show readT false last step n k x = some (add64 last (add64 step d), add64 step d) from by rw [hd]; simp [readT, ho, HN0.out])
        rw [← hd] at hiu
        have e1 := wrap_add step d hs hd64
        have hs2 := add64_lt step d
        obtain ⟨st, hst⟩ : ∃ st, st = add64 step d := ⟨_, rfl⟩
        rw [← hst] at e1 hs2 HRD
        have e2 := wrap_addU last st hl hs2
        have e3 := wrap_ui st hs2
        have hl2 := add64_lt last st
        obtain ⟨nl, hnl⟩ : ∃ nl, nl = add64 last st := ⟨_, rfl⟩
        rw [← hnl] at e2 hl2 HRD
        have hx1 := HXC.out _ hc
        have c0 : w1.cell? ⟨gx, 0, none⟩ = some (.int .u64 last) := obj_cell hx1.1 rfl
        have c1 : w1.cell? ⟨gx, 1, none⟩ = some (.int .i64 (i64 step)) := obj_cell hx1.1 rfl
        have HTK := Lib.hid (fun m => HTX.out nl st (w1.drewN m) (hc.drewN m) hl2 hs2)
        have HHL := Lib.hid hl2
        have HHS := Lib.hid hs2
        have HC1 := Lib.hid hc
        rw [← hiu]
        clear hc hp hr ho hkx hsr hiu hd hst hnl hx1 hl2 hs2
        go_wp2_with (first | (go_at_call 66; refine (HTK.out 0).mono ?_; rintro e w2 ⟨rfl, hx2, hc2⟩; have hd0 := hx2.1; refine stop_here ?_))
        refine Lib.hid ?_
        have d0 : w2.cell? ⟨gx, 0, none⟩ = some (.int .u64 nl) := obj_cell hx2.1 rfl
        have HX2 := Lib.hid hx2
        have HC2 := Lib.hid hc2
        clear hx2 hc2 hd0 c0 c1 c2
        go_wp2
        go_ret2
        exact ⟨HCH.out _ _ HC1.out HC2.out, .inr ⟨k, x, t, H2.out, HRC.out _ _ _ _ _ H3.out HC2.out, .inr ⟨nl, st, HRD.out, rfl, HX2.out, HHL.out, HHS.out⟩⟩⟩
      | false =>
        simp only [ho] at he
        subst he
        have HRD := Lib.hid (show readT false last step n k x = none from by simp [readT, ho, HN0.out])
        clear hc hp hr ho
        go_wp2
        go_ret2
        exact ⟨HCS.out _ H1.out, .inr ⟨k, x, t, H2.out, H3.out, .inl ⟨HRD.out, rfl, HXC.out _ H1.out⟩⟩⟩
end Go.Proofs.YtlbkdmggafkghaaDoor.TimesB
