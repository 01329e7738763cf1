/- law 02: an error that is wrapped again and again has its code, all its places, and their text. -/
import Derived.Test.YtaenincbmlcjiaaDoorLaw02A
import Derived.Test.YtaenincbmlcjiaaDoorFailLaid
namespace Go.Proofs.YtaenincbmlcjiaaDoor.FailWraps
open Go.RowKit Go.Proofs.YtaenincbmlcjiaaDoorW.PrintWords
open Go.Proofs.YtaenincbmlcjiaaDoor.Bits Go.Proofs.YtaenincbmlcjiaaDoor.Base Go.Proofs.YtaenincbmlcjiaaDoor.SpanBase Go.Proofs.YtaenincbmlcjiaaDoor.FailAs Go.Proofs.YtaenincbmlcjiaaDoor.FailB Go.Proofs.YtaenincbmlcjiaaDoor.FailC Go.Proofs.YtaenincbmlcjiaaDoor.FailD Go.Proofs.YtaenincbmlcjiaaDoor.FailE Go.Proofs.YtaenincbmlcjiaaDoor.FailF Go.Proofs.YtaenincbmlcjiaaDoor.FailG Go.Proofs.YtaenincbmlcjiaaDoor.FailH Go.Proofs.YtaenincbmlcjiaaDoor.Rep Go.Proofs.YtaenincbmlcjiaaDoor.Ref02 Go.Proofs.YtaenincbmlcjiaaDoor.Ref02B Go.Proofs.YtaenincbmlcjiaaDoor.Law02A Go.Proofs.YtaenincbmlcjiaaDoor.FailLaid

set_option maxRecDepth 100000 in
set_option maxHeartbeats 1600000 in
theorem zero (A : Option Addr) (c : Nat) (l : List NP) (nm : ByteArray) (a : Addr) (w : World) (hr : RdC w A (all np l)) (hg : Gl w a) (hs : small l = true) (hn : nm.size ≤ 50) :
    Calls Tryd.prog 3 #[.int .i64 0, .slice A l.length c, .string nm] w fun e w' => e = .returned (.bool true) ∧ Below w.heap.size w w' := by
  have hsl := (small_short hs).2
  have HS := Lib.hid (small_calls A c l w hr (by omega))
  rw [hs] at HS
  have HR := Lib.hid hr
  have HG := Lib.hid hg
  have d1 : decide ((nm.size : Int) > 50) = false := by simp; omega
  have d1' : decide (50 < (nm.size : Int)) = false := by simp; omega
  have d1n : decide (50 < nm.size) = false := by simp; omega
  clear hr hg hs
  go_enter Tryd.func3, Tryd.ntmps3
  go_wp2_with (fail)
  refine HS.out.mono ?_
  rintro e w1 ⟨rfl, hb1⟩
  have B1 := Lib.hid hb1
  clear hb1 HS
  go_wp2_with (fail)
  refine (new_zero _).mono ?_
  rintro e wq ⟨rfl, rfl⟩
  go_wp2_with (fail)
  go_loopw [7, 27] (fun v i wr => ∃ (k : Nat), k ≤ l.length ∧ i = .int .i64 k ∧ v = .nilIface ∧ Below w.heap.size w wr) (fun _ i _ => l.length - (intOf i).toNat)
  case atStart => exact ⟨0, by omega, rfl, rfl, B1.out⟩
  case round =>
    obtain ⟨k, hk, rfl, rfl, hb⟩ := hrel
    have B := Lib.hid hb
    have hsz := hb.size
    by_cases hlt : k < l.length
    · obtain ⟨ad, hA, c0, c1⟩ := np_at (HR.out.below hb) k hlt
      subst hA
      obtain ⟨p, hp⟩ : ∃ p, p = l[k] := ⟨_, rfl⟩
      rw [← hp] at c0 c1
      obtain ⟨x, y⟩ := p
      simp only at c0 c1
      clear hp hb
      go_wp2_with (go_at_call 9; refine (wrap_nil _ _ _).mono ?_; rintro e wq ⟨rfl, rfl⟩)
      go_roundw
      case rel => exact ⟨k + 1, by omega, by go_num, rfl, below_alloc B.out _⟩
      case measure => simp [intOf]; omega
    · obtain rfl : k = l.length := by omega
      clear hb
      go_wp2_with (fail)
      refine (code_nil _).mono ?_
      rintro e w3 ⟨rfl, hb3⟩
      have B3 := Lib.hid (below_then B.out B.out.size hb3)
      have HD := Lib.hid (depth_calls (Err.nil (HG.out.below B3.out).et) (by decide))
      clear hb3
      go_wp2_with (fail)
      refine HD.out.mono ?_
      rintro e w4 ⟨rfl, hb4⟩
      have B4 := Lib.hid (below_then B3.out B3.out.size hb4)
      have HAW := Lib.hid (awake_calls a w4 (HG.out.below B4.out))
      clear hb4 HD
      go_wp2_with (fail)
      refine HAW.out.mono ?_
      rintro e w5 ⟨rfl, hb5⟩
      have B5 := Lib.hid (below_then B4.out B4.out.size hb5)
      clear hb5 HAW
      go_wp2
      go_ret
      exact ⟨rfl, B5.out⟩
set_option maxRecDepth 100000 in
set_option maxHeartbeats 3200000 in
theorem nonzero (code : Int) (A : Option Addr) (c : Nat) (l : List NP) (nm : ByteArray) (a : Addr) (w : World) (hr : RdC w A (all np l)) (hg : Gl w a) (hs : small l = true) (hn : nm.size ≤ 50) (hc0 : code ≠ 0) (hc : FailF.In64 code) (h64 : ∀ x ∈ l, FailF.In64 x.2) :
    Calls Tryd.prog 3 #[.int .i64 code, .slice A l.length c, .string nm] w fun e w' => e = .returned (.bool true) ∧ Below w.heap.size w w' := by
  have hss := small_short hs
  have hsl := hss.2
  have HS := Lib.hid (small_calls A c l w hr (by omega))
  rw [hs] at HS
  have HR := Lib.hid hr
  have HG := Lib.hid hg
  have HC := Lib.hid hc
  have HNW := Lib.hid (fun W (h : Below w.heap.size w W) => new_code code W (hg.below h).et hc0)
  have e0 : (code == 0) = false := by simpa using hc0
  obtain ⟨base, hbase⟩ : ∃ base, base = [((⟨#[]⟩ : ByteArray), (0 : Int))] := ⟨_, rfl⟩
  obtain ⟨z, hz⟩ : ∃ z, z = Value.nilIface := ⟨_, rfl⟩
  have HCO : Hid (∀ k, codeOf (chain code ((l.take k).reverse ++ base)) z = code) := Lib.hid fun k => by
    rw [hbase]
    cases (l.take k).reverse <;> rfl
  have HNE : Hid (∀ {k : Nat}, chain code ((l.take k).reverse ++ base) ≠ [] ∨ z ≠ .nilIface) := Lib.hid (.inl (by rw [hbase]; simp [chain]))
  have HBA := Lib.hid hbase
  have HZ := Lib.hid hz
  have HFR : Hid (FewR l.reverse) := Lib.hid fun x hx => ⟨hss.1 x (List.mem_reverse.1 hx), h64 x (List.mem_reverse.1 hx)⟩
  have HFB : Hid (FewR (l.reverse ++ base)) := Lib.hid fun x hx => by
    rcases List.mem_append.1 hx with hx | hx
    · exact HFR.out x hx
    · rw [hbase] at hx
      rw [List.mem_singleton.1 hx]
      exact ⟨Nat.zero_le _, by unfold FailF.In64; omega⟩
  have d1 : decide ((nm.size : Int) > 50) = false := by simp; omega
  have d1' : decide (50 < (nm.size : Int)) = false := by simp; omega
  have d1n : decide (50 < nm.size) = false := by simp; omega
  clear hr hg hs hc0 hc h64 hss hbase hz
  go_enter Tryd.func3, Tryd.ntmps3
  have B_0 : Hid (Below w.heap.size w w) := Lib.hid (Below.refl _ _)
  go_wp2_with (fail)
  refine (HS.out).mono ?_
  rintro e w1 ⟨rfl, hb⟩
  have B_1 := Lib.hid (below_then B_0.out B_0.out.size hb)
  clear hb HS
  go_wp2_with (fail)
  refine (HNW.out _ B_1.out).mono ?_
  rintro e w2 ⟨v, rfl, he, hb⟩
  have B_2 := Lib.hid (below_then B_1.out B_1.out.size hb)
  have E_0 : Hid (Err w2 v (chain code base) z) := Lib.hid (by rw [HBA.out, HZ.out]; exact he)
  clear he
  clear hb HNW
  go_wp2_with (fail)
  go_loopw [7, 27] (fun v i wr => ∃ (k : Nat), k ≤ l.length ∧ i = .int .i64 k ∧ Err wr v (chain code ((l.take k).reverse ++ base)) z ∧ Below w.heap.size w wr) (fun _ i _ => l.length - (intOf i).toNat)
  case atStart => exact ⟨0, by omega, rfl, by simpa using E_0.out, B_2.out⟩
  case round =>
    obtain ⟨k, hk, rfl, he, hb⟩ := hrel
    have B := Lib.hid hb
    have hsz := hb.size
    by_cases hlt : k < l.length
    · obtain ⟨ad, hA, c0, c1⟩ := np_at (HR.out.below hb) k hlt
      subst hA
      have HT : Hid (chain code ((l.take (k + 1)).reverse ++ base) = ⟨code, l[k].1, l[k].2⟩ :: chain code ((l.take k).reverse ++ base)) := Lib.hid (by rw [rev_take l k hlt]; rfl)
      have HCK := Lib.hid (HCO.out k)
      obtain ⟨p, hp⟩ : ∃ p, p = l[k] := ⟨_, rfl⟩
      rw [← hp] at c0 c1 HT
      obtain ⟨x, y⟩ := p
      simp only at c0 c1 HT
      have E1 := Lib.hid (he.below (below_alloc (Below.refl wr.heap.size wr) (.cells #[.string x, .int .i64 y] 30)))
      have HW := Lib.hid (wrap_calls x y E1.out HNE.out)
      rw [HCK.out, ← HT.out] at HW
      clear hp hb he
      go_wp2_with (fail)
      refine HW.out.mono ?_
      rintro e w3 ⟨v3, rfl, he3, hb3⟩
      have E3 := Lib.hid he3
      have B3 := Lib.hid (below_then (below_alloc B.out _) (by simp; omega) hb3)
      clear he3 hb3 HW E1
      go_wp2
      go_roundw
      case rel => exact ⟨k + 1, by omega, by go_num, E3.out, B3.out⟩
      case measure => simp [intOf]; omega
    · obtain rfl : k = l.length := by omega
      rw [List.take_length] at he
      have E := Lib.hid he
      clear he hb
      clear B_2 E_0
      obtain ⟨T, x, hfx⟩ : ∃ T x, u7 = .iface T x := by
        rcases err_form E.out.ch E.out.z with ⟨_, hh, _⟩ | hh
        · rw [HBA.out] at hh; simp [chain] at hh
        · exact hh
      subst hfx
      have htx := textOf_chain code (l.reverse ++ base) z (by have := HCO.out l.length; rwa [List.take_length] at this)
      have HTX : Hid (textOf (chain code (l.reverse ++ base)) z = textR l.reverse (str (Lib.itoa code))) := Lib.hid (by rw [htx, HBA.out, textR_none, HZ.out]; rfl)
      have hlen : (chain code (l.reverse ++ base)).length = l.length + 1 := by rw [chain_len, HBA.out, List.length_append, List.length_reverse]; rfl
      have HLEN := Lib.hid hlen
      have hlc : (chain code (l.reverse ++ base)).length ≤ 1000 := by omega
      have HCE : Hid (codeOf (chain code (l.reverse ++ base)) z = code) := Lib.hid (by have := HCO.out l.length; rwa [List.take_length] at this)
      have HAT := Lib.hid (at_calls nm E.out)
      rw [chain_at] at HAT
      obtain ⟨R, hR⟩ : ∃ R, R = atR (l.reverse ++ base) nm := ⟨_, rfl⟩
      rw [← hR] at HAT
      have HRR := Lib.hid hR
      obtain ⟨R1, R2⟩ := R
      simp only at HAT
      clear htx hlen hR
      go_wp2_with (fail)
      refine (HAT.out).mono ?_
      rintro e w3 ⟨rfl, hb⟩
      have E_3 := Lib.hid (E.out.below hb)
      clear E
      have B_3 := Lib.hid (below_then B.out B.out.size hb)
      clear hb HAT
      have HPL := Lib.hid (places_calls A c l w3 (HR.out.below B_3.out) (by omega))
      go_wp2_with (fail)
      refine (HPL.out).mono ?_
      rintro e w4 ⟨v9, rfl, ho, hb⟩
      have HO9 := Lib.hid ho
      have hz9 := hb.size
      have HBP := Lib.hid hb
      have hrl : l.reverse.length ≤ 1000 := by rw [List.length_reverse]; omega
      obtain ⟨L, hL⟩ : ∃ L, L = l.reverse := ⟨_, rfl⟩
      rw [← hL] at HO9 hrl
      have HL := Lib.hid hL
      clear ho hL hb HPL
      go_wp2_with (at_builtin; refine append_any (r := np) (w0 := w4) w3.heap.size rfl (.tmp 63) (.tmp 65) 38 41 _ 24 rfl Tryd.underlying38 infoPl rfl (by decide) _ L (⟨#[]⟩, 0) _ rfl rfl w4.heap.size rfl rfl HO9.out (Below.refl _ _) hz9 (by omega) (by omega) ?_; intro v10 w10 ho10 hb10 _; have HO10 := Lib.hid ho10; have HB10 := Lib.hid hb10; clear ho10 hb10)
      have hbq := HBP.out.trans HB10.out
      have E_10 := Lib.hid (E_3.out.below hbq)
      have B_10 := Lib.hid (below_then B_3.out B_3.out.size hbq)
      obtain ⟨⟨A10, c10, l10⟩, hv10, hl10, hr10⟩ := HO10.out.reads
      simp only at hv10 hl10
      subst hl10 hv10
      have HAR := Lib.hid (Ref02B.at_calls A10 c10 (L ++ [(⟨#[]⟩, 0)]) nm w10 hr10.rd (by rw [List.length_append, List.length_singleton]; omega))
      rw [HL.out, ← HBA.out, ← HRR.out] at HAR
      simp only at HAR
      rw [HL.out, ← HBA.out]
      clear hbq hr10 HO10 HO9 HB10 HBP E_3 B_3
      go_wp2_with (fail)
      refine HAR.out.mono ?_
      rintro e wq ⟨rfl, rfl⟩
      have HCD := Lib.hid (code_calls E_10.out)
      rw [HCE.out] at HCD
      clear HAR
      go_wp2_with (fail)
      refine (HCD.out).mono ?_
      rintro e w11 ⟨rfl, hb⟩
      have E_11 := Lib.hid (E_10.out.below hb)
      clear E_10
      have B_11 := Lib.hid (below_then B_10.out B_10.out.size hb)
      clear hb HCD
      have HDP := Lib.hid (depth_calls E_11.out (by omega))
      rw [HLEN.out] at HDP
      go_wp2_with (fail)
      refine (HDP.out).mono ?_
      rintro e w12 ⟨rfl, hb⟩
      have E_12 := Lib.hid (E_11.out.below hb)
      clear E_11
      have B_12 := Lib.hid (below_then B_11.out B_11.out.size hb)
      clear hb HDP
      have HCL := Lib.hid (closed_calls E_12.out.ch (a := a) (.inl HZ.out) (HG.out.below B_12.out).cl)
      rw [show isz z = false from by rw [HZ.out]; rfl] at HCL
      go_wp2_with (fail)
      refine HCL.out.mono ?_
      rintro e wq ⟨rfl, rfl⟩
      clear HCL
      have HTE := Lib.hid (FailH.text_calls E_12.out (a := a) (.inl HZ.out) (HG.out.below B_12.out).cl (HG.out.below B_12.out).tab hlc (chain_few HFB.out) (by rw [HCE.out]; exact HC.out) (.inl (by rw [HBA.out]; simp [chain])))
      rw [HTX.out] at HTE
      go_wp2_with (fail)
      refine (HTE.out).mono ?_
      rintro e w13 ⟨rfl, hb⟩
      have E_13 := Lib.hid (E_12.out.below hb)
      clear E_12
      have B_13 := Lib.hid (below_then B_12.out B_12.out.size hb)
      clear hb HTE
      have HPL := Lib.hid (places_calls A c l w13 (HR.out.below B_13.out) (by omega))
      have P_13 : Hid (True) := Lib.hid (trivial)
      go_wp2_with (fail)
      refine (HPL.out).mono ?_
      rintro e w14 ⟨v9, rfl, ho, hb⟩
      have BP := Lib.hid (below_then B_13.out B_13.out.size hb)
      obtain ⟨⟨A9, c9, l9⟩, hv9, hl9, hr9⟩ := ho.reads
      simp only at hv9 hl9
      subst hl9 hv9
      have HR9 := Lib.hid hr9
      clear hb ho hr9 HPL
      go_wp2_with (fail)
      refine (digits_calls code _ HC.out).mono ?_
      rintro e w20 ⟨rfl, hb20⟩
      have B20 := Lib.hid (below_then BP.out BP.out.size hb20)
      have hzi : (str (Lib.itoa code)).size ≤ 1000 := by
        have := Lib.itoa_length_le code HC.out.1 HC.out.2
        rw [size_str]; omega
      have HT2 := Lib.hid (Ref02B.text_calls A9 c9 l.reverse (str (Lib.itoa code)) w20 (HR9.out.below hb20).rd (by rw [List.length_reverse]; omega) hzi HFR.out)
      obtain ⟨Y, hY⟩ : ∃ Y, Y = textR l.reverse (str (Lib.itoa code)) := ⟨_, rfl⟩
      rw [← hY] at HT2 ⊢
      rw [List.length_reverse] at HT2
      clear hb20 hzi hY
      go_wp2_with (fail)
      refine HT2.out.mono ?_
      rintro e w21 ⟨rfl, hb21⟩
      have B21 := Lib.hid (below_then B20.out B20.out.size hb21)
      have HAW := Lib.hid (awake_calls a w21 (HG.out.below B21.out))
      clear hb21 HT2
      go_wp2_with (fail)
      refine HAW.out.mono ?_
      rintro e w22 ⟨rfl, hb22⟩
      have B22 := Lib.hid (below_then B21.out B21.out.size hb22)
      clear hb22
      go_wp2
      go_ret
      exact ⟨rfl, B22.out⟩

set_option maxRecDepth 100000 in
set_option maxHeartbeats 800000 in
theorem narrow (code : Int) (A : Option Addr) (c : Nat) (l : List NP) (nm : ByteArray) (a : Addr) (w : World) (hr : RdC w A (all np l)) (hm : l.length ≤ 9223372036854775807) (hg : Gl w a) (h : small l = false ∨ small l = true ∧ 50 < nm.size) :
    Calls Tryd.prog 3 #[.int .i64 code, .slice A l.length c, .string nm] w fun e w' => e = .returned (.bool true) ∧ Below w.heap.size w w' := by
  have HS := Lib.hid (small_calls A c l w hr hm)
  have HAW := Lib.hid (fun W (h : Below w.heap.size w W) => awake_calls a W (hg.below h))
  clear hr hg
  rcases h with h | ⟨h, h2⟩
  · rw [h] at HS
    clear h
    go_enter Tryd.func3, Tryd.ntmps3
    go_wp2_with (fail)
    refine HS.out.mono ?_
    rintro e w1 ⟨rfl, hb1⟩
    have B1 := Lib.hid hb1
    clear hb1
    go_wp2_with (fail)
    refine (HAW.out _ B1.out).mono ?_
    rintro e w2 ⟨rfl, hb2⟩
    have B2 := Lib.hid (below_then B1.out B1.out.size hb2)
    clear hb2
    go_wp2
    go_ret
    exact ⟨rfl, B2.out⟩
  · rw [h] at HS
    have d1 : decide ((nm.size : Int) > 50) = true := by simp; omega
    have d1' : decide (50 < (nm.size : Int)) = true := by simp; omega
    have d1n : decide (50 < nm.size) = true := by simp; omega
    clear h h2
    go_enter Tryd.func3, Tryd.ntmps3
    go_wp2_with (fail)
    refine HS.out.mono ?_
    rintro e w1 ⟨rfl, hb1⟩
    have B1 := Lib.hid hb1
    clear hb1
    go_wp2_with (fail)
    refine (HAW.out _ B1.out).mono ?_
    rintro e w2 ⟨rfl, hb2⟩
    have B2 := Lib.hid (below_then B1.out B1.out.size hb2)
    clear hb2
    go_wp2
    go_ret
    exact ⟨rfl, B2.out⟩

theorem walk (code : Int) (x : Sl NP) (nm : ByteArray) (w : World) (hc : (Lit.int .i64 code).wf = true) (hx : (slice np).ok w x) (_ : nm.size ≤ maxLen) (hL : laidMetH Tryd.prog laidAll w) :
    Calls Tryd.prog 3 #[.int .i64 code, .slice x.at_ x.l.length x.cap, .string nm] w fun e w' => e = .returned (.bool true) ∧ Below w.heap.size w w' := by
  obtain ⟨a, hg⟩ := gl_of hL
  obtain ⟨⟨hr, hle, hmx, -⟩, hok⟩ := hx
  unfold maxLen at hmx
  by_cases hin : small x.l = true ∧ nm.size ≤ 50
  · by_cases h0 : code = 0
    · subst h0; exact zero _ _ _ nm a w hr hg hin.1 hin.2
    · exact nonzero code _ _ _ nm a w hr hg hin.1 hin.2 h0 (wf_in hc) (fun y hy => wf_in (hok y hy).2)
  · refine narrow code _ _ _ nm a w hr (by omega) hg ?_
    cases hs : small x.l with
    | false => exact .inl rfl
    | true => exact .inr ⟨rfl, (Nat.lt_or_ge 50 nm.size).elim id fun h => absurd ⟨hs, h⟩ hin⟩
end Go.Proofs.YtaenincbmlcjiaaDoor.FailWraps
