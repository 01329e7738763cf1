/- law 02: within a wrapped error is the one that was wrapped: without it there is one fewer. -/
import Derived.Test.YtaenincbmlcjiaaDoorLaw02A
import Derived.Test.YtaenincbmlcjiaaDoorFailLaid
import Derived.Deep.QuietTactic
import Derived.BigQuiet
namespace Go.Proofs.YtaenincbmlcjiaaDoor.FailWithin
open Go.RowKit Go.Proofs.YtaenincbmlcjiaaDoorW.PrintWords
open Go.Proofs.YtaenincbmlcjiaaDoor.Bits Go.Proofs.YtaenincbmlcjiaaDoor.Base Go.Proofs.YtaenincbmlcjiaaDoor.SpanBase Go.Proofs.YtaenincbmlcjiaaDoor.FailAs Go.Proofs.YtaenincbmlcjiaaDoor.FailB Go.Proofs.YtaenincbmlcjiaaDoor.FailC Go.Proofs.YtaenincbmlcjiaaDoor.FailD Go.Proofs.YtaenincbmlcjiaaDoor.FailE Go.Proofs.YtaenincbmlcjiaaDoor.FailF Go.Proofs.YtaenincbmlcjiaaDoor.FailG Go.Proofs.YtaenincbmlcjiaaDoor.FailH Go.Proofs.YtaenincbmlcjiaaDoor.Rep Go.Proofs.YtaenincbmlcjiaaDoor.Ref02 Go.Proofs.YtaenincbmlcjiaaDoor.Ref02B Go.Proofs.YtaenincbmlcjiaaDoor.Law02A Go.Proofs.YtaenincbmlcjiaaDoor.FailLaid

theorem assertE (v : Value) (w : World) : (Instr.typeAssert (.iface 50 v) 27 50 true).run Tryd.prog w = .ok (.tuple #[v, .bool true]) w := by kernel_rfl
set_option maxRecDepth 100000 in
set_option maxHeartbeats 3200000 in
theorem core (code n : Int) (A : Option Addr) (c : Nat) (l : List NP) (nm : ByteArray) (a : Addr) (w : World) (hr : RdC w A (all np l)) (hg : Gl w a) (hs : small l = true) (hn : nm.size ≤ 50) (hc0 : code ≠ 0) (hc : FailF.In64 code) (h64 : ∀ x ∈ l, FailF.In64 x.2) :
    Calls Tryd.prog 5 #[.agg #[.int .i64 code, .slice A l.length c, .string nm, .int .i64 n]] w fun e w' => e = .returned (.bool true) ∧ Below w.heap.size w w' := by
  have hss := small_short hs
  have hsl := hss.2
  have hb0 := below_alloc (Below.refl w.heap.size w) (.cells #[.int .i64 code, .slice A l.length c, .string nm, .int .i64 n] 49)
  have HS := Lib.hid (fun W (h : Below w.heap.size w W) => small_calls A c l W (hr.below h) (by omega))
  rw [hs] at HS
  have HR := Lib.hid hr
  have HG := Lib.hid hg
  have HC := Lib.hid hc
  have HB0 := Lib.hid hb0
  have HNW := Lib.hid (fun W (h : Below w.heap.size w W) => new_code code W (hg.below h).et hc0)
  have e0 : (code == 0) = false := by simpa using hc0
  obtain ⟨base, hbase⟩ : ∃ base, base = [((⟨#[]⟩ : ByteArray), (0 : Int))] := ⟨_, rfl⟩
  obtain ⟨z, hz⟩ : ∃ z, z = Value.nilIface := ⟨_, rfl⟩
  have HCO : Hid (∀ k, codeOf (chain code ((l.take k).reverse ++ base)) z = code) := Lib.hid fun k => by
    rw [hbase]
    cases (l.take k).reverse <;> rfl
  have HNE : Hid (∀ {k : Nat}, chain code ((l.take k).reverse ++ base) ≠ [] ∨ z ≠ .nilIface) := Lib.hid (.inl (by rw [hbase]; simp [chain]))
  have HBA := Lib.hid hbase
  have HZ := Lib.hid hz
  have HFB : Hid (FewR (l.reverse ++ base)) := Lib.hid fun x hx => by
    rcases List.mem_append.1 hx with hx | hx
    · exact ⟨hss.1 x (List.mem_reverse.1 hx), h64 x (List.mem_reverse.1 hx)⟩
    · rw [hbase] at hx
      rw [List.mem_singleton.1 hx]
      exact ⟨Nat.zero_le _, by unfold FailF.In64; omega⟩
  have d1 : decide ((nm.size : Int) > 50) = false := by simp; omega
  have d1' : decide (50 < (nm.size : Int)) = false := by simp; omega
  have d1n : decide (50 < nm.size) = false := by simp; omega
  clear hr hg hs hc0 hc h64 hss hbase hz hb0
  go_enter Tryd.func5, Tryd.ntmps5
  go_wp2_with (fail)
  go_quiet (fail)
  have B0 := Lib.hid (pw_below_drewN HB0.out nq)
  generalize (World.drewN _ nq) = w0 at *
  have HSW := Lib.hid (HS.out _ B0.out)
  clear HB0 HS
  go_wp2_with (fail)
  refine (HSW.out).mono ?_
  rintro e w1 ⟨rfl, hb⟩
  have B_1 := Lib.hid (below_then B0.out B0.out.size hb)
  clear hb HSW
  go_wp2_with (fail)
  refine (HNW.out _ B_1.out).mono ?_
  rintro e w2 ⟨v, rfl, he, hb⟩
  have B_2 := Lib.hid (below_then B_1.out B_1.out.size hb)
  have E_0 : Hid (Err w2 v (chain code base) z) := Lib.hid (by rw [HBA.out, HZ.out]; exact he)
  clear he
  clear hb HNW
  go_wp2_with (fail)
  go_loopw [7, 40] (fun v i wr => ∃ (k : Nat), k ≤ l.length ∧ i = .int .i64 k ∧ Err wr v (chain code ((l.take k).reverse ++ base)) z ∧ Below w.heap.size w wr) (fun _ i _ => l.length - (intOf i).toNat)
  case atStart => exact ⟨0, by omega, rfl, by simpa using E_0.out, B_2.out⟩
  case round =>
    obtain ⟨k, hk, rfl, he, hb⟩ := hrel
    have B := Lib.hid hb
    have hsz := hb.size
    by_cases hlt : k < l.length
    · obtain ⟨ad, hA, c0, c1⟩ := np_at (HR.out.below hb) k hlt
      subst hA
      have HT : Hid (chain code ((l.take (k + 1)).reverse ++ base) = ⟨code, l[k].1, l[k].2⟩ :: chain code ((l.take k).reverse ++ base)) := Lib.hid (by rw [rev_take l k hlt]; rfl)
      have HCK := Lib.hid (HCO.out k)
      obtain ⟨p, hp⟩ : ∃ p, p = l[k] := ⟨_, rfl⟩
      rw [← hp] at c0 c1 HT
      obtain ⟨x, y⟩ := p
      simp only at c0 c1 HT
      have E1 := Lib.hid (he.below (below_alloc (Below.refl wr.heap.size wr) (.cells #[.string x, .int .i64 y] 30)))
      have HW := Lib.hid (wrap_calls x y E1.out HNE.out)
      rw [HCK.out, ← HT.out] at HW
      clear hp hb he
      go_wp2_with (fail)
      refine HW.out.mono ?_
      rintro e w3 ⟨v3, rfl, he3, hb3⟩
      have E3 := Lib.hid he3
      have B3 := Lib.hid (below_then (below_alloc B.out _) (by simp; omega) hb3)
      clear he3 hb3 HW E1
      go_wp2
      go_roundw
      case rel => exact ⟨k + 1, by omega, by go_num, E3.out, B3.out⟩
      case measure => simp [intOf]; omega
    · obtain rfl : k = l.length := by omega
      rw [List.take_length] at he
      have E := Lib.hid he
      clear he hb
      clear B_2 E_0
      have hlen : (chain code (l.reverse ++ base)).length = l.length + 1 := by rw [chain_len, HBA.out, List.length_append, List.length_reverse]; rfl
      have HLEN := Lib.hid hlen
      have hlc : (chain code (l.reverse ++ base)).length ≤ 1000 := by omega
      have HCE : Hid (codeOf (chain code (l.reverse ++ base)) z = code) := Lib.hid (by have := HCO.out l.length; rwa [List.take_length] at this)
      have HEA : Hid (EndA z a) := Lib.hid (.inl HZ.out)
      have HFW := Lib.hid (chain_few (c := code) HFB.out)
      have HNN : Hid (chain code (l.reverse ++ base) ≠ []) := Lib.hid (by rw [HBA.out]; simp [chain])
      obtain ⟨Y, hY⟩ : ∃ Y, Y = textOf (chain code (l.reverse ++ base)) z := ⟨_, rfl⟩
      have HY := Lib.hid hY
      have hI : FailF.In64 (codeOf (chain code (l.reverse ++ base)) z) := by rw [HCE.out]; exact HC.out
      have HI := Lib.hid hI
      have HWR := Lib.hid (wrap_calls nm n E.out (.inl HNN.out))
      rw [HCE.out] at HWR
      clear hlen hY hI HCO HNE
      go_wp2_with (fail)
      refine (HWR.out).mono ?_
      rintro e w3 ⟨v3, rfl, he3, hb⟩
      have E_3 := Lib.hid (E.out.below hb)
      clear E
      have B_3 := Lib.hid (below_then B.out B.out.size hb)
      clear hb HWR
      obtain ⟨g1, u, hv3, hb3, hu⟩ := he3.ch
      subst hv3
      generalize hCH : chain code (l.reverse ++ base) = CH at *
      have HCH := Lib.hid hCH
      obtain ⟨p0, t0, hpt⟩ : ∃ p t, CH = p :: t := by
        cases hh : CH with
        | nil => exact absurd hh HNN.out
        | cons p t => exact ⟨p, t, rfl⟩
      have HU := Lib.hid hu
      have hu2 := hu
      rw [hpt] at hu2
      obtain ⟨g2, u2, hv2, -, -⟩ := hu2
      subst hv2
      have EIN := Lib.hid (⟨HU.out, he3.z, he3.gl⟩ : Err w3 _ CH z)
      obtain ⟨k0, k1, k2, -⟩ := err_cells hb3
      simp only at k0 k1 k2
      have HUW := Lib.hid (unwrap_calls w3 g1 ⟨code, nm, n⟩ _ hb3)
      have as1 := assertE
      clear he3 hb3 hu hpt hCH
      go_wp2_with (go_at_call 19; refine HUW.out.mono ?_; rintro e wq ⟨rfl, rfl⟩)
      clear HU HUW
      have HTT := Lib.hid (error_calls EIN.out HEA.out (HG.out.below B_3.out).cl (HG.out.below B_3.out).tab hlc HFW.out HI.out)
      rw [← HY.out] at HTT
      go_wp2_with (fail)
      refine (HTT.out).mono ?_
      rintro e w4 ⟨rfl, hb⟩
      have E_4 := Lib.hid (E_3.out.below hb)
      have I_4 := Lib.hid (EIN.out.below hb)
      clear E_3 EIN
      have B_4 := Lib.hid (below_then B_3.out B_3.out.size hb)
      clear hb HTT
      have HTT := Lib.hid (FailH.text_calls E_4.out HEA.out (HG.out.below B_4.out).cl (HG.out.below B_4.out).tab hlc HFW.out HI.out (.inl HNN.out))
      rw [← HY.out] at HTT
      go_wp2_with (fail)
      refine (HTT.out).mono ?_
      rintro e w5 ⟨rfl, hb⟩
      have E_5 := Lib.hid (E_4.out.below hb)
      have I_5 := Lib.hid (I_4.out.below hb)
      clear E_4 I_4
      have B_5 := Lib.hid (below_then B_4.out B_4.out.size hb)
      clear hb HTT
      have HTT := Lib.hid (FailH.text_calls I_5.out HEA.out (HG.out.below B_5.out).cl (HG.out.below B_5.out).tab hlc HFW.out HI.out (.inl HNN.out))
      rw [← HY.out] at HTT
      go_wp2_with (fail)
      refine (HTT.out).mono ?_
      rintro e w6 ⟨rfl, hb⟩
      have E_6 := Lib.hid (E_5.out.below hb)
      have I_6 := Lib.hid (I_5.out.below hb)
      clear E_5 I_5
      have B_6 := Lib.hid (below_then B_5.out B_5.out.size hb)
      clear hb HTT
      have HTT := Lib.hid (FailH.text_calls E_6.out HEA.out (HG.out.below B_6.out).cl (HG.out.below B_6.out).tab hlc HFW.out HI.out (.inl HNN.out))
      rw [← HY.out] at HTT
      go_wp2_with (fail)
      refine (HTT.out).mono ?_
      rintro e w7 ⟨rfl, hb⟩
      have E_7 := Lib.hid (E_6.out.below hb)
      have I_7 := Lib.hid (I_6.out.below hb)
      clear E_6 I_6
      have B_7 := Lib.hid (below_then B_6.out B_6.out.size hb)
      clear hb HTT
      have HDP := Lib.hid (depth_calls I_7.out (by omega))
      rw [HLEN.out] at HDP
      go_wp2_with (fail)
      refine (HDP.out).mono ?_
      rintro e w8 ⟨rfl, hb⟩
      have E_8 := Lib.hid (E_7.out.below hb)
      have I_8 := Lib.hid (I_7.out.below hb)
      clear E_7 I_7
      have B_8 := Lib.hid (below_then B_7.out B_7.out.size hb)
      clear hb HDP
      have HAW := Lib.hid (awake_calls a _ (HG.out.below B_8.out))
      go_wp2_with (fail)
      refine (HAW.out).mono ?_
      rintro e w9 ⟨rfl, hb⟩
      have E_9 := Lib.hid (E_8.out.below hb)
      have I_9 := Lib.hid (I_8.out.below hb)
      clear E_8 I_8
      have B_9 := Lib.hid (below_then B_8.out B_8.out.size hb)
      clear hb HAW
      go_wp2
      go_ret
      exact ⟨rfl, B_9.out⟩

set_option maxRecDepth 100000 in
set_option maxHeartbeats 1600000 in
theorem narrow (code n : Int) (A : Option Addr) (c : Nat) (l : List NP) (nm : ByteArray) (a : Addr) (w : World) (hr : RdC w A (all np l)) (hm : l.length ≤ 9223372036854775807) (hg : Gl w a) (h : small l = false ∨ small l = true ∧ code = 0 ∨ small l = true ∧ code ≠ 0 ∧ 50 < nm.size) :
    Calls Tryd.prog 5 #[.agg #[.int .i64 code, .slice A l.length c, .string nm, .int .i64 n]] w fun e w' => e = .returned (.bool true) ∧ Below w.heap.size w w' := by
  have hb0 := below_alloc (Below.refl w.heap.size w) (.cells #[.int .i64 code, .slice A l.length c, .string nm, .int .i64 n] 49)
  have HB0 := Lib.hid hb0
  have HS := Lib.hid (fun W (h : Below w.heap.size w W) => small_calls A c l W (hr.below h) hm)
  have HAW := Lib.hid (fun W (h : Below w.heap.size w W) => awake_calls a W (hg.below h))
  clear hr hg hb0
  rcases h with h | ⟨h, h2⟩ | ⟨h, h2, h3⟩
  · rw [h] at HS
    clear h
    go_enter Tryd.func5, Tryd.ntmps5
    go_wp2_with (fail)
    go_quiet (fail)
    go_wp2_with (fail)
    have B0 := Lib.hid (pw_below_drewN HB0.out nq)
    generalize (World.drewN _ nq) = w0 at *
    refine (HS.out _ B0.out).mono ?_
    rintro e w1 ⟨rfl, hb1⟩
    have B1 := Lib.hid (below_then B0.out B0.out.size hb1)
    clear hb1
    go_wp2_with (fail)
    refine (HAW.out _ B1.out).mono ?_
    rintro e w2 ⟨rfl, hb2⟩
    have B2 := Lib.hid (below_then B1.out B1.out.size hb2)
    clear hb2
    go_wp2
    go_ret
    exact ⟨rfl, B2.out⟩
  · rw [h] at HS
    subst h2
    clear h
    go_enter Tryd.func5, Tryd.ntmps5
    go_wp2_with (fail)
    go_quiet (fail)
    go_wp2_with (fail)
    have B0 := Lib.hid (pw_below_drewN HB0.out nq)
    generalize (World.drewN _ nq) = w0 at *
    refine (HS.out _ B0.out).mono ?_
    rintro e w1 ⟨rfl, hb1⟩
    have B1 := Lib.hid (below_then B0.out B0.out.size hb1)
    clear hb1
    go_wp2_with (fail)
    refine (HAW.out _ B1.out).mono ?_
    rintro e w2 ⟨rfl, hb2⟩
    have B2 := Lib.hid (below_then B1.out B1.out.size hb2)
    clear hb2
    go_wp2
    go_ret
    exact ⟨rfl, B2.out⟩
  · rw [h] at HS
    have e0 : (code == 0) = false := by simpa using h2
    have d1 : decide ((nm.size : Int) > 50) = true := decide_eq_true (by omega)
    have d1' : decide (50 < (nm.size : Int)) = true := decide_eq_true (by omega)
    have d1n : decide (50 < nm.size) = true := decide_eq_true (by omega)
    clear h h2 h3
    go_enter Tryd.func5, Tryd.ntmps5
    go_wp2_with (fail)
    go_quiet (fail)
    go_wp2_with (fail)
    have B0 := Lib.hid (pw_below_drewN HB0.out nq)
    generalize (World.drewN _ nq) = w0 at *
    refine (HS.out _ B0.out).mono ?_
    rintro e w1 ⟨rfl, hb1⟩
    have B1 := Lib.hid (below_then B0.out B0.out.size hb1)
    clear hb1
    go_wp2_with (fail)
    refine (HAW.out _ B1.out).mono ?_
    rintro e w2 ⟨rfl, hb2⟩
    have B2 := Lib.hid (below_then B1.out B1.out.size hb2)
    clear hb2
    go_wp2
    go_ret
    exact ⟨rfl, B2.out⟩

theorem walk (x : Int × Sl NP × ByteArray × Int) (w : World) (hx : (pair (int .i64) (pair (slice (pair text (int .i64))) (pair text (int .i64)))).ok w x) (hL : laidMetH Tryd.prog laidAll w) :
    Calls Tryd.prog 5 #[.agg ((pair (int .i64) (pair (slice (pair text (int .i64))) (pair text (int .i64)))).enc x).toArray] w fun e w' => e = .returned (.bool true) ∧ Below w.heap.size w w' := by
  obtain ⟨a, hg⟩ := gl_of hL
  obtain ⟨code, x, nm, n⟩ := x
  obtain ⟨hc, ⟨⟨hr, hle, hmx, -⟩, hok⟩, -, -⟩ := hx
  unfold maxLen at hmx
  show Calls Tryd.prog 5 #[.agg #[.int .i64 code, .slice x.at_ x.l.length x.cap, .string nm, .int .i64 n]] w _
  simp only at hle hmx
  by_cases hin : small x.l = true ∧ code ≠ 0 ∧ nm.size ≤ 50
  · exact core code n _ _ _ nm a w hr hg hin.1 hin.2.2 hin.2.1 (wf_in hc) (fun y hy => wf_in (hok y hy).2)
  · refine narrow code n _ _ _ nm a w hr (by omega) hg ?_
    cases hs : small x.l with
    | false => exact .inl rfl
    | true =>
      by_cases h0 : code = 0
      · exact .inr (.inl ⟨rfl, h0⟩)
      · exact .inr (.inr ⟨rfl, h0, (Nat.lt_or_ge 50 nm.size).elim id fun h => absurd ⟨hs, h0, h⟩ hin⟩)
end Go.Proofs.YtaenincbmlcjiaaDoor.FailWithin
