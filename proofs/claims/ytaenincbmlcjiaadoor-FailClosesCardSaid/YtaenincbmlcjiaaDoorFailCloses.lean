/- law 02: what is wrapped around ErrClosed is known by it, and has the code of forms. -/
import Derived.Test.YtaenincbmlcjiaaDoorLaw02A
import Derived.Test.YtaenincbmlcjiaaDoorFailLaid
namespace Go.Proofs.YtaenincbmlcjiaaDoor.FailCloses
open Go.RowKit Go.Proofs.YtaenincbmlcjiaaDoorW.PrintWords
open Go.Proofs.YtaenincbmlcjiaaDoor.Bits Go.Proofs.YtaenincbmlcjiaaDoor.Base Go.Proofs.YtaenincbmlcjiaaDoor.SpanBase Go.Proofs.YtaenincbmlcjiaaDoor.FailAs Go.Proofs.YtaenincbmlcjiaaDoor.FailB Go.Proofs.YtaenincbmlcjiaaDoor.FailC Go.Proofs.YtaenincbmlcjiaaDoor.FailD Go.Proofs.YtaenincbmlcjiaaDoor.FailE Go.Proofs.YtaenincbmlcjiaaDoor.FailF Go.Proofs.YtaenincbmlcjiaaDoor.FailG Go.Proofs.YtaenincbmlcjiaaDoor.FailH Go.Proofs.YtaenincbmlcjiaaDoor.Rep Go.Proofs.YtaenincbmlcjiaaDoor.Ref02 Go.Proofs.YtaenincbmlcjiaaDoor.Ref02B Go.Proofs.YtaenincbmlcjiaaDoor.Law02A Go.Proofs.YtaenincbmlcjiaaDoor.FailLaid

set_option maxRecDepth 100000 in
set_option maxHeartbeats 3200000 in
theorem core (A : Option Addr) (c : Nat) (l : List NP) (nm : ByteArray) (a : Addr) (w : World) (hr : RdC w A (all np l)) (hg : Gl w a) (hs : small l = true) (hn : nm.size ≤ 50) (h64 : ∀ x ∈ l, FailF.In64 x.2) :
    Calls Tryd.prog 4 #[.slice A l.length c, .string nm] w fun e w' => e = .returned (.bool true) ∧ Below w.heap.size w w' := by
  have hss := small_short hs
  have hsl := hss.2
  have HS := Lib.hid (small_calls A c l w hr (by omega))
  rw [hs] at HS
  have HR := Lib.hid hr
  have HG := Lib.hid hg
  obtain ⟨base, hbase⟩ : ∃ base : List NP, base = [] := ⟨_, rfl⟩
  obtain ⟨z, hz⟩ : ∃ z, z = Value.iface 110 (.pointer (some a)) := ⟨_, rfl⟩
  have HCO : Hid (∀ k, codeOf (chain 10 ((l.take k).reverse ++ base)) z = 10) := Lib.hid fun k => by
    rw [hbase, hz]
    cases (l.take k).reverse <;> rfl
  have HNE : Hid (∀ {k : Nat}, chain 10 ((l.take k).reverse ++ base) ≠ [] ∨ z ≠ .nilIface) := Lib.hid (.inr (by rw [hz]; simp))
  have HBA := Lib.hid hbase
  have HZ := Lib.hid hz
  have HFR : Hid (FewR l.reverse) := Lib.hid fun x hx => ⟨hss.1 x (List.mem_reverse.1 hx), h64 x (List.mem_reverse.1 hx)⟩
  have HI10 : Hid (FailF.In64 10) := Lib.hid (by unfold FailF.In64; omega)
  have d1 : decide ((nm.size : Int) > 50) = false := by simp; omega
  have d1' : decide (50 < (nm.size : Int)) = false := by simp; omega
  have d1n : decide (50 < nm.size) = false := by simp; omega
  clear hr hg hs h64 hss hbase hz
  go_enter Tryd.func4, Tryd.ntmps4
  go_wp2_with (fail)
  refine HS.out.mono ?_
  rintro e w1 ⟨rfl, hb1⟩
  have B1 := Lib.hid hb1
  have hgc : w1.cell? ⟨0, 0, none⟩ = some z := by rw [HZ.out]; exact (HG.out.below hb1).cl
  have E_0 : Hid (Err w1 z (chain 10 base) z) := Lib.hid (by rw [HBA.out]; exact ⟨rfl, .inr ⟨a, HZ.out⟩, (HG.out.below hb1).et⟩)
  clear hb1 HS
  go_wp2_with (fail)
  go_loopw [5, 24] (fun v i wr => ∃ (k : Nat), k ≤ l.length ∧ i = .int .i64 k ∧ Err wr v (chain 10 ((l.take k).reverse ++ base)) z ∧ Below w.heap.size w wr) (fun _ i _ => l.length - (intOf i).toNat)
  case atStart => exact ⟨0, by omega, rfl, by simpa using E_0.out, B1.out⟩
  case round =>
    obtain ⟨k, hk, rfl, he, hb⟩ := hrel
    have B := Lib.hid hb
    have hsz := hb.size
    by_cases hlt : k < l.length
    · obtain ⟨ad, hA, c0, c1⟩ := np_at (HR.out.below hb) k hlt
      subst hA
      have HT : Hid (chain 10 ((l.take (k + 1)).reverse ++ base) = ⟨10, l[k].1, l[k].2⟩ :: chain 10 ((l.take k).reverse ++ base)) := Lib.hid (by rw [rev_take l k hlt]; rfl)
      have HCK := Lib.hid (HCO.out k)
      obtain ⟨p, hp⟩ : ∃ p, p = l[k] := ⟨_, rfl⟩
      rw [← hp] at c0 c1 HT
      obtain ⟨x, y⟩ := p
      simp only at c0 c1 HT
      have E1 := Lib.hid (he.below (below_alloc (Below.refl wr.heap.size wr) (.cells #[.string x, .int .i64 y] 30)))
      have HW := Lib.hid (wrap_calls x y E1.out HNE.out)
      rw [HCK.out, ← HT.out] at HW
      clear hp hb he
      go_wp2_with (fail)
      refine HW.out.mono ?_
      rintro e w3 ⟨v3, rfl, he3, hb3⟩
      have E3 := Lib.hid he3
      have B3 := Lib.hid (below_then (below_alloc B.out _) (by simp; omega) hb3)
      clear he3 hb3 HW E1
      go_wp2
      go_roundw
      case rel => exact ⟨k + 1, by omega, by go_num, E3.out, B3.out⟩
      case measure => simp [intOf]; omega
    · obtain rfl : k = l.length := by omega
      rw [List.take_length] at he
      have E := Lib.hid he
      clear he hb
      clear B1 E_0 hgc
      have htx := textOf_chain 10 (l.reverse ++ base) z (by have := HCO.out l.length; rwa [List.take_length] at this)
      have HTX : Hid (textOf (chain 10 (l.reverse ++ base)) z = textR l.reverse ⟨#[99, 108, 111, 115, 101, 100]⟩) := Lib.hid (by rw [htx, HBA.out, List.append_nil, HZ.out]; rfl)
      have hlen : (chain 10 (l.reverse ++ base)).length = l.length := by rw [chain_len, HBA.out, List.append_nil, List.length_reverse]
      have HLEN := Lib.hid hlen
      have hlc : (chain 10 (l.reverse ++ base)).length ≤ 1000 := by omega
      have HCE : Hid (codeOf (chain 10 (l.reverse ++ base)) z = 10) := Lib.hid (by have := HCO.out l.length; rwa [List.take_length] at this)
      have HEA : Hid (EndA z a) := Lib.hid (.inr HZ.out)
      have HAT := Lib.hid (at_calls nm E.out)
      rw [chain_at] at HAT
      obtain ⟨R, hR⟩ : ∃ R, R = atR (l.reverse ++ base) nm := ⟨_, rfl⟩
      rw [← hR] at HAT
      rw [HBA.out, List.append_nil] at hR
      have HRR := Lib.hid hR
      obtain ⟨R1, R2⟩ := R
      simp only at HAT
      clear htx hlen hR
      go_wp2_with (fail)
      refine (HAT.out).mono ?_
      rintro e w1 ⟨rfl, hb⟩
      have E_1 := Lib.hid (E.out.below hb)
      clear E
      have B_1 := Lib.hid (below_then B.out B.out.size hb)
      clear hb HAT
      have HPL := Lib.hid (places_calls A c l w1 (HR.out.below B_1.out) (by omega))
      go_wp2_with (fail)
      refine (HPL.out).mono ?_
      rintro e w2 ⟨v9, rfl, ho, hb⟩
      have E_2 := Lib.hid (E_1.out.below hb)
      clear E_1
      have B_2 := Lib.hid (below_then B_1.out B_1.out.size hb)
      obtain ⟨⟨A9, c9, l9⟩, hv9, hl9, hr9⟩ := ho.reads
      simp only at hv9 hl9
      subst hl9 hv9
      have HAR := Lib.hid (Ref02B.at_calls A9 c9 l.reverse nm _ hr9.rd (by rw [List.length_reverse]; omega))
      rw [← HRR.out, List.length_reverse] at HAR
      simp only at HAR
      rw [List.length_reverse]
      clear hb HPL hr9 ho
      go_wp2_with (fail)
      refine HAR.out.mono ?_
      rintro e wq ⟨rfl, rfl⟩
      clear HAR
      by_cases hp : 0 < l.length
      · have p1 : decide ((l.length : Int) > 0) = true := decide_eq_true (by omega)
        have p1' : decide (0 < (l.length : Int)) = true := decide_eq_true (by omega)
        have p1n : decide (0 < l.length) = true := decide_eq_true (by omega)
        have HTE := Lib.hid (FailH.text_calls E_2.out HEA.out (HG.out.below B_2.out).cl (HG.out.below B_2.out).tab hlc (chain_few (by rw [HBA.out, List.append_nil]; exact HFR.out)) (by rw [HCE.out]; exact HI10.out) (.inr (by rw [HZ.out]; simp)))
        rw [HTX.out] at HTE
        go_wp2_with (fail)
        refine (HTE.out).mono ?_
        rintro e w3 ⟨rfl, hb⟩
        have E_3 := Lib.hid (E_2.out.below hb)
        clear E_2
        have B_3 := Lib.hid (below_then B_2.out B_2.out.size hb)
        clear hb HTE
        have HPL := Lib.hid (places_calls A c l w3 (HR.out.below B_3.out) (by omega))
        go_wp2_with (fail)
        refine (HPL.out).mono ?_
        rintro e w4 ⟨v10, rfl, ho, hb⟩
        have E_4 := Lib.hid (E_3.out.below hb)
        clear E_3
        have B_4 := Lib.hid (below_then B_3.out B_3.out.size hb)
        obtain ⟨⟨A10, c10, l9⟩, hv9, hl9, hr9⟩ := ho.reads
        simp only at hv9 hl9
        subst hl9 hv9
        have HT2 := Lib.hid (Ref02B.text_calls A10 c10 l.reverse ⟨#[99, 108, 111, 115, 101, 100]⟩ _ hr9.rd (by rw [List.length_reverse]; omega) (by decide) HFR.out)
        obtain ⟨Y, hY⟩ : ∃ Y, Y = textR l.reverse ⟨#[99, 108, 111, 115, 101, 100]⟩ := ⟨_, rfl⟩
        rw [← hY] at HT2 ⊢
        rw [List.length_reverse] at HT2 ⊢
        clear hY
        clear hb HPL hr9 ho
        go_wp2_with (fail)
        refine (HT2.out).mono ?_
        rintro e w5 ⟨rfl, hb⟩
        have E_5 := Lib.hid (E_4.out.below hb)
        clear E_4
        have B_5 := Lib.hid (below_then B_4.out B_4.out.size hb)
        clear hb HT2
        have HCL := Lib.hid (closed_calls E_5.out.ch HEA.out (HG.out.below B_5.out).cl)
        rw [show isz z = true from by rw [HZ.out]; rfl] at HCL
        go_wp2_with (fail)
        refine HCL.out.mono ?_
        rintro e wq ⟨rfl, rfl⟩
        clear HCL
        have HCD := Lib.hid (code_calls E_5.out)
        rw [HCE.out] at HCD
        go_wp2_with (fail)
        refine (HCD.out).mono ?_
        rintro e w6 ⟨rfl, hb⟩
        have E_6 := Lib.hid (E_5.out.below hb)
        clear E_5
        have B_6 := Lib.hid (below_then B_5.out B_5.out.size hb)
        clear hb HCD
        have HDP := Lib.hid (depth_calls E_6.out (by omega))
        rw [HLEN.out] at HDP
        go_wp2_with (fail)
        refine (HDP.out).mono ?_
        rintro e w7 ⟨rfl, hb⟩
        have E_7 := Lib.hid (E_6.out.below hb)
        clear E_6
        have B_7 := Lib.hid (below_then B_6.out B_6.out.size hb)
        clear hb HDP
        have HAW := Lib.hid (awake_calls a _ (HG.out.below B_7.out))
        go_wp2_with (fail)
        refine (HAW.out).mono ?_
        rintro e w8 ⟨rfl, hb⟩
        have E_8 := Lib.hid (E_7.out.below hb)
        clear E_7
        have B_8 := Lib.hid (below_then B_7.out B_7.out.size hb)
        clear hb HAW
        go_wp2
        go_ret
        exact ⟨rfl, B_8.out⟩
      · have p1 : decide ((l.length : Int) > 0) = false := decide_eq_false (by omega)
        have p1' : decide (0 < (l.length : Int)) = false := decide_eq_false (by omega)
        have p1n : decide (0 < l.length) = false := decide_eq_false (by omega)
        have HCL := Lib.hid (closed_calls E_2.out.ch HEA.out (HG.out.below B_2.out).cl)
        rw [show isz z = true from by rw [HZ.out]; rfl] at HCL
        go_wp2_with (fail)
        refine HCL.out.mono ?_
        rintro e wq ⟨rfl, rfl⟩
        clear HCL
        have HCD := Lib.hid (code_calls E_2.out)
        rw [HCE.out] at HCD
        go_wp2_with (fail)
        refine (HCD.out).mono ?_
        rintro e w3 ⟨rfl, hb⟩
        have E_3 := Lib.hid (E_2.out.below hb)
        clear E_2
        have B_3 := Lib.hid (below_then B_2.out B_2.out.size hb)
        clear hb HCD
        have HDP := Lib.hid (depth_calls E_3.out (by omega))
        rw [HLEN.out] at HDP
        go_wp2_with (fail)
        refine (HDP.out).mono ?_
        rintro e w4 ⟨rfl, hb⟩
        have E_4 := Lib.hid (E_3.out.below hb)
        clear E_3
        have B_4 := Lib.hid (below_then B_3.out B_3.out.size hb)
        clear hb HDP
        have HAW := Lib.hid (awake_calls a _ (HG.out.below B_4.out))
        go_wp2_with (fail)
        refine (HAW.out).mono ?_
        rintro e w5 ⟨rfl, hb⟩
        have E_5 := Lib.hid (E_4.out.below hb)
        clear E_4
        have B_5 := Lib.hid (below_then B_4.out B_4.out.size hb)
        clear hb HAW
        go_wp2
        go_ret
        exact ⟨rfl, B_5.out⟩

set_option maxRecDepth 100000 in
set_option maxHeartbeats 800000 in
theorem narrow (A : Option Addr) (c : Nat) (l : List NP) (nm : ByteArray) (a : Addr) (w : World) (hr : RdC w A (all np l)) (hm : l.length ≤ 9223372036854775807) (hg : Gl w a) (h : small l = false ∨ small l = true ∧ 50 < nm.size) :
    Calls Tryd.prog 4 #[.slice A l.length c, .string nm] w fun e w' => e = .returned (.bool true) ∧ Below w.heap.size w w' := by
  have HS := Lib.hid (small_calls A c l w hr hm)
  have HAW := Lib.hid (fun W (h : Below w.heap.size w W) => awake_calls a W (hg.below h))
  clear hr hg
  rcases h with h | ⟨h, h2⟩
  · rw [h] at HS
    clear h
    go_enter Tryd.func4, Tryd.ntmps4
    go_wp2_with (fail)
    refine HS.out.mono ?_
    rintro e w1 ⟨rfl, hb1⟩
    have B1 := Lib.hid hb1
    clear hb1
    go_wp2_with (fail)
    refine (HAW.out _ B1.out).mono ?_
    rintro e w2 ⟨rfl, hb2⟩
    have B2 := Lib.hid (below_then B1.out B1.out.size hb2)
    clear hb2
    go_wp2
    go_ret
    exact ⟨rfl, B2.out⟩
  · rw [h] at HS
    have d1 : decide ((nm.size : Int) > 50) = true := by simp; omega
    have d1' : decide (50 < (nm.size : Int)) = true := by simp; omega
    have d1n : decide (50 < nm.size) = true := by simp; omega
    clear h h2
    go_enter Tryd.func4, Tryd.ntmps4
    go_wp2_with (fail)
    refine HS.out.mono ?_
    rintro e w1 ⟨rfl, hb1⟩
    have B1 := Lib.hid hb1
    clear hb1
    go_wp2_with (fail)
    refine (HAW.out _ B1.out).mono ?_
    rintro e w2 ⟨rfl, hb2⟩
    have B2 := Lib.hid (below_then B1.out B1.out.size hb2)
    clear hb2
    go_wp2
    go_ret
    exact ⟨rfl, B2.out⟩

theorem walk (x : Sl NP) (nm : ByteArray) (w : World) (hx : (slice np).ok w x) (_ : nm.size ≤ maxLen) (hL : laidMetH Tryd.prog laidAll w) :
    Calls Tryd.prog 4 #[.slice x.at_ x.l.length x.cap, .string nm] w fun e w' => e = .returned (.bool true) ∧ Below w.heap.size w w' := by
  obtain ⟨a, hg⟩ := gl_of hL
  obtain ⟨⟨hr, hle, hmx, -⟩, hok⟩ := hx
  unfold maxLen at hmx
  by_cases hin : small x.l = true ∧ nm.size ≤ 50
  · exact core _ _ _ nm a w hr hg hin.1 hin.2 (fun y hy => wf_in (hok y hy).2)
  · refine narrow _ _ _ nm a w hr (by omega) hg ?_
    cases hs : small x.l with
    | false => exact .inl rfl
    | true => exact .inr ⟨rfl, (Nat.lt_or_ge 50 nm.size).elim id fun h => absurd ⟨hs, h⟩ hin⟩
end Go.Proofs.YtaenincbmlcjiaaDoor.FailCloses
