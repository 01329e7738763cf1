/- head's walks: put. -/
import Derived.Test.YtjfekjbmgckkcaaGreatDoorHeadPure
import Derived.Test.YtjfekjbmgckkcaaGreatDoorVarbitB
namespace Go.Proofs.YtjfekjbmgckkcaaGreatDoor.HeadD
open Go.RowKit Go.Proofs.YtjfekjbmgckkcaaGreatDoorW.PrintWords
open Go.Proofs.YtjfekjbmgckkcaaGreatDoor.Bits Go.Proofs.YtjfekjbmgckkcaaGreatDoor.Base Go.Proofs.YtjfekjbmgckkcaaGreatDoor.VarPure Go.Proofs.YtjfekjbmgckkcaaGreatDoor.VarbitA Go.Proofs.YtjfekjbmgckkcaaGreatDoor.VarbitB Go.Proofs.YtjfekjbmgckkcaaGreatDoor.StreamA Go.Proofs.YtjfekjbmgckkcaaGreatDoor.SpanPure Go.Proofs.YtjfekjbmgckkcaaGreatDoor.SpanBase Go.Proofs.YtjfekjbmgckkcaaGreatDoor.HeadPure

theorem rd_ch {S : Nat → Prop} {w W : World} {A : Option Addr} {l : List Sp} (h : RdSp w A l) (hc : Ch S w W) (hs : ∀ ad, A = some ad → 0 < l.length → ¬ S ad.block) : RdSp W A l :=
  RdC.stay h fun ad hA hp => by
    have hl : 0 < l.length := by rw [spc_length] at hp; omega
    exact hc.block _ (RdC.lt h ad hA hp) (hs ad hA hl)
theorem rd_lt {w : World} {A : Option Addr} {l : List Sp} (h : RdSp w A l) (ad : Addr) (hA : A = some ad) (hp : 0 < l.length) : ad.block < w.heap.size :=
  RdC.lt h ad hA (by rw [spc_length]; omega)
theorem wrap_nat (q : Int) (h0 : 0 ≤ q) (h : q < 18446744073709551616) : IntKind.u64.wrap q = ((q.toNat : Nat) : Int) := by
  rw [IntKind.wrap_u64]; omega
set_option maxHeartbeats 3200000 in
theorem put_calls (g : Nat) (S : Nat → Prop) (l : List Bool) (A : Option Addr) (c : Nat) (sp : List Sp) (w : World) (hT : Tab w) (hG : ¬ S 1) (h : Wr w g S l) (hm : l.length ≤ 1000000000)
    (hr : RdSp w A sp) (hrS : ∀ ad, A = some ad → 0 < sp.length → ¬ S ad.block) (hn : sp.length ≤ 1000000) (hi : In64 sp) (hp : ∀ s ∈ sp, 0 ≤ s.2) :
    Calls Tryz.prog 75 #[.pointer (some ⟨g, 0, none⟩), .slice A sp.length c] w fun e w' => e = .returned (.tuple #[]) ∧ Upd (fun w S => Wr w g S (l ++ encSp sp)) S w w' := by
  have HU := Lib.hid (putU_calls g S l sp.length w hT hG h (by omega) (by omega))
  have HT := Lib.hid hT
  have HG := Lib.hid hG
  have HR := Lib.hid hr
  have HRS := Lib.hid hrS
  have HI := Lib.hid hi
  have HP := Lib.hid hp
  clear hT hG h hr hrS hi hp
  go_enter Tryz.func75, Tryz.ntmps75
  go_wp2_with (fail)
  refine HU.out.mono ?_
  rintro e w1 ⟨rfl, S1, hw1, hs1, hc1⟩
  have HW1 := Lib.hid hw1
  have HS1 := Lib.hid hs1
  have HC1 := Lib.hid hc1
  clear hw1 hs1 hc1 HU
  go_wp2
  go_loopw [13] (fun i wr => ∃ k : Nat, k ≤ sp.length ∧ i = .int .i64 k ∧ Upd (fun w S => Wr w g S (l ++ encU sp.length ++ encSps (sp.take k))) S w wr) (fun i _ => sp.length - (intOf i).toNat)
  case atStart => exact ⟨0, by omega, rfl, S1, by simpa [encSps] using HW1.out, HS1.out, HC1.out⟩
  case round =>
    obtain ⟨k, hk, rfl, S2, hw, hs, hc⟩ := hrel
    by_cases hlt : k < sp.length
    · have hrd := rd_ch HR.out hc HRS.out
      obtain ⟨ad, hA, c0, c1⟩ := hrd.at_ k hlt
      subst hA
      obtain ⟨j1, j2, j3, j4⟩ := HI.out _ (List.getElem_mem hlt)
      have j5 := HP.out _ (List.getElem_mem hlt)
      have HE := Lib.hid (encSps_take sp k hlt)
      have hlen : (l ++ encU sp.length ++ encSps (sp.take k)).length ≤ 1000000000 + 72 + 144 * 1000000 := by
        have a1 := encSps_le (sp.take k)
        have a2 := encU_le sp.length
        have a3 : (sp.take k).length ≤ 1000000 := by rw [List.length_take]; omega
        rw [List.length_append, List.length_append]
        omega
      obtain ⟨⟨o, q⟩, hsp⟩ : ∃ s, s = sp[k] := ⟨_, rfl⟩
      rw [← hsp] at c0 c1 HE j1 j2 j3 j4 j5
      simp only at c0 c1 j1 j2 j3 j4 j5
      clear hsp
      obtain ⟨Q, hQ⟩ : ∃ Q : Nat, q = (Q : Int) := ⟨q.toNat, by omega⟩
      subst hQ
      have hQ2 : Q < 18446744073709551616 := by omega
      have hwrap : IntKind.u64.wrap (Q : Int) = (Q : Int) := by rw [IntKind.wrap_u64]; omega
      have HS := Lib.hid hs
      have HC := Lib.hid hc
      have hnew : ¬ S2 wr.heap.size := fun h => Nat.lt_irrefl _ (hw.old _ h)
      have hal : Ch S wr (wr.alloc (.cells #[.int .i64 o, .int .i64 Q] 119)) := Ch.of_below (below_alloc (Below.refl _ _) _)
      have HWA := Lib.hid (hw.below (below_alloc (Below.refl wr.heap.size wr) (.cells #[.int .i64 o, .int .i64 Q] 119)))
      have HTA := Lib.hid ((HT.out.ch hc HG.out).ch hal HG.out)
      have HN := Lib.hid (not_turned HT.out.lt HG.out hs)
      have HX := Lib.hid hnew
      have HPU := Lib.hid (putU_calls g S2 _ Q _ HTA.out HN.out HWA.out (by omega) hQ2)
      have HCA : Hid (Ch S w (wr.alloc (.cells #[.int .i64 o, .int .i64 Q] 119))) := Lib.hid (hc.alloc _)
      clear hw hs hc hnew hal hrd
      go_wp2_with (fail)
      refine HPU.out.mono ?_
      rintro e w2 ⟨rfl, S3, hw3, hs3, hc3⟩
      have b0 : w2.cell? ⟨wr.heap.size, 0, none⟩ = some (.int .i64 o) := (hc3.cell (a := ⟨wr.heap.size, 0, none⟩) (by simp) HX.out)
      have HPS := Lib.hid (putS_calls g S3 _ o w2 (HTA.out.ch hc3 HN.out) (not_turned HTA.out.lt HN.out hs3) hw3 (by rw [List.length_append]; have := encU_le Q; omega) j1 j2)
      have HS3 := Lib.hid hs3
      have HC3 := Lib.hid hc3
      clear hw3 hs3 hc3 HPU
      go_wp2_with (fail)
      refine HPS.out.mono ?_
      rintro e w4 ⟨rfl, hu4⟩
      have HU4 := Lib.hid hu4
      clear hu4 HPS b0
      go_wp2
      go_roundw
      case rel =>
        have hu := Upd.then (S1 := S2) (fun k hk => (HS.out k hk).imp id fun h => h) HCA.out (Upd.then HS3.out HC3.out HU4.out)
        refine ⟨k + 1, by omega, by go_num, ?_⟩
        rw [HE.out]
        simpa [encSp1, List.append_assoc] using hu
      case measure => simp [intOf]; omega
    · obtain rfl : k = sp.length := by omega
      have HHS := Lib.hid hs
      have HHC := Lib.hid hc
      have HHW := Lib.hid hw
      clear hs hc hw
      go_wp2
      go_end0
      refine ⟨rfl, S2, ?_, HHS.out, HHC.out⟩
      have := HHW.out
      rwa [List.take_length, List.append_assoc] at this
end Go.Proofs.YtjfekjbmgckkcaaGreatDoor.HeadD
