/- the reference of layer 13: texts of bits of rows of numbers. -/
import Derived.Test.YtlbkdmggafkghaaDoorVarKit
import Derived.Test.YtlbkdmggafkghaaDoorTimesA
namespace Go.Proofs.YtlbkdmggafkghaaDoor.Ref13
open Go.RowKit Go.Proofs.YtlbkdmggafkghaaDoorW.PrintWords
open Go.Proofs.YtlbkdmggafkghaaDoor.Bits Go.Proofs.YtlbkdmggafkghaaDoor.Base Go.Proofs.YtlbkdmggafkghaaDoor.VarPure Go.Proofs.YtlbkdmggafkghaaDoor.TimesPure Go.Proofs.YtlbkdmggafkghaaDoor.VarKit Go.Proofs.YtlbkdmggafkghaaDoor.Ref04 Go.Proofs.YtlbkdmggafkghaaDoor.TimesA

/-- numbers of 64 bits in memory. -/
def nats (l : List Nat) : List Int := l.map fun (n : Nat) => (n : Int)
theorem nats_length (l : List Nat) : (nats l).length = l.length := by simp [nats]
theorem nats_get (l : List Nat) (k : Nat) (h : k < l.length) (h' : k < (nats l).length) : (nats l)[k] = (l[k] : Int) := by simp [nats]
theorem nats_take (l : List Nat) (k : Nat) : nats (l.take k) = (nats l).take k := by simp [nats]
theorem nats_append (a b : List Nat) : nats (a ++ b) = nats a ++ nats b := by simp [nats]
theorem nat_at {w : World} {A : Option Addr} {l : List Nat} (h : RdI .u64 w A (nats l)) (k : Nat) (hk : k < l.length) : ∃ ad, A = some ad ∧ w.cell? (ad.add k) = some (.int .u64 (l[k] : Int)) := by
  obtain ⟨ad, he, hc⟩ := h.at_ k (by rw [nats_length]; exact hk)
  rw [nats_get l k hk] at hc
  exact ⟨ad, he, hc⟩

set_option maxHeartbeats 800000 in
theorem step_calls (A : Option Addr) (c : Nat) (l : List Nat) (w : World) (hr : RdI .u64 w A (nats l)) (hm : l.length ≤ 1000000) (hl : ∀ v ∈ l, v < 18446744073709551616) :
    Calls Tryd.prog 48 #[.slice A l.length c] w fun e w' => e = .returned (.int .u64 (stepOf l)) ∧ Drawn0 w w' := by
  by_cases h2 : l.length < 2
  · have d1 : decide ((l.length : Int) < 2) = true := by simp; omega
    have d1n : decide (l.length < 2) = true := by simp; omega
    rw [show stepOf l = 0 from if_pos h2]
    clear hr hl
    go_enter Tryd.func48, Tryd.ntmps48
    go_wp2
    go_ret
    exact ⟨rfl, Drawn0.refl _⟩
  · have d1 : decide ((l.length : Int) < 2) = false := by simp; omega
    have d1n : decide (l.length < 2) = false := by simp; omega
    obtain ⟨m, hmm⟩ : ∃ m, m + 2 = l.length := ⟨l.length - 2, by omega⟩
    obtain ⟨ad, rfl, x1⟩ := nat_at hr (m + 1) (by omega)
    obtain ⟨ad', he, x0⟩ := nat_at hr m (by omega)
    injection he with he
    subst he
    have h0 := hl l[m] (List.getElem_mem _)
    have h1 := hl l[m + 1] (List.getElem_mem _)
    have hst : stepOf l = sub64 l[m + 1] l[m] := by
      rw [stepOf, if_neg h2, show l.length - 1 = m + 1 from by omega, show l.length - 2 = m from by omega]
      congr 1
      · rw [List.getD_eq_getElem?_getD, List.getElem?_eq_getElem (by omega)]; rfl
      · rw [List.getD_eq_getElem?_getD, List.getElem?_eq_getElem (by omega)]; rfl
    rw [hst]
    obtain ⟨p, hp⟩ : ∃ p, p = l[m] := ⟨_, rfl⟩
    obtain ⟨q, hq⟩ : ∃ q, q = l[m + 1] := ⟨_, rfl⟩
    rw [← hp] at x0 h0 ⊢
    rw [← hq] at x1 h1 ⊢
    have hw := wrap_subU q p h1 h0
    obtain ⟨i, hi⟩ : ∃ i, i = m + 1 := ⟨_, rfl⟩
    rw [← hi] at x1
    obtain ⟨n, hnn⟩ : ∃ n, n = l.length := ⟨_, rfl⟩
    rw [← hnn] at d1 d1n hm ⊢
    have e1 : (n : Int) - 1 = (i : Int) := by omega
    have e2 : (n : Int) - 2 = (m : Int) := by omega
    have b1 : (i : Int) < (n : Int) := by omega
    have b2 : (m : Int) < (n : Int) := by omega
    have v1 : IntKind.i64.wrap (i : Int) = i := by rw [IntKind.wrap_i64]; omega
    have v2 : IntKind.i64.wrap (m : Int) = m := by rw [IntKind.wrap_i64]; omega
    have b1n : i < n := by omega
    have b2n : m < n := by omega
    clear hr hl hst hp hq h2 hmm hi hnn
    go_enter Tryd.func48, Tryd.ntmps48
    go_wp2_with (fail)
    go_quiet (fail)
    go_wp2
    go_ret
    exact ⟨rfl, by repeat (first | exact Drawn0.refl _ | apply Drawn0.step)⟩

set_option maxHeartbeats 800000 in
theorem putText_calls (sg : Bool) (A : Option Addr) (c v : Nat) (l : List Nat) (w : World) (hr : RdI .u64 w A (nats l)) (hm : l.length ≤ 1000000) (hl : ∀ v ∈ l, v < 18446744073709551616) (hv : v < 18446744073709551616) :
    Calls Tryd.prog 38 #[.slice A l.length c, .int .u64 v, .int .i64 (if sg then 1 else 0)] w fun e w' => e = .returned (.string (txt (toldL sg l v))) ∧ Below w.heap.size w w' := by
  by_cases h0 : l = []
  · subst h0
    clear hr hl
    cases sg with
    | true =>
      have hir := i64_range v hv
      have HS := Lib.hid (S_calls (i64 v) w hir.1 hir.2)
      have hw := VarbitD.wrap_i64 v hv
      rw [show toldL true [] v = encS (i64 v) from rfl]
      simp only [if_true, List.length_nil]
      clear hir
      go_enter Tryd.func38, Tryd.ntmps38
      go_wp2_with (go_at_call 15; refine HS.out.mono ?_; rintro e w1 ⟨rfl, hb⟩)
      go_ret
      exact ⟨rfl, hb⟩
    | false =>
      have HS := Lib.hid (U_calls v w hv)
      rw [show toldL false [] v = encU v from rfl]
      simp only [List.length_nil]
      go_enter Tryd.func38, Tryd.ntmps38
      go_wp2_with (go_at_call 16; refine HS.out.mono ?_; rintro e w1 ⟨rfl, hb⟩)
      go_ret
      exact ⟨rfl, hb⟩
  · have hn : 0 < l.length := List.length_pos_iff.2 h0
    have d0 : ((l.length : Int) == 0) = false := by simp; omega
    have d0n : (l.length == 0) = false := by simp; exact h0
    obtain ⟨m, hmm⟩ : ∃ m, m + 1 = l.length := ⟨l.length - 1, by omega⟩
    have HSTEP := Lib.hid (fun n => step_calls A c l (w.drewN n) (hr.drewN n) hm hl)
    obtain ⟨ad, rfl, x1⟩ := nat_at hr m (by omega)
    have h1 := hl l[m] (List.getElem_mem _)
    have hlast : lastOf l = l[m] := by
      rw [lastOf, List.getLast?_eq_getElem?, show l.length - 1 = m from by omega, List.getElem?_eq_getElem (by omega)]; rfl
    have hs : stepOf l < 18446744073709551616 := by
      unfold stepOf; split
      · decide
      · exact sub64_lt _ _
    have ht : toldL sg l v = encS (i64 (sub64 (sub64 v l[m]) (stepOf l))) := by
      rw [toldL, told, if_neg (by omega), hlast]
    rw [ht]
    obtain ⟨p, hp⟩ : ∃ p, p = l[m] := ⟨_, rfl⟩
    obtain ⟨s, hss⟩ : ∃ s, s = stepOf l := ⟨_, rfl⟩
    rw [← hp] at x1 h1 ⊢
    rw [← hss] at hs HSTEP ⊢
    have hw := wrap_subU v p hv h1
    have hq := sub64_lt v p
    obtain ⟨q, hqq⟩ : ∃ q, q = sub64 v p := ⟨_, rfl⟩
    rw [← hqq] at hw hq ⊢
    have hw2 := wrap_subU q s hq hs
    have hz := sub64_lt q s
    obtain ⟨z, hzz⟩ : ∃ z, z = sub64 q s := ⟨_, rfl⟩
    rw [← hzz] at hw2 hz ⊢
    have hw3 := VarbitD.wrap_i64 z hz
    have hir := i64_range z hz
    have HS := Lib.hid (fun W => S_calls (i64 z) W hir.1 hir.2)
    rw [← hmm] at HSTEP d0 d0n hm ⊢
    clear hr hl ht hp hss hqq hzz hir hlast h0 hmm hn
    cases sg with
    | true =>
      simp only [if_true]
      go_enter Tryd.func38, Tryd.ntmps38
      go_wp2_with (first | (go_at_call 48; refine (HSTEP.out 0).mono ?_; rintro e w' ⟨rfl, nd, rfl⟩) | (go_at_call 15; refine (HS.out _).mono ?_; rintro e w1 ⟨rfl, hb⟩))
      go_ret
      exact ⟨rfl, below_then (pw_below_drewN (Below.refl w.heap.size w) _) (Nat.le_refl _) hb⟩
    | false =>
      go_enter Tryd.func38, Tryd.ntmps38
      go_wp2_with (first | (go_at_call 48; refine (HSTEP.out 0).mono ?_; rintro e w' ⟨rfl, nd, rfl⟩) | (go_at_call 15; refine (HS.out _).mono ?_; rintro e w1 ⟨rfl, hb⟩))
      go_ret
      exact ⟨rfl, below_then (pw_below_drewN (Below.refl w.heap.size w) _) (Nat.le_refl _) hb⟩
end Go.Proofs.YtlbkdmggafkghaaDoor.Ref13
