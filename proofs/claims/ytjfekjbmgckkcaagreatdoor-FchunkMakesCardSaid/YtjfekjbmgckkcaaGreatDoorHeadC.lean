/- head's walks: are two lists of spans one. -/
import Derived.Test.YtjfekjbmgckkcaaGreatDoorHeadB
import Derived.Deep.QuietTactic
import Derived.BigQuiet
namespace Go.Proofs.YtjfekjbmgckkcaaGreatDoor.HeadC
open Go.RowKit Go.Proofs.YtjfekjbmgckkcaaGreatDoorW.PrintWords
open Go.Proofs.YtjfekjbmgckkcaaGreatDoor.Base Go.Proofs.YtjfekjbmgckkcaaGreatDoor.SpanPure Go.Proofs.YtjfekjbmgckkcaaGreatDoor.SpanBase Go.Proofs.YtjfekjbmgckkcaaGreatDoor.HeadB

set_option maxHeartbeats 1600000 in
theorem equal_calls (A B : Option Addr) (c d : Nat) (a b : List Sp) (w : World) (ha : RdSp w A a) (hb : RdSp w B b) (hma : a.length ≤ 1000000000) (hmb : b.length ≤ 1000000000) :
    Calls Tryz.prog 89 #[.slice A a.length c, .slice B b.length d] w fun e w' => e = .returned (.bool (decide (a = b))) ∧ Drawn0 w w' := by
  have HA := Lib.hid ha
  have HB := Lib.hid hb
  clear ha hb
  by_cases hl : a.length = b.length
  · have hlb : ((a.length : Int) != (b.length : Int)) = false := by simp [hl]
    have hlc : ((a.length : Int) == (b.length : Int)) = true := by simp [hl]
    have HL := Lib.hid hl
    clear hl
    go_enter Tryz.func89, Tryz.ntmps89
    go_wp2
    repeat (go_quiet (fail); try go_wp2)
    go_loopw [13] (fun i wr => ∃ k : Nat, k ≤ a.length ∧ i = .int .i64 k ∧ Hid (a.take k = b.take k) ∧ Drawn0 w wr) (fun i _ => a.length - (intOf i).toNat)
    case atStart => exact ⟨0, by omega, rfl, rfl, by repeat (first | exact Drawn0.refl _ | apply Drawn0.step)⟩
    case round =>
      obtain ⟨k, hk, rfl, ht, ⟨m, rfl⟩⟩ := hrel
      by_cases hlt : k < a.length
      · have hlt2 : k < b.length := by have := HL.out; omega
        obtain ⟨ad, rfl, hc, hc'⟩ := HA.out.at_ k hlt
        obtain ⟨bd, rfl, hd, hd'⟩ := HB.out.at_ k hlt2
        by_cases he : a[k] = b[k]
        · have HT : Hid (a.take (k + 1) = b.take (k + 1)) := Lib.hid (by rw [List.take_succ_eq_append_getElem hlt, List.take_succ_eq_append_getElem hlt2, ht.out, he])
          rw [← he] at hd hd'
          obtain ⟨⟨o, q⟩, hs⟩ : ∃ s, s = a[k] := ⟨_, rfl⟩
          rw [← hs] at hc hc' hd hd'
          simp only at hc hc' hd hd'
          clear ht he hs
          go_wp2_with (fail)
          go_quiet (fail)
          go_wp2
          go_roundw
          case rel => exact ⟨k + 1, by omega, by go_num, HT, by repeat (first | exact Drawn0.refl _ | apply Drawn0.step)⟩
          case measure => simp [intOf]; omega
        · have HF : Hid (decide (a = b) = false) := Lib.hid (by
            rw [decide_eq_false]
            rintro rfl
            exact he rfl)
          obtain ⟨⟨o, q⟩, hs⟩ : ∃ s, s = a[k] := ⟨_, rfl⟩
          obtain ⟨⟨o2, q2⟩, hs2⟩ : ∃ s, s = b[k] := ⟨_, rfl⟩
          rw [← hs] at hc hc' he
          rw [← hs2] at hd hd' he
          simp only at hc hc' hd hd'
          by_cases h1 : o = o2
          · have h2 : ¬ q = q2 := fun h => he (by rw [h1, h])
            subst h1
            have e1 : (q == q2) = false := by simpa using h2
            have e2 : (q != q2) = true := by simpa using h2
            clear ht he hs hs2 h2
            go_wp2_with (fail)
            go_quiet (fail)
            go_wp2
            go_ret
            exact ⟨by rw [HF.out]; rfl, by repeat (first | exact Drawn0.refl _ | apply Drawn0.step)⟩
          · have e1 : (o == o2) = false := by simpa using h1
            have e2 : (o != o2) = true := by simpa using h1
            clear ht he hs hs2 h1
            go_wp2_with (fail)
            go_quiet (fail)
            go_wp2
            go_ret
            exact ⟨by rw [HF.out]; rfl, by repeat (first | exact Drawn0.refl _ | apply Drawn0.step)⟩
      · obtain rfl : k = a.length := by omega
        have HT : Hid (decide (a = b) = true) := Lib.hid (decide_eq_true (by have h := ht.out; rw [List.take_length, HL.out, List.take_length] at h; exact h))
        clear ht
        go_wp2
        repeat (go_quiet (fail); try go_wp2)
        go_ret
        exact ⟨by rw [HT.out]; rfl, by repeat (first | exact Drawn0.refl _ | apply Drawn0.step)⟩
  · have hlb : ((a.length : Int) != (b.length : Int)) = true := by simp; omega
    have hlc : ((a.length : Int) == (b.length : Int)) = false := by simp; omega
    have HT := Lib.hid (show decide (a = b) = false from decide_eq_false fun h => hl (by rw [h]))
    clear hl
    go_enter Tryz.func89, Tryz.ntmps89
    go_wp2
    repeat (go_quiet (fail); try go_wp2)
    go_ret
    exact ⟨by rw [HT.out]; rfl, by repeat (first | exact Drawn0.refl _ | apply Drawn0.step)⟩
/-! ### Equal -/
def eqH (x y : Hd) : Bool := decide (x = y)
set_option maxRecDepth 100000 in
set_option maxHeartbeats 3200000 in
theorem Equal_calls (x y : Hd) (p r : Lc) (w : World) (hx : HdIn w x p) (hy : HdIn w y r) :
    Calls Tryz.prog 29 #[.agg (hcs x p).toArray, .agg (hcs y r).toArray] w fun e w' => e = .returned (.bool (eqH x y)) ∧ Below w.heap.size w w' := by
  obtain ⟨v1, i1, s1, z1, l1, m1⟩ := x
  obtain ⟨v2, i2, s2, z2, l2, m2⟩ := y
  obtain ⟨A, c, B, d⟩ := p
  obtain ⟨A', c', B', d'⟩ := r
  obtain ⟨hl1, hm1, -⟩ := hx
  obtain ⟨hl2, hm2, -⟩ := hy
  simp only at hl1 hm1 hl2 hm2
  show Calls Tryz.prog 29 #[.agg #[.int .i64 v1, .int .i64 i1, .int .i64 s1, .int .u64 z1, .slice A l1.length c, .slice B m1.length d], .agg #[.int .i64 v2, .int .i64 i2, .int .i64 s2, .int .u64 z2, .slice A' l2.length c', .slice B' m2.length d']] w _
  have HL := Lib.hid (fun W (h : Below w.heap.size w W) => equal_calls A A' c c' l1 l2 W (hl1.below h).rd (hl2.below h).rd (by have := hl1.len; omega) (by have := hl2.len; omega))
  have HM := Lib.hid (fun W (h : Below w.heap.size w W) => equal_calls B B' d d' m1 m2 W (hm1.below h).rd (hm2.below h).rd (by have := hm1.len; omega) (by have := hm2.len; omega))
  have HB := Lib.hid (below_alloc (below_alloc (Below.refl w.heap.size w) (.cells #[.int .i64 v1, .int .i64 i1, .int .i64 s1, .int .u64 z1, .slice A l1.length c, .slice B m1.length d] 25)) (.cells #[.int .i64 v2, .int .i64 i2, .int .i64 s2, .int .u64 z2, .slice A' l2.length c', .slice B' m2.length d'] 25))
  clear hl1 hm1 hl2 hm2
  by_cases hv1 : ¬ v1 = v2
  · have HF : Hid (eqH ⟨v1, i1, s1, z1, l1, m1⟩ ⟨v2, i2, s2, z2, l2, m2⟩ = false) := Lib.hid (decide_eq_false fun h => hv1 (by injection h))
    have ev1 : (v1 == v2) = false := by simp; omega
    clear hv1
    go_enter Tryz.func29, Tryz.ntmps29
    go_wp2
    go_ret
    exact ⟨by rw [HF.out]; rfl, HB.out⟩
  have hv1 := Decidable.not_not.1 hv1
  subst hv1
  by_cases hi1 : ¬ i1 = i2
  · have HF : Hid (eqH ⟨v1, i1, s1, z1, l1, m1⟩ ⟨v1, i2, s2, z2, l2, m2⟩ = false) := Lib.hid (decide_eq_false fun h => hi1 (by injection h))
    have ei1 : (i1 == i2) = false := by simp; omega
    clear hi1
    go_enter Tryz.func29, Tryz.ntmps29
    go_wp2
    go_ret
    exact ⟨by rw [HF.out]; rfl, HB.out⟩
  have hi1 := Decidable.not_not.1 hi1
  subst hi1
  by_cases hs1 : ¬ s1 = s2
  · have HF : Hid (eqH ⟨v1, i1, s1, z1, l1, m1⟩ ⟨v1, i1, s2, z2, l2, m2⟩ = false) := Lib.hid (decide_eq_false fun h => hs1 (by injection h))
    have es1 : (s1 == s2) = false := by simp; omega
    clear hs1
    go_enter Tryz.func29, Tryz.ntmps29
    go_wp2
    go_ret
    exact ⟨by rw [HF.out]; rfl, HB.out⟩
  have hs1 := Decidable.not_not.1 hs1
  subst hs1
  by_cases hz1 : ¬ z1 = z2
  · have HF : Hid (eqH ⟨v1, i1, s1, z1, l1, m1⟩ ⟨v1, i1, s1, z2, l2, m2⟩ = false) := Lib.hid (decide_eq_false fun h => hz1 (by injection h))
    have ez1 : (((z1 : Int)) == ((z2 : Int))) = false := by simp; omega
    clear hz1
    go_enter Tryz.func29, Tryz.ntmps29
    go_wp2
    go_ret
    exact ⟨by rw [HF.out]; rfl, HB.out⟩
  have hz1 := Decidable.not_not.1 hz1
  subst hz1
  by_cases hl1 : ¬ l1 = l2
  · have HF : Hid (eqH ⟨v1, i1, s1, z1, l1, m1⟩ ⟨v1, i1, s1, z1, l2, m2⟩ = false) := Lib.hid (decide_eq_false fun h => hl1 (by injection h))
    rw [decide_eq_false hl1] at HL
    clear hl1
    go_enter Tryz.func29, Tryz.ntmps29
    go_wp2_with (fail)
    refine (HL.out _ HB.out).mono ?_
    rintro e w' ⟨rfl, ⟨n1, rfl⟩⟩
    go_wp2
    go_ret
    exact ⟨by rw [HF.out]; rfl, below_drewN HB.out _⟩
  have hl1 := Decidable.not_not.1 hl1
  rw [decide_eq_true hl1] at HL
  subst hl1
  by_cases hm1 : ¬ m1 = m2
  · have HF : Hid (eqH ⟨v1, i1, s1, z1, l1, m1⟩ ⟨v1, i1, s1, z1, l1, m2⟩ = false) := Lib.hid (decide_eq_false fun h => hm1 (by injection h))
    rw [decide_eq_false hm1] at HM
    clear hm1
    go_enter Tryz.func29, Tryz.ntmps29
    go_wp2_with (fail)
    refine (HL.out _ HB.out).mono ?_
    rintro e w' ⟨rfl, ⟨n1, rfl⟩⟩
    go_wp2_with (fail)
    refine (HM.out _ (below_drewN HB.out _)).mono ?_
    rintro e w' ⟨rfl, ⟨n2, rfl⟩⟩
    go_wp2
    go_ret
    exact ⟨by rw [HF.out]; rfl, below_drewN HB.out _⟩
  have hm1 := Decidable.not_not.1 hm1
  rw [decide_eq_true hm1] at HM
  subst hm1
  have HF : Hid (eqH ⟨v1, i1, s1, z1, l1, m1⟩ ⟨v1, i1, s1, z1, l1, m1⟩ = true) := Lib.hid (decide_eq_true rfl)
  go_enter Tryz.func29, Tryz.ntmps29
  go_wp2_with (fail)
  refine (HL.out _ HB.out).mono ?_
  rintro e w' ⟨rfl, ⟨n1, rfl⟩⟩
  go_wp2_with (fail)
  refine (HM.out _ (below_drewN HB.out _)).mono ?_
  rintro e w' ⟨rfl, ⟨n2, rfl⟩⟩
  go_wp2
  go_ret
  exact ⟨by rw [HF.out]; rfl, below_drewN HB.out _⟩
end Go.Proofs.YtjfekjbmgckkcaaGreatDoor.HeadC
