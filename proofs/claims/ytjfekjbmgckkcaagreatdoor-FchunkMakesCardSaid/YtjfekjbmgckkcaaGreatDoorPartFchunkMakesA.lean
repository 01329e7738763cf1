/- what FchunkMakes stands on, part 1: Law18A, Law14D, Law18B, HeadM, Law14B, TimesPure, XorPure, FcPure, Shelf, XorA, XorB, TimesA, Ref13, FcObj, Cat, SpanC, SpanD, SpanQ, FhistA, FhistB, FcA, FcB. -/
import Derived.Test.YtjfekjbmgckkcaaGreatDoorLaw14C
import Derived.Test.YtjfekjbmgckkcaaGreatDoorHeadL
import Derived.Test.YtjfekjbmgckkcaaGreatDoorHeadI
import Derived.Test.YtjfekjbmgckkcaaGreatDoorLaw14A
import Derived.Test.YtjfekjbmgckkcaaGreatDoorVarPure2
import Derived.Test.YtjfekjbmgckkcaaGreatDoorBits
import Derived.Lib.BitFns
import Derived.Lib.TrailingZeros
import Derived.Test.YtjfekjbmgckkcaaGreatDoorHeadPure
import Derived.Shelf.Small.Bits
import Derived.Shelf.Strconv.Itoa0
import Derived.Shelf.Slices.Equal
import Derived.Shelf.Slices.Empties2
import Derived.Ground.SlbCloneProg
import Derived.Shelf.Bytes.SlClone
import Derived.Test.YtjfekjbmgckkcaaGreatDoorProg
import Derived.Test.YtjfekjbmgckkcaaGreatDoorStreamR
import Derived.Test.YtjfekjbmgckkcaaGreatDoorStreamBit
import Derived.Test.YtjfekjbmgckkcaaGreatDoorRef12
import Derived.Test.YtjfekjbmgckkcaaGreatDoorVarKit
import Derived.Test.YtjfekjbmgckkcaaGreatDoorHeadC
import Derived.Laws.Bits64b
import Derived.Test.YtjfekjbmgckkcaaGreatDoorHeadE
import Derived.Test.YtjfekjbmgckkcaaGreatDoorStreamA
import Derived.Test.YtjfekjbmgckkcaaGreatDoorSpanBase
import Derived.Lib.AppendZerosOnto
import Derived.Test.YtjfekjbmgckkcaaGreatDoorSpanB
import Derived.RangeFuncBox
import Derived.RangeFuncNested
import Derived.RangeFuncBound
import Derived.RangeFuncCalls
import Derived.RangeFuncLeaves
import Derived.Shelf.Abstract
import Derived.OwnWalkIn
import Derived.TacticsInMore
import Derived.LoopNIn
import Derived.LoopIn
import Derived.Maps.AppendAt
import Derived.Test.YtjfekjbmgckkcaaGreatDoorRep
import Derived.OwnWalk
import Derived.Deep.RegionHeld3
import Derived.Deep.RegionWith

/- law 18: spans, few, alike, tells. -/
namespace Go.Proofs.YtjfekjbmgckkcaaGreatDoor.Law18A
open Go.RowKit Go.Proofs.YtjfekjbmgckkcaaGreatDoorW.PrintWords
open Go.Proofs.YtjfekjbmgckkcaaGreatDoor.Bits Go.Proofs.YtjfekjbmgckkcaaGreatDoor.Base Go.Proofs.YtjfekjbmgckkcaaGreatDoor.VarPure Go.Proofs.YtjfekjbmgckkcaaGreatDoor.VarKit Go.Proofs.YtjfekjbmgckkcaaGreatDoor.StreamA Go.Proofs.YtjfekjbmgckkcaaGreatDoor.StreamR Go.Proofs.YtjfekjbmgckkcaaGreatDoor.SpanPure Go.Proofs.YtjfekjbmgckkcaaGreatDoor.SpanBase Go.Proofs.YtjfekjbmgckkcaaGreatDoor.FailAs Go.Proofs.YtjfekjbmgckkcaaGreatDoor.FailB Go.Proofs.YtjfekjbmgckkcaaGreatDoor.FailC Go.Proofs.YtjfekjbmgckkcaaGreatDoor.HeadA Go.Proofs.YtjfekjbmgckkcaaGreatDoor.HeadB Go.Proofs.YtjfekjbmgckkcaaGreatDoor.HeadC Go.Proofs.YtjfekjbmgckkcaaGreatDoor.HeadE Go.Proofs.YtjfekjbmgckkcaaGreatDoor.HeadL Go.Proofs.YtjfekjbmgckkcaaGreatDoor.Ref01 Go.Proofs.YtjfekjbmgckkcaaGreatDoor.Ref12 Go.Proofs.YtjfekjbmgckkcaaGreatDoor.Ref14A Go.Proofs.YtjfekjbmgckkcaaGreatDoor.Law14A Go.Proofs.YtjfekjbmgckkcaaGreatDoor.Law14C

set_option maxRecDepth 100000 in
set_option maxHeartbeats 800000 in
theorem spans_calls (A : Option Addr) (c : Nat) (l : List Sp) (w : World) (hr : RdSp w A l) (hm : l.length ≤ 1000000) :
    Calls Tryz.prog 101 #[.slice A l.length c] w fun e w' => ∃ v, e = .returned v ∧ OwSp 214 w' w.heap.size v l ∧ Below w.heap.size w w' := by
  have HR := Lib.hid hr
  clear hr
  go_enter Tryz.func101, Tryz.ntmps101
  go_wp2
  go_loopw [3, 8] (fun v i wr => ∃ (k : Nat), k ≤ l.length ∧ i = .int .i64 k ∧ OwSp 214 wr w.heap.size v (l.take k) ∧ Below w.heap.size w wr) (fun _ i _ => l.length - (intOf i).toNat)
  case atStart => exact ⟨0, by omega, rfl, OwSp.nil _ _ _, Below.refl _ _⟩
  case round =>
    obtain ⟨k, hk, rfl, ho, hb⟩ := hrel
    have HO := Lib.hid ho
    have HB := Lib.hid hb
    have hsz := hb.size
    by_cases hlt : k < l.length
    · obtain ⟨ad, hA, c0, c1⟩ := (HR.out.below hb).at_ k hlt
      subst hA
      have HT := Lib.hid (show l.take (k + 1) = l.take k ++ [l[k]] from List.take_succ_eq_append_getElem hlt)
      obtain ⟨s, hs⟩ : ∃ s, s = l[k] := ⟨_, rfl⟩
      rw [← hs] at c0 c1 HT
      obtain ⟨o, q⟩ := s
      simp only at c0 c1
      have hlk : (l.take k).length ≤ 1000000 := by rw [List.length_take]; omega
      obtain ⟨L, hL⟩ : ∃ L, L = l.take k := ⟨_, rfl⟩
      rw [← hL] at HO HT hlk
      clear hs ho hb hL
      go_wp2_with (at_builtin; refine append_span_at (w0 := w) w.heap.size rfl (.tmp 12) (.tmp 18) 39 214 16 rfl Tryz.underlying39 infoRs _ L o q rfl (wr.heap.size + 1) (by simp) rfl (by exact HO.out.below (below_alloc (Below.refl _ _) _)) (by exact below_alloc HB.out _) (by simp; omega) (by omega) (by omega) ?_; intro g cap w1 ho1 hb1 _ _; have HO1 := Lib.hid ho1; have HB1 := Lib.hid hb1; clear ho1 hb1)
      go_roundw
      case rel => exact ⟨k + 1, by omega, by go_num, by rw [HT.out]; exact HO1.out, HB1.out⟩
      case measure => simp [intOf]; omega
    · obtain rfl : k = l.length := by omega
      rw [List.take_length] at HO
      obtain ⟨A1, c1, rfl, -, -, -⟩ := HO.out.reads
      clear ho hb
      go_wp2
      go_ret
      exact ⟨_, rfl, HO.out, HB.out⟩

set_option maxHeartbeats 1600000 in
theorem few_calls (A : Option Addr) (c : Nat) (l : List Sp) (w : World) (hr : RdSp w A l) (hm : l.length ≤ 9223372036854775807) :
    Calls Tryz.prog 45 #[.slice A l.length c] w fun e w' => e = .returned (.bool (few l)) ∧ Below w.heap.size w w' := by
  have HR := Lib.hid hr
  clear hr
  go_enter Tryz.func45, Tryz.ntmps45
  go_wp2
  go_loopw [3, 8] (fun n i wr => ∃ (k : Nat) (m : Int), k ≤ l.length ∧ i = .int .i64 k ∧ n = .int .i64 m ∧ 0 ≤ m ∧ m ≤ 400 ∧ Hid (few l = fewF m (l.drop k)) ∧ Below w.heap.size w wr) (fun _ i _ => l.length - (intOf i).toNat)
  case atStart => exact ⟨0, 0, by omega, rfl, rfl, by omega, by omega, Lib.hid rfl, Below.refl _ _⟩
  case round =>
    obtain ⟨k, m, hk, rfl, rfl, hm0, hm6, ht, hb⟩ := hrel
    have HB := Lib.hid hb
    have hsz := hb.size
    by_cases hlt : k < l.length
    · obtain ⟨ad, hA, c0, c1⟩ := (HR.out.below hb).at_ k hlt
      subst hA
      have HD := Lib.hid (show l.drop k = l[k] :: l.drop (k + 1) from List.drop_eq_getElem_cons hlt)
      obtain ⟨s, hs⟩ : ∃ s, s = l[k] := ⟨_, rfl⟩
      rw [← hs] at c0 c1 HD
      obtain ⟨o, q⟩ := s
      simp only at c0 c1
      clear hs hb
      by_cases hq : 0 < q
      · have d1 : decide (q > 0) = true := by simpa using hq
        have d1' : decide (0 < q) = true := by simpa using hq
        by_cases hq5 : q ≤ 5000
        · have e5 : min q 5000 = q := by omega
          have HS : Hid (few l = (decide (m + (1 + q / 10) + 1 ≤ 400) && fewF (m + (1 + q / 10) + 1) (l.drop (k + 1)))) := Lib.hid (by rw [ht.out, HD.out, fewF, if_pos hq, e5])
          go_wp2
          all_goals first
            | (have HF : few l = false := by rw [HS.out, decide_eq_false (by omega)]; rfl
               go_ret
               exact ⟨by rw [HF]; rfl, HB.out.alloc hsz _⟩)
            | (have HF : few l = fewF (m + (1 + q / 10) + 1) (l.drop (k + 1)) := by rw [HS.out, decide_eq_true (by omega)]; rfl
               go_roundw
               case rel => exact ⟨k + 1, _, by omega, by go_num, rfl, by omega, by omega, Lib.hid HF, HB.out.alloc hsz _⟩
               case measure => simp [intOf]; omega)
        · have hq6 : 5000 < q := by omega
          have e5 : min q 5000 = 5000 := by omega
          have HS : Hid (few l = (decide (m + 501 + 1 ≤ 400) && fewF (m + 501 + 1) (l.drop (k + 1)))) := Lib.hid (by rw [ht.out, HD.out, fewF, if_pos hq, e5]; rfl)
          clear hq5
          go_wp2
          all_goals first
            | (have HF : few l = false := by rw [HS.out, decide_eq_false (by omega)]; rfl
               go_ret
               exact ⟨by rw [HF]; rfl, HB.out.alloc hsz _⟩)
            | (have HF : few l = fewF (m + 501 + 1) (l.drop (k + 1)) := by rw [HS.out, decide_eq_true (by omega)]; rfl
               go_roundw
               case rel => exact ⟨k + 1, _, by omega, by go_num, rfl, by omega, by omega, Lib.hid HF, HB.out.alloc hsz _⟩
               case measure => simp [intOf]; omega)
      · have d1 : decide (q > 0) = false := by simpa using hq
        have d1' : decide (0 < q) = false := by simpa using hq
        have HS : Hid (few l = (decide (m + 1 ≤ 400) && fewF (m + 1) (l.drop (k + 1)))) := Lib.hid (by rw [ht.out, HD.out, fewF, if_neg hq, Int.add_zero])
        clear hq
        go_wp2
        all_goals first
          | (have HF : few l = false := by rw [HS.out, decide_eq_false (by omega)]; rfl
             go_ret
             exact ⟨by rw [HF]; rfl, HB.out.alloc hsz _⟩)
          | (have HF : few l = fewF (m + 1) (l.drop (k + 1)) := by rw [HS.out, decide_eq_true (by omega)]; rfl
             go_roundw
             case rel => exact ⟨k + 1, _, by omega, by go_num, rfl, by omega, by omega, Lib.hid HF, HB.out.alloc hsz _⟩
             case measure => simp [intOf]; omega)
    · obtain rfl : k = l.length := by omega
      have HF : Hid (few l = true) := Lib.hid (by rw [ht.out, List.drop_length]; rfl)
      clear ht hb
      go_wp2
      go_ret
      exact ⟨by rw [HF.out]; rfl, HB.out⟩
set_option maxHeartbeats 1600000 in
theorem alike_calls (A B : Option Addr) (c d : Nat) (a b : List Sp) (w : World) (ha : RdSp w A a) (hb : RdSp w B b) (hma : a.length ≤ 1000000000) (hmb : b.length ≤ 1000000000) :
    Calls Tryz.prog 106 #[.slice A a.length c, .slice B b.length d] w fun e w' => e = .returned (.bool (decide (a = b))) ∧ Drawn0 w w' := by
  have HA := Lib.hid ha
  have HB := Lib.hid hb
  clear ha hb
  by_cases hl : a.length = b.length
  · have hlb : ((a.length : Int) != (b.length : Int)) = false := by simp [hl]
    have hlc : ((a.length : Int) == (b.length : Int)) = true := by simp [hl]
    have HL := Lib.hid hl
    clear hl
    go_enter Tryz.func106, Tryz.ntmps106
    go_wp2
    repeat (go_quiet (fail); try go_wp2)
    go_loopw [13] (fun i wr => ∃ k : Nat, k ≤ a.length ∧ i = .int .i64 k ∧ Hid (a.take k = b.take k) ∧ Drawn0 w wr) (fun i _ => a.length - (intOf i).toNat)
    case atStart => exact ⟨0, by omega, rfl, rfl, by repeat (first | exact Drawn0.refl _ | apply Drawn0.step)⟩
    case round =>
      obtain ⟨k, hk, rfl, ht, ⟨m, rfl⟩⟩ := hrel
      by_cases hlt : k < a.length
      · have hlt2 : k < b.length := by have := HL.out; omega
        obtain ⟨ad, rfl, hc, hc'⟩ := HA.out.at_ k hlt
        obtain ⟨bd, rfl, hd, hd'⟩ := HB.out.at_ k hlt2
        by_cases he : a[k] = b[k]
        · have HT : Hid (a.take (k + 1) = b.take (k + 1)) := Lib.hid (by rw [List.take_succ_eq_append_getElem hlt, List.take_succ_eq_append_getElem hlt2, ht.out, he])
          rw [← he] at hd hd'
          obtain ⟨⟨o, q⟩, hs⟩ : ∃ s, s = a[k] := ⟨_, rfl⟩
          rw [← hs] at hc hc' hd hd'
          simp only at hc hc' hd hd'
          clear ht he hs
          go_wp2_with (fail)
          go_quiet (fail)
          go_wp2
          go_roundw
          case rel => exact ⟨k + 1, by omega, by go_num, HT, by repeat (first | exact Drawn0.refl _ | apply Drawn0.step)⟩
          case measure => simp [intOf]; omega
        · have HF : Hid (decide (a = b) = false) := Lib.hid (by
            rw [decide_eq_false]
            rintro rfl
            exact he rfl)
          obtain ⟨⟨o, q⟩, hs⟩ : ∃ s, s = a[k] := ⟨_, rfl⟩
          obtain ⟨⟨o2, q2⟩, hs2⟩ : ∃ s, s = b[k] := ⟨_, rfl⟩
          rw [← hs] at hc hc' he
          rw [← hs2] at hd hd' he
          simp only at hc hc' hd hd'
          by_cases h1 : o = o2
          · have h2 : ¬ q = q2 := fun h => he (by rw [h1, h])
            subst h1
            have e1 : (q == q2) = false := by simpa using h2
            have e2 : (q != q2) = true := by simpa using h2
            clear ht he hs hs2 h2
            go_wp2_with (fail)
            go_quiet (fail)
            go_wp2
            go_ret
            exact ⟨by rw [HF.out]; rfl, by repeat (first | exact Drawn0.refl _ | apply Drawn0.step)⟩
          · have e1 : (o == o2) = false := by simpa using h1
            have e2 : (o != o2) = true := by simpa using h1
            clear ht he hs hs2 h1
            go_wp2_with (fail)
            go_quiet (fail)
            go_wp2
            go_ret
            exact ⟨by rw [HF.out]; rfl, by repeat (first | exact Drawn0.refl _ | apply Drawn0.step)⟩
      · obtain rfl : k = a.length := by omega
        have HT : Hid (decide (a = b) = true) := Lib.hid (decide_eq_true (by have h := ht.out; rw [List.take_length, HL.out, List.take_length] at h; exact h))
        clear ht
        go_wp2
        repeat (go_quiet (fail); try go_wp2)
        go_ret
        exact ⟨by rw [HT.out]; rfl, by repeat (first | exact Drawn0.refl _ | apply Drawn0.step)⟩
  · have hlb : ((a.length : Int) != (b.length : Int)) = true := by simp; omega
    have hlc : ((a.length : Int) == (b.length : Int)) = false := by simp; omega
    have HT := Lib.hid (show decide (a = b) = false from decide_eq_false fun h => hl (by rw [h]))
    clear hl
    go_enter Tryz.func106, Tryz.ntmps106
    go_wp2
    repeat (go_quiet (fail); try go_wp2)
    go_ret
    exact ⟨by rw [HT.out]; rfl, by repeat (first | exact Drawn0.refl _ | apply Drawn0.step)⟩
set_option maxHeartbeats 1600000 in
theorem tells_calls (v : Value) (c : Nat) (nm : ByteArray) (n : Nat) (w : World) (h : Err w v (plc c nm n) .nilIface) (hc : c ≠ 0) :
    Calls Tryz.prog 38 #[v, .agg #[.int .i64 c, .string nm, .int .i64 n]] w fun e w' => e = .returned (.bool true) ∧ Below w.heap.size w w' := by
  have hb0 := below_alloc (Below.refl w.heap.size w) (.cells #[.int .i64 c, .string nm, .int .i64 n] 37)
  have HB0 := Lib.hid hb0
  have hpl : plc (c : Int) nm n = [⟨c, nm, n⟩, ⟨c, ⟨#[]⟩, 0⟩] := if_neg (by omega)
  rw [hpl] at h
  have h0 := h.below hb0
  have HAT := Lib.hid (FailE.at_calls nm h0)
  rw [show FailE.atF [⟨(c : Int), nm, (n : Int)⟩, ⟨c, ⟨#[]⟩, 0⟩] nm = ((n : Int), true) from if_pos rfl] at HAT
  have HK := Lib.hid (blk_last w (.cells #[.int .i64 c, .string nm, .int .i64 n] 37))
  have H0 := Lib.hid h0
  clear hb0 hpl h h0
  go_enter Tryz.func38, Tryz.ntmps38
  go_wp2_with (fail)
  refine HAT.out.mono ?_
  rintro e w1 ⟨rfl, hb1⟩
  have HB1 := Lib.hid (below_then HB0.out HB0.out.size hb1)
  have hk1 := (Ch.of_below (S := fun _ => False) hb1).blk HK.out (fun x => x)
  have HS := Lib.hid (fun W (hb : Below w1.heap.size w1 W) => (⟨hb, obj_cell (i := 0) ((Ch.of_below (S := fun _ => False) hb).blk hk1 (fun x => x)) rfl, obj_cell (i := 2) ((Ch.of_below (S := fun _ => False) hb).blk hk1 (fun x => x)) rfl⟩ : Below w1.heap.size w1 W ∧ W.cell? ⟨w.heap.size, 0, none⟩ = some (.int .i64 c) ∧ W.cell? ⟨w.heap.size, 2, none⟩ = some (.int .i64 n)))
  have HCO : Hid (∀ W, Below w1.heap.size w1 W → Calls Tryz.prog 50 #[v] W fun e w' => e = .returned (.int .i64 c) ∧ Below w1.heap.size w1 w') := Lib.hid (fun W hb => lift hb hb.size (code_calls ((H0.out.below hb1).below hb)))
  have HDE : Hid (∀ W, Below w1.heap.size w1 W → Calls Tryz.prog 79 #[v] W fun e w' => e = .returned (.int .i64 2) ∧ Below w1.heap.size w1 w') := Lib.hid (fun W hb => lift hb hb.size (FailE.depth_calls ((H0.out.below hb1).below hb) (by simp)))
  have hcc : ((c : Int) == (c : Int)) = true := by simp
  have hnn : ((n : Int) == (n : Int)) = true := by simp
  have hs1 := HS.out w1 (Below.refl _ _)
  clear hb1 hk1 HAT
  go_wp2_with (fail)
  go_region_held3 (fun W => Below w1.heap.size w1 W ∧ W.cell? ⟨w.heap.size, 0, none⟩ = some (.int .i64 c) ∧ W.cell? ⟨w.heap.size, 2, none⟩ = some (.int .i64 n))
    (first | exact HS.out _ (below_drew (by first | exact Below.refl _ _ | exact (And.left (by assumption)))) | exact HS.out _ (by assumption) | assumption)
    (first
    | (go_at_call 50; refine (HCO.out _ (And.left (by assumption))).mono ?_; rintro e w2 ⟨rfl, hb2⟩)
    | (go_at_call 79; refine (HDE.out _ (And.left (by assumption))).mono ?_; rintro e w2 ⟨rfl, hb3⟩))
  go_wp2
  go_ret
  exact ⟨rfl, below_then HB1.out HB1.out.size (by assumption)⟩
end Go.Proofs.YtjfekjbmgckkcaaGreatDoor.Law18A

/- law 14: a head as the document has it. -/
namespace Go.Proofs.YtjfekjbmgckkcaaGreatDoor.Law14D
open Go.RowKit Go.Proofs.YtjfekjbmgckkcaaGreatDoorW.PrintWords
open Go.Proofs.YtjfekjbmgckkcaaGreatDoor.Bits Go.Proofs.YtjfekjbmgckkcaaGreatDoor.Base Go.Proofs.YtjfekjbmgckkcaaGreatDoor.VarKit Go.Proofs.YtjfekjbmgckkcaaGreatDoor.StreamA Go.Proofs.YtjfekjbmgckkcaaGreatDoor.SpanPure Go.Proofs.YtjfekjbmgckkcaaGreatDoor.SpanBase Go.Proofs.YtjfekjbmgckkcaaGreatDoor.HeadA Go.Proofs.YtjfekjbmgckkcaaGreatDoor.HeadB Go.Proofs.YtjfekjbmgckkcaaGreatDoor.HeadL Go.Proofs.YtjfekjbmgckkcaaGreatDoor.Ref12 Go.Proofs.YtjfekjbmgckkcaaGreatDoor.Law14A

/-- what stands while a head is told anew. -/
structure St (w : World) (o : Obj) (W : World) : Prop where
  b : Below w.heap.size w W
  o : W.heap[w.heap.size]? = some o
  z : ∃ cs : Array Value, cs.size = 6 ∧ W.heap[w.heap.size + 1]? = some (.cells cs 41 (0, 0))
theorem St.drew {w W : World} {o : Obj} (h : St w o W) : St w o W.drew := ⟨below_drew h.b, h.o, h.z⟩
theorem St.six {w W : World} {o : Obj} (h : St w o W) (v0 v1 v2 v3 v4 v5 : Value) : St w o (six W (w.heap.size + 1) v0 v1 v2 v3 v4 v5) :=
  ⟨(((((h.b.setCell (Nat.le_succ _) v0).setCell (Nat.le_succ _) v1).setCell (Nat.le_succ _) v2).setCell (Nat.le_succ _) v3).setCell (Nat.le_succ _) v4).setCell (Nat.le_succ _) v5,
    (six_ch W (w.heap.size + 1) v0 v1 v2 v3 v4 v5).blk h.o (by omega), by
    obtain ⟨cs, hs, hz⟩ := h.z
    exact ⟨_, by simpa using hs, blk_set (blk_set (blk_set (blk_set (blk_set (blk_set hz 0 v0) 1 v1) 2 v2) 3 v3) 4 v4) 5 v5⟩⟩
theorem St.below {w W W2 : World} {o : Obj} (h : St w o W) (hb : Below W.heap.size W W2) : St w o W2 :=
  ⟨below_then h.b h.b.size hb, (Ch.of_below (S := fun _ => False) hb).blk h.o (fun x => x), by
    obtain ⟨cs, hs, hz⟩ := h.z
    exact ⟨cs, hs, (Ch.of_below (S := fun _ => False) hb).blk hz (fun x => x)⟩⟩
theorem St.free {w W : World} {o : Obj} (h : St w o W) : ∃ u0 u1 u2 u3 u4 u5 : Value, (W.frozen? ⟨w.heap.size + 1, 0, none⟩ = false ∧ W.frozen? ⟨w.heap.size + 1, 1, none⟩ = false ∧ W.frozen? ⟨w.heap.size + 1, 2, none⟩ = false ∧ W.frozen? ⟨w.heap.size + 1, 3, none⟩ = false ∧ W.frozen? ⟨w.heap.size + 1, 4, none⟩ = false ∧ W.frozen? ⟨w.heap.size + 1, 5, none⟩ = false) ∧
    (W.cell? ⟨w.heap.size + 1, 0, none⟩ = some u0 ∧ W.cell? ⟨w.heap.size + 1, 1, none⟩ = some u1 ∧ W.cell? ⟨w.heap.size + 1, 2, none⟩ = some u2 ∧ W.cell? ⟨w.heap.size + 1, 3, none⟩ = some u3 ∧ W.cell? ⟨w.heap.size + 1, 4, none⟩ = some u4 ∧ W.cell? ⟨w.heap.size + 1, 5, none⟩ = some u5) := by
  obtain ⟨cs, hs, hz⟩ := h.z
  have hc : ∀ i, i < 6 → cs[i]? = some (cs.getD i undef) := fun i hi => by simp [Array.getD, hs, hi]
  exact ⟨_, _, _, _, _, _, ⟨obj_free hz, obj_free hz, obj_free hz, obj_free hz, obj_free hz, obj_free hz⟩, ⟨obj_cell hz (hc 0 (by decide)), obj_cell hz (hc 1 (by decide)), obj_cell hz (hc 2 (by decide)), obj_cell hz (hc 3 (by decide)), obj_cell hz (hc 4 (by decide)), obj_cell hz (hc 5 (by decide))⟩⟩
theorem sps_any {S : Nat → Prop} {e base : Nat} {w w1 : World} {v : Value} {l : List Sp} (h : OwSp e w base v l) (hc : Ch S w w1) (hS : ∀ k, S k → k < base) : OwSp e w1 base v l :=
  h.move fun g hg => hc.block g (h.lt_ g hg) fun hs => Nat.lt_irrefl _ (Nat.lt_of_lt_of_le (hS g hs) (h.base_ g hg))
theorem spl_any {w : World} {base : Nat} {e : Nat} {A : Option Addr} {n c : Nat} {l : List Sp} (h : OwSp e w base (.slice A n c) l) (hl : l.length ≤ 1000000) : Spl w A c l := by
  obtain ⟨A', c', he, h1, h2, h3⟩ := h.reads
  injection he with e1 e2 e3
  subst e1 e3
  exact ⟨h3, hl, h1, h2⟩
set_option maxRecDepth 100000 in
set_option maxHeartbeats 3200000 in
theorem ref_calls (h : Hd) (p : Lc) (w : World) (hh : HdIn w h p) :
    Calls Tryz.prog 19 #[.agg (hcs h p).toArray] w fun e w' => ∃ r : Lc, e = .returned (.agg (hcs h r).toArray) ∧ HdIn w' h r ∧ Below w.heap.size w w' := by
  obtain ⟨vr, hint, schema, zt, pos, neg⟩ := h
  obtain ⟨A, c, B, d⟩ := p
  obtain ⟨hp, hn, hz⟩ := hh
  simp only at hp hn hz
  show Calls Tryz.prog 19 #[.agg #[.int .i64 vr, .int .i64 hint, .int .i64 schema, .int .u64 zt, .slice A pos.length c, .slice B neg.length d]] w _
  obtain ⟨o0, ho0, hs0⟩ : ∃ o : Obj, o = (.cells #[.int .i64 vr, .int .i64 hint, .int .i64 schema, .int .u64 zt, .slice A pos.length c, .slice B neg.length d] 25 (0, 0)) ∧ St w o ((w.alloc (.cells #[.int .i64 vr, .int .i64 hint, .int .i64 schema, .int .u64 zt, .slice A pos.length c, .slice B neg.length d] 25)).alloc (.cells #[.int .i64 0, .int .i64 0, .int .i64 0, .int .u64 0, .slice none 0 0, .slice none 0 0] 41)) := ⟨_, rfl, ⟨below_alloc (below_alloc (Below.refl _ _) _) _, (Below.heap_alloc (w.alloc (.cells #[.int .i64 vr, .int .i64 hint, .int .i64 schema, .int .u64 zt, .slice A pos.length c, .slice B neg.length d] 25)) (.cells #[.int .i64 0, .int .i64 0, .int .i64 0, .int .u64 0, .slice none 0 0, .slice none 0 0] 41) w.heap.size (blk_lt (blk_last w _))).trans (blk_last w _), ⟨_, rfl, by
    have := blk_last (w.alloc (.cells #[.int .i64 vr, .int .i64 hint, .int .i64 schema, .int .u64 zt, .slice A pos.length c, .slice B neg.length d] 25)) (.cells #[.int .i64 0, .int .i64 0, .int .i64 0, .int .u64 0, .slice none 0 0, .slice none 0 0] 41)
    rwa [show (w.alloc (.cells #[.int .i64 vr, .int .i64 hint, .int .i64 schema, .int .u64 zt, .slice A pos.length c, .slice B neg.length d] 25)).heap.size = w.heap.size + 1 from by simp] at this⟩⟩⟩
  have HSF : Hid (∀ W, St w (.cells #[.int .i64 vr, .int .i64 hint, .int .i64 schema, .int .u64 zt, .slice A pos.length c, .slice B neg.length d] 25 (0, 0)) W → (St w (.cells #[.int .i64 vr, .int .i64 hint, .int .i64 schema, .int .u64 zt, .slice A pos.length c, .slice B neg.length d] 25 (0, 0)) W ∧ W.cell? ⟨w.heap.size, 0, none⟩ = some (.int .i64 vr) ∧ W.cell? ⟨w.heap.size, 1, none⟩ = some (.int .i64 hint) ∧ W.cell? ⟨w.heap.size, 2, none⟩ = some (.int .i64 schema) ∧ W.cell? ⟨w.heap.size, 3, none⟩ = some (.int .u64 zt) ∧ W.cell? ⟨w.heap.size, 4, none⟩ = some (.slice A pos.length c) ∧ W.cell? ⟨w.heap.size, 5, none⟩ = some (.slice B neg.length d))) := Lib.hid (fun W h => ⟨h, obj_cell h.o rfl, obj_cell h.o rfl, obj_cell h.o rfl, obj_cell h.o rfl, obj_cell h.o rfl, obj_cell h.o rfl⟩)
  rw [← ho0] at HSF
  have HPN : Hid (∀ (A' : Option Addr) (c' : Nat) (l : List Sp) W, St w o0 W → Spl w A' c' l → Calls Tryz.prog 78 #[.slice A' l.length c'] W fun e w' =>
      ∃ v, e = .returned v ∧ OwSp 214 w' W.heap.size v l ∧ Below W.heap.size W w' ∧ St w o0 w') := Lib.hid (by
    intro A' c' l W hb hl
    refine (spans_calls _ _ l W (hl.below hb.b).rd hl.len).mono ?_
    rintro e w' ⟨v, he, hw, hb'⟩
    exact ⟨v, he, hw, hb', hb.below hb'⟩)
  have HS0 := Lib.hid hs0
  have HZ := Lib.hid hz
  have HPS := Lib.hid hp
  have HNS := Lib.hid hn
  clear hp hn hz ho0 hs0
  go_enter Tryz.func19, Tryz.ntmps19
  go_wp2_with (fail)
  go_region_held3 (fun W => St w o0 W ∧ W.cell? ⟨w.heap.size, 0, none⟩ = some (.int .i64 vr) ∧ W.cell? ⟨w.heap.size, 1, none⟩ = some (.int .i64 hint) ∧ W.cell? ⟨w.heap.size, 2, none⟩ = some (.int .i64 schema) ∧ W.cell? ⟨w.heap.size, 3, none⟩ = some (.int .u64 zt) ∧ W.cell? ⟨w.heap.size, 4, none⟩ = some (.slice A pos.length c) ∧ W.cell? ⟨w.heap.size, 5, none⟩ = some (.slice B neg.length d))
    (first | (with_reducible exact HSF.out _ (St.drew HS0.out)) | (with_reducible exact HSF.out _ hst2) | (with_reducible exact HSF.out _ hst1) | (exact HSF.out _ (St.six hst2 _ _ _ _ _ _)))
    (first
    | (go_at_call 78; (with_reducible show Calls _ _ #[Value.slice A pos.length c] _ _); refine (HPN.out _ _ _ _ (And.left (by assumption)) HPS.out).mono ?_; rintro e w2 ⟨v1, rfl, ho1, hb1, hst1⟩; obtain ⟨A1, c1, rfl, -, -, -⟩ := ho1.reads; have hS1 := HSF.out _ hst1)
    | (go_at_call 78; refine (HPN.out _ _ _ _ (And.left (by assumption)) HNS.out).mono ?_; rintro e w3 ⟨v2, rfl, ho2, hb2, hst2⟩; obtain ⟨A2, c2, rfl, -, -, -⟩ := ho2.reads; have hS2 := HSF.out _ hst2; obtain ⟨u0, u1, u2, u3, u4, u5, ⟨f0, f1, f2, f3, f4, f5⟩, ⟨e0, e1, e2, e3, e4, e5⟩⟩ := hst2.free))
  have h6 := (St.six hst2 (.int .i64 vr) (.int .i64 hint) (.int .i64 schema) (.int .u64 zt) (.slice A1 pos.length c1) (.slice A2 neg.length c2)).b
  have hx := six_ch w3 (w.heap.size + 1) (.int .i64 vr) (.int .i64 hint) (.int .i64 schema) (.int .u64 zt) (.slice A1 pos.length c1) (.slice A2 neg.length c2)
  have hst1s := hst1.b.size
  have q1 := sps_any (ho1.below hb2) hx (fun k hk => by rw [hk]; simp)
  have q2 := sps_any ho2 hx (fun k hk => by rw [hk]; obtain ⟨cs, -, hz⟩ := hst1.z; exact blk_lt hz)
  have H6 := Lib.hid h6
  have Q1 := Lib.hid q1
  have Q2 := Lib.hid q2
  clear h6 hx q1 q2 ho1 ho2 hb1 hb2 hS1 hS2 hst1 hst2 hst1s
  go_wp2
  refine bodyPost_ret (v := .agg #[.int .i64 vr, .int .i64 hint, .int .i64 schema, .int .u64 zt, .slice A1 pos.length c1, .slice A2 neg.length c2]) (by rw [results_cell1 rfl]; go_simp) rfl ?_
  exact ⟨⟨A1, c1, A2, c2⟩, rfl, ⟨spl_any Q1.out HPS.out.len, spl_any Q2.out HNS.out.len, HZ.out⟩, H6.out⟩
end Go.Proofs.YtjfekjbmgckkcaaGreatDoor.Law14D

/- law 18: a head as the document has it. -/
namespace Go.Proofs.YtjfekjbmgckkcaaGreatDoor.Law18B
open Go.RowKit Go.Proofs.YtjfekjbmgckkcaaGreatDoorW.PrintWords
open Go.Proofs.YtjfekjbmgckkcaaGreatDoor.Bits Go.Proofs.YtjfekjbmgckkcaaGreatDoor.Base Go.Proofs.YtjfekjbmgckkcaaGreatDoor.VarPure Go.Proofs.YtjfekjbmgckkcaaGreatDoor.VarKit Go.Proofs.YtjfekjbmgckkcaaGreatDoor.StreamA Go.Proofs.YtjfekjbmgckkcaaGreatDoor.StreamR Go.Proofs.YtjfekjbmgckkcaaGreatDoor.SpanPure Go.Proofs.YtjfekjbmgckkcaaGreatDoor.SpanBase Go.Proofs.YtjfekjbmgckkcaaGreatDoor.FailAs Go.Proofs.YtjfekjbmgckkcaaGreatDoor.FailB Go.Proofs.YtjfekjbmgckkcaaGreatDoor.FailC Go.Proofs.YtjfekjbmgckkcaaGreatDoor.HeadA Go.Proofs.YtjfekjbmgckkcaaGreatDoor.HeadB Go.Proofs.YtjfekjbmgckkcaaGreatDoor.HeadC Go.Proofs.YtjfekjbmgckkcaaGreatDoor.HeadE Go.Proofs.YtjfekjbmgckkcaaGreatDoor.HeadL Go.Proofs.YtjfekjbmgckkcaaGreatDoor.Ref01 Go.Proofs.YtjfekjbmgckkcaaGreatDoor.Ref12 Go.Proofs.YtjfekjbmgckkcaaGreatDoor.Ref14A Go.Proofs.YtjfekjbmgckkcaaGreatDoor.Law14C Go.Proofs.YtjfekjbmgckkcaaGreatDoor.Law14D Go.Proofs.YtjfekjbmgckkcaaGreatDoor.Law18A

set_option maxRecDepth 100000 in
set_option maxHeartbeats 3200000 in
theorem heads_calls (h : Hd) (p : Lc) (w : World) (hh : HdIn w h p) :
    Calls Tryz.prog 37 #[.agg (hcs h p).toArray] w fun e w' => ∃ r : Lc, e = .returned (.agg (hcs h r).toArray) ∧ HdIn w' h r ∧ Below w.heap.size w w' := by
  obtain ⟨vr, hint, schema, zt, pos, neg⟩ := h
  obtain ⟨A, c, B, d⟩ := p
  obtain ⟨hp, hn, hz⟩ := hh
  simp only at hp hn hz
  show Calls Tryz.prog 37 #[.agg #[.int .i64 vr, .int .i64 hint, .int .i64 schema, .int .u64 zt, .slice A pos.length c, .slice B neg.length d]] w _
  obtain ⟨o0, ho0, hs0⟩ : ∃ o : Obj, o = (.cells #[.int .i64 vr, .int .i64 hint, .int .i64 schema, .int .u64 zt, .slice A pos.length c, .slice B neg.length d] 25 (0, 0)) ∧ St w o ((w.alloc (.cells #[.int .i64 vr, .int .i64 hint, .int .i64 schema, .int .u64 zt, .slice A pos.length c, .slice B neg.length d] 25)).alloc (.cells #[.int .i64 0, .int .i64 0, .int .i64 0, .int .u64 0, .slice none 0 0, .slice none 0 0] 41)) := ⟨_, rfl, ⟨below_alloc (below_alloc (Below.refl _ _) _) _, (Below.heap_alloc (w.alloc (.cells #[.int .i64 vr, .int .i64 hint, .int .i64 schema, .int .u64 zt, .slice A pos.length c, .slice B neg.length d] 25)) (.cells #[.int .i64 0, .int .i64 0, .int .i64 0, .int .u64 0, .slice none 0 0, .slice none 0 0] 41) w.heap.size (blk_lt (blk_last w _))).trans (blk_last w _), ⟨_, rfl, by
    have := blk_last (w.alloc (.cells #[.int .i64 vr, .int .i64 hint, .int .i64 schema, .int .u64 zt, .slice A pos.length c, .slice B neg.length d] 25)) (.cells #[.int .i64 0, .int .i64 0, .int .i64 0, .int .u64 0, .slice none 0 0, .slice none 0 0] 41)
    rwa [show (w.alloc (.cells #[.int .i64 vr, .int .i64 hint, .int .i64 schema, .int .u64 zt, .slice A pos.length c, .slice B neg.length d] 25)).heap.size = w.heap.size + 1 from by simp] at this⟩⟩⟩
  have HSF : Hid (∀ W, St w (.cells #[.int .i64 vr, .int .i64 hint, .int .i64 schema, .int .u64 zt, .slice A pos.length c, .slice B neg.length d] 25 (0, 0)) W → (St w (.cells #[.int .i64 vr, .int .i64 hint, .int .i64 schema, .int .u64 zt, .slice A pos.length c, .slice B neg.length d] 25 (0, 0)) W ∧ W.cell? ⟨w.heap.size, 0, none⟩ = some (.int .i64 vr) ∧ W.cell? ⟨w.heap.size, 1, none⟩ = some (.int .i64 hint) ∧ W.cell? ⟨w.heap.size, 2, none⟩ = some (.int .i64 schema) ∧ W.cell? ⟨w.heap.size, 3, none⟩ = some (.int .u64 zt) ∧ W.cell? ⟨w.heap.size, 4, none⟩ = some (.slice A pos.length c) ∧ W.cell? ⟨w.heap.size, 5, none⟩ = some (.slice B neg.length d))) := Lib.hid (fun W h => ⟨h, obj_cell h.o rfl, obj_cell h.o rfl, obj_cell h.o rfl, obj_cell h.o rfl, obj_cell h.o rfl, obj_cell h.o rfl⟩)
  rw [← ho0] at HSF
  have HPN : Hid (∀ (A' : Option Addr) (c' : Nat) (l : List Sp) W, St w o0 W → Spl w A' c' l → Calls Tryz.prog 101 #[.slice A' l.length c'] W fun e w' =>
      ∃ v, e = .returned v ∧ OwSp 214 w' W.heap.size v l ∧ Below W.heap.size W w' ∧ St w o0 w') := Lib.hid (by
    intro A' c' l W hb hl
    refine (Law18A.spans_calls _ _ l W (hl.below hb.b).rd hl.len).mono ?_
    rintro e w' ⟨v, he, hw, hb'⟩
    exact ⟨v, he, hw, hb', hb.below hb'⟩)
  have HS0 := Lib.hid hs0
  have HZ := Lib.hid hz
  have HPS := Lib.hid hp
  have HNS := Lib.hid hn
  clear hp hn hz ho0 hs0
  go_enter Tryz.func37, Tryz.ntmps37
  go_wp2_with (fail)
  go_region_held3 (fun W => St w o0 W ∧ W.cell? ⟨w.heap.size, 0, none⟩ = some (.int .i64 vr) ∧ W.cell? ⟨w.heap.size, 1, none⟩ = some (.int .i64 hint) ∧ W.cell? ⟨w.heap.size, 2, none⟩ = some (.int .i64 schema) ∧ W.cell? ⟨w.heap.size, 3, none⟩ = some (.int .u64 zt) ∧ W.cell? ⟨w.heap.size, 4, none⟩ = some (.slice A pos.length c) ∧ W.cell? ⟨w.heap.size, 5, none⟩ = some (.slice B neg.length d))
    (first | (with_reducible exact HSF.out _ (St.drew HS0.out)) | (with_reducible exact HSF.out _ hst2) | (with_reducible exact HSF.out _ hst1) | (exact HSF.out _ (St.six hst2 _ _ _ _ _ _)))
    (first
    | (go_at_call 101; (with_reducible show Calls _ _ #[Value.slice A pos.length c] _ _); refine (HPN.out _ _ _ _ (And.left (by assumption)) HPS.out).mono ?_; rintro e w2 ⟨v1, rfl, ho1, hb1, hst1⟩; obtain ⟨A1, c1, rfl, -, -, -⟩ := ho1.reads; have hS1 := HSF.out _ hst1)
    | (go_at_call 101; refine (HPN.out _ _ _ _ (And.left (by assumption)) HNS.out).mono ?_; rintro e w3 ⟨v2, rfl, ho2, hb2, hst2⟩; obtain ⟨A2, c2, rfl, -, -, -⟩ := ho2.reads; have hS2 := HSF.out _ hst2; obtain ⟨u0, u1, u2, u3, u4, u5, ⟨f0, f1, f2, f3, f4, f5⟩, ⟨e0, e1, e2, e3, e4, e5⟩⟩ := hst2.free))
  have h6 := (St.six hst2 (.int .i64 vr) (.int .i64 hint) (.int .i64 schema) (.int .u64 zt) (.slice A1 pos.length c1) (.slice A2 neg.length c2)).b
  have hx := six_ch w3 (w.heap.size + 1) (.int .i64 vr) (.int .i64 hint) (.int .i64 schema) (.int .u64 zt) (.slice A1 pos.length c1) (.slice A2 neg.length c2)
  have hst1s := hst1.b.size
  have q1 := sps_any (ho1.below hb2) hx (fun k hk => by rw [hk]; simp)
  have q2 := sps_any ho2 hx (fun k hk => by rw [hk]; obtain ⟨cs, -, hz⟩ := hst1.z; exact blk_lt hz)
  have H6 := Lib.hid h6
  have Q1 := Lib.hid q1
  have Q2 := Lib.hid q2
  clear h6 hx q1 q2 ho1 ho2 hb1 hb2 hS1 hS2 hst1 hst2 hst1s
  go_wp2
  refine bodyPost_ret (v := .agg #[.int .i64 vr, .int .i64 hint, .int .i64 schema, .int .u64 zt, .slice A1 pos.length c1, .slice A2 neg.length c2]) (by rw [results_cell1 rfl]; go_simp) rfl ?_
  exact ⟨⟨A1, c1, A2, c2⟩, rfl, ⟨spl_any Q1.out HPS.out.len, spl_any Q2.out HNS.out.len, HZ.out⟩, H6.out⟩
end Go.Proofs.YtjfekjbmgckkcaaGreatDoor.Law18B

/- head's walks: Get. -/
namespace Go.Proofs.YtjfekjbmgckkcaaGreatDoor.HeadM
open Go.RowKit Go.Proofs.YtjfekjbmgckkcaaGreatDoorW.PrintWords
open Go.Proofs.YtjfekjbmgckkcaaGreatDoor.Bits Go.Proofs.YtjfekjbmgckkcaaGreatDoor.Base Go.Proofs.YtjfekjbmgckkcaaGreatDoor.VarPure Go.Proofs.YtjfekjbmgckkcaaGreatDoor.VarbitA Go.Proofs.YtjfekjbmgckkcaaGreatDoor.StreamA Go.Proofs.YtjfekjbmgckkcaaGreatDoor.StreamR Go.Proofs.YtjfekjbmgckkcaaGreatDoor.SpanPure Go.Proofs.YtjfekjbmgckkcaaGreatDoor.SpanBase Go.Proofs.YtjfekjbmgckkcaaGreatDoor.FailAs Go.Proofs.YtjfekjbmgckkcaaGreatDoor.FailB Go.Proofs.YtjfekjbmgckkcaaGreatDoor.FailC Go.Proofs.YtjfekjbmgckkcaaGreatDoor.ThrPure Go.Proofs.YtjfekjbmgckkcaaGreatDoor.ReadP Go.Proofs.YtjfekjbmgckkcaaGreatDoor.HeadA Go.Proofs.YtjfekjbmgckkcaaGreatDoor.HeadB Go.Proofs.YtjfekjbmgckkcaaGreatDoor.HeadE Go.Proofs.YtjfekjbmgckkcaaGreatDoor.HeadF Go.Proofs.YtjfekjbmgckkcaaGreatDoor.HeadH Go.Proofs.YtjfekjbmgckkcaaGreatDoor.HeadJ Go.Proofs.YtjfekjbmgckkcaaGreatDoor.HeadL

set_option maxRecDepth 100000 in
set_option maxHeartbeats 6400000 in
theorem Get_calls (g a : Nat) (S : Nat → Prop) (q : List Bool) (w : World) (hT : Tab w) (hE : GlE w) (hG : ¬ S 1) (hGE : ¬ S 0) (h : Rr w g S a q false) :
    Calls Tryz.prog 28 #[.pointer (some ⟨g, 0, none⟩)] w (HP (pHead q) g a S w) := by
  have hal : Below w.heap.size w (w.alloc (.cells zcs 25)) := below_alloc (Below.refl _ _) _
  have hN : ¬ S w.heap.size := fun x => Nat.lt_irrefl _ (h.old _ x)
  have HEB := Lib.hid (Nat.ne_of_lt (gle_lt hE) : 0 ≠ w.heap.size)
  have HN := Lib.hid hN
  have HT := Lib.hid (hT.below hal)
  have HE := Lib.hid (gle_below hE hal)
  have HG := Lib.hid hG
  have HGE := Lib.hid hGE
  have HOLD := Lib.hid h.old
  have HC0 := Lib.hid (Ch.of_below (S := S) hal)
  have HB0 := Lib.hid (blk_last w (.cells zcs 25))
  have HBE := Lib.hid (begin_calls g a S q _ HT.out HE.out hG hGE (h.below hal))
  obtain ⟨r, hr⟩ : ∃ r, r = pBegin q := ⟨_, rfl⟩
  rw [← hr] at HBE
  have HP : Hid (∀ P N, P = pGet r.rest → N = pGet P.rest → pHead q = if r.err ≠ 0 then r
    else if P.err ≠ 0 then ⟨P.err, pPos, P.val.length, hd0, 0, []⟩
    else if N.err ≠ 0 then ⟨N.err, pNeg, N.val.length, hd0, 0, []⟩
    else ⟨0, pNeg, 0, { r.val with pos := P.val, neg := N.val }, r.used + P.used + N.used, N.rest⟩) := Lib.hid (by rintro P N rfl rfl; rw [hr]; rfl)
  clear hal hN hT hE hG hGE h hr
  go_enter Tryz.func28, Tryz.ntmps28
  go_wp2_with (fail)
  refine HBE.out.mono ?_
  rintro e w1 ⟨hc1, hcase⟩
  have HC1 := Lib.hid (HC0.out.trans hc1 fun _ _ x => x)
  have HBK := Lib.hid (hc1.blk HB0.out HN.out)
  have HT1 := Lib.hid (HT.out.ch hc1 HG.out)
  have HE1 := Lib.hid (gle_ch HE.out hc1 HGE.out)
  have HLT1 := Lib.hid (blk_lt HBK.out : w.heap.size < w1.heap.size)
  clear hc1 HBE
  rcases hcase with ⟨h1, ⟨v, rfl, he⟩, h3⟩ | ⟨h1, ⟨pl, rfl, ho⟩, h3⟩
  · have HPC : Hid (pHead q = r) := Lib.hid (by rw [HP.out _ _ rfl rfl, if_pos h1])
    have hal1 : Below w1.heap.size w1 (w1.alloc (.cells zcs 25)) := below_alloc (Below.refl _ _) _
    have HEA := Lib.hid (he.below hal1)
    have HRA := Lib.hid (show ∃ a' q' sh, Rr (w1.alloc (.cells zcs 25)) g S a' q' sh from by obtain ⟨a2, q2, s2, h9⟩ := h3; exact ⟨a2, q2, s2, h9.below hal1⟩)
    have HCA := Lib.hid (HC1.out.trans (Ch.of_below (S := S) hal1) fun _ _ x => x)
    have HBA := Lib.hid ((Ch.of_below (S := fun _ => False) hal1).blk HBK.out (fun x => x))
    obtain ⟨ge, rfl⟩ := err_some (by omega) he
    have H1 := Lib.hid h1
    have f0 := obj_free (i := 0) HBA.out
    have f1 := obj_free (i := 1) HBA.out
    have f2 := obj_free (i := 2) HBA.out
    have f3 := obj_free (i := 3) HBA.out
    have f4 := obj_free (i := 4) HBA.out
    have f5 := obj_free (i := 5) HBA.out
    have c0 := obj_cell (i := 0) HBA.out rfl
    have c1 := obj_cell (i := 1) HBA.out rfl
    have c2 := obj_cell (i := 2) HBA.out rfl
    have c3 := obj_cell (i := 3) HBA.out rfl
    have c4 := obj_cell (i := 4) HBA.out rfl
    have c5 := obj_cell (i := 5) HBA.out rfl
    clear h1 he h3 HP hal1
    dsimp only [hcs, hd0]
    go_wp2
    refine bodyPost_ret (v := .tuple #[.agg zcs, .iface 182 (.pointer (some ⟨ge, 0, none⟩))]) (by rw [results_cell_tmp rfl]; go_simp) rfl ?_
    rw [HPC.out]
    refine ⟨ch_six HCA.out (Nat.le_refl _) _ _ _ _ _ _, .inl ⟨H1.out, ⟨_, rfl, err_six HEA.out HBA.out (by decide) HEB.out _ _ _ _ _ _⟩, ?_⟩⟩
    obtain ⟨a2, q2, s2, h9⟩ := HRA.out
    exact ⟨a2, q2, s2, rr_six h9 HN.out _ _ _ _ _ _⟩
  obtain ⟨re, rp, ra, ⟨vr, hint, schema, zt, rpos, rneg⟩, ru, rr⟩ := r
  obtain ⟨A0, c0, B0, d0⟩ := pl
  obtain rfl : re = 0 := h1
  simp only at h3 HP
  have hal1 : Below w1.heap.size w1 (w1.alloc (.cells #[.int .i64 vr, .int .i64 hint, .int .i64 schema, .int .u64 zt, .slice A0 rpos.length c0, .slice B0 rneg.length d0] 25)) := below_alloc (Below.refl _ _) _
  have HN1 := Lib.hid (fun x => by have h1 := HOLD.out _ x; have h2 := HC1.out.size; omega : ¬ S w1.heap.size)
  have HTA := Lib.hid (HT1.out.below hal1)
  have HEA := Lib.hid (gle_below HE1.out hal1)
  have HRA := Lib.hid (h3.below hal1)
  have HCA := Lib.hid (HC1.out.trans (Ch.of_below (S := S) hal1) fun _ _ x => x)
  have HBA := Lib.hid ((Ch.of_below (S := fun _ => False) hal1).blk HBK.out (fun x => x))
  have HKA := Lib.hid (blk_last w1 (.cells #[.int .i64 vr, .int .i64 hint, .int .i64 schema, .int .u64 zt, .slice A0 rpos.length c0, .slice B0 rneg.length d0] 25))
  have HGP := Lib.hid (HeadI.get_calls g (a + ru) S rr _ HTA.out HG.out HRA.out)
  obtain ⟨P, hP⟩ : ∃ P, P = pGet rr := ⟨_, rfl⟩
  rw [← hP] at HGP
  have HPP := Lib.hid (fun N h => HP.out P N hP h)
  have HSZ := Lib.hid (show w1.heap.size < (w1.alloc (.cells #[.int .i64 vr, .int .i64 hint, .int .i64 schema, .int .u64 zt, .slice A0 rpos.length c0, .slice B0 rneg.length d0] 25)).heap.size by simp)
  clear hP ho h3 HP hal1 HBK
  
  dsimp only [hcs]
  go_wp2_with (fail)
  refine HGP.out.mono ?_
  rintro e w2 ⟨hc2, ⟨v, rfl, hv⟩, hcase⟩
  obtain ⟨Pe, pv, Pu, Pr⟩ := P
  simp only at hv hcase HPP ⊢
  obtain ⟨A, c, rfl, hle, hnil, hrd⟩ := OwSp.reads hv
  have HV := Lib.hid hv
  have HC2 := Lib.hid (HCA.out.trans hc2 fun _ _ x => x)
  have HBK2 := Lib.hid (hc2.blk HBA.out HN.out)
  have HKK2 := Lib.hid (hc2.blk HKA.out HN1.out)
  have HT2 := Lib.hid (HTA.out.ch hc2 HG.out)
  have HE2 := Lib.hid (gle_ch HEA.out hc2 HGE.out)
  have HS2 := Lib.hid hc2.size
  have f4 := obj_free (i := 4) HKK2.out
  have c4 := obj_cell (i := 4) HKK2.out rfl
  have hcs : Ch (fun k => k = w1.heap.size) w2 (w2.setCell ⟨w1.heap.size, 4, none⟩ (.slice A pv.length c)) := (Ch.refl (fun k => k = w1.heap.size) w2).setCell (p := ⟨w1.heap.size, 4, none⟩) (.inl rfl) _
  have HBK := Lib.hid (hcs.blk HBK2.out (Nat.ne_of_lt HLT1.out))
  have HKK := Lib.hid (blk_set HKK2.out 4 (.slice A pv.length c))
  have HEN := Lib.hid (fun h => by have h5 := gle_lt HE.out; have h6 := HLT1.out; simp at h5; omega : 0 ≠ w1.heap.size)
  have HE3 := Lib.hid (gle_ch HE2.out hcs HEN.out)
  have HC3 := Lib.hid (HC2.out.setCell (p := ⟨w1.heap.size, 4, none⟩) (.inr (Nat.le_of_lt HLT1.out)) (.slice A pv.length c))
  have HRC := Lib.hid (fun a q sh (h : Rr w2 g S a q sh) => h.ch hcs (fun k hk he => HN1.out (he ▸ hk)))
  have HV3 := Lib.hid (sps_ch hv hcs (fun k hk => by rw [hk]; exact HSZ.out))
  have HCS3 := Lib.hid hcs
  clear hv hc2 hrd hle hnil hcs HGP
  by_cases h1 : Pe ≠ 0
  · have hcase : ∃ a' q' sh, Rr w2 g S a' q' sh := hcase.elim (fun h => h.2) (fun h => absurd h.1 h1)
    have HR3 := Lib.hid hcase
    have HPC : Hid (pHead q = ⟨Pe, pPos, pv.length, hd0, 0, []⟩) := Lib.hid (by rw [HPP.out _ rfl, if_neg (fun h => h rfl), if_pos h1])
    have HAT := Lib.hid (HeadA.at_calls Pe pPos pv.length _ HE3.out)
    have e2 : ((Pe : Int) != 0) = true := by simp; omega
    have H1 := Lib.hid h1
    clear hcase h1 HPP
    go_wp2_with (fail)
    refine HAT.out.mono ?_
    rintro e w9 ⟨v9, rfl, he9, hb9⟩
    have hk9 := (Ch.of_below (S := fun _ => False) hb9).blk HBK.out (fun x => x)
    have f0 := obj_free (i := 0) hk9
    have f1 := obj_free (i := 1) hk9
    have f2 := obj_free (i := 2) hk9
    have f3 := obj_free (i := 3) hk9
    have f4 := obj_free (i := 4) hk9
    have f5 := obj_free (i := 5) hk9
    have c0 := obj_cell (i := 0) hk9 rfl
    have c1 := obj_cell (i := 1) hk9 rfl
    have c2 := obj_cell (i := 2) hk9 rfl
    have c3 := obj_cell (i := 3) hk9 rfl
    have c4 := obj_cell (i := 4) hk9 rfl
    have c5 := obj_cell (i := 5) hk9 rfl
    have E9 := Lib.hid he9
    have B9 := Lib.hid hb9
    have K9 := Lib.hid hk9
    clear he9 hb9 hk9
    go_wp2
    refine bodyPost_ret (v := .tuple #[.agg zcs, v9]) (by rw [results_cell_tmp rfl]; go_simp) rfl ?_
    rw [HPC.out]
    exact ⟨ch_six (HC3.out.trans (Ch.of_below B9.out) fun _ _ x => x) (Nat.le_refl _) _ _ _ _ _ _, .inl ⟨H1.out, ⟨_, rfl, err_six E9.out K9.out (by decide) HEB.out _ _ _ _ _ _⟩, (by obtain ⟨a2, q2, s2, h9⟩ := HR3.out; exact ⟨a2, q2, s2, rr_six ((HRC.out _ _ _ h9).below B9.out) HN.out _ _ _ _ _ _⟩)⟩⟩
  obtain rfl := Decidable.not_not.1 h1
  have hcase : Rr w2 g S (a + ru + Pu) Pr false := hcase.elim (fun h => absurd rfl h.1) (fun h => h.2)
  have HT3 := Lib.hid (HT2.out.ch HCS3.out (fun h => by have h5 := HT.out.lt; have h6 := HLT1.out; simp at h5; omega))
  have HGN := Lib.hid (HeadI.get_calls g (a + ru + Pu) S Pr _ HT3.out HG.out (HRC.out _ _ _ hcase))
  obtain ⟨N, hNN⟩ : ∃ N, N = pGet Pr := ⟨_, rfl⟩
  rw [← hNN] at HGN
  have HPN := Lib.hid (HPP.out N hNN)
  clear hcase h1 hNN HPP
  go_wp2_with (fail)
  refine HGN.out.mono ?_
  rintro e w3 ⟨hc3, ⟨v, rfl, hv⟩, hcase⟩
  obtain ⟨Ne, nv, Nu, Nr⟩ := N
  simp only at hv hcase HPN ⊢
  obtain ⟨B, d, rfl, hle, hnil, hrd⟩ := OwSp.reads hv
  have HW := Lib.hid hv
  have HC4 := Lib.hid (HC3.out.trans hc3 fun _ _ x => x)
  have HBK3 := Lib.hid (hc3.blk HBK.out HN.out)
  have HKK3 := Lib.hid (hc3.blk HKK.out HN1.out)
  have HE4 := Lib.hid (gle_ch HE3.out hc3 HGE.out)
  have HV4 := Lib.hid (sps_ch HV3.out hc3 (fun k hk => by have h1 := HOLD.out k hk; have h2 := HLT1.out; have h3 := HSZ.out; omega))
  have f5 := obj_free (i := 5) HKK3.out
  have c5 := obj_cell (i := 5) HKK3.out rfl
  have hcs : Ch (fun k => k = w1.heap.size) w3 (w3.setCell ⟨w1.heap.size, 5, none⟩ (.slice B nv.length d)) := (Ch.refl (fun k => k = w1.heap.size) w3).setCell (p := ⟨w1.heap.size, 5, none⟩) (.inl rfl) _
  have HBK := Lib.hid (hcs.blk HBK3.out (Nat.ne_of_lt HLT1.out))
  have HE5 := Lib.hid (gle_ch HE4.out hcs HEN.out)
  have HC5 := Lib.hid (HC4.out.setCell (p := ⟨w1.heap.size, 5, none⟩) (.inr (Nat.le_of_lt HLT1.out)) (.slice B nv.length d))
  have HRC := Lib.hid (fun a q sh (h : Rr w3 g S a q sh) => h.ch hcs (fun k hk he => HN1.out (he ▸ hk)))
  have HV5 := Lib.hid (sps_ch HV4.out hcs (fun k hk => by rw [hk]; exact HSZ.out))
  have HW5 := Lib.hid (sps_ch hv hcs (fun k hk => by rw [hk]; have h2 := HSZ.out; have h3 := HS2.out; simp at h2 h3 ⊢; omega))
  clear hv hc3 hrd hle hnil hcs HGN f4 c4
  by_cases h1 : Ne ≠ 0
  · have hcase : ∃ a' q' sh, Rr w3 g S a' q' sh := hcase.elim (fun h => h.2) (fun h => absurd h.1 h1)
    have HR3 := Lib.hid hcase
    have HPC : Hid (pHead q = ⟨Ne, pNeg, nv.length, hd0, 0, []⟩) := Lib.hid (by rw [HPN.out, if_neg (fun h => h rfl), if_neg (fun h => h rfl), if_pos h1])
    have HAT := Lib.hid (HeadA.at_calls Ne pNeg nv.length _ HE5.out)
    have e2 : ((Ne : Int) != 0) = true := by simp; omega
    have H1 := Lib.hid h1
    clear hcase h1 HPN
    go_wp2_with (fail)
    refine HAT.out.mono ?_
    rintro e w9 ⟨v9, rfl, he9, hb9⟩
    have hk9 := (Ch.of_below (S := fun _ => False) hb9).blk HBK.out (fun x => x)
    have f0 := obj_free (i := 0) hk9
    have f1 := obj_free (i := 1) hk9
    have f2 := obj_free (i := 2) hk9
    have f3 := obj_free (i := 3) hk9
    have f4 := obj_free (i := 4) hk9
    have f5 := obj_free (i := 5) hk9
    have c0 := obj_cell (i := 0) hk9 rfl
    have c1 := obj_cell (i := 1) hk9 rfl
    have c2 := obj_cell (i := 2) hk9 rfl
    have c3 := obj_cell (i := 3) hk9 rfl
    have c4 := obj_cell (i := 4) hk9 rfl
    have c5 := obj_cell (i := 5) hk9 rfl
    have E9 := Lib.hid he9
    have B9 := Lib.hid hb9
    have K9 := Lib.hid hk9
    clear he9 hb9 hk9
    go_wp2
    refine bodyPost_ret (v := .tuple #[.agg zcs, v9]) (by rw [results_cell_tmp rfl]; go_simp) rfl ?_
    rw [HPC.out]
    exact ⟨ch_six (HC5.out.trans (Ch.of_below B9.out) fun _ _ x => x) (Nat.le_refl _) _ _ _ _ _ _, .inl ⟨H1.out, ⟨_, rfl, err_six E9.out K9.out (by decide) HEB.out _ _ _ _ _ _⟩, (by obtain ⟨a2, q2, s2, h9⟩ := HR3.out; exact ⟨a2, q2, s2, rr_six ((HRC.out _ _ _ h9).below B9.out) HN.out _ _ _ _ _ _⟩)⟩⟩
  obtain rfl := Decidable.not_not.1 h1
  have hcase : Rr w3 g S (a + ru + Pu + Nu) Nr false := hcase.elim (fun h => absurd rfl h.1) (fun h => h.2)
  have H3 := Lib.hid hcase
  have HPC : Hid (pHead q = ⟨0, pNeg, 0, ⟨vr, hint, schema, zt, pv, nv⟩, ru + Pu + Nu, Nr⟩) := Lib.hid (by rw [HPN.out, if_neg (fun h => h rfl), if_neg (fun h => h rfl), if_neg (fun h => h rfl)])
  have k0 := obj_cell (i := 0) HKK3.out rfl
  have k1 := obj_cell (i := 1) HKK3.out rfl
  have k2 := obj_cell (i := 2) HKK3.out rfl
  have k3 := obj_cell (i := 3) HKK3.out rfl
  have k4 := obj_cell (i := 4) HKK3.out rfl
  have k5 := obj_cell (i := 5) HKK3.out rfl
  have g0 := obj_free (i := 0) HBK3.out
  have g1 := obj_free (i := 1) HBK3.out
  have g2 := obj_free (i := 2) HBK3.out
  have g3 := obj_free (i := 3) HBK3.out
  have g4 := obj_free (i := 4) HBK3.out
  have g5 := obj_free (i := 5) HBK3.out
  have e0 := obj_cell (i := 0) HBK3.out rfl
  have e1 := obj_cell (i := 1) HBK3.out rfl
  have e2 := obj_cell (i := 2) HBK3.out rfl
  have e3 := obj_cell (i := 3) HBK3.out rfl
  have e4 := obj_cell (i := 4) HBK3.out rfl
  have e5 := obj_cell (i := 5) HBK3.out rfl
  have hne1 : ¬ w1.heap.size = w.heap.size := Nat.ne_of_gt HLT1.out
  have hne2 : ¬ w.heap.size = w1.heap.size := Nat.ne_of_lt HLT1.out
  clear h1 hcase HPN
  go_wp2
  refine bodyPost_ret (v := .tuple #[.agg #[.int .i64 vr, .int .i64 hint, .int .i64 schema, .int .u64 zt, .slice A pv.length c, .slice B nv.length d], .nilIface]) (by rw [results_cell_tmp rfl]; go_simp) rfl ?_
  rw [HPC.out]
  have hlo : w.heap.size ≤ (w1.alloc (.cells #[.int .i64 vr, .int .i64 hint, .int .i64 schema, .int .u64 zt, .slice A0 rpos.length c0, .slice B0 rneg.length d0] 25)).heap.size := by have h1 := HLT1.out; have h2 := HSZ.out; omega
  have hlo2 : w.heap.size < (w2.setCell ⟨w1.heap.size, 4, none⟩ (.slice A pv.length c)).heap.size := by have h1 := HLT1.out; have h2 := HSZ.out; have h3 := HS2.out; simp at h2 h3 ⊢; omega
  refine ⟨ch_six HC5.out (Nat.le_refl _) _ _ _ _ _ _, .inr ⟨rfl, ⟨⟨A, c, B, d⟩, rfl, ⟨?_, ?_⟩⟩, ?_⟩⟩
  · exact (sps_ch HV5.out (six_ch _ w.heap.size _ _ _ _ _ _) (fun k hk => by rw [hk]; have h1 := HLT1.out; have h2 := HSZ.out; omega)).lower hlo
  · exact (sps_ch HW5.out (six_ch _ w.heap.size _ _ _ _ _ _) (fun k hk => by rw [hk]; exact hlo2)).lower (Nat.le_of_lt hlo2)
  · simp only
    rw [show a + (ru + Pu + Nu) = a + ru + Pu + Nu from by omega]
    exact rr_six (HRC.out _ _ _ H3.out) HN.out _ _ _ _ _ _
end Go.Proofs.YtjfekjbmgckkcaaGreatDoor.HeadM

/- law 14: awake. -/
namespace Go.Proofs.YtjfekjbmgckkcaaGreatDoor.Law14B
open Go.RowKit Go.Proofs.YtjfekjbmgckkcaaGreatDoorW.PrintWords
open Go.Proofs.YtjfekjbmgckkcaaGreatDoor.Bits Go.Proofs.YtjfekjbmgckkcaaGreatDoor.Base Go.Proofs.YtjfekjbmgckkcaaGreatDoor.VarPure Go.Proofs.YtjfekjbmgckkcaaGreatDoor.VarbitA Go.Proofs.YtjfekjbmgckkcaaGreatDoor.VarbitD Go.Proofs.YtjfekjbmgckkcaaGreatDoor.VarKit Go.Proofs.YtjfekjbmgckkcaaGreatDoor.StreamA Go.Proofs.YtjfekjbmgckkcaaGreatDoor.StreamR Go.Proofs.YtjfekjbmgckkcaaGreatDoor.SpanPure Go.Proofs.YtjfekjbmgckkcaaGreatDoor.SpanBase Go.Proofs.YtjfekjbmgckkcaaGreatDoor.FailAs Go.Proofs.YtjfekjbmgckkcaaGreatDoor.FailB Go.Proofs.YtjfekjbmgckkcaaGreatDoor.FailC Go.Proofs.YtjfekjbmgckkcaaGreatDoor.ThrPure Go.Proofs.YtjfekjbmgckkcaaGreatDoor.ReadP Go.Proofs.YtjfekjbmgckkcaaGreatDoor.HeadA Go.Proofs.YtjfekjbmgckkcaaGreatDoor.HeadB Go.Proofs.YtjfekjbmgckkcaaGreatDoor.HeadC Go.Proofs.YtjfekjbmgckkcaaGreatDoor.HeadD Go.Proofs.YtjfekjbmgckkcaaGreatDoor.HeadPure Go.Proofs.YtjfekjbmgckkcaaGreatDoor.HeadE Go.Proofs.YtjfekjbmgckkcaaGreatDoor.HeadF Go.Proofs.YtjfekjbmgckkcaaGreatDoor.HeadG Go.Proofs.YtjfekjbmgckkcaaGreatDoor.HeadH Go.Proofs.YtjfekjbmgckkcaaGreatDoor.HeadJ Go.Proofs.YtjfekjbmgckkcaaGreatDoor.HeadK Go.Proofs.YtjfekjbmgckkcaaGreatDoor.HeadM

theorem spl_own {w : World} {base : Nat} {e : Nat} {A : Option Addr} {n c : Nat} {l : List Sp} (h : OwSp e w base (.slice A n c) l) (hl : l.length ≤ 1000000) : Spl w A c l := by
  obtain ⟨A', c', he, h1, h2, h3⟩ := h.reads
  injection he with e1 e2 e3
  subst e1 e3
  exact ⟨h3, hl, h1, h2⟩
theorem hdin_out {w : World} {base : Nat} {h : Hd} {p : Lc} (x : HdOut w base h p) (h1 : h.pos.length ≤ 1000000) (h2 : h.neg.length ≤ 1000000) (hz : h.zero < 18446744073709551616) : HdIn w h p := ⟨spl_own x.pos h1, spl_own x.neg h2, hz⟩
theorem own_not {w : World} {base : Nat} {e : Nat} {A : Option Addr} {n c : Nat} {l : List Sp} {S : Nat → Prop} (h : OwSp e w base (.slice A n c) l) (hS : ∀ k, S k → k < base) : ∀ ad, A = some ad → 0 < l.length → ¬ S ad.block := by
  intro ad hA hp hs
  obtain ⟨g, c', he, h1, -, -⟩ := h.form hp
  injection he with e1 e2 e3
  rw [hA] at e1
  injection e1 with e1
  subst e1
  exact Nat.lt_irrefl _ (Nat.lt_of_lt_of_le (hS _ hs) h1)
theorem hdin_nil (w : World) (v i s : Int) (z : Nat) (hz : z < 18446744073709551616) : HdIn w ⟨v, i, s, z, [], []⟩ ⟨none, 0, none, 0⟩ :=
  ⟨spl_own (OwSp.nil 119 w 0) (Nat.zero_le _), spl_own (OwSp.nil 119 w 0) (Nat.zero_le _), hz⟩
def h1 : Hd := ⟨1, 3, 3, 0, [(-2, 2)], []⟩
def h9 : Hd := ⟨0, 0, 9, 0, [], []⟩
theorem err_h1 : (headErr h1).1 = 0 := by decide +kernel
theorem err_h9 : headErr h9 = (21, pSchema) := by decide +kernel
theorem len_h1 : (encH h1).length ≤ 1000 := by decide +kernel
theorem len_hd0 : lenH hd0 = 19 := by decide +kernel
set_option maxRecDepth 100000 in
set_option maxHeartbeats 6400000 in
theorem awake_calls (w : World) (hT : Tab w) (hE : GlE w) :
    Calls Tryz.prog 15 #[] w fun e w' => e = .returned (.bool true) ∧ Below w.heap.size w w' := by
  have HT := Lib.hid hT
  have HE := Lib.hid hE
  have HNW := Lib.hid (newWriter_calls none 0 0 [] w (nil_read w) (by decide) (by decide) (fun _ => rfl) (by decide))
  clear hT hE
  go_enter Tryz.func15, Tryz.ntmps15
  go_wp2_with (fail)
  refine HNW.out.mono ?_
  rintro e w1 ⟨g, S, rfl, hw, hS, hb⟩
  have HP1 : Hid (∃ p : Lc, p = ⟨some ⟨w1.heap.size, 0, none⟩, 1, none, 0⟩) := Lib.hid ⟨_, rfl⟩
  have hb0 := below_alloc (Below.refl w1.heap.size w1) (.cells #[.int .i64 (-2), .int .i64 2] 119)
  have hb1 := below_alloc hb0 (.cells #[.int .i64 1, .int .i64 3, .int .i64 3, .int .u64 0, .slice (some ⟨w1.heap.size, 0, none⟩) 1 1, .slice none 0 0] 25)
  have HOW : Hid (OwSp 119 (w1.alloc (.cells #[.int .i64 (-2), .int .i64 2] 119)) w1.heap.size (.slice (some ⟨w1.heap.size, 0, none⟩) 1 1) [(-2, 2)]) := Lib.hid (OwSp.lit w1 119 [(-2, 2)] (by decide))
  have HIN : Hid (HdIn ((w1.alloc (.cells #[.int .i64 (-2), .int .i64 2] 119)).alloc (.cells #[.int .i64 1, .int .i64 3, .int .i64 3, .int .u64 0, .slice (some ⟨w1.heap.size, 0, none⟩) 1 1, .slice none 0 0] 25)) h1 ⟨some ⟨w1.heap.size, 0, none⟩, 1, none, 0⟩) :=
    Lib.hid ⟨spl_own (HOW.out.below (below_alloc (Below.refl _ _) _)) (by decide), spl_own (OwSp.nil 119 _ 0) (Nat.zero_le _), by decide⟩
  have HBK := Lib.hid (blk_last (w1.alloc (.cells #[.int .i64 (-2), .int .i64 2] 119)) (.cells #[.int .i64 1, .int .i64 3, .int .i64 3, .int .u64 0, .slice (some ⟨w1.heap.size, 0, none⟩) 1 1, .slice none 0 0] 25))
  rw [show (w1.alloc (.cells #[.int .i64 (-2), .int .i64 2] 119)).heap.size = w1.heap.size + 1 from by simp] at HBK
  have HB1 := Lib.hid (below_then hb hb.size hb1)
  have HT1 := Lib.hid ((HT.out.below hb).below hb1)
  have HE1 := Lib.hid (gle_below (gle_below HE.out hb) hb1)
  have HNB := Lib.hid (fun x => Nat.lt_irrefl _ (hw.old _ x) : ¬ S w1.heap.size)
  have HNB1 := Lib.hid (fun x => by have := hw.old _ x; omega : ¬ S (w1.heap.size + 1))
  have HNG := Lib.hid (not_old HT.out hS)
  have HPU := Lib.hid (Put_calls g S _ h1 ⟨some ⟨w1.heap.size, 0, none⟩, 1, none, 0⟩ _ HIN.out HE1.out HT1.out HNG.out (hw.below hb1) (by decide) (fun ad h _ => by injection h with h; subst h; exact HNB.out) (fun ad h _ => by cases h))
  have HS := Lib.hid hS
  have HNE := Lib.hid (fun x => by have := HS.out _ x; have := gle_lt HE.out; omega : ¬ S 0)
  clear hw hS hb hb0 hb1 HNW HP1 HOW
  go_wp2_with (fail)
  refine HPU.out.mono ?_
  rintro e w3 hput
  obtain ⟨-, rfl, S3, hw3, hs3, hc3⟩ : (headErr h1).1 = 0 ∧ e = .returned .nilIface ∧ Upd (fun w S => Wr w g S ([] ++ encH h1)) S _ w3 := by
    rcases hput with h | ⟨h, -⟩
    · exact h
    · exact absurd err_h1 h
  rw [List.nil_append] at hw3
  have HB3 := Lib.hid (HB1.out.trans (hc3.below_of HB1.out.size HS.out))
  have HIN3 : Hid (HdIn w3 h1 ⟨some ⟨w1.heap.size, 0, none⟩, 1, none, 0⟩) := Lib.hid ⟨⟨rd_ch HIN.out.pos.rd hc3 (fun ad h _ => by injection h with h; subst h; exact HNB.out), HIN.out.pos.len, HIN.out.pos.cap, HIN.out.pos.nil⟩, ⟨rd_ch HIN.out.neg.rd hc3 (fun ad h _ => by cases h), HIN.out.neg.len, HIN.out.neg.cap, HIN.out.neg.nil⟩, HIN.out.z⟩
  have HBK3 := Lib.hid (hc3.blk HBK.out HNB1.out)
  have HT3 := Lib.hid (HT1.out.ch hc3 HNG.out)
  have HE3 := Lib.hid (gle_ch HE1.out hc3 HNE.out)
  have hlen := len_h1
  obtain ⟨q, hq⟩ : ∃ q, q = encH h1 := ⟨_, rfl⟩
  have HQ := Lib.hid hq
  rw [← hq] at hw3 hlen
  have HW3 := Lib.hid hw3
  have HLEN := Lib.hid (fun W (h : Below w3.heap.size w3 W) => lift_eq h (len_calls g S3 _ W (hw3.below h)))
  have HBY := Lib.hid (bytes_calls g S3 _ w3 hw3 (by omega))
  clear hw3 hs3 hc3 hq HPU HIN HBK HNB HNB1 HB1 HT1 HE1
  go_wp2_with (fail)
  refine HBY.out.mono ?_
  rintro e w4 ⟨v, rfl, ho, hb4⟩
  obtain ⟨D, d, rfl, hd, hr⟩ := ho.reads
  have hD : D = none → d = 0 := OwI.nilcap ho
  have HNR := Lib.hid (newReader_calls D d q.length (pack q) w4 hr (by rw [pack_length]; omega) hd hD (by rw [pack_length]; omega))
  rw [pack_take_all] at HNR
  have HB4 := Lib.hid hb4
  clear ho hr hd hb4 hD
  go_wp2_with (fail)
  refine (len_calls g S3 _ w4 (HW3.out.below HB4.out)).mono ?_
  rintro e w4' ⟨rfl, rfl⟩
  go_wp2_with (fail)
  refine HNR.out.mono ?_
  rintro e w5 ⟨gr, SR, rfl, hR, hSR, hb5⟩
  have HB5 := Lib.hid (below_then HB4.out HB4.out.size hb5)
  have HT5 := Lib.hid ((HT3.out.below HB4.out).below hb5)
  have HE5 := Lib.hid (gle_below (gle_below HE3.out HB4.out) hb5)
  have HSR := Lib.hid (fun k hk => Nat.le_trans HB4.out.size (hSR k hk) : ∀ k, SR k → w3.heap.size ≤ k)
  have HNG5 := Lib.hid (not_old HT3.out HSR.out)
  have HNE5 := Lib.hid (fun x => by have := HSR.out _ x; have := gle_lt HE3.out; omega : ¬ SR 0)
  have HPH : Hid (pHead q = ⟨0, pNeg, 0, h1, q.length, []⟩) := Lib.hid (by have h := pHead_enc h1 [] err_h1 (by decide); rw [List.append_nil, ← HQ.out] at h; exact h)
  have HG := Lib.hid (Get_calls gr 0 SR q w5 HT5.out HE5.out HNG5.out HNE5.out hR)
  rw [HPH.out] at HG
  have HB5' := Lib.hid hb5
  clear hR hSR hb5 HNR HT3 HE3
  go_wp2_with (fail)
  refine HG.out.mono ?_
  rintro e w6 ⟨hc6, hcase⟩
  obtain ⟨p6, rfl, ho6⟩ : ∃ p, e = .returned (.tuple #[.agg (hcs h1 p).toArray, .nilIface]) ∧ HdOut w6 w5.heap.size h1 p := by
    rcases hcase with ⟨h, -⟩ | ⟨-, h, -⟩
    · exact absurd rfl h
    · exact h
  obtain ⟨A6, c6, B6, d6⟩ := p6
  dsimp only [hcs, h1, List.length]
  have HB6 := Lib.hid (ch_new HB5.out HB5.out.size HSR.out hc6)
  have HT6 := Lib.hid (HT5.out.ch hc6 HNG5.out)
  have HE6 := Lib.hid (gle_ch HE5.out hc6 HNE5.out)
  have hb6a := below_alloc (Below.refl w6.heap.size w6) (.cells #[.int .i64 1, .int .i64 3, .int .i64 3, .int .u64 0, .slice A6 1 c6, .slice B6 0 d6] 25)
  have HIN6 := Lib.hid ((hdin_out ho6 (by decide) (by decide) (by decide)).below hb6a)
  have HBK6 := Lib.hid (blk_last w6 (.cells #[.int .i64 1, .int .i64 3, .int .i64 3, .int .u64 0, .slice A6 1 c6, .slice B6 0 d6] 25))
  have HB6a := Lib.hid (below_then HB6.out HB6.out.size hb6a)
  have HT6a := Lib.hid (HT6.out.below hb6a)
  have HE6a := Lib.hid (gle_below HE6.out hb6a)
  have HCK := Lib.hid (check_calls h9 ⟨none, 0, none, 0⟩ _ (hdin_nil _ 0 0 9 0 (by decide)) HE6a.out)
  rw [err_h9] at HCK
  clear hc6 hcase ho6 hb6a HG HB5 HT5 HE5 HB5' HT6 HE6
  go_wp2_with (fail)
  refine HCK.out.mono ?_
  rintro e w7 ⟨v7, rfl, he7, hb7⟩
  have HAT := Lib.hid (FailE.at_calls pSchema he7)
  have HB7 := Lib.hid (below_then HB6a.out HB6a.out.size hb7)
  have hb7' := hb7
  have HIN7 := Lib.hid (HIN6.out.below hb7)
  have HBK7 := Lib.hid ((Ch.of_below (S := fun _ => False) hb7).blk HBK6.out (fun x => x))
  have HE7 := Lib.hid he7
  have HT7 := Lib.hid (HT6a.out.below hb7)
  clear he7 hb7 HCK hb7'
  go_wp2_with (fail)
  refine HAT.out.mono ?_
  rintro e w8 ⟨rfl, hb8⟩
  have HB8 := Lib.hid (below_then HB7.out HB7.out.size hb8)
  have HIN8 := Lib.hid (HIN7.out.below hb8)
  have hbk8 := (Ch.of_below (S := fun _ => False) hb8).blk HBK7.out (fun x => x)
  have HT8 := Lib.hid (HT7.out.below hb8)
  have he8 := HE7.out.below hb8
  have HE8 := Lib.hid he8
  have hbk3 := (Ch.of_below (S := fun _ => False) HB8.out).blk HBK3.out (fun x => x)
  have HIN3' := Lib.hid (HIN3.out.below HB8.out)
  have HLN := Lib.hid (HW3.out.below HB8.out)
  have k0 := obj_cell (i := 0) hbk8 rfl
  have k1 := obj_cell (i := 1) hbk8 rfl
  have k2 := obj_cell (i := 2) hbk8 rfl
  have k3 := obj_cell (i := 3) hbk8 rfl
  have k4 := obj_cell (i := 4) hbk8 rfl
  have k5 := obj_cell (i := 5) hbk8 rfl
  have c0 := obj_cell (i := 0) hbk3 rfl
  have c1 := obj_cell (i := 1) hbk3 rfl
  have c2 := obj_cell (i := 2) hbk3 rfl
  have c3 := obj_cell (i := 3) hbk3 rfl
  have c4 := obj_cell (i := 4) hbk3 rfl
  have c5 := obj_cell (i := 5) hbk3 rfl
  have HEQ := Lib.hid (Equal_calls h1 h1 ⟨A6, c6, B6, d6⟩ ⟨some ⟨w1.heap.size, 0, none⟩, 1, none, 0⟩ w8 HIN8.out HIN3'.out)
  have hat : FailE.atF (plc (21 : Nat) pSchema 0) pSchema = (0, true) := by decide +kernel
  rw [hat]
  have HB3' := Lib.hid hbk3
  clear hb8 hbk8 he8 hbk3 hat HAT
  go_wp2_with (fail)
  refine HEQ.out.mono ?_
  rintro e w9 ⟨rfl, hb9⟩
  rw [show eqH h1 h1 = true from decide_eq_true rfl]
  have HB9 := Lib.hid (below_then HB8.out HB8.out.size hb9)
  have hbk3 := (Ch.of_below (S := fun _ => False) hb9).blk HB3'.out (fun x => x)
  have c0 := obj_cell (i := 0) hbk3 rfl
  have c1 := obj_cell (i := 1) hbk3 rfl
  have c2 := obj_cell (i := 2) hbk3 rfl
  have c3 := obj_cell (i := 3) hbk3 rfl
  have c4 := obj_cell (i := 4) hbk3 rfl
  have c5 := obj_cell (i := 5) hbk3 rfl
  have HLE := Lib.hid (Len_calls h1 ⟨some ⟨w1.heap.size, 0, none⟩, 1, none, 0⟩ w9 (HIN3'.out.below hb9) (HE8.out.below hb9).gl (HT8.out.below hb9))
  rw [show lenH h1 = (encH h1).length from if_pos err_h1, ← HQ.out] at HLE
  have HE9 := Lib.hid (HE8.out.below hb9)
  have HT9 := Lib.hid (HT8.out.below hb9)
  have HW9 := Lib.hid (HLN.out.below hb9)
  clear hb9 hbk3 HEQ k0 k1 k2 k3 k4 k5 HIN3 HIN8 HIN7 HIN6
  go_wp2_with (fail)
  refine HLE.out.mono ?_
  rintro e w10 ⟨rfl, hb10⟩
  have HB10 := Lib.hid (below_then HB9.out HB9.out.size hb10)
  have HE10 := Lib.hid (HE9.out.below hb10)
  have HLH := Lib.hid (Len_calls hd0 ⟨none, 0, none, 0⟩ w10 (hdin_nil _ 0 0 0 0 (by decide)) (HE9.out.below hb10).gl (HT9.out.below hb10))
  rw [len_hd0] at HLH
  have HLW := Lib.hid (len_calls g S3 _ w10 (HW9.out.below hb10))
  clear hb10 HLE c0 c1 c2 c3 c4 c5
  go_wp2_with (fail)
  refine HLW.out.mono ?_
  rintro e w11 ⟨rfl, rfl⟩
  go_wp2_with (fail)
  refine HLH.out.mono ?_
  rintro e w12 ⟨rfl, hb12⟩
  have HB12 := Lib.hid (below_then HB10.out HB10.out.size hb12)
  have HCO := Lib.hid (code_calls (HE10.out.below hb12))
  rw [show codeOf (plc (21 : Nat) pSchema 0) .nilIface = 21 from rfl] at HCO
  clear hb12 HLH HLW
  go_wp2_with (fail)
  refine HCO.out.mono ?_
  rintro e w13 ⟨rfl, hb13⟩
  have HB13 := Lib.hid (below_then HB12.out HB12.out.size hb13)
  clear hb13 HCO
  go_wp2
  go_ret
  exact ⟨rfl, below_then HB3.out HB3.out.size HB13.out⟩
end Go.Proofs.YtjfekjbmgckkcaaGreatDoor.Law14B

/- rows of numbers that go on evenly: what is put of a number, what is read. No program in sight. -/
namespace Go.Proofs.YtjfekjbmgckkcaaGreatDoor.TimesPure
open Go.Proofs.YtjfekjbmgckkcaaGreatDoor.Bits Go.Proofs.YtjfekjbmgckkcaaGreatDoor.VarPure

/-- a difference of numbers of 64 bits. -/
def sub64 (a b : Nat) : Nat := (a + (18446744073709551616 - b)) % 18446744073709551616
def add64 (a b : Nat) : Nat := (a + b) % 18446744073709551616
theorem sub64_lt (a b : Nat) : sub64 a b < 18446744073709551616 := Nat.mod_lt _ (by decide)
theorem add64_lt (a b : Nat) : add64 a b < 18446744073709551616 := Nat.mod_lt _ (by decide)
theorem add_sub (a b : Nat) (ha : a < 18446744073709551616) (hb : b < 18446744073709551616) : add64 b (sub64 a b) = a := by
  unfold add64 sub64; omega
theorem sub_add (a b : Nat) (ha : a < 18446744073709551616) (hb : b < 18446744073709551616) : sub64 (add64 b a) b = a := by
  unfold add64 sub64; omega
/-- the bits of a number: first: whether there are no others; sg: whether the first one has a sign. -/
def told (sg : Bool) (last step n v : Nat) : List Bool :=
  if n = 0 then (if sg then encS (i64 v) else encU v) else encS (i64 (sub64 (sub64 v last) step))
/-- the step to a number. -/
def stepTo (last n v : Nat) : Nat := if n = 0 then 0 else sub64 v last
theorem stepTo_lt (last n v : Nat) : stepTo last n v < 18446744073709551616 := by
  unfold stepTo
  split
  · decide
  · exact sub64_lt _ _
/-- rows of numbers: the last one, the step. -/
def lastOf (l : List Nat) : Nat := l.getLast?.getD 0
def stepOf (l : List Nat) : Nat := if l.length < 2 then 0 else sub64 (l.getD (l.length - 1) 0) (l.getD (l.length - 2) 0)
theorem lastOf_snoc (l : List Nat) (v : Nat) : lastOf (l ++ [v]) = v := by simp [lastOf]
theorem stepOf_snoc (l : List Nat) (v : Nat) : stepOf (l ++ [v]) = stepTo (lastOf l) l.length v := by
  unfold stepOf stepTo lastOf
  rcases Nat.eq_zero_or_pos l.length with h | h
  · have : l = [] := List.length_eq_zero_iff.1 h
    subst this
    rw [if_pos (by simp), if_pos List.length_nil]
  · rw [if_neg (by rw [List.length_append]; simp; omega), if_neg (by omega), List.length_append, List.length_singleton]
    congr 1
    · simp [List.getD_eq_getElem?_getD]
    · rw [show l.length + 1 - 2 = l.length - 1 from by omega, List.getD_eq_getElem?_getD, List.getElem?_append_left (by omega), List.getLast?_eq_getElem?]
/-- the bits of a number behind others. -/
def toldL (sg : Bool) (l : List Nat) (v : Nat) : List Bool := told sg (lastOf l) (stepOf l) l.length v
/-- the bits of numbers behind others. -/
def allL (sg : Bool) : List Nat → List Nat → List Bool
  | _, [] => []
  | l, v :: t => toldL sg l v ++ allL sg (l ++ [v]) t
theorem allL_snoc (sg : Bool) : ∀ (t l : List Nat) (v : Nat), allL sg l (t ++ [v]) = allL sg l t ++ toldL sg (l ++ t) v
  | [], l, v => by simp [allL]
  | u :: t, l, v => by
    simp only [List.cons_append, allL, allL_snoc sg t (l ++ [u]) v, List.append_assoc]
    rfl
end Go.Proofs.YtjfekjbmgckkcaaGreatDoor.TimesPure

/- rows of 64 bits, by what differs: what is put. No program in sight. -/
namespace Go.Proofs.YtjfekjbmgckkcaaGreatDoor.XorPure
open Go.Proofs.YtjfekjbmgckkcaaGreatDoor.Bits

/-! ### where the first 1 is, and the last one -/
def lz (x : Nat) : Nat := 64 - Lib.bitLen x
def tz (x : Nat) : Nat := Lib.ctz 64 x
def first1 (l : List Bool) : Nat := l.findIdx id
def end1 (l : List Bool) : Nat := l.length - first1 l.reverse
theorem first1_le (l : List Bool) : first1 l ≤ l.length := List.findIdx_le_length
theorem first1_at {l : List Bool} {k : Nat} (hk : k < l.length) (h0 : ∀ j, (h : j < k) → l[j]'(by omega) = false) (h1 : l[k] = true) : first1 l = k := by
  unfold first1
  rw [List.findIdx_eq hk]
  exact ⟨h1, fun j hj => h0 j hj⟩
theorem first1_none {l : List Bool} (h0 : ∀ j, (h : j < l.length) → l[j] = false) : first1 l = l.length := by
  unfold first1
  rw [List.findIdx_eq_length]
  intro x hx
  obtain ⟨j, hj, rfl⟩ := List.getElem_of_mem hx
  exact h0 j hj
theorem end1_at {l : List Bool} {k : Nat} (hk : k < l.length) (h0 : ∀ j, (h : j < l.length) → k < j → l[j] = false) (h1 : l[k] = true) : end1 l = k + 1 := by
  unfold end1
  rw [first1_at (k := l.length - 1 - k) (by rw [List.length_reverse]; omega)]
  · omega
  · intro j hj
    rw [List.getElem_reverse]
    exact h0 _ (by omega) (by omega)
  · rw [List.getElem_reverse]
    rw [show l[l.length - 1 - (l.length - 1 - k)]'(by omega) = l[k] from by congr 1; omega]
    exact h1
theorem end1_none {l : List Bool} (h0 : ∀ j, (h : j < l.length) → l[j] = false) : end1 l = 0 := by
  unfold end1
  rw [first1_none, List.length_reverse, Nat.sub_self]
  intro j hj
  rw [List.getElem_reverse]
  exact h0 _ _
theorem nb_at (v n i : Nat) (h : i < (nb v n).length) : (nb v n)[i] = v.testBit (n - 1 - i) := by
  have h1 : i < n := by rwa [nb_length] at h
  have := nb_get v n i h1
  rw [List.getElem?_eq_getElem h] at this
  exact Option.some.inj this
theorem bitLen_zero : Lib.bitLen 0 = 0 := by decide
theorem bitLen_up (x : Nat) (h : x < 18446744073709551616) : x < 2 ^ Lib.bitLen x := by
  rcases Nat.lt_or_ge x (2 ^ Lib.bitLen x) with h1 | h1
  · exact h1
  · have h2 := Lib.bitLen_shift _ x h1 h
    have h3 : x / 2 ^ Lib.bitLen x ≠ 0 := by
      have hp : 0 < 2 ^ Lib.bitLen x := Nat.two_pow_pos _
      have := Nat.div_pos h1 hp
      omega
    have h4 := Lib.bitLen_half (x / 2 ^ Lib.bitLen x) h3 (Nat.lt_of_le_of_lt (Nat.div_le_self _ _) h)
    omega
theorem bitLen_dn (x k : Nat) (h : x < 18446744073709551616) (hk : k < Lib.bitLen x) : 2 ^ k ≤ x := by
  rcases Nat.lt_or_ge x (2 ^ k) with h1 | h1
  · rcases Nat.lt_or_ge 64 k with h2 | h2
    · have := Lib.bitLen_le x 64 (Nat.le_refl _) h
      omega
    · have := Lib.bitLen_le x k h2 h1
      omega
  · exact h1
theorem bitLen64 (x : Nat) (h : x < 18446744073709551616) : Lib.bitLen x ≤ 64 := Lib.bitLen_le x 64 (Nat.le_refl _) h
theorem lz_le (x : Nat) : lz x ≤ 64 := Nat.sub_le _ _
theorem first_nb (x : Nat) (h : x < 18446744073709551616) : first1 (nb x 64) = lz x := by
  have h64 := bitLen64 x h
  rcases Nat.eq_zero_or_pos (Lib.bitLen x) with h0 | h0
  · have hx : x = 0 := by
      have := bitLen_up x h
      rw [h0] at this
      omega
    subst hx
    rw [first1_none, nb_length, lz, bitLen_zero]
    intro j hj
    rw [nb_at, Nat.zero_testBit]
  · refine first1_at (by rw [nb_length, lz]; omega) ?_ ?_
    · intro j hj
      rw [nb_at]
      unfold lz at hj
      refine Nat.testBit_lt_two_pow (Nat.lt_of_lt_of_le (bitLen_up x h) (Nat.pow_le_pow_right (by decide) ?_))
      omega
    · rw [nb_at, show 64 - 1 - lz x = Lib.bitLen x - 1 from by unfold lz; omega]
      have h1 := bitLen_dn x (Lib.bitLen x - 1) h (by omega)
      have h2 := bitLen_up x h
      refine Nat.testBit_of_two_pow_le_and_two_pow_add_one_gt h1 ?_
      rwa [show Lib.bitLen x - 1 + 1 = Lib.bitLen x from by omega]
theorem tz_spec (x : Nat) (h0 : x ≠ 0) (h : x < 18446744073709551616) : tz x < 64 ∧ x.testBit (tz x) = true ∧ ∀ j, j < tz x → x.testBit j = false := by
  obtain ⟨m, hm, hl⟩ := Lib.ctzFrom_spec 64 x (by omega) h
  have ht : tz x = Lib.ctzFrom 64 x := by unfold tz Lib.ctz; rw [if_neg h0]
  rw [ht]
  generalize Lib.ctzFrom 64 x = c at hm hl ⊢
  refine ⟨hl, ?_, ?_⟩
  · rw [hm, Nat.testBit_two_pow_mul]
    simp [Nat.testBit_zero]
  · intro j hj
    rw [hm, Nat.testBit_two_pow_mul]
    simp
    omega
theorem tz_zero : tz 0 = 64 := rfl
theorem tz_le (x : Nat) (h : x < 18446744073709551616) : tz x ≤ 64 := by
  rcases Nat.eq_zero_or_pos x with h0 | h0
  · subst h0; exact Nat.le_refl _
  · exact Nat.le_of_lt (tz_spec x (by omega) h).1
theorem end_nb (x : Nat) (h : x < 18446744073709551616) : end1 (nb x 64) = 64 - tz x := by
  rcases Nat.eq_zero_or_pos x with h0 | h0
  · subst h0
    rw [tz_zero, end1_none]
    intro j hj
    rw [nb_at, Nat.zero_testBit]
  · obtain ⟨h1, h2, h3⟩ := tz_spec x (by omega) h
    rw [end1_at (k := 63 - tz x) (by rw [nb_length]; omega)]
    · omega
    · intro j hj hk
      rw [nb_at]
      rw [nb_length] at hj
      exact h3 _ (by omega)
    · rw [nb_at, show 64 - 1 - (63 - tz x) = tz x from by omega]
      exact h2
theorem lz_tz (x : Nat) (h0 : x ≠ 0) (h : x < 18446744073709551616) : lz x + tz x < 64 := by
  obtain ⟨h1, h2, -⟩ := tz_spec x h0 h
  have h3 := bitLen_up x h
  have h4 : tz x < Lib.bitLen x := by
    rcases Nat.lt_or_ge (tz x) (Lib.bitLen x) with h5 | h5
    · exact h5
    · have := Nat.testBit_lt_two_pow (Nat.lt_of_lt_of_le h3 (Nat.pow_le_pow_right (by decide) h5))
      rw [this] at h2
      cases h2
  have := bitLen64 x h
  unfold lz
  omega
/-- what stands in the midst of a number's bits. -/
theorem nb_mid (d a n : Nat) (h : a + n ≤ 64) : ((nb d 64).drop a).take n = nb (d >>> (64 - a - n)) n := by
  apply List.ext_getElem
  · rw [List.length_take, List.length_drop, nb_length, nb_length]; omega
  · intro i h1 h2
    rw [nb_length] at h2
    rw [List.getElem_take, List.getElem_drop, nb_at, nb_at, Nat.testBit_shiftRight]
    congr 1
    omega

/-! ### rows -/
/-- values so far: the last one, how many, the window. -/
structure XR where
  last : Nat
  n : Nat
  ahead : Nat
  len : Nat
def xr0 : XR := ⟨0, 0, 0, 0⟩
structure OkX (x : XR) : Prop where
  last : x.last < 18446744073709551616
  ahead : x.ahead ≤ 31
  len : x.ahead + x.len ≤ 64
theorem ok0 : OkX xr0 := ⟨by decide, by decide, by decide⟩
def winA (d : Nat) : Nat := min (lz d) 31
def winL (d : Nat) : Nat := 64 - winA d - tz d
def holds (a b d : Nat) : Bool := decide (0 < b) && (decide (a ≤ lz d) && decide (64 - a - b ≤ tz d))
def putX (x : XR) (v : Nat) : XR :=
  if x.n = 0 then ⟨v, 1, x.ahead, x.len⟩
  else if v = x.last then ⟨v, x.n + 1, x.ahead, x.len⟩
  else if holds x.ahead x.len (v ^^^ x.last) then ⟨v, x.n + 1, x.ahead, x.len⟩
  else ⟨v, x.n + 1, winA (v ^^^ x.last), winL (v ^^^ x.last)⟩
def toldX (x : XR) (v : Nat) : List Bool :=
  if x.n = 0 then nb v 64
  else if v = x.last then [false]
  else if holds x.ahead x.len (v ^^^ x.last) then [true, false] ++ nb ((v ^^^ x.last) >>> (64 - x.ahead - x.len)) x.len
  else [true, true] ++ nb (winA (v ^^^ x.last)) 5 ++ nb (winL (v ^^^ x.last)) 6 ++ nb ((v ^^^ x.last) >>> (64 - winA (v ^^^ x.last) - winL (v ^^^ x.last))) (winL (v ^^^ x.last))
theorem xor_lt {a b : Nat} (ha : a < 18446744073709551616) (hb : b < 18446744073709551616) : a ^^^ b < 18446744073709551616 := Nat.xor_lt_two_pow (n := 64) ha hb
theorem xor_ne {a b : Nat} (h : a ≠ b) : a ^^^ b ≠ 0 := fun h0 => h (by
  have h1 : (a ^^^ b) ^^^ b = a := by rw [Nat.xor_assoc, Nat.xor_self, Nat.xor_zero]
  rw [h0, Nat.zero_xor] at h1
  exact h1.symm)
theorem win_in (d : Nat) (h0 : d ≠ 0) (h : d < 18446744073709551616) : winA d ≤ 31 ∧ 0 < winL d ∧ winA d + winL d ≤ 64 ∧ winL d ≤ 64 ∧ winA d + winL d + tz d = 64 := by
  have := lz_tz d h0 h
  unfold winL winA
  omega
theorem putX_ok {x : XR} {v : Nat} (h : OkX x) (hv : v < 18446744073709551616) : OkX (putX x v) := by
  unfold putX
  split
  · exact ⟨hv, h.ahead, h.len⟩
  · split
    · exact ⟨hv, h.ahead, h.len⟩
    · rename_i _ hne
      split
      · exact ⟨hv, h.ahead, h.len⟩
      · obtain ⟨h1, -, h3, -⟩ := win_in _ (xor_ne hne) (xor_lt hv h.last)
        exact ⟨hv, h1, h3⟩
theorem putX_n (x : XR) (v : Nat) : (putX x v).n = x.n + 1 := by
  unfold putX
  split
  · rename_i h; rw [h]
  · split
    · rfl
    · split <;> rfl
theorem putX_last (x : XR) (v : Nat) : (putX x v).last = v := by
  unfold putX
  split
  · rfl
  · split
    · rfl
    · split <;> rfl
theorem toldX_le {x : XR} {v : Nat} (h : OkX x) (hv : v < 18446744073709551616) : (toldX x v).length ≤ 77 := by
  unfold toldX
  split
  · rw [nb_length]; decide
  · split
    · decide
    · rename_i _ hne
      have h1 := h.len
      obtain ⟨-, -, -, h4, -⟩ := win_in _ (xor_ne hne) (xor_lt hv h.last)
      split
      · simp only [List.length_append, nb_length, List.length_cons, List.length_nil]; omega
      · simp only [List.length_append, nb_length, List.length_cons, List.length_nil]; omega
theorem toldX_pos (x : XR) (v : Nat) : 0 < (toldX x v).length := by
  unfold toldX
  split
  · rw [nb_length]; decide
  · split
    · decide
    · split <;> simp
/-- a column: what it is behind values; what one more has. -/
def colX (l : List Nat) : XR := l.foldl putX xr0
theorem colX_snoc (l : List Nat) (v : Nat) : colX (l ++ [v]) = putX (colX l) v := by simp [colX]
theorem colX_n : ∀ l : List Nat, (colX l).n = l.length := snoc_ind rfl fun l v ih => by rw [colX_snoc, putX_n, ih, List.length_append, List.length_singleton]
theorem colX_ok : ∀ l : List Nat, (∀ v ∈ l, v < 18446744073709551616) → OkX (colX l) := snoc_ind (fun _ => ok0) fun l v ih h => by
  rw [colX_snoc]
  exact putX_ok (ih fun u hu => h u (List.mem_append_left _ hu)) (h v (List.mem_append_right _ List.mem_cons_self))
end Go.Proofs.YtjfekjbmgckkcaaGreatDoor.XorPure

/- samples of floats: what is wrong with one, its bits. No program in sight. -/
namespace Go.Proofs.YtjfekjbmgckkcaaGreatDoor.FcPure
open Go.Proofs.YtjfekjbmgckkcaaGreatDoor.Bits Go.Proofs.YtjfekjbmgckkcaaGreatDoor.VarPure Go.Proofs.YtjfekjbmgckkcaaGreatDoor.SpanPure Go.Proofs.YtjfekjbmgckkcaaGreatDoor.TimesPure Go.Proofs.YtjfekjbmgckkcaaGreatDoor.XorPure Go.Proofs.YtjfekjbmgckkcaaGreatDoor.HeadA Go.Proofs.YtjfekjbmgckkcaaGreatDoor.HeadB Go.Proofs.YtjfekjbmgckkcaaGreatDoor.HeadPure

structure FH where
  schema : Int
  zero : Nat
  zc : Nat
  cnt : Nat
  sum : Nat
  pos : List Sp
  neg : List Sp
  pc : List Nat
  nc : List Nat
structure FS where
  t : Int
  h : FH
def inf : Nat := 9218868437227405312
def pHist : ByteArray := ⟨#[104, 105, 115, 116]⟩
def pTime : ByteArray := ⟨#[116, 105, 109, 101]⟩
/-- a side's error. -/
def sideF (l : List Sp) (c : List Nat) : Nat := if chk l ≠ 0 then chk l else if (places l).length ≠ c.length then 23 else if c.any (fun v => decide (inf ≤ v)) then 22 else 0
/-- a histogram's error. -/
def errF (h : FH) : Nat :=
  if h.schema < -4 ∨ 8 < h.schema then 21
  else if inf ≤ h.zero then 11
  else if inf ≤ h.zc ∨ inf ≤ h.cnt then 22
  else if sideF h.pos h.pc ≠ 0 then sideF h.pos h.pc
  else sideF h.neg h.nc
theorem sideF_zero {l : List Sp} {c : List Nat} (h : sideF l c = 0) : chk l = 0 ∧ (places l).length = c.length ∧ ∀ v ∈ c, v < inf := by
  unfold sideF at h
  split at h
  · rename_i h1; omega
  · rename_i h1
    split at h
    · cases h
    · rename_i h2
      split at h
      · cases h
      · rename_i h3
        refine ⟨by omega, by omega, fun v hv => ?_⟩
        simp only [List.any_eq_true, decide_eq_true_eq, not_exists, not_and, Nat.not_le] at h3
        exact h3 v hv
theorem errF_zero {h : FH} (he : errF h = 0) : -4 ≤ h.schema ∧ h.schema ≤ 8 ∧ h.zero < inf ∧ h.zc < inf ∧ h.cnt < inf ∧ sideF h.pos h.pc = 0 ∧ sideF h.neg h.nc = 0 := by
  unfold errF at he
  split at he
  · cases he
  · rename_i h1
    split at he
    · cases he
    · rename_i h2
      split at he
      · cases he
      · rename_i h3
        split at he
        · rename_i h4; omega
        · rename_i h4
          exact ⟨by omega, by omega, by omega, by omega, by omega, by omega, he⟩
/-- all numbers of a sample but its time. -/
def vals (h : FH) : List Nat := [h.cnt, h.zc, h.sum] ++ h.pc ++ h.nc
theorem vals_length (h : FH) : (vals h).length = 3 + h.pc.length + h.nc.length := by simp [vals]; omega
def ts (l : List FS) : List Nat := l.map fun s => u64 s.t
theorem ts_length (l : List FS) : (ts l).length = l.length := by simp [ts]
theorem ts_snoc (l : List FS) (s : FS) : ts (l ++ [s]) = ts l ++ [u64 s.t] := by simp [ts]
def lastT (l : List FS) : Int := match l.getLast? with | none => 0 | some s => s.t
theorem lastT_snoc (l : List FS) (s : FS) : lastT (l ++ [s]) = s.t := by simp [lastT]
/-- why a sample can't stand behind others, and where; 0: it can. -/
def wrongF (q : Hd) (l : List FS) (s : FS) : Nat × ByteArray :=
  if errF s.h ≠ 0 then (errF s.h, pHist)
  else if s.h.schema ≠ q.schema then (21, pSchema)
  else if s.h.zero ≠ q.zero then (11, pZero)
  else if places s.h.pos ≠ places q.pos then (23, pPos)
  else if places s.h.neg ≠ places q.neg then (23, pNeg)
  else if 0 < l.length ∧ s.t ≤ lastT l then (24, pTime)
  else (0, ⟨#[]⟩)
theorem wrong_zero {q : Hd} {l : List FS} {s : FS} (h : (wrongF q l s).1 = 0) : errF s.h = 0 ∧ s.h.schema = q.schema ∧ s.h.zero = q.zero ∧ places s.h.pos = places q.pos ∧ places s.h.neg = places q.neg ∧ (0 < l.length → lastT l < s.t) := by
  unfold wrongF at h
  split at h
  · rename_i h1; exact absurd h h1
  · rename_i h1
    split at h
    · cases h
    · rename_i h2
      split at h
      · cases h
      · rename_i h3
        split at h
        · cases h
        · rename_i h4
          split at h
          · cases h
          · rename_i h5
            split at h
            · cases h
            · rename_i h6
              exact ⟨by omega, Decidable.not_not.1 h2, Decidable.not_not.1 h3, Decidable.not_not.1 h4, Decidable.not_not.1 h5, fun h7 => by omega⟩
/-- samples that may stand one behind the other. -/
def Good (q : Hd) (l : List FS) : Prop := ∀ (k : Nat) (h : k < l.length), (wrongF q (l.take k) l[k]).1 = 0
theorem good_nil (q : Hd) : Good q [] := fun k h => absurd h (by simp)
theorem good_snoc {q : Hd} {l : List FS} {s : FS} (h : Good q l) (hs : (wrongF q l s).1 = 0) : Good q (l ++ [s]) := by
  intro k hk
  rw [List.length_append, List.length_singleton] at hk
  rcases Nat.lt_or_ge k l.length with h1 | h1
  · rw [List.getElem_append_left h1, List.take_append_of_le_length (by omega)]
    exact h k h1
  · obtain rfl : k = l.length := by omega
    rw [List.take_left' rfl, List.getElem_append_right (Nat.le_refl _)]
    simpa using hs
theorem good_take {q : Hd} {l : List FS} (h : Good q l) (n : Nat) : Good q (l.take n) := by
  intro k hk
  rw [List.length_take] at hk
  rw [List.take_take, List.getElem_take, Nat.min_eq_left (by omega)]
  exact h k (by omega)
theorem good_at {q : Hd} {l : List FS} (h : Good q l) {s : FS} (hs : s ∈ l) : errF s.h = 0 ∧ s.h.schema = q.schema ∧ s.h.zero = q.zero ∧ places s.h.pos = places q.pos ∧ places s.h.neg = places q.neg ∧ s.h.pc.length = (places q.pos).length ∧ s.h.nc.length = (places q.neg).length := by
  obtain ⟨k, hk, rfl⟩ := List.getElem_of_mem hs
  obtain ⟨h1, h2, h3, h4, h5, -⟩ := wrong_zero (h k hk)
  obtain ⟨-, -, -, -, -, h6, h7⟩ := errF_zero h1
  exact ⟨h1, h2, h3, h4, h5, by rw [← h4, (sideF_zero h6).2.1], by rw [← h5, (sideF_zero h7).2.1]⟩
/-- how many columns of numbers a chunk has. -/
def width (q : Hd) : Nat := 3 + (places q.pos).length + (places q.neg).length
theorem good_width {q : Hd} {l : List FS} (h : Good q l) {s : FS} (hs : s ∈ l) : (vals s.h).length = width q := by
  obtain ⟨-, -, -, -, -, h6, h7⟩ := good_at h hs
  rw [vals_length, h6, h7, width]
theorem wrong_width {q : Hd} {l : List FS} {s : FS} (h : (wrongF q l s).1 = 0) : (vals s.h).length = width q := by
  obtain ⟨h1, -, -, h4, h5, -⟩ := wrong_zero h
  obtain ⟨-, -, -, -, -, h6, h7⟩ := errF_zero h1
  rw [vals_length, width, ← h4, ← h5, (sideF_zero h6).2.1, (sideF_zero h7).2.1]

/-! ### bits -/
def col (l : List FS) (k : Nat) : List Nat := l.map fun s => (vals s.h).getD k 0
theorem col_snoc (l : List FS) (s : FS) (k : Nat) : col (l ++ [s]) k = col l k ++ [(vals s.h).getD k 0] := by simp [col]
theorem col_length (l : List FS) (k : Nat) : (col l k).length = l.length := by simp [col]
/-- the bits of a column, one more. -/
def colB (l : List FS) (s : FS) (k : Nat) : List Bool := toldX (colX (col l k)) ((vals s.h).getD k 0)
def colsB (l : List FS) (s : FS) (n : Nat) : List Bool := (List.range n).flatMap (colB l s)
theorem colsB_zero (l : List FS) (s : FS) : colsB l s 0 = [] := rfl
theorem colsB_succ (l : List FS) (s : FS) (n : Nat) : colsB l s (n + 1) = colsB l s n ++ colB l s n := by simp [colsB, List.range_succ]
/-- the bits of one more sample. -/
def lastB (l : List FS) (s : FS) : List Bool := toldL true (ts l) (u64 s.t) ++ colsB l s (vals s.h).length
/-- the bits of samples behind others. -/
def allB : List FS → List FS → List Bool
  | _, [] => []
  | l, s :: t => lastB l s ++ allB (l ++ [s]) t
theorem allB_snoc : ∀ (t l : List FS) (s : FS), allB l (t ++ [s]) = allB l t ++ lastB (l ++ t) s
  | [], l, s => by simp [allB]
  | u :: t, l, s => by
    simp only [List.cons_append, allB, allB_snoc t (l ++ [u]) s, List.append_assoc]
    rfl
def bitsB (l : List FS) : List Bool := allB [] l
theorem bitsB_nil : bitsB [] = [] := rfl
theorem bitsB_snoc (l : List FS) (s : FS) : bitsB (l ++ [s]) = bitsB l ++ lastB l s := allB_snoc l [] s
/-- numbers of a histogram are of 64 bits. -/
structure In64H (h : FH) : Prop where
  zero : h.zero < 18446744073709551616
  zc : h.zc < 18446744073709551616
  cnt : h.cnt < 18446744073709551616
  sum : h.sum < 18446744073709551616
  pc : ∀ v ∈ h.pc, v < 18446744073709551616
  nc : ∀ v ∈ h.nc, v < 18446744073709551616
structure In64S (s : FS) : Prop where
  lo : -9223372036854775808 ≤ s.t
  hi : s.t ≤ 9223372036854775807
  h : In64H s.h
theorem vals64 {h : FH} (x : In64H h) : ∀ v ∈ vals h, v < 18446744073709551616 := by
  intro v hv
  simp only [vals, List.mem_append, List.mem_cons, List.not_mem_nil, or_false] at hv
  rcases hv with ((rfl | rfl | rfl) | hv) | hv
  · exact x.cnt
  · exact x.zc
  · exact x.sum
  · exact x.pc v hv
  · exact x.nc v hv
theorem getD64 {l : List Nat} (h : ∀ v ∈ l, v < 18446744073709551616) (k : Nat) : l.getD k 0 < 18446744073709551616 := by
  rcases Nat.lt_or_ge k l.length with h1 | h1
  · rw [List.getD_eq_getElem?_getD, List.getElem?_eq_getElem h1]; exact h _ (List.getElem_mem _)
  · rw [List.getD_eq_getElem?_getD, List.getElem?_eq_none h1]; decide
theorem col64 {l : List FS} (h : ∀ s ∈ l, In64S s) (k : Nat) : ∀ v ∈ col l k, v < 18446744073709551616 := by
  intro v hv
  obtain ⟨s, hs, rfl⟩ := List.mem_map.1 hv
  exact getD64 (vals64 (h s hs).h) k
theorem colB_le {l : List FS} {s : FS} (h : ∀ s ∈ l, In64S s) (hs : In64S s) (k : Nat) : (colB l s k).length ≤ 77 := toldX_le (colX_ok _ (col64 h k)) (getD64 (vals64 hs.h) k)
theorem colsB_le {l : List FS} {s : FS} (h : ∀ s ∈ l, In64S s) (hs : In64S s) (n : Nat) : (colsB l s n).length ≤ 77 * n := by
  induction n with
  | zero => exact Nat.le_refl _
  | succ n ih => rw [colsB_succ, List.length_append]; have := colB_le h hs n; omega
theorem toldL_le (sg : Bool) (l : List Nat) (v : Nat) : (toldL sg l v).length ≤ 72 := by
  unfold toldL told
  split
  · split
    · exact encS_le _
    · exact encU_le _
  · exact encS_le _
theorem lastB_le {l : List FS} {s : FS} (h : ∀ s ∈ l, In64S s) (hs : In64S s) : (lastB l s).length ≤ 72 + 77 * (vals s.h).length := by
  unfold lastB
  rw [List.length_append]
  have h1 := toldL_le true (ts l) (u64 s.t)
  have h2 := colsB_le h hs (vals s.h).length
  omega
theorem bitsB_le {m : Nat} : ∀ l : List FS, (∀ s ∈ l, In64S s) → (∀ s ∈ l, (vals s.h).length ≤ m) → (bitsB l).length ≤ l.length * (72 + 77 * m) := snoc_ind (fun _ _ => by simp [bitsB, allB]) fun l s ih h hm => by
  rw [bitsB_snoc, List.length_append, List.length_append, List.length_singleton, Nat.add_mul, Nat.one_mul]
  have h0 : ∀ s ∈ l, In64S s := fun u hu => h u (List.mem_append_left _ hu)
  have h1 := ih h0 fun u hu => hm u (List.mem_append_left _ hu)
  have hs := List.mem_append_right l (List.mem_singleton.2 (rfl : s = s))
  have h2 := lastB_le h0 (h s hs)
  have h3 := hm s hs
  have h4 : 77 * (vals s.h).length ≤ 77 * m := Nat.mul_le_mul_left _ h3
  omega
end Go.Proofs.YtjfekjbmgckkcaaGreatDoor.FcPure

/-
  DERIVED: THE SHELF's CONTRACTS AT THIS DUMP, IN PLAIN WORDS (tools/lay-plain.mjs out of 'TryzShelf.lean', which tools/lay-shelf.mjs wrote): THE SAME DECLARATIONS UNDER THE SAME NAMES: 'import', 'namespace', 'open', 'def', 'theorem' AND NOTHING ELSE: no command of the shelf's: FOR A HAND-IN. Each laying: the table of numbers ('.._ren') and one theorem, a field a fact of the dump's own or the kernel's comparison; each contract: ONE APPLICATION.
-/
namespace Go.Proofs
open Go.Shelf
def Tryz.lays134_ren : Go.Shelf.Ren := ⟨fun | 134 => 217 | 129 => 236 | n => n, fun | 53 => 22 | 3 => 3 | 4 => 4 | 46 => 124 | 5 => 5 | 9 => 9 | n => n, fun | n => n⟩
theorem Tryz.lays134 : Go.Proofs.Lays.n134 Tryz.prog Tryz.lays134_ren := {
  mixed := by kernel_rfl
  f129 := Tryz.func236.trans (congrArg some (by kernel_rfl))
  f134 := Tryz.func217.trans (congrArg some (by kernel_rfl))
  t3 := Tryz.underlying3
  a3 := Tryz.isAgg3
  z3 := Tryz.sizeOf3
  v3 := Tryz.zeroValue3
  t4 := Tryz.underlying4
  a4 := Tryz.isAgg4
  z4 := Tryz.sizeOf4
  v4 := Tryz.zeroValue4
  t5 := Tryz.underlying5
  a5 := Tryz.isAgg5
  z5 := Tryz.sizeOf5
  v5 := Tryz.zeroValue5
  t9 := Tryz.underlying9
  a9 := Tryz.isAgg9
  z9 := Tryz.sizeOf9
  v9 := Tryz.zeroValue9
  t46 := Tryz.underlying124
  a46 := Tryz.isAgg124
  z46 := Tryz.sizeOf124
  v46 := Tryz.zeroValue124
  t53 := Tryz.underlying22
  a53 := Tryz.isAgg22
  z53 := Tryz.sizeOf22
  v53 := Tryz.zeroValue22 }
/-- bits.LeadingZeros64: "LeadingZeros64 returns the number of leading zero bits in x; the result is 64 for x == 0.": IT RETURNS '64 - Lib.bitLen x'; the world is as it was. ITS CALLEE bits.Len64 IS MET BY ITS OWN CONTRACT OFF THE SHELF (lay that first): entered in place it sends the kernel out of memory. (LAID: no walk: one application.) -/
theorem Tryz.bits_LeadingZeros64 (x : Int) (w : World) (h0 : 0 ≤ x) (h1 : x ≤ 18446744073709551615) :
    Calls Tryz.prog 217 #[.int .u64 x] w fun e w' => e = .returned (.int .i64 (64 - (Lib.bitLen x.toNat : Int))) ∧ w' = w := Any.bits_LeadingZeros64 Tryz.lays134 x w h0 h1
def Tryz.lays129_ren : Go.Shelf.Ren := ⟨fun | 129 => 236 | n => n, fun | 53 => 22 | 3 => 3 | 4 => 4 | 46 => 124 | 5 => 5 | 9 => 9 | n => n, fun | n => n⟩
theorem Tryz.lays129 : Go.Proofs.Lays.n129 Tryz.prog Tryz.lays129_ren := {
  mixed := by kernel_rfl
  f129 := Tryz.func236.trans (congrArg some (by kernel_rfl))
  t3 := Tryz.underlying3
  a3 := Tryz.isAgg3
  z3 := Tryz.sizeOf3
  v3 := Tryz.zeroValue3
  t4 := Tryz.underlying4
  a4 := Tryz.isAgg4
  z4 := Tryz.sizeOf4
  v4 := Tryz.zeroValue4
  t5 := Tryz.underlying5
  a5 := Tryz.isAgg5
  z5 := Tryz.sizeOf5
  v5 := Tryz.zeroValue5
  t9 := Tryz.underlying9
  a9 := Tryz.isAgg9
  z9 := Tryz.sizeOf9
  v9 := Tryz.zeroValue9
  t46 := Tryz.underlying124
  a46 := Tryz.isAgg124
  z46 := Tryz.sizeOf124
  v46 := Tryz.zeroValue124
  t53 := Tryz.underlying22
  a53 := Tryz.isAgg22
  z53 := Tryz.sizeOf22
  v53 := Tryz.zeroValue22 }
/-- bits.Len64: "Len64 returns the minimum number of bits required to represent x; the result is 0 for x == 0.": IT RETURNS 'Lib.bitLen x'; the world is as it was. ('h0', 'h1': x is a uint64.) (LAID: no walk: one application.) -/
theorem Tryz.bits_Len64 (x : Int) (w : World) (h0 : 0 ≤ x) (h1 : x ≤ 18446744073709551615) :
    Calls Tryz.prog 236 #[.int .u64 x] w fun e w' => e = .returned (.int .i64 (Lib.bitLen x.toNat)) ∧ w' = w := Any.bits_Len64 Tryz.lays129 x w h0 h1
def Tryz.lays111_ren : Go.Shelf.Ren := ⟨fun | 111 => 214 | n => n, fun | 28 => 174 | 3 => 3 | 4 => 4 | 0 => 0 | n => n, fun | n => n⟩
theorem Tryz.lays111 : Go.Proofs.Lays.n111 Tryz.prog Tryz.lays111_ren := {
  mixed := by kernel_rfl
  f111 := Tryz.func214.trans (congrArg some (by kernel_rfl))
  t0 := Tryz.underlying0
  a0 := Tryz.isAgg0
  z0 := Tryz.sizeOf0
  v0 := Tryz.zeroValue0
  t3 := Tryz.underlying3
  a3 := Tryz.isAgg3
  z3 := Tryz.sizeOf3
  v3 := Tryz.zeroValue3
  t4 := Tryz.underlying4
  a4 := Tryz.isAgg4
  z4 := Tryz.sizeOf4
  v4 := Tryz.zeroValue4
  t28 := Tryz.underlying174
  a28 := Tryz.isAgg174
  z28 := Tryz.sizeOf174
  v28 := Tryz.zeroValue174 }
open Go.RowKit Go.Lib in
/-- slices.Equal at []int: "Equal reports whether two slices are equal: the same length and all elements equal. If the lengths are different, Equal returns false. Otherwise, the elements are compared in increasing index order, and the comparison stops at the first unequal pair. Empty and nil slices are considered equal.": IT RETURNS WHETHER THE TWO LISTS OF ELEMENTS ARE ONE; the world is as it was but for the count of draws (the test 's1[i] != s2[i]' has two reads, whose order the model draws, once a round). 'xs', 'ys': what the cells behind the two addresses hold (the spare capacity too, if you have it); 'xs.take n', 'ys.take m': the elements. THE TWO SLICES MAY OVERLAP. (LAID: no walk: one application.) -/
theorem Tryz.slices_Equal_int (b1 o1 n c b2 o2 m d : Nat) (xs ys : List Int) (w : World) (hx : n ≤ xs.length) (hy : m ≤ ys.length) (hbig : n ≤ 9223372036854775807) (hbig2 : m ≤ 9223372036854775807) (hc1 : ∀ j, j < xs.length → w.cell? ⟨b1, o1 + j, none⟩ = some (.int .i64 (xs.getD j 0))) (hc2 : ∀ j, j < ys.length → w.cell? ⟨b2, o2 + j, none⟩ = some (.int .i64 (ys.getD j 0))) :
    Calls Tryz.prog 214 #[.slice (some ⟨b1, o1, none⟩) n c, .slice (some ⟨b2, o2, none⟩) m d] w fun e w' => e = .returned (.bool (xs.take n == ys.take m)) ∧ ∃ q, w' = w.drewN q := Any.slices_Equal_int Tryz.lays111 b1 o1 n c b2 o2 m d xs ys w hx hy hbig hbig2 hc1 hc2
open Go.RowKit Go.Lib in
/-- The same where the first is of length 0 (a nil one too): no cell is asked for. (LAID: no walk: one application.) -/
theorem Tryz.slices_Equal_int_empty (a1 a2 : Option Addr) (c m d : Nat) (w : World) (hbig2 : m ≤ 9223372036854775807) :
    Calls Tryz.prog 214 #[.slice a1 0 c, .slice a2 m d] w fun e w' => e = .returned (.bool (decide (m = 0))) ∧ w' = w := Any.slices_Equal_int_empty Tryz.lays111 a1 a2 c m d w hbig2
open Go.RowKit Go.Lib in
theorem Tryz.slices_Equal_int_lens (a1 a2 : Option Addr) (n c m d : Nat) (w : World) (hnm : n ≠ m) :
    Calls Tryz.prog 214 #[.slice a1 n c, .slice a2 m d] w fun e w' => e = .returned (.bool false) ∧ w' = w := Any.slices_Equal_int_lens Tryz.lays111 a1 a2 n c m d w hnm
def Tryz.laysSlK4_ren : Go.Shelf.Ren := ⟨fun | 4 => 84 | n => n, fun | 22 => 51 | 4 => 4 | 5 => 5 | n => n, fun | n => n⟩
theorem Tryz.laysSlK4 : Go.Proofs.SlLaysK.n4 Tryz.prog Tryz.laysSlK4_ren := {
  mixed := by kernel_rfl
  f4 := Tryz.func84.trans (congrArg some (by kernel_rfl))
  t4 := Tryz.underlying4
  a4 := Tryz.isAgg4
  z4 := Tryz.sizeOf4
  v4 := Tryz.zeroValue4
  t22 := Tryz.underlying51
  a22 := Tryz.isAgg51
  z22 := Tryz.sizeOf51
  v22 := Tryz.zeroValue51
  t5 := Tryz.underlying5
  i5 := by kernel_rfl }
open Go.RowKit Go.Lib in
/-- bytes.Clone: "Clone returns a copy of b[:len(b)]. The result may have additional unused capacity.": OF A SLICE THAT IS NOT nil IT RETURNS A SLICE THAT IS NOT nil, OF THE SAME BYTES, IN MEMORY OF THE CALL's OWN: in the how-to's words (6f): 'w'.ownsRow B e 1 v' n cells' · 'Below B w w'', B the heap's size at the call. b AT WHATEVER ADDRESS, its cells as 'open_ints' hands them ('a.add i'; the numbers 'xs'). No byte: no cell is asked for. (LAID: no walk: one application.) -/
theorem Tryz.bytes_Clone_at (a : Addr) (n c : Nat) (xs : List Int) (w : World) (hx : xs.length = n) (hbig : n ≤ 140737488355328) (hc : ∀ i, i < n → w.cell? (a.add i) = some (.int .u8 (xs.getD i 0))) :
    Calls Tryz.prog 84 #[.slice (some a) n c] w fun e w' => ∃ v', e = .returned v' ∧ w'.ownsRow w.heap.size 5 1 v' n (xs.map (Value.int .u8)) ∧ v' ≠ .slice none 0 0 ∧ Below w.heap.size w w' := Any.bytes_Clone_at Tryz.laysSlK4 a n c xs w hx hbig hc
open Go.RowKit Go.Lib in
/-- "Clone(nil) returns nil.": the world is as it was. (LAID: no walk: one application.) -/
theorem Tryz.bytes_Clone_nil (n c : Nat) (w : World) :
    Calls Tryz.prog 84 #[.slice none n c] w fun e w' => e = .returned (.slice none 0 0) ∧ w' = w := Any.bytes_Clone_nil Tryz.laysSlK4 n c w
end Go.Proofs

/- xor's walks: rows of 64 bits. -/
namespace Go.Proofs.YtjfekjbmgckkcaaGreatDoor.XorA
open Go.RowKit Go.Proofs.YtjfekjbmgckkcaaGreatDoorW.PrintWords
open Go.Proofs.YtjfekjbmgckkcaaGreatDoor.Bits Go.Proofs.YtjfekjbmgckkcaaGreatDoor.Base Go.Proofs.YtjfekjbmgckkcaaGreatDoor.StreamA Go.Proofs.YtjfekjbmgckkcaaGreatDoor.StreamR Go.Proofs.YtjfekjbmgckkcaaGreatDoor.XorPure Go.Proofs.YtjfekjbmgckkcaaGreatDoor.Ref12

/-- the table that TrailingZeros64 reads. -/
def Tz (w : World) : Prop := ∀ j, j < 64 → w.cell? ⟨2, j, none⟩ = some (.int .u8 ((Lib.deBruijn64tab.getD j 0 : Nat) : Int))
theorem Tz.below {w w1 : World} (h : Tz w) (hb : Below w.heap.size w w1) : Tz w1 := fun j hj => pw_cell_below hb (h j hj)
theorem Tz.ch {S : Nat → Prop} {w w1 : World} (h : Tz w) (hc : Ch S w w1) (hs : ¬ S 2) : Tz w1 := fun j hj => hc.cell (h j hj) hs
theorem Tz.lt {w : World} (h : Tz w) : 2 < w.heap.size := World.block_lt_of_cell? w _ (h 0 (by decide))
theorem Tz.drewN {w : World} (h : Tz w) (n : Nat) : Tz (w.drewN n) := h
theorem tz64_key (x a : Nat) (hx : x < 18446744073709551616) (hx0 : x ≠ 0) (hlow : x &&& (18446744073709551616 - x) = a) :
    IntKind.u64.wrap (Go.bits BinOp.and IntKind.u64 (x : Int) (IntKind.u64.wrap (-(x : Int))) * 285870213051353865) / 288230376151711744 = ((a * 285870213051353865 % 18446744073709551616 / 288230376151711744 : Nat) : Int) := by
  have e1 : IntKind.u64.wrap (-(x : Int)) = ((18446744073709551616 - x : Nat) : Int) := by rw [IntKind.wrap_u64]; omega
  rw [e1, u64_and_nat x _ hx (by omega), hlow, IntKind.wrap_u64]
  omega
theorem tz_core (x k idx : Nat) (w : World) (hx0 : ((x : Int) == 0) = false)
    (key : IntKind.u64.wrap (Go.bits BinOp.and IntKind.u64 (x : Int) (IntKind.u64.wrap (-(x : Int))) * 285870213051353865) / 288230376151711744 = (idx : Int))
    (hi : idx < 64) (hk : k < 64) (hcell : w.cell? ⟨2, idx, none⟩ = some (.int .u8 k)) :
    Calls Tryz.prog 218 #[.int .u64 x] w fun e w' => e = .returned (.int .i64 k) ∧ w' = w := by
  go_enter Tryz.func218, Tryz.ntmps218
  go_wp2_with (simp only [key])
  go_ret
  exact ⟨rfl, rfl⟩
theorem tz_calls (x : Nat) (w : World) (hx : x < 18446744073709551616) (hx0 : x ≠ 0) (hT : Tz w) :
    Calls Tryz.prog 218 #[.int .u64 x] w fun e w' => e = .returned (.int .i64 (tz x)) ∧ w = w' := by
  obtain ⟨hlow, hk⟩ := Lib.lowest_bit 64 x hx0 hx
  obtain ⟨hi, htab⟩ := Lib.deBruijn64_at _ hk
  have hcell := hT _ hi
  rw [htab] at hcell
  refine (tz_core x _ _ w (by simp; omega) (tz64_key x _ hx hx0 hlow) hi hk hcell).mono ?_
  rintro e w' ⟨rfl, rfl⟩
  exact ⟨rfl, rfl⟩
theorem lz_calls (x : Nat) (w : World) (hx : x < 18446744073709551616) :
    Calls Tryz.prog 217 #[.int .u64 x] w fun e w' => e = .returned (.int .i64 (lz x)) ∧ w = w' := by
  refine (Tryz.bits_LeadingZeros64 x w (by omega) (by omega)).mono ?_
  rintro e w' ⟨rfl, rfl⟩
  have := bitLen64 x hx
  rw [Int.toNat_natCast, show (64 : Int) - (Lib.bitLen x : Int) = ((lz x : Nat) : Int) from by unfold lz; omega]
  exact ⟨rfl, rfl⟩

/-- a call in a region that only reads. -/
theorem q_same {P : Program} {f : Nat} {args : Array Value} {w : World} {n : Nat} {v : Value} (h : Calls P f args (w.drewN n) fun e w' => e = .returned v ∧ w.drewN n = w') :
    Calls P f args (w.drewN n) fun e w'' => e = .returned v ∧ ∃ m, w'' = w.drewN m := h.mono fun _ _ ⟨he, hm⟩ => ⟨he, n, hm.symm⟩
theorem q_drawn {P : Program} {f : Nat} {args : Array Value} {w : World} {n : Nat} {v : Value} (h : Calls P f args (w.drewN n) fun e w' => e = .returned v ∧ Drawn0 (w.drewN n) w') :
    Calls P f args (w.drewN n) fun e w'' => e = .returned v ∧ ∃ m, w'' = w.drewN m := h.mono fun _ _ ⟨he, m, hm⟩ => ⟨he, n + m, by rw [hm, World.drewN_drewN]⟩

/-! ### windows -/
set_option maxHeartbeats 800000 in
theorem of_calls (d : Nat) (w : World) (hd : d < 18446744073709551616) (h0 : d ≠ 0) (hT : Tz w) :
    Calls Tryz.prog 177 #[.int .u64 d] w fun e w' => e = .returned (.agg #[.int .i64 (winA d), .int .i64 (winL d)]) ∧ Below w.heap.size w w' := by
  have HL := Lib.hid (fun W => lz_calls d W hd)
  have HZ := Lib.hid (fun W (h : Below w.heap.size w W) => tz_calls d W hd h0 (hT.below h))
  have h1 := win_in d h0 hd
  have h2 : winA d = min (lz d) 31 := rfl
  have h3 := lz_le d
  obtain ⟨a, ha⟩ : ∃ a, a = winA d := ⟨_, rfl⟩
  obtain ⟨n, hn⟩ : ∃ n, n = winL d := ⟨_, rfl⟩
  obtain ⟨z, hz⟩ : ∃ z, z = tz d := ⟨_, rfl⟩
  obtain ⟨y, hy⟩ : ∃ y, y = lz d := ⟨_, rfl⟩
  rw [← ha, ← hn]
  rw [← hy] at HL
  rw [← hz] at HZ
  rw [← ha, ← hn, ← hz] at h1
  rw [← ha, ← hy] at h2
  rw [← hy] at h3
  have hmin : min (y : Int) 31 = (a : Int) := by omega
  have hw : (64 : Int) - (a : Int) - (z : Int) = (n : Int) := by omega
  have HW := Lib.hid hw
  obtain ⟨m1, m2, m3, m4, m5⟩ := h1
  have hz64 : z ≤ 64 := by omega
  have ha64 : a ≤ 31 := m1
  clear ha hn hz hy h0 hT h2 hw m1 m2 m3 m4 m5
  have hal := below_alloc (Below.refl w.heap.size w) (.cells #[.int .i64 0, .int .i64 0] 230)
  have HAL := Lib.hid hal
  clear hal
  go_enter Tryz.func177, Tryz.ntmps177
  go_wp2_with (first
    | (go_at_call 217; refine (HL.out _).mono ?_; rintro e w' ⟨rfl, rfl⟩)
    | (go_at_call 218; refine (HZ.out _ HAL.out).mono ?_; rintro e w' ⟨rfl, rfl⟩))
  rw [HW.out]
  refine bodyPost_ret (v := .agg #[.int .i64 a, .int .i64 n]) (by rw [results_cell1 rfl]; go_simp) rfl ?_
  exact ⟨rfl, below_alloc (Below.refl _ _) _⟩

set_option maxHeartbeats 400000 in
theorem behind_calls (a b : Nat) (w : World) (h : a + b ≤ 64) :
    Calls Tryz.prog 179 #[.agg #[.int .i64 a, .int .i64 b]] w fun e w' => e = .returned (.int .i64 (64 - a - b : Nat)) ∧ Below w.heap.size w w' := by
  have e1 : (64 : Int) - (a : Int) - (b : Int) = ((64 - a - b : Nat) : Int) := by omega
  have H1 := Lib.hid e1
  clear e1
  go_enter Tryz.func179, Tryz.ntmps179
  go_wp2
  rw [H1.out]
  go_ret
  exact ⟨rfl, below_alloc (Below.refl _ _) _⟩

set_option maxHeartbeats 1600000 in
theorem holds_calls (a b d : Nat) (w : World) (h : a + b ≤ 64) (hd : d < 18446744073709551616) (h0 : d ≠ 0) (hT : Tz w) :
    Calls Tryz.prog 176 #[.agg #[.int .i64 a, .int .i64 b], .int .u64 d] w fun e w' => e = .returned (.bool (holds a b d)) ∧ Below w.heap.size w w' := by
  have HL := Lib.hid (fun W => lz_calls d W hd)
  have HZ := Lib.hid (fun W (h : Below w.heap.size w W) => tz_calls d W hd h0 (hT.below h))
  have HBH := Lib.hid (fun W => behind_calls a b W h)
  have HHH := Lib.hid (show holds a b d = (decide (0 < b) && (decide (a ≤ lz d) && decide (64 - a - b ≤ tz d))) from rfl)
  obtain ⟨hv, hhv⟩ : ∃ hv, hv = holds a b d := ⟨_, rfl⟩
  rw [← hhv] at HHH ⊢
  obtain ⟨z, hz⟩ : ∃ z, z = tz d := ⟨_, rfl⟩
  obtain ⟨y, hy⟩ : ∃ y, y = lz d := ⟨_, rfl⟩
  obtain ⟨m, hm⟩ : ∃ m, m = 64 - a - b := ⟨_, rfl⟩
  rw [← hy] at HL HHH
  rw [← hz] at HZ HHH
  rw [← hm] at HBH HHH
  clear hz hy hm h0 hT hhv
  obtain ⟨W0, hW0, hk, hb0⟩ : ∃ W0 : World, W0 = w.alloc (.cells #[.int .i64 a, .int .i64 b] 230) ∧ W0.heap[w.heap.size]? = some (.cells #[.int .i64 a, .int .i64 b] 230 (0, 0)) ∧ Below w.heap.size w W0 := ⟨_, rfl, blk_last w _, below_alloc (Below.refl _ _) _⟩
  have HS := Lib.hid (fun W (hb : Below W0.heap.size W0 W) => (⟨hb, obj_cell (i := 0) ((Ch.of_below (S := fun _ => False) hb).blk hk (fun x => x)) rfl, obj_cell (i := 1) ((Ch.of_below (S := fun _ => False) hb).blk hk (fun x => x)) rfl⟩ : Below W0.heap.size W0 W ∧ W.cell? ⟨w.heap.size, 0, none⟩ = some (.int .i64 a) ∧ W.cell? ⟨w.heap.size, 1, none⟩ = some (.int .i64 b)))
  have HW0 := Lib.hid hW0
  have HB0 := Lib.hid hb0
  have HZ2 := Lib.hid (fun W (h : Below W0.heap.size W0 W) => HZ.out W (below_then hb0 hb0.size h))
  have HBH2 : Hid (∀ W, Below W0.heap.size W0 W → Calls Tryz.prog 179 #[.agg #[.int .i64 a, .int .i64 b]] W fun e w' => e = .returned (.int .i64 m) ∧ Below W0.heap.size W0 w') := Lib.hid (fun W hb => VarKit.lift hb hb.size (HBH.out W))
  obtain ⟨hs0, c0, c1⟩ := HS.out W0 (Below.refl _ _)
  clear hb0 hk hW0 HZ HBH
  rcases Nat.eq_zero_or_pos b with g1 | g1
  · have d1 : decide ((b : Int) > 0) = false := by simp; omega
    have d1' : decide (0 < (b : Int)) = false := by simp; omega
    have d1n : decide (0 < b) = false := by simp; omega
    rw [d1n] at HHH
    clear g1
    go_enter Tryz.func176, Tryz.ntmps176
    go_wp2_with (fail)
    rw [← HW0.out]
    go_quiet (fail)
    go_wp2
    go_ret
    exact ⟨by rw [HHH.out]; rfl, pw_below_drewN HB0.out _⟩
  · have d1 : decide ((b : Int) > 0) = true := by simp; omega
    have d1' : decide (0 < (b : Int)) = true := by simp; omega
    have d1n : decide (0 < b) = true := by simp; omega
    rw [d1n] at HHH
    clear g1
    by_cases g2 : a ≤ y
    · have d2 : decide ((y : Int) ≥ (a : Int)) = true := by simp; omega
      have d2' : decide ((a : Int) ≤ (y : Int)) = true := by simp; omega
      have d2n : decide (a ≤ y) = true := by simp; omega
      rw [d2n] at HHH
      clear g2
      go_enter Tryz.func176, Tryz.ntmps176
      go_wp2_with (fail)
      rw [← HW0.out]
      go_region_held3 (fun W => Below W0.heap.size W0 W ∧ W.cell? ⟨w.heap.size, 0, none⟩ = some (.int .i64 a) ∧ W.cell? ⟨w.heap.size, 1, none⟩ = some (.int .i64 b))
      (first | exact HS.out _ (below_drew (by first | exact Below.refl _ _ | exact (And.left (by assumption)))) | exact HS.out _ (by assumption) | assumption)
      (first
      | (go_at_call 217; refine (HL.out _).mono ?_; rintro e w2 ⟨rfl, rfl⟩)
      | (go_at_call 218; refine (HZ2.out _ (And.left (by assumption))).mono ?_; rintro e w2 ⟨rfl, rfl⟩)
      | (go_at_call 179; refine (HBH2.out _ (And.left (by assumption))).mono ?_; rintro e w2 ⟨rfl, hb2⟩))
      all_goals
        go_wp2
        go_ret
        exact ⟨by rw [HHH.out]; rfl, below_then HB0.out HB0.out.size (by first | assumption | exact (And.left (by assumption)))⟩
    · have d2 : decide ((y : Int) ≥ (a : Int)) = false := by simp; omega
      have d2' : decide ((a : Int) ≤ (y : Int)) = false := by simp; omega
      have d2n : decide (a ≤ y) = false := by simp; omega
      rw [d2n] at HHH
      clear g2
      go_enter Tryz.func176, Tryz.ntmps176
      go_wp2_with (fail)
      rw [← HW0.out]
      go_quiet (first | (go_at_call 217; exact q_same (HL.out _)))
      go_wp2
      go_ret
      exact ⟨by rw [HHH.out]; rfl, pw_below_drewN HB0.out _⟩
end Go.Proofs.YtjfekjbmgckkcaaGreatDoor.XorA

/- xor's walks: rows of 64 bits: made, copied; what one more costs; one more is put. -/
namespace Go.Proofs.YtjfekjbmgckkcaaGreatDoor.XorB
open Go.RowKit Go.Proofs.YtjfekjbmgckkcaaGreatDoorW.PrintWords
open Go.Proofs.YtjfekjbmgckkcaaGreatDoor.Bits Go.Proofs.YtjfekjbmgckkcaaGreatDoor.Base Go.Proofs.YtjfekjbmgckkcaaGreatDoor.StreamA Go.Proofs.YtjfekjbmgckkcaaGreatDoor.StreamR Go.Proofs.YtjfekjbmgckkcaaGreatDoor.XorPure Go.Proofs.YtjfekjbmgckkcaaGreatDoor.Ref12 Go.Proofs.YtjfekjbmgckkcaaGreatDoor.VarKit Go.Proofs.YtjfekjbmgckkcaaGreatDoor.XorA

def XrS (w : World) (g : Nat) (x : XR) : Prop :=
  w.heap[g]? = some (.cells #[.int .u64 x.last, .int .i64 x.n, .int .i64 x.ahead, .int .i64 x.len] 232 (0, 0)) ∧ OkX x ∧ x.n ≤ 1000000
theorem XrS.ch {S : Nat → Prop} {w w' : World} {g : Nat} {x : XR} (h : XrS w g x) (hc : Ch S w w') (hs : ¬ S g) : XrS w' g x := ⟨hc.blk h.1 hs, h.2⟩
theorem XrS.below {w w' : World} {g : Nat} {x : XR} (h : XrS w g x) (hb : Below w.heap.size w w') : XrS w' g x := h.ch (Ch.of_below (S := fun _ => False) hb) id
theorem XrS.lt {w : World} {g : Nat} {x : XR} (h : XrS w g x) : g < w.heap.size := blk_lt h.1
theorem new_calls (w : World) :
    Calls Tryz.prog 100 #[] w fun e w' => e = .returned (.pointer (some ⟨w.heap.size, 0, none⟩)) ∧ XrS w' w.heap.size xr0 ∧ Below w.heap.size w w' := by
  go_enter Tryz.func100, Tryz.ntmps100
  go_wp2
  go_ret
  exact ⟨rfl, ⟨blk_last _ _, ok0, by decide⟩, below_alloc (Below.refl _ _) _⟩
set_option maxHeartbeats 400000 in
theorem copy_calls (g : Nat) (x : XR) (w : World) (h : XrS w g x) :
    Calls Tryz.prog 122 #[.pointer (some ⟨g, 0, none⟩)] w fun e w' => e = .returned (.pointer (some ⟨w.heap.size, 0, none⟩)) ∧ XrS w' w.heap.size x ∧ Below w.heap.size w w' := by
  obtain ⟨last, n, a, b⟩ := x
  obtain ⟨hg, hok, hn⟩ := h
  simp only at hg hn
  have c0 : w.cell? ⟨g, 0, none⟩ = some (.int .u64 last) := obj_cell hg rfl
  have c1 : w.cell? ⟨g, 1, none⟩ = some (.int .i64 n) := obj_cell hg rfl
  have c2 : w.cell? ⟨g, 2, none⟩ = some (.int .i64 a) := obj_cell hg rfl
  have c3 : w.cell? ⟨g, 3, none⟩ = some (.int .i64 b) := obj_cell hg rfl
  have HOK := Lib.hid hok
  clear hg hok
  go_enter Tryz.func122, Tryz.ntmps122
  go_wp2
  go_ret
  exact ⟨rfl, ⟨blk_last _ _, HOK.out, hn⟩, below_alloc (Below.refl _ _) _⟩

set_option maxHeartbeats 800000 in
theorem take_calls (g : Nat) (x : XR) (v a b : Nat) (w : World) (h : XrS w g x) (hk : OkX ⟨v, x.n + 1, a, b⟩) (hn : x.n < 1000000) :
    Calls Tryz.prog 180 #[.pointer (some ⟨g, 0, none⟩), .int .u64 v, .agg #[.int .i64 a, .int .i64 b]] w fun e w' => e = .returned (.tuple #[]) ∧ XrS w' g ⟨v, x.n + 1, a, b⟩ ∧ Ch (fun k => k = g) w w' := by
  obtain ⟨last, n, a0, b0⟩ := x
  have hlt := h.lt
  obtain ⟨hg, hok, -⟩ := h
  simp only at hg hn
  have hne : g ≠ w.heap.size := by omega
  have hne' : w.heap.size ≠ g := by omega
  obtain ⟨W0, hW0, hbk, hg0, hch⟩ : ∃ W0 : World, W0 = w.alloc (.cells #[.int .i64 a, .int .i64 b] 230) ∧ W0.heap[w.heap.size]? = some (.cells #[.int .i64 a, .int .i64 b] 230 (0, 0)) ∧ W0.heap[g]? = some (.cells #[.int .u64 last, .int .i64 n, .int .i64 a0, .int .i64 b0] 232 (0, 0)) ∧ Ch (fun k => k = g) w W0 :=
    ⟨_, rfl, blk_last w _, (Below.heap_alloc w _ g hlt).trans hg, (Ch.refl _ w).alloc _⟩
  have k0 : W0.cell? ⟨w.heap.size, 0, none⟩ = some (.int .i64 a) := obj_cell hbk rfl
  have k1 : W0.cell? ⟨w.heap.size, 1, none⟩ = some (.int .i64 b) := obj_cell hbk rfl
  have c0 : W0.cell? ⟨g, 0, none⟩ = some (.int .u64 last) := obj_cell hg0 rfl
  have c1 : W0.cell? ⟨g, 1, none⟩ = some (.int .i64 n) := obj_cell hg0 rfl
  have c2 : W0.cell? ⟨g, 2, none⟩ = some (.int .i64 a0) := obj_cell hg0 rfl
  have c3 : W0.cell? ⟨g, 3, none⟩ = some (.int .i64 b0) := obj_cell hg0 rfl
  have f0 : W0.frozen? ⟨g, 0, none⟩ = false := obj_free hg0
  have f1 : W0.frozen? ⟨g, 1, none⟩ = false := obj_free hg0
  have f2 : W0.frozen? ⟨g, 2, none⟩ = false := obj_free hg0
  have f3 : W0.frozen? ⟨g, 3, none⟩ = false := obj_free hg0
  have HG := Lib.hid hg0
  have HC := Lib.hid hch
  have HW0 := Lib.hid hW0
  have HK := Lib.hid hk
  clear hg hg0 hch hW0 hbk hok hk
  go_enter Tryz.func180, Tryz.ntmps180
  go_wp2_with (fail)
  rw [← HW0.out]
  go_region
  go_wp2
  go_end0
  refine ⟨rfl, ⟨?_, HK.out, by show n + 1 ≤ 1000000; omega⟩, ?_⟩
  · exact blk_set (blk_set (blk_set (blk_set HG.out 0 _) 2 _) 3 _) 1 _
  · exact (((((HC.out.setCell (p := ⟨g, 0, none⟩) (.inl rfl) _).setCell (p := ⟨g, 2, none⟩) (.inl rfl) _).setCell (p := ⟨g, 3, none⟩) (.inl rfl) _).setCell (p := ⟨g, 1, none⟩) (.inl rfl) _)).drew

set_option maxRecDepth 100000 in
set_option maxHeartbeats 3200000 in
theorem cost_calls (g : Nat) (x : XR) (v : Nat) (w : World) (hT : Tz w) (h : XrS w g x) (hv : v < 18446744073709551616) :
    Calls Tryz.prog 110 #[.pointer (some ⟨g, 0, none⟩), .int .u64 v] w fun e w' => e = .returned (.int .i64 (toldX x v).length) ∧ Below w.heap.size w w' := by
  have hblk : ∀ W, Below w.heap.size w W → W.heap[g]? = some (.cells #[.int .u64 x.last, .int .i64 x.n, .int .i64 x.ahead, .int .i64 x.len] 232 (0, 0)) := fun W hb => (h.below hb).1
  have HBK := Lib.hid hblk
  obtain ⟨hg, hok, hn⟩ := h
  have hx := u64_xor_nat v x.last hv hok.last
  have hd := xor_lt hv hok.last
  have hln := hok.len
  have c0 : w.cell? ⟨g, 0, none⟩ = some (.int .u64 x.last) := obj_cell hg rfl
  have c1 : w.cell? ⟨g, 1, none⟩ = some (.int .i64 x.n) := obj_cell hg rfl
  have c2 : w.cell? ⟨g, 2, none⟩ = some (.int .i64 x.ahead) := obj_cell hg rfl
  have c3 : w.cell? ⟨g, 3, none⟩ = some (.int .i64 x.len) := obj_cell hg rfl
  by_cases h0 : x.n = 0
  · have HE := Lib.hid (show (toldX x v).length = 64 from by unfold toldX; rw [if_pos h0, nb_length])
    rw [HE.out]
    have d0 : ((x.n : Int) == 0) = true := by simp; omega
    clear h0 hblk hg hok
    go_enter Tryz.func110, Tryz.ntmps110
    go_wp2
    go_ret
    exact ⟨rfl, Below.refl _ _⟩
  have d0 : ((x.n : Int) == 0) = false := by simp; omega
  by_cases h1 : v = x.last
  · have HE := Lib.hid (show (toldX x v).length = 1 from by unfold toldX; rw [if_neg h0, if_pos h1]; rfl)
    rw [HE.out]
    have hz : v ^^^ x.last = 0 := by rw [h1, Nat.xor_self]
    rw [hz] at hx
    clear h0 h1 hblk hg hok hz hd
    go_enter Tryz.func110, Tryz.ntmps110
    go_wp2
    go_ret
    exact ⟨rfl, Below.refl _ _⟩
  have hne := xor_ne h1
  have HHO := Lib.hid (holds_calls x.ahead x.len (v ^^^ x.last) w hok.len hd hne hT)
  have HOF := Lib.hid (fun W (hb : Below w.heap.size w W) => of_calls (v ^^^ x.last) W hd hne (hT.below hb))
  have HWI := Lib.hid (win_in _ hne hd)
  have HTX := Lib.hid (show toldX x v = if holds x.ahead x.len (v ^^^ x.last) then [true, false] ++ nb ((v ^^^ x.last) >>> (64 - x.ahead - x.len)) x.len
    else [true, true] ++ nb (winA (v ^^^ x.last)) 5 ++ nb (winL (v ^^^ x.last)) 6 ++ nb ((v ^^^ x.last) >>> (64 - winA (v ^^^ x.last) - winL (v ^^^ x.last))) (winL (v ^^^ x.last)) from by unfold toldX; rw [if_neg h0, if_neg h1])
  obtain ⟨d, hdd⟩ : ∃ d, d = v ^^^ x.last := ⟨_, rfl⟩
  rw [← hdd] at hx hd HHO HOF HWI HTX hne
  have d1 : ((d : Int) == 0) = false := by simp; omega
  have hwl : winL d ≤ 64 := HWI.out.2.2.2.1
  obtain ⟨last, n, a, b⟩ := x
  simp only at c0 c1 c2 c3 d0 hx HHO HBK HTX hln
  cases hh : holds a b d with
  | true =>
    rw [hh] at HHO HTX
    have HE := Lib.hid (show (toldX ⟨last, n, a, b⟩ v).length = 2 + b from by rw [HTX.out, if_pos rfl, List.length_append, nb_length]; rfl)
    rw [HE.out]
    clear h0 h1 hblk hg hok hdd hh HTX HOF HWI hne
    go_enter Tryz.func110, Tryz.ntmps110
    go_wp2_with (fail)
    refine HHO.out.mono ?_
    rintro e w1 ⟨rfl, hb1⟩
    have hg1 := HBK.out w1 hb1
    have c2 : w1.cell? ⟨g, 2, none⟩ = some (.int .i64 a) := obj_cell hg1 rfl
    have c3 : w1.cell? ⟨g, 3, none⟩ = some (.int .i64 b) := obj_cell hg1 rfl
    have B1 := Lib.hid hb1
    clear hb1 hg1
    go_wp2
    go_ret
    exact ⟨by go_num, B1.out⟩
  | false =>
    rw [hh] at HHO HTX
    have HE := Lib.hid (show (toldX ⟨last, n, a, b⟩ v).length = 13 + winL d from by rw [HTX.out, if_neg (by decide)]; simp only [List.length_append, nb_length, List.length_cons, List.length_nil])
    rw [HE.out]
    obtain ⟨y, hy⟩ : ∃ y, y = winL d := ⟨_, rfl⟩
    obtain ⟨z, hz⟩ : ∃ z, z = winA d := ⟨_, rfl⟩
    rw [← hy] at hwl HOF ⊢
    rw [← hz] at HOF
    clear h0 h1 hblk hg hok hdd hh HTX HWI hne hy hz HE
    go_enter Tryz.func110, Tryz.ntmps110
    go_wp2_with (fail)
    refine HHO.out.mono ?_
    rintro e w1 ⟨rfl, hb1⟩
    have B1 := Lib.hid hb1
    clear hb1
    go_wp2_with (fail)
    refine (HOF.out _ B1.out).mono ?_
    rintro e w2 ⟨rfl, hb2⟩
    have B2 := Lib.hid (below_then B1.out B1.out.size hb2)
    clear hb2
    have hfd : ∀ W : World, (Instr.field 230 (.agg #[.int .i64 z, .int .i64 y]) 1).run Tryz.prog W = .ok (.int .i64 y) W := fun _ => by kernel_rfl
    go_wp2
    go_ret
    exact ⟨by go_num, B2.out⟩

/-- what a row and a writer are behind a number that was put. -/
def PutX (g gx : Nat) (S : Nat → Prop) (l : List Bool) (x : XR) (v : Nat) (w w' : World) : Prop :=
  ∃ S', Wr w' g S' (l ++ toldX x v) ∧ (∀ k, S' k → S k ∨ w.heap.size ≤ k) ∧ XrS w' gx (putX x v) ∧ Ch (fun k => S k ∨ k = gx) w w'
/-- what stands while a number is put: the writer, the row as it was, the window in a block of its own. -/
structure Pw (g gx : Nat) (S : Nat → Prop) (x : XR) (w : World) (l : List Bool) (a b : Nat) (W : World) : Prop where
  wr : ∃ S', Wr W g S' l ∧ ∀ k, S' k → S k ∨ w.heap.size < k
  ch : Ch S w W
  xs : XrS W gx x
  win : W.heap[w.heap.size]? = some (.cells #[.int .i64 a, .int .i64 b] 230 (0, 0))
section
variable {g gx : Nat} {S : Nat → Prop} {x : XR} {w W W2 : World} {l m : List Bool} {a b : Nat}
theorem Pw.drew (h : Pw g gx S x w l a b W) : Pw g gx S x w l a b W.drew := ⟨h.wr, h.ch.drew, h.xs, h.win⟩
theorem Pw.below (h : Pw g gx S x w l a b W) (hb : Below W.heap.size W W2) : Pw g gx S x w l a b W2 := by
  obtain ⟨S', h1, h2⟩ := h.wr
  exact ⟨⟨S', h1.below hb, h2⟩, h.ch.then_below hb, h.xs.below hb, (Ch.of_below (S := fun _ => False) hb).blk h.win id⟩
theorem Pw.put (h : Pw g gx S x w l a b W) (hold : ∀ k, S k → k < w.heap.size) (hgx : ¬ S gx) (hx : gx < w.heap.size) {S' : Nat → Prop} (hs : ∀ k, S' k → S k ∨ w.heap.size < k) (hu : Upd (fun w S => Wr w g S (l ++ m)) S' W W2) : Pw g gx S x w (l ++ m) a b W2 := by
  obtain ⟨S2, h1, h2, h3⟩ := hu
  have hlt := blk_lt h.win
  refine ⟨⟨S2, h1, fun k hk => ?_⟩, h.ch.trans h3 fun i hi hi2 => ?_, h.xs.ch h3 ?_, h3.blk h.win ?_⟩
  · rcases h2 k hk with h4 | h4
    · exact hs k h4
    · exact .inr (by omega)
  · rcases hs i hi2 with h4 | h4
    · exact h4
    · omega
  · intro h4
    rcases hs _ h4 with h5 | h5
    · exact hgx h5
    · omega
  · intro h4
    rcases hs _ h4 with h5 | h5
    · have := hold _ h5; omega
    · omega
theorem Pw.set (h : Pw g gx S x w l a b W) (hold : ∀ k, S k → k < w.heap.size) (hx : gx < w.heap.size) (a' b' : Nat) : Pw g gx S x w l a' b' ((W.setCell ⟨w.heap.size, 0, none⟩ (.int .i64 a')).setCell ⟨w.heap.size, 1, none⟩ (.int .i64 b')) := by
  have hc : Ch (fun k => k = w.heap.size) W ((W.setCell ⟨w.heap.size, 0, none⟩ (.int .i64 a')).setCell ⟨w.heap.size, 1, none⟩ (.int .i64 b')) := ((Ch.refl (fun k => k = w.heap.size) W).setCell (p := ⟨w.heap.size, 0, none⟩) (.inl rfl) _).setCell (p := ⟨w.heap.size, 1, none⟩) (.inl rfl) _
  obtain ⟨S', h1, h2⟩ := h.wr
  refine ⟨⟨S', h1.ch hc fun k hk he => ?_, h2⟩, h.ch.trans hc fun i hi he => ?_, h.xs.ch hc ?_, blk_set (blk_set h.win 0 _) 1 _⟩
  · rcases h2 k hk with h3 | h3
    · have := hold k h3; omega
    · omega
  · omega
  · intro he; omega
theorem Pw.done (h : Pw g gx S x w l a b W) (hgx : ¬ S gx) (hx : gx < w.heap.size) {l0 : List Bool} {v : Nat} (hl : l = l0 ++ toldX x v) {y : XR} (hy : y = putX x v) (h1 : XrS W2 gx y) (hc : Ch (fun k => k = gx) W W2) : PutX g gx S l0 x v w W2 := by
  subst hl hy
  obtain ⟨S', h3, h4⟩ := h.wr
  refine ⟨S', h3.ch hc fun k hk he => ?_, fun k hk => ?_, h1, (h.ch.mono fun k _ h => .inl h).trans hc fun i _ h => .inr h⟩
  · subst he
    rcases h4 _ hk with h5 | h5
    · exact hgx h5
    · omega
  · rcases h4 k hk with h5 | h5
    · exact .inl h5
    · exact .inr (by omega)
end

set_option maxRecDepth 100000 in
set_option maxHeartbeats 6400000 in
theorem put_row (g gx : Nat) (S : Nat → Prop) (l : List Bool) (x : XR) (v : Nat) (w : World) (hT : Tz w) (hG : ¬ S 2) (hx : XrS w gx x) (hw : Wr w g S l) (hgx : ¬ S gx)
    (hm : l.length ≤ 10000000000) (hv : v < 18446744073709551616) (hn : x.n < 1000000) :
    Calls Tryz.prog 112 #[.pointer (some ⟨gx, 0, none⟩), .pointer (some ⟨g, 0, none⟩), .int .u64 v] w fun e w' => e = .returned (.tuple #[]) ∧ PutX g gx S l x v w w' := by
  have hold := hw.old
  have hlt := hx.lt
  have hok := hx.2.1
  have hxv := u64_xor_nat v x.last hv hok.last
  have hd := xor_lt hv hok.last
  have hln := hok.len
  obtain ⟨W0, hW0, hp0⟩ : ∃ W0 : World, W0 = w.alloc (.cells #[.int .i64 x.ahead, .int .i64 x.len] 230) ∧ Pw g gx S x w l x.ahead x.len W0 :=
    ⟨_, rfl, ⟨S, hw.below (below_alloc (Below.refl _ _) _), fun k hk => .inl hk⟩, (Ch.refl S w).alloc _, hx.below (below_alloc (Below.refl _ _) _), blk_last w _⟩
  have HPUT : Hid (∀ (l' : List Bool) (n k a b : Nat) W, Pw g gx S x w l' a b W → l'.length ≤ 10000000100 → k ≤ 64 → n < 18446744073709551616 → Calls Tryz.prog 72 #[.pointer (some ⟨g, 0, none⟩), .int .u64 n, .int .i64 k] W fun e w' => e = .returned (.tuple #[]) ∧ Pw g gx S x w (l' ++ nb n k) a b w') := Lib.hid (by
    intro l' n k a b W h h1 h2 h3
    obtain ⟨S', h4, h5⟩ := h.wr
    refine (StreamBit.put_calls g S' l' n k W h4 (by omega) h2 h3).mono ?_
    rintro e w' ⟨rfl, hu⟩
    exact ⟨rfl, h.put hold hgx hlt h5 hu⟩)
  have HTAKE : Hid (∀ (l' : List Bool) (a b : Nat) W, Pw g gx S x w l' a b W → l' = l ++ toldX x v → (⟨v, x.n + 1, a, b⟩ : XR) = putX x v → Calls Tryz.prog 180 #[.pointer (some ⟨gx, 0, none⟩), .int .u64 v, .agg #[.int .i64 a, .int .i64 b]] W fun e w' => e = .returned (.tuple #[]) ∧ PutX g gx S l x v w w') := Lib.hid (by
    intro l' a b W h h1 h2
    refine (take_calls gx x v a b W h.xs (by rw [h2]; exact putX_ok hok hv) hn).mono ?_
    rintro e w' ⟨rfl, h3, h4⟩
    exact ⟨rfl, h.done hgx hlt h1 h2 h3 h4⟩)
  have HCELL : Hid (∀ (l' : List Bool) (a b : Nat) W, Pw g gx S x w l' a b W → W.cell? ⟨w.heap.size, 0, none⟩ = some (.int .i64 a) ∧ W.cell? ⟨w.heap.size, 1, none⟩ = some (.int .i64 b)) := Lib.hid (fun l' a b W h => ⟨obj_cell h.win rfl, obj_cell h.win rfl⟩)
  have hg := hx.1
  have c0 : w.cell? ⟨gx, 0, none⟩ = some (.int .u64 x.last) := obj_cell hg rfl
  have c2 : w.cell? ⟨gx, 2, none⟩ = some (.int .i64 x.ahead) := obj_cell hg rfl
  have c3 : w.cell? ⟨gx, 3, none⟩ = some (.int .i64 x.len) := obj_cell hg rfl
  have c1 : w.cell? ⟨gx, 1, none⟩ = some (.int .i64 x.n) := obj_cell hg rfl
  have HW0 := Lib.hid hW0
  have HP0 := Lib.hid hp0
  by_cases h0 : x.n = 0
  · have HE := Lib.hid (show toldX x v = nb v 64 from by unfold toldX; rw [if_pos h0])
    have HY := Lib.hid (show (⟨v, x.n + 1, x.ahead, x.len⟩ : XR) = putX x v from by unfold putX; rw [if_pos h0, h0])
    have HP : Hid (∀ W, Pw g gx S x w l x.ahead x.len W → Calls Tryz.prog 72 #[.pointer (some ⟨g, 0, none⟩), .int .u64 v, .int .i64 64] W fun e w' => e = .returned (.tuple #[]) ∧ Pw g gx S x w (l ++ nb v 64) x.ahead x.len w') := Lib.hid (fun W h => HPUT.out l v 64 _ _ W h (by omega) (by omega) hv)
    have d0 : ((x.n : Int) == 0) = true := by simp; omega
    clear h0 hg hok hT hG hw hx hW0 hp0 hd
    go_enter Tryz.func112, Tryz.ntmps112
    go_wp2_with (fail)
    rw [← HW0.out]
    refine (HP.out _ HP0.out).mono ?_
    rintro e w1 ⟨rfl, hp1⟩
    have P1 := Lib.hid hp1
    obtain ⟨k0, k1⟩ := HCELL.out _ _ _ _ hp1
    clear hp1 c0 c1 c2 c3
    go_wp2_with (fail)
    refine (HTAKE.out _ _ _ _ P1.out (by rw [HE.out]) HY.out).mono ?_
    rintro e w2 ⟨rfl, hd⟩
    have D := Lib.hid hd
    clear hd
    go_wp2
    go_end0
    exact ⟨rfl, D.out⟩
  have d0 : ((x.n : Int) == 0) = false := by simp; omega
  by_cases h1 : v = x.last
  · have HE := Lib.hid (show toldX x v = [false] from by unfold toldX; rw [if_neg h0, if_pos h1])
    have HY := Lib.hid (show (⟨v, x.n + 1, x.ahead, x.len⟩ : XR) = putX x v from by unfold putX; rw [if_neg h0, if_pos h1])
    have HB : Hid (∀ W, Pw g gx S x w l x.ahead x.len W → Calls Tryz.prog 16 #[.pointer (some ⟨g, 0, none⟩), .bool false] W fun e w' => e = .returned (.tuple #[]) ∧ Pw g gx S x w (l ++ [false]) x.ahead x.len w') := Lib.hid (by
      intro W h
      obtain ⟨S', h4, h5⟩ := h.wr
      refine (StreamBit.bit_calls g S' l false W h4 (by omega)).mono ?_
      rintro e w' ⟨rfl, hu⟩
      exact ⟨rfl, h.put hold hgx hlt h5 hu⟩)
    have hz : v ^^^ x.last = 0 := by rw [h1, Nat.xor_self]
    rw [hz] at hxv
    clear h0 h1 hg hok hT hG hw hx hW0 hp0 hd hz
    go_enter Tryz.func112, Tryz.ntmps112
    go_wp2_with (fail)
    rw [← HW0.out]
    refine (HB.out _ HP0.out).mono ?_
    rintro e w1 ⟨rfl, hp1⟩
    have P1 := Lib.hid hp1
    obtain ⟨k0, k1⟩ := HCELL.out _ _ _ _ hp1
    clear hp1 c0 c1 c2 c3
    go_wp2_with (fail)
    refine (HTAKE.out _ _ _ _ P1.out (by rw [HE.out]) HY.out).mono ?_
    rintro e w2 ⟨rfl, hd⟩
    have D := Lib.hid hd
    clear hd
    go_wp2
    go_end0
    exact ⟨rfl, D.out⟩
  have hne := xor_ne h1
  have HWI := Lib.hid (win_in _ hne hd)
  have HTX := Lib.hid (show toldX x v = if holds x.ahead x.len (v ^^^ x.last) then [true, false] ++ nb ((v ^^^ x.last) >>> (64 - x.ahead - x.len)) x.len
    else [true, true] ++ nb (winA (v ^^^ x.last)) 5 ++ nb (winL (v ^^^ x.last)) 6 ++ nb ((v ^^^ x.last) >>> (64 - winA (v ^^^ x.last) - winL (v ^^^ x.last))) (winL (v ^^^ x.last)) from by unfold toldX; rw [if_neg h0, if_neg h1])
  have HPX := Lib.hid (show putX x v = if holds x.ahead x.len (v ^^^ x.last) then ⟨v, x.n + 1, x.ahead, x.len⟩ else ⟨v, x.n + 1, winA (v ^^^ x.last), winL (v ^^^ x.last)⟩ from by unfold putX; rw [if_neg h0, if_neg h1])
  have HTZ : Hid (∀ W, Ch S w W → Tz W) := Lib.hid (fun W hc => hT.ch hc hG)
  have HHO : Hid (∀ (l' : List Bool) (a b : Nat) W, Pw g gx S x w l' a b W → Calls Tryz.prog 176 #[.agg #[.int .i64 x.ahead, .int .i64 x.len], .int .u64 (v ^^^ x.last : Nat)] W fun e w' => e = .returned (.bool (holds x.ahead x.len (v ^^^ x.last))) ∧ Pw g gx S x w l' a b w') := Lib.hid (by
    intro l' a b W h
    refine (holds_calls x.ahead x.len (v ^^^ x.last) W hok.len hd hne (HTZ.out W h.ch)).mono ?_
    rintro e w' ⟨rfl, hb⟩
    exact ⟨rfl, h.below hb⟩)
  have HOF : Hid (∀ (l' : List Bool) (a b : Nat) W, Pw g gx S x w l' a b W → Calls Tryz.prog 177 #[.int .u64 (v ^^^ x.last : Nat)] W fun e w' => e = .returned (.agg #[.int .i64 (winA (v ^^^ x.last)), .int .i64 (winL (v ^^^ x.last))]) ∧ Pw g gx S x w l' a b w') := Lib.hid (by
    intro l' a b W h
    refine (of_calls (v ^^^ x.last) W hd hne (HTZ.out W h.ch)).mono ?_
    rintro e w' ⟨rfl, hb⟩
    exact ⟨rfl, h.below hb⟩)
  have HBH : Hid (∀ (l' : List Bool) (a b : Nat) W, Pw g gx S x w l' a b W → a + b ≤ 64 → Calls Tryz.prog 179 #[.agg #[.int .i64 a, .int .i64 b]] W fun e w' => e = .returned (.int .i64 (64 - a - b : Nat)) ∧ Pw g gx S x w l' a b w') := Lib.hid (by
    intro l' a b W h hab
    refine (behind_calls a b W hab).mono ?_
    rintro e w' ⟨rfl, hb⟩
    exact ⟨rfl, h.below hb⟩)
  have HSET : Hid (∀ (l' : List Bool) (a b a' b' : Nat) W, Pw g gx S x w l' a b W → Pw g gx S x w l' a' b' ((W.setCell ⟨w.heap.size, 0, none⟩ (.int .i64 a')).setCell ⟨w.heap.size, 1, none⟩ (.int .i64 b'))) := Lib.hid (fun l' a b a' b' W h => h.set hold hlt a' b')
  have hok0 := hok.last
  obtain ⟨d, hdd⟩ : ∃ d, d = v ^^^ x.last := ⟨_, rfl⟩
  rw [← hdd] at hxv hd HHO HOF HWI HTX HPX hne
  have d1 : ((d : Int) == 0) = false := by simp; omega
  obtain ⟨a, ha⟩ : ∃ a, a = x.ahead := ⟨_, rfl⟩
  obtain ⟨b, hb⟩ : ∃ b, b = x.len := ⟨_, rfl⟩
  obtain ⟨n, hn'⟩ : ∃ n, n = x.n := ⟨_, rfl⟩
  obtain ⟨la, hla⟩ : ∃ la, la = x.last := ⟨_, rfl⟩
  rw [← ha] at c2 hln HW0 HP0 HHO HTX HPX
  rw [← hb] at c3 hln HW0 HP0 HHO HTX HPX
  rw [← hn'] at c1 d0 HTAKE HPX
  rw [← hla] at c0 hxv
  have HSH : Hid (∀ k : Nat, k ≤ 64 → ((d : Int) / 2 ^ k = ((d >>> k : Nat) : Int)) ∧ d >>> k < 18446744073709551616) := Lib.hid (fun k hk => ⟨by rw [Nat.shiftRight_eq_div_pow]; simp, Nat.lt_of_le_of_lt (by rw [Nat.shiftRight_eq_div_pow]; exact Nat.div_le_self _ _) hd⟩)
  cases hh : holds a b d with
  | true =>
    rw [hh] at HHO HTX HPX
    rw [if_pos rfl] at HTX HPX
    have HP2 : Hid (∀ W, Pw g gx S x w l a b W → Calls Tryz.prog 72 #[.pointer (some ⟨g, 0, none⟩), .int .u64 2, .int .i64 2] W fun e w' => e = .returned (.tuple #[]) ∧ Pw g gx S x w (l ++ [true, false]) a b w') := Lib.hid (fun W h => HPUT.out l 2 2 _ _ W h (by omega) (by omega) (by omega))
    have hsh := HSH.out (64 - a - b) (by omega)
    have HP3 : Hid (∀ W, Pw g gx S x w (l ++ [true, false]) a b W → Calls Tryz.prog 72 #[.pointer (some ⟨g, 0, none⟩), .int .u64 (d >>> (64 - a - b) : Nat), .int .i64 b] W fun e w' => e = .returned (.tuple #[]) ∧ Pw g gx S x w (l ++ toldX x v) a b w') := Lib.hid (fun W h => by
      have := HPUT.out (l ++ [true, false]) (d >>> (64 - a - b)) b _ _ W h (by rw [List.length_append]; simp; omega) (by omega) hsh.2
      rw [List.append_assoc, ← HTX.out] at this
      exact this)
    have HBH := Lib.hid (fun W h => HBH.out (l ++ [true, false]) a b W h hln)
    obtain ⟨k, hk⟩ : ∃ k, k = 64 - a - b := ⟨_, rfl⟩
    obtain ⟨sh, hsd⟩ : ∃ sh, sh = d >>> (64 - a - b) := ⟨_, rfl⟩
    rw [← hsd] at HP3
    have hk64 : k ≤ 64 := by omega
    rw [← hk] at HBH
    have hshk : (d : Int) / 2 ^ k = (sh : Int) := by rw [hsd, hk]; exact hsh.1
    have hsh64 : sh < 18446744073709551616 := by rw [hsd]; exact hsh.2
    have HSHK := Lib.hid hshk
    clear h0 h1 hg hok hT hG hw hx hW0 hp0 hdd hh HOF HWI hne ha hb hn' hla hsh hk hsd hshk
    go_enter Tryz.func112, Tryz.ntmps112
    go_wp2_with (fail)
    rw [← HW0.out]
    refine (HHO.out _ _ _ _ HP0.out).mono ?_
    rintro e w1 ⟨rfl, hp1⟩
    have P1 := Lib.hid hp1
    clear hp1 c0 c1 c2 c3
    go_wp2_with (fail)
    refine (HP2.out _ P1.out).mono ?_
    rintro e w2 ⟨rfl, hp2⟩
    have P2 := Lib.hid hp2
    obtain ⟨k0, k1⟩ := HCELL.out _ _ _ _ hp2
    clear hp2
    go_wp2_with (fail)
    go_region_held3 (fun W => W.cell? ⟨w.heap.size, 0, none⟩ = some (.int .i64 a) ∧ W.cell? ⟨w.heap.size, 1, none⟩ = some (.int .i64 b))
      (first | (with_reducible exact HCELL.out _ _ _ _ P2.out.drew) | (with_reducible exact HCELL.out _ _ _ _ hpa) | (with_reducible exact HCELL.out _ _ _ _ hpb) | assumption)
      (first
      | (go_at_call 179; refine (HBH.out _ P2.out.drew).mono ?_; rintro e wa ⟨rfl, hpa⟩)
      | (go_at_call 72; (try rw [HSHK.out]); refine (HP3.out _ hpa).mono ?_; rintro e wb ⟨rfl, hpb⟩))
    have PB := Lib.hid hpb
    obtain ⟨k0, k1⟩ := HCELL.out _ _ _ _ hpb
    clear hpa hpb
    go_wp2_with (fail)
    refine (HTAKE.out _ _ _ _ PB.out rfl HPX.out.symm).mono ?_
    rintro e w4 ⟨rfl, hd⟩
    have D := Lib.hid hd
    clear hd
    go_wp2
    go_end0
    exact ⟨rfl, D.out⟩
  | false =>
    rw [hh] at HHO HTX HPX
    rw [if_neg (by decide)] at HTX HPX
    have HP2 : Hid (∀ W, Pw g gx S x w l (winA d) (winL d) W → Calls Tryz.prog 72 #[.pointer (some ⟨g, 0, none⟩), .int .u64 3, .int .i64 2] W fun e w' => e = .returned (.tuple #[]) ∧ Pw g gx S x w (l ++ [true, true]) (winA d) (winL d) w') := Lib.hid (fun W h => HPUT.out l 3 2 _ _ W h (by omega) (by omega) (by omega))
    have HPA : Hid (∀ W, Pw g gx S x w (l ++ [true, true]) (winA d) (winL d) W → Calls Tryz.prog 72 #[.pointer (some ⟨g, 0, none⟩), .int .u64 (winA d), .int .i64 5] W fun e w' => e = .returned (.tuple #[]) ∧ Pw g gx S x w (l ++ [true, true] ++ nb (winA d) 5) (winA d) (winL d) w') := Lib.hid (fun W h => HPUT.out (l ++ [true, true]) (winA d) 5 _ _ W h (by rw [List.length_append]; simp; omega) (by omega) (by have := HWI.out.1; omega))
    have HPL : Hid (∀ W, Pw g gx S x w (l ++ [true, true] ++ nb (winA d) 5) (winA d) (winL d) W → Calls Tryz.prog 72 #[.pointer (some ⟨g, 0, none⟩), .int .u64 (winL d % 64 : Nat), .int .i64 6] W fun e w' => e = .returned (.tuple #[]) ∧ Pw g gx S x w (l ++ [true, true] ++ nb (winA d) 5 ++ nb (winL d) 6) (winA d) (winL d) w') := Lib.hid (fun W h => by
      have := HPUT.out (l ++ [true, true] ++ nb (winA d) 5) (winL d % 64) 6 _ _ W h (by simp only [List.length_append, nb_length, List.length_cons, List.length_nil]; omega) (by omega) (by omega)
      rwa [show nb (winL d % 64) 6 = nb (winL d) 6 from nb_mod (winL d) 6] at this)
    have hsh := HSH.out (64 - winA d - winL d) (by omega)
    have HP3 : Hid (∀ W, Pw g gx S x w (l ++ [true, true] ++ nb (winA d) 5 ++ nb (winL d) 6) (winA d) (winL d) W → Calls Tryz.prog 72 #[.pointer (some ⟨g, 0, none⟩), .int .u64 (d >>> (64 - winA d - winL d) : Nat), .int .i64 (winL d)] W fun e w' => e = .returned (.tuple #[]) ∧ Pw g gx S x w (l ++ toldX x v) (winA d) (winL d) w') := Lib.hid (fun W h => by
      have := HPUT.out (l ++ [true, true] ++ nb (winA d) 5 ++ nb (winL d) 6) (d >>> (64 - winA d - winL d)) (winL d) _ _ W h (by simp only [List.length_append, nb_length, List.length_cons, List.length_nil]; omega) HWI.out.2.2.2.1 hsh.2
      rw [show l ++ [true, true] ++ nb (winA d) 5 ++ nb (winL d) 6 ++ nb (d >>> (64 - winA d - winL d)) (winL d) = l ++ toldX x v from by rw [HTX.out]; simp only [List.append_assoc]] at this
      exact this)
    have HBH := Lib.hid (fun W h => HBH.out (l ++ [true, true] ++ nb (winA d) 5 ++ nb (winL d) 6) (winA d) (winL d) W h HWI.out.2.2.1)
    have HOF := Lib.hid (fun W h => HOF.out l a b W h)
    have HSET := Lib.hid (fun W h => HSET.out l a b (winA d) (winL d) W h)
    have HTK := Lib.hid (fun W h => HTAKE.out (l ++ toldX x v) (winA d) (winL d) W h rfl HPX.out.symm)
    have hwi := HWI.out
    obtain ⟨L1, hL1⟩ : ∃ L1, L1 = l ++ [true, true] := ⟨_, rfl⟩
    rw [← hL1] at HP2 HPA HPL HP3 HBH
    obtain ⟨L2, hL2⟩ : ∃ L2, L2 = L1 ++ nb (winA d) 5 := ⟨_, rfl⟩
    rw [← hL2] at HPA HPL HP3 HBH
    obtain ⟨L3, hL3⟩ : ∃ L3, L3 = L2 ++ nb (winL d) 6 := ⟨_, rfl⟩
    rw [← hL3] at HPL HP3 HBH
    obtain ⟨L4, hL4⟩ : ∃ L4, L4 = l ++ toldX x v := ⟨_, rfl⟩
    rw [← hL4] at HP3 HTK
    clear HTX HPX HWI
    obtain ⟨z, hz⟩ : ∃ z, z = winA d := ⟨_, rfl⟩
    obtain ⟨y, hy⟩ : ∃ y, y = winL d := ⟨_, rfl⟩
    obtain ⟨sh, hsd⟩ : ∃ sh, sh = d >>> (64 - winA d - winL d) := ⟨_, rfl⟩
    rw [← hsd] at HP3 hsh
    rw [← hz, ← hy] at HP2 HPA HPL HP3 HBH HOF HSET HTK hsh
    rw [← hz, ← hy] at hwi
    obtain ⟨k, hk⟩ : ∃ k, k = 64 - z - y := ⟨_, rfl⟩
    rw [← hk] at HBH hsh
    have hk64 : k ≤ 64 := by omega
    obtain ⟨i1, i2, i3, i4, -⟩ := hwi
    obtain ⟨y6, h6⟩ : ∃ y6, y6 = y % 64 := ⟨_, rfl⟩
    rw [← h6] at HPL
    have hy2 : ((y : Int) % 64) = (y6 : Int) := by omega
    have h66 : y6 < 64 := by omega
    clear h6
    have hsh64 := hsh.2
    have HSHK := Lib.hid hsh.1
    clear h0 h1 hg hok hT hG hw hx hW0 hp0 hdd hh hne ha hb hn' hla hsh hk hsd hL1 hL2 hL3 hL4 hz hy HTAKE HPUT
    go_enter Tryz.func112, Tryz.ntmps112
    go_wp2_with (fail)
    rw [← HW0.out]
    refine (HHO.out _ _ _ _ HP0.out).mono ?_
    rintro e w1 ⟨rfl, hp1⟩
    have P1 := Lib.hid hp1
    clear hp1 c0 c1 c2 c3
    go_wp2_with (fail)
    refine (HOF.out _ P1.out).mono ?_
    rintro e w2 ⟨rfl, hp2⟩
    obtain ⟨k0, k1⟩ := HCELL.out _ _ _ _ hp2
    have f0 : w2.frozen? ⟨w.heap.size, 0, none⟩ = false := obj_free hp2.win
    have f1 : w2.frozen? ⟨w.heap.size, 1, none⟩ = false := obj_free hp2.win
    obtain ⟨w2s, hw2s, hs2⟩ : ∃ W : World, W = (w2.setCell ⟨w.heap.size, 0, none⟩ (.int .i64 z)).setCell ⟨w.heap.size, 1, none⟩ (.int .i64 y) ∧ Pw g gx S x w l z y W := ⟨_, rfl, HSET.out _ hp2⟩
    have HW2 := Lib.hid hw2s
    have P2 := Lib.hid hs2
    clear hp2 hw2s hs2
    go_wp2_with (fail)
    rw [← HW2.out]
    refine (HP2.out _ P2.out).mono ?_
    rintro e w3 ⟨rfl, hp3⟩
    have P3 := Lib.hid hp3
    obtain ⟨k0, k1⟩ := HCELL.out _ _ _ _ hp3
    clear hp3 f0 f1
    go_wp2_with (fail)
    refine (HPA.out _ P3.out).mono ?_
    rintro e w4 ⟨rfl, hp4⟩
    have P4 := Lib.hid hp4
    obtain ⟨k0, k1⟩ := HCELL.out _ _ _ _ hp4
    clear hp4
    go_wp2_with (fail)
    refine (HPL.out _ P4.out).mono ?_
    rintro e w5 ⟨rfl, hp5⟩
    have P5 := Lib.hid hp5
    obtain ⟨k0, k1⟩ := HCELL.out _ _ _ _ hp5
    clear hp5
    go_wp2_with (fail)
    go_region_held3 (fun W => W.cell? ⟨w.heap.size, 0, none⟩ = some (.int .i64 z) ∧ W.cell? ⟨w.heap.size, 1, none⟩ = some (.int .i64 y))
      (first | (with_reducible exact HCELL.out _ _ _ _ P5.out.drew) | (with_reducible exact HCELL.out _ _ _ _ hpa) | (with_reducible exact HCELL.out _ _ _ _ hpb) | assumption)
      (first
      | (go_at_call 179; refine (HBH.out _ P5.out.drew).mono ?_; rintro e wa ⟨rfl, hpa⟩)
      | (go_at_call 72; (try rw [HSHK.out]); refine (HP3.out _ hpa).mono ?_; rintro e wb ⟨rfl, hpb⟩))
    have PB := Lib.hid hpb
    obtain ⟨k0, k1⟩ := HCELL.out _ _ _ _ hpb
    clear hpa hpb
    go_wp2_with (fail)
    refine (HTK.out _ PB.out).mono ?_
    rintro e w4 ⟨rfl, hd⟩
    have D := Lib.hid hd
    clear hd
    go_wp2
    go_end0
    exact ⟨rfl, D.out⟩
end Go.Proofs.YtjfekjbmgckkcaaGreatDoor.XorB

/- times' walks: rows of numbers. -/
namespace Go.Proofs.YtjfekjbmgckkcaaGreatDoor.TimesA
open Go.RowKit Go.Proofs.YtjfekjbmgckkcaaGreatDoorW.PrintWords
open Go.Proofs.YtjfekjbmgckkcaaGreatDoor.Bits Go.Proofs.YtjfekjbmgckkcaaGreatDoor.Base Go.Proofs.YtjfekjbmgckkcaaGreatDoor.VarPure Go.Proofs.YtjfekjbmgckkcaaGreatDoor.TimesPure Go.Proofs.YtjfekjbmgckkcaaGreatDoor.VarbitA Go.Proofs.YtjfekjbmgckkcaaGreatDoor.VarbitB Go.Proofs.YtjfekjbmgckkcaaGreatDoor.VarbitD Go.Proofs.YtjfekjbmgckkcaaGreatDoor.StreamA Go.Proofs.YtjfekjbmgckkcaaGreatDoor.StreamR Go.Proofs.YtjfekjbmgckkcaaGreatDoor.VarKit

theorem wrap_sub (a b : Nat) (_ : a < 18446744073709551616) (hb : b < 18446744073709551616) : IntKind.i64.wrap (i64 a - i64 b) = i64 (sub64 a b) := by
  rw [IntKind.wrap_i64]; unfold i64 sub64; repeat' split
  all_goals omega
theorem wrap_subU (a b : Nat) (_ : a < 18446744073709551616) (hb : b < 18446744073709551616) : IntKind.u64.wrap ((a : Int) - (b : Int)) = (sub64 a b : Int) := by
  rw [IntKind.wrap_u64]; unfold sub64; omega
theorem wrap_add (a b : Nat) (_ : a < 18446744073709551616) (_ : b < 18446744073709551616) : IntKind.i64.wrap (i64 a + i64 b) = i64 (add64 a b) := by
  rw [IntKind.wrap_i64]; unfold i64 add64; repeat' split
  all_goals omega
theorem wrap_addU (a b : Nat) (_ : a < 18446744073709551616) (_ : b < 18446744073709551616) : IntKind.u64.wrap ((a : Int) + (b : Int)) = (add64 a b : Int) := by
  rw [IntKind.wrap_u64]; unfold add64; omega
theorem wrap_ui (a : Nat) (ha : a < 18446744073709551616) : IntKind.u64.wrap (i64 a) = (a : Int) := by
  rw [IntKind.wrap_u64]; unfold i64; split <;> omega
/-- a first number's bits. -/
def firstS (v : Nat) : List Bool := encS (i64 v)
def firstU (v : Nat) : List Bool := encU v
theorem lenSv_calls (v : Nat) (w : World) (hT : Tab w) (hv : v < 18446744073709551616) :
    Calls Tryz.prog 172 #[.int .i64 (i64 v)] w fun e w' => e = .returned (.int .i64 (firstS v).length) ∧ w = w' := lenS_calls (i64 v) w hT (i64_range v hv).1 (i64_range v hv).2
theorem lenUv_calls (v : Nat) (w : World) (hT : Tab w) (hv : v < 18446744073709551616) :
    Calls Tryz.prog 174 #[.int .u64 v] w fun e w' => e = .returned (.int .i64 (firstU v).length) ∧ w = w' := lenU_calls v w hT hv
theorem putSv_calls (g : Nat) (S : Nat → Prop) (l : List Bool) (v : Nat) (w : World) (hT : Tab w) (hG : ¬ S 1) (h : Wr w g S l) (hm : l.length ≤ 10000000000) (hv : v < 18446744073709551616) :
    Calls Tryz.prog 73 #[.pointer (some ⟨g, 0, none⟩), .int .i64 (i64 v)] w fun e w' => e = .returned (.tuple #[]) ∧ Upd (fun w S => Wr w g S (l ++ firstS v)) S w w' := putS_calls g S l (i64 v) w hT hG h hm (i64_range v hv).1 (i64_range v hv).2
theorem putUv_calls (g : Nat) (S : Nat → Prop) (l : List Bool) (v : Nat) (w : World) (hT : Tab w) (hG : ¬ S 1) (h : Wr w g S l) (hm : l.length ≤ 10000000000) (hv : v < 18446744073709551616) :
    Calls Tryz.prog 150 #[.pointer (some ⟨g, 0, none⟩), .int .u64 v] w fun e w' => e = .returned (.tuple #[]) ∧ Upd (fun w S => Wr w g S (l ++ firstU v)) S w w' := putU_calls g S l v w hT hG h hm hv
theorem upd_undrew {O : World → (Nat → Prop) → Prop} {S : Nat → Prop} {w w' : World} {n : Nat} (h : Upd O S (w.drewN n) w') : Upd O S w w' := Upd.then (fun _ hk => .inl hk) ((Ch.refl S w).drewN n) h
theorem upd_ch {O : World → (Nat → Prop) → Prop} {S : Nat → Prop} {w w' : World} {n : Nat} (h : Upd O S (w.drewN n) w') : Ch S w w' := by
  obtain ⟨_, _, _, hc⟩ := h
  exact ((Ch.refl S w).drewN n).trans hc fun _ _ h => h

/-! ### rows of int64 -/
def TrS (w : World) (g last step n : Nat) : Prop :=
  w.heap[g]? = some (.cells #[.int .i64 (i64 last), .int .i64 (i64 step), .int .i64 n] 228 (0, 0)) ∧ last < 18446744073709551616 ∧ step < 18446744073709551616 ∧ n ≤ 1000000
theorem TrS.ch {S : Nat → Prop} {w w' : World} {g last step n : Nat} (h : TrS w g last step n) (hc : Ch S w w') (hs : ¬ S g) : TrS w' g last step n := ⟨hc.blk h.1 hs, h.2⟩
theorem TrS.below {w w' : World} {g last step n : Nat} (h : TrS w g last step n) (hb : Below w.heap.size w w') : TrS w' g last step n := h.ch (Ch.of_below (S := fun _ => False) hb) id
theorem TrS.lt {w : World} {g last step n : Nat} (h : TrS w g last step n) : g < w.heap.size := blk_lt h.1

theorem newS_calls (w : World) :
    Calls Tryz.prog 98 #[] w fun e w' => e = .returned (.pointer (some ⟨w.heap.size, 0, none⟩)) ∧ TrS w' w.heap.size 0 0 0 ∧ Below w.heap.size w w' := by
  go_enter Tryz.func98, Tryz.ntmps98
  go_wp2
  go_ret
  exact ⟨rfl, ⟨blk_last _ _, by decide, by decide, by decide⟩, below_alloc (Below.refl _ _) _⟩

set_option maxHeartbeats 400000 in
theorem signedS_calls (g : Nat) (w : World) :
    Calls Tryz.prog 173 #[.pointer (some ⟨g, 0, none⟩)] w fun e w' => e = .returned (.bool true) ∧ w = w' := by
  go_enter Tryz.func173, Tryz.ntmps173
  go_wp2
  go_ret
  exact ⟨rfl, rfl⟩

set_option maxHeartbeats 800000 in
theorem toS_calls (g last step n v : Nat) (w : World) (h : TrS w g last step n) (hv : v < 18446744073709551616) :
    Calls Tryz.prog 171 #[.pointer (some ⟨g, 0, none⟩), .int .i64 (i64 v)] w fun e w' =>
      e = .returned (.tuple #[.int .i64 (i64 (stepTo last n v)), .int .i64 (if n = 0 then 0 else i64 (sub64 (sub64 v last) step))]) ∧ Drawn0 w w' := by
  obtain ⟨hg, hl, hs, hn⟩ := h
  have c0 : w.cell? ⟨g, 0, none⟩ = some (.int .i64 (i64 last)) := obj_cell hg rfl
  have c1 : w.cell? ⟨g, 1, none⟩ = some (.int .i64 (i64 step)) := obj_cell hg rfl
  have c2 : w.cell? ⟨g, 2, none⟩ = some (.int .i64 n) := obj_cell hg rfl
  clear hg
  by_cases h0 : n = 0
  · subst h0
    rw [if_pos rfl, show stepTo last 0 v = 0 from rfl, show i64 0 = 0 from rfl]
    clear c0 c1 hl hs
    go_enter Tryz.func171, Tryz.ntmps171
    go_wp2
    go_ret2
    exact ⟨rfl, Drawn0.refl _⟩
  · have d0 : ((n : Int) == 0) = false := by simp; omega
    rw [if_neg h0, show stepTo last n v = sub64 v last from if_neg h0]
    have e1 := wrap_sub v last hv hl
    have hq := sub64_lt v last
    obtain ⟨q, hqq⟩ : ∃ q, q = sub64 v last := ⟨_, rfl⟩
    rw [← hqq] at e1 hq ⊢
    skip
    have e2 := wrap_sub q step hq hs
    have H2 := Lib.hid e2
    clear hqq h0
    go_enter Tryz.func171, Tryz.ntmps171
    go_wp2_with (fail)
    go_quiet (fail)
    go_wp2
    go_ret2
    exact ⟨rfl, by repeat (first | exact Drawn0.refl _ | apply Drawn0.step)⟩

set_option maxHeartbeats 800000 in
theorem takeS_calls (g last step n v st : Nat) (w : World) (h : TrS w g last step n) (hv : v < 18446744073709551616) (hst : st < 18446744073709551616) (hn : n < 1000000) :
    Calls Tryz.prog 178 #[.pointer (some ⟨g, 0, none⟩), .int .i64 (i64 v), .int .i64 (i64 st)] w fun e w' => e = .returned (.tuple #[]) ∧ TrS w' g v st (n + 1) ∧ Ch (fun k => k = g) w w' := by
  obtain ⟨hg, -⟩ := h
  have c0 : w.cell? ⟨g, 0, none⟩ = some (.int .i64 (i64 last)) := obj_cell hg rfl
  have c1 : w.cell? ⟨g, 1, none⟩ = some (.int .i64 (i64 step)) := obj_cell hg rfl
  have c2 : w.cell? ⟨g, 2, none⟩ = some (.int .i64 n) := obj_cell hg rfl
  have f0 : w.frozen? ⟨g, 0, none⟩ = false := obj_free hg
  have f1 : w.frozen? ⟨g, 1, none⟩ = false := obj_free hg
  have f2 : w.frozen? ⟨g, 2, none⟩ = false := obj_free hg
  have HG := Lib.hid hg
  clear hg
  go_enter Tryz.func178, Tryz.ntmps178
  go_wp2_with (fail)
  go_end0
  refine ⟨rfl, ⟨?_, hv, hst, by omega⟩, ?_⟩
  · exact blk_set (blk_set (blk_set HG.out 0 _) 1 _) 2 _
  · exact (((Ch.refl (fun k => k = g) w).setCell (p := ⟨g, 0, none⟩) (.inl rfl) _).setCell (p := ⟨g, 1, none⟩) (.inl rfl) _).setCell (p := ⟨g, 2, none⟩) (.inl rfl) _

set_option maxHeartbeats 800000 in
theorem costS_calls (g last step n v : Nat) (w : World) (hT : Tab w) (h : TrS w g last step n) (hv : v < 18446744073709551616) :
    Calls Tryz.prog 108 #[.pointer (some ⟨g, 0, none⟩), .int .i64 (i64 v)] w fun e w' => e = .returned (.int .i64 (told true last step n v).length) ∧ Drawn0 w w' := by
  have HTO := Lib.hid (toS_calls g last step n v w h hv)
  have HT := Lib.hid hT
  obtain ⟨hg, hl, hs, hn⟩ := h
  have c2 : w.cell? ⟨g, 2, none⟩ = some (.int .i64 n) := obj_cell hg rfl
  by_cases h0 : n = 0
  · subst h0
    have hir := i64_range v hv
    have HL := Lib.hid (fun m => lenSv_calls v (w.drewN m) (HT.out.drewN m) hv)
    have HSG := Lib.hid (fun m => signedS_calls g (w.drewN m))
    rw [show told true last step 0 v = firstS v from rfl]
    clear hg hT
    go_enter Tryz.func108, Tryz.ntmps108
    go_wp2_with (first
      | (go_at_call 171; refine HTO.out.mono ?_; rintro e w' ⟨rfl, nd, rfl⟩)
      | (go_at_call 173; refine (HSG.out _).mono ?_; rintro e w' ⟨rfl, rfl⟩)
      | (go_at_call 172; refine (HL.out _).mono ?_; rintro e w' ⟨rfl, rfl⟩))
    go_ret
    exact ⟨rfl, _, rfl⟩
  · have d0 : decide ((n : Int) > 0) = true := by simp; omega
    have d0' : decide (0 < (n : Int)) = true := by simp; omega
    have d0n : decide (0 < n) = true := by simp; omega
    have hir := i64_range (sub64 (sub64 v last) step) (sub64_lt _ _)
    have HL := Lib.hid (fun m => lenS_calls (i64 (sub64 (sub64 v last) step)) (w.drewN m) (HT.out.drewN m) hir.1 hir.2)
    rw [show told true last step n v = encS (i64 (sub64 (sub64 v last) step)) from if_neg h0]
    rw [if_neg h0] at HTO
    clear hg hT h0
    go_enter Tryz.func108, Tryz.ntmps108
    go_wp2_with (first
      | (go_at_call 171; refine HTO.out.mono ?_; rintro e w' ⟨rfl, nd, rfl⟩)
      | (go_at_call 172; refine (HL.out _).mono ?_; rintro e w' ⟨rfl, rfl⟩))
    go_ret
    exact ⟨rfl, _, rfl⟩

/-- what a row of int64 and a writer are behind a number that was put. -/
def PutS (g gx : Nat) (S : Nat → Prop) (l : List Bool) (last step n v : Nat) (w w' : World) : Prop :=
  ∃ S', Wr w' g S' (l ++ told true last step n v) ∧ (∀ k, S' k → S k ∨ w.heap.size ≤ k) ∧ TrS w' gx v (stepTo last n v) (n + 1) ∧ Ch (fun k => S k ∨ k = gx) w w'

set_option maxHeartbeats 800000 in
theorem putS_row (g gx : Nat) (S : Nat → Prop) (l : List Bool) (last step n v : Nat) (w : World) (hT : Tab w) (hG : ¬ S 1) (hx : TrS w gx last step n) (hw : Wr w g S l) (hgx : ¬ S gx)
    (hm : l.length ≤ 10000000000) (hv : v < 18446744073709551616) (hn : n < 1000000) :
    Calls Tryz.prog 111 #[.pointer (some ⟨gx, 0, none⟩), .pointer (some ⟨g, 0, none⟩), .int .i64 (i64 v)] w fun e w' => e = .returned (.tuple #[]) ∧ PutS g gx S l last step n v w w' := by
  have HTO := Lib.hid (toS_calls gx last step n v w hx hv)
  have HX := Lib.hid hx
  have HEND := Lib.hid (fun (b : List Bool) (w1 w2 : World) (hu : Upd (fun w S => Wr w g S (l ++ b)) S w w1) (h2 : b = told true last step n v) (hx2 : TrS w2 gx v (stepTo last n v) (n + 1)) (hc : Ch (fun k => k = gx) w1 w2) =>
    show PutS g gx S l last step n v w w2 from by
      obtain ⟨S', ho, hs, h1⟩ := hu
      subst h2
      refine ⟨S', ho.ch hc ?_, hs, hx2, ?_⟩
      · rintro k hk rfl
        rcases hs _ hk with h3 | h3
        · exact hgx h3
        · have := hx.lt; omega
      · exact (h1.mono fun k _ h => .inl h).trans hc fun i _ h => .inr h)
  have HST := Lib.hid (stepTo_lt last n v)
  have HTX := Lib.hid (fun (w1 : World) (h : Ch S w w1) => takeS_calls gx last step n v (stepTo last n v) w1 (hx.ch h hgx) hv (stepTo_lt last n v) hn)
  have c2 : w.cell? ⟨gx, 2, none⟩ = some (.int .i64 n) := obj_cell hx.1 rfl
  by_cases h0 : n = 0
  · subst h0
    have hir := i64_range v hv
    have HP := Lib.hid (fun m => putSv_calls g S l v (w.drewN m) hT hG hw hm hv)
    have HSG := Lib.hid (fun m => signedS_calls gx (w.drewN m))
    clear hT hG hx hw hgx HX HST
    go_enter Tryz.func111, Tryz.ntmps111
    go_wp2_with (first
      | (go_at_call 171; refine HTO.out.mono ?_; rintro e w' ⟨rfl, nd, rfl⟩)
      | (go_at_call 173; refine (HSG.out _).mono ?_; rintro e w' ⟨rfl, rfl⟩)
      | (go_at_call 73; refine (HP.out _).mono ?_; rintro e w1 ⟨rfl, hu⟩; have HU := Lib.hid hu; clear hu)
      | (go_at_call 178; refine (HTX.out _ (upd_ch HU.out)).mono ?_; rintro e w2 ⟨rfl, hx2, hc2⟩))
    go_end0
    exact ⟨rfl, HEND.out _ _ _ (upd_undrew HU.out) rfl hx2 hc2⟩
  · have d0 : decide ((n : Int) > 0) = true := by simp; omega
    have d0' : decide (0 < (n : Int)) = true := by simp; omega
    have d0n : decide (0 < n) = true := by simp; omega
    have hir := i64_range (sub64 (sub64 v last) step) (sub64_lt _ _)
    have HP := Lib.hid (fun m => putS_calls g S l (i64 (sub64 (sub64 v last) step)) (w.drewN m) hT hG hw hm hir.1 hir.2)
    have HTL := Lib.hid (show told true last step n v = encS (i64 (sub64 (sub64 v last) step)) from if_neg h0)
    rw [if_neg h0] at HTO
    clear hT hG hx hw hgx h0 HX HST
    go_enter Tryz.func111, Tryz.ntmps111
    go_wp2_with (first
      | (go_at_call 171; refine HTO.out.mono ?_; rintro e w' ⟨rfl, nd, rfl⟩)
      | (go_at_call 73; refine (HP.out _).mono ?_; rintro e w1 ⟨rfl, hu⟩; have HU := Lib.hid hu; clear hu)
      | (go_at_call 178; refine (HTX.out _ (upd_ch HU.out)).mono ?_; rintro e w2 ⟨rfl, hx2, hc2⟩))
    go_end0
    exact ⟨rfl, HEND.out _ _ _ (upd_undrew HU.out) HTL.out.symm hx2 hc2⟩

/-! ### rows of uint64 -/
def TrU (w : World) (g last step n : Nat) : Prop :=
  w.heap[g]? = some (.cells #[.int .u64 last, .int .i64 (i64 step), .int .i64 n] 304 (0, 0)) ∧ last < 18446744073709551616 ∧ step < 18446744073709551616 ∧ n ≤ 1000000
theorem TrU.ch {S : Nat → Prop} {w w' : World} {g last step n : Nat} (h : TrU w g last step n) (hc : Ch S w w') (hs : ¬ S g) : TrU w' g last step n := ⟨hc.blk h.1 hs, h.2⟩
theorem TrU.below {w w' : World} {g last step n : Nat} (h : TrU w g last step n) (hb : Below w.heap.size w w') : TrU w' g last step n := h.ch (Ch.of_below (S := fun _ => False) hb) id
theorem TrU.lt {w : World} {g last step n : Nat} (h : TrU w g last step n) : g < w.heap.size := blk_lt h.1

theorem newU_calls (w : World) :
    Calls Tryz.prog 188 #[] w fun e w' => e = .returned (.pointer (some ⟨w.heap.size, 0, none⟩)) ∧ TrU w' w.heap.size 0 0 0 ∧ Below w.heap.size w w' := by
  go_enter Tryz.func188, Tryz.ntmps188
  go_wp2
  go_ret
  exact ⟨rfl, ⟨blk_last _ _, by decide, by decide, by decide⟩, below_alloc (Below.refl _ _) _⟩

set_option maxHeartbeats 400000 in
theorem signedU_calls (g : Nat) (w : World) :
    Calls Tryz.prog 227 #[.pointer (some ⟨g, 0, none⟩)] w fun e w' => e = .returned (.bool false) ∧ w = w' := by
  go_enter Tryz.func227, Tryz.ntmps227
  go_wp2
  go_ret
  exact ⟨rfl, rfl⟩

set_option maxHeartbeats 800000 in
theorem toU_calls (g last step n v : Nat) (w : World) (h : TrU w g last step n) (hv : v < 18446744073709551616) :
    Calls Tryz.prog 226 #[.pointer (some ⟨g, 0, none⟩), .int .u64 v] w fun e w' =>
      e = .returned (.tuple #[.int .i64 (i64 (stepTo last n v)), .int .i64 (if n = 0 then 0 else i64 (sub64 (sub64 v last) step))]) ∧ Drawn0 w w' := by
  obtain ⟨hg, hl, hs, hn⟩ := h
  have c0 : w.cell? ⟨g, 0, none⟩ = some (.int .u64 last) := obj_cell hg rfl
  have c1 : w.cell? ⟨g, 1, none⟩ = some (.int .i64 (i64 step)) := obj_cell hg rfl
  have c2 : w.cell? ⟨g, 2, none⟩ = some (.int .i64 n) := obj_cell hg rfl
  clear hg
  by_cases h0 : n = 0
  · subst h0
    rw [if_pos rfl, show stepTo last 0 v = 0 from rfl, show i64 0 = 0 from rfl]
    clear c0 c1 hl hs
    go_enter Tryz.func226, Tryz.ntmps226
    go_wp2
    go_ret2
    exact ⟨rfl, Drawn0.refl _⟩
  · have d0 : ((n : Int) == 0) = false := by simp; omega
    rw [if_neg h0, show stepTo last n v = sub64 v last from if_neg h0]
    have e1 := wrap_subU v last hv hl
    have hq := sub64_lt v last
    obtain ⟨q, hqq⟩ : ∃ q, q = sub64 v last := ⟨_, rfl⟩
    rw [← hqq] at e1 hq ⊢
    have e3 := wrap_i64 q hq
    have e2 := wrap_sub q step hq hs
    have H2 := Lib.hid e2
    clear hqq h0
    go_enter Tryz.func226, Tryz.ntmps226
    go_wp2_with (fail)
    go_quiet (fail)
    go_wp2
    go_ret2
    exact ⟨rfl, by repeat (first | exact Drawn0.refl _ | apply Drawn0.step)⟩

set_option maxHeartbeats 800000 in
theorem takeU_calls (g last step n v st : Nat) (w : World) (h : TrU w g last step n) (hv : v < 18446744073709551616) (hst : st < 18446744073709551616) (hn : n < 1000000) :
    Calls Tryz.prog 229 #[.pointer (some ⟨g, 0, none⟩), .int .u64 v, .int .i64 (i64 st)] w fun e w' => e = .returned (.tuple #[]) ∧ TrU w' g v st (n + 1) ∧ Ch (fun k => k = g) w w' := by
  obtain ⟨hg, -⟩ := h
  have c0 : w.cell? ⟨g, 0, none⟩ = some (.int .u64 last) := obj_cell hg rfl
  have c1 : w.cell? ⟨g, 1, none⟩ = some (.int .i64 (i64 step)) := obj_cell hg rfl
  have c2 : w.cell? ⟨g, 2, none⟩ = some (.int .i64 n) := obj_cell hg rfl
  have f0 : w.frozen? ⟨g, 0, none⟩ = false := obj_free hg
  have f1 : w.frozen? ⟨g, 1, none⟩ = false := obj_free hg
  have f2 : w.frozen? ⟨g, 2, none⟩ = false := obj_free hg
  have HG := Lib.hid hg
  clear hg
  go_enter Tryz.func229, Tryz.ntmps229
  go_wp2_with (fail)
  go_end0
  refine ⟨rfl, ⟨?_, hv, hst, by omega⟩, ?_⟩
  · exact blk_set (blk_set (blk_set HG.out 0 _) 1 _) 2 _
  · exact (((Ch.refl (fun k => k = g) w).setCell (p := ⟨g, 0, none⟩) (.inl rfl) _).setCell (p := ⟨g, 1, none⟩) (.inl rfl) _).setCell (p := ⟨g, 2, none⟩) (.inl rfl) _

set_option maxHeartbeats 800000 in
theorem costU_calls (g last step n v : Nat) (w : World) (hT : Tab w) (h : TrU w g last step n) (hv : v < 18446744073709551616) :
    Calls Tryz.prog 192 #[.pointer (some ⟨g, 0, none⟩), .int .u64 v] w fun e w' => e = .returned (.int .i64 (told false last step n v).length) ∧ Drawn0 w w' := by
  have HTO := Lib.hid (toU_calls g last step n v w h hv)
  have HT := Lib.hid hT
  obtain ⟨hg, hl, hs, hn⟩ := h
  have c2 : w.cell? ⟨g, 2, none⟩ = some (.int .i64 n) := obj_cell hg rfl
  by_cases h0 : n = 0
  · subst h0
    have hir := i64_range v hv
    have HL := Lib.hid (fun m => lenUv_calls v (w.drewN m) (HT.out.drewN m) hv)
    have HSG := Lib.hid (fun m => signedU_calls g (w.drewN m))
    rw [show told false last step 0 v = firstU v from rfl]
    clear hg hT
    go_enter Tryz.func192, Tryz.ntmps192
    go_wp2_with (first
      | (go_at_call 226; refine HTO.out.mono ?_; rintro e w' ⟨rfl, nd, rfl⟩)
      | (go_at_call 227; refine (HSG.out _).mono ?_; rintro e w' ⟨rfl, rfl⟩)
      | (go_at_call 174; refine (HL.out _).mono ?_; rintro e w' ⟨rfl, rfl⟩))
    go_ret
    exact ⟨rfl, _, rfl⟩
  · have d0 : decide ((n : Int) > 0) = true := by simp; omega
    have d0' : decide (0 < (n : Int)) = true := by simp; omega
    have d0n : decide (0 < n) = true := by simp; omega
    have hir := i64_range (sub64 (sub64 v last) step) (sub64_lt _ _)
    have HL := Lib.hid (fun m => lenS_calls (i64 (sub64 (sub64 v last) step)) (w.drewN m) (HT.out.drewN m) hir.1 hir.2)
    rw [show told false last step n v = encS (i64 (sub64 (sub64 v last) step)) from if_neg h0]
    rw [if_neg h0] at HTO
    clear hg hT h0
    go_enter Tryz.func192, Tryz.ntmps192
    go_wp2_with (first
      | (go_at_call 226; refine HTO.out.mono ?_; rintro e w' ⟨rfl, nd, rfl⟩)
      | (go_at_call 172; refine (HL.out _).mono ?_; rintro e w' ⟨rfl, rfl⟩))
    go_ret
    exact ⟨rfl, _, rfl⟩

/-- what a row of uint64 and a writer are behind a number that was put. -/
def PutU (g gx : Nat) (S : Nat → Prop) (l : List Bool) (last step n v : Nat) (w w' : World) : Prop :=
  ∃ S', Wr w' g S' (l ++ told false last step n v) ∧ (∀ k, S' k → S k ∨ w.heap.size ≤ k) ∧ TrU w' gx v (stepTo last n v) (n + 1) ∧ Ch (fun k => S k ∨ k = gx) w w'

set_option maxHeartbeats 800000 in
theorem putU_row (g gx : Nat) (S : Nat → Prop) (l : List Bool) (last step n v : Nat) (w : World) (hT : Tab w) (hG : ¬ S 1) (hx : TrU w gx last step n) (hw : Wr w g S l) (hgx : ¬ S gx)
    (hm : l.length ≤ 10000000000) (hv : v < 18446744073709551616) (hn : n < 1000000) :
    Calls Tryz.prog 194 #[.pointer (some ⟨gx, 0, none⟩), .pointer (some ⟨g, 0, none⟩), .int .u64 v] w fun e w' => e = .returned (.tuple #[]) ∧ PutU g gx S l last step n v w w' := by
  have HTO := Lib.hid (toU_calls gx last step n v w hx hv)
  have HX := Lib.hid hx
  have HEND := Lib.hid (fun (b : List Bool) (w1 w2 : World) (hu : Upd (fun w S => Wr w g S (l ++ b)) S w w1) (h2 : b = told false last step n v) (hx2 : TrU w2 gx v (stepTo last n v) (n + 1)) (hc : Ch (fun k => k = gx) w1 w2) =>
    show PutU g gx S l last step n v w w2 from by
      obtain ⟨S', ho, hs, h1⟩ := hu
      subst h2
      refine ⟨S', ho.ch hc ?_, hs, hx2, ?_⟩
      · rintro k hk rfl
        rcases hs _ hk with h3 | h3
        · exact hgx h3
        · have := hx.lt; omega
      · exact (h1.mono fun k _ h => .inl h).trans hc fun i _ h => .inr h)
  have HST := Lib.hid (stepTo_lt last n v)
  have HTX := Lib.hid (fun (w1 : World) (h : Ch S w w1) => takeU_calls gx last step n v (stepTo last n v) w1 (hx.ch h hgx) hv (stepTo_lt last n v) hn)
  have c2 : w.cell? ⟨gx, 2, none⟩ = some (.int .i64 n) := obj_cell hx.1 rfl
  by_cases h0 : n = 0
  · subst h0
    have hir := i64_range v hv
    have HP := Lib.hid (fun m => putUv_calls g S l v (w.drewN m) hT hG hw hm hv)
    have HSG := Lib.hid (fun m => signedU_calls gx (w.drewN m))
    clear hT hG hx hw hgx HX HST
    go_enter Tryz.func194, Tryz.ntmps194
    go_wp2_with (first
      | (go_at_call 226; refine HTO.out.mono ?_; rintro e w' ⟨rfl, nd, rfl⟩)
      | (go_at_call 227; refine (HSG.out _).mono ?_; rintro e w' ⟨rfl, rfl⟩)
      | (go_at_call 150; refine (HP.out _).mono ?_; rintro e w1 ⟨rfl, hu⟩; have HU := Lib.hid hu; clear hu)
      | (go_at_call 229; refine (HTX.out _ (upd_ch HU.out)).mono ?_; rintro e w2 ⟨rfl, hx2, hc2⟩))
    go_end0
    exact ⟨rfl, HEND.out _ _ _ (upd_undrew HU.out) rfl hx2 hc2⟩
  · have d0 : decide ((n : Int) > 0) = true := by simp; omega
    have d0' : decide (0 < (n : Int)) = true := by simp; omega
    have d0n : decide (0 < n) = true := by simp; omega
    have hir := i64_range (sub64 (sub64 v last) step) (sub64_lt _ _)
    have HP := Lib.hid (fun m => putS_calls g S l (i64 (sub64 (sub64 v last) step)) (w.drewN m) hT hG hw hm hir.1 hir.2)
    have HTL := Lib.hid (show told false last step n v = encS (i64 (sub64 (sub64 v last) step)) from if_neg h0)
    rw [if_neg h0] at HTO
    clear hT hG hx hw hgx h0 HX HST
    go_enter Tryz.func194, Tryz.ntmps194
    go_wp2_with (first
      | (go_at_call 226; refine HTO.out.mono ?_; rintro e w' ⟨rfl, nd, rfl⟩)
      | (go_at_call 73; refine (HP.out _).mono ?_; rintro e w1 ⟨rfl, hu⟩; have HU := Lib.hid hu; clear hu)
      | (go_at_call 229; refine (HTX.out _ (upd_ch HU.out)).mono ?_; rintro e w2 ⟨rfl, hx2, hc2⟩))
    go_end0
    exact ⟨rfl, HEND.out _ _ _ (upd_undrew HU.out) HTL.out.symm hx2 hc2⟩
end Go.Proofs.YtjfekjbmgckkcaaGreatDoor.TimesA

/- the reference of layer 13: texts of bits of rows of numbers. -/
namespace Go.Proofs.YtjfekjbmgckkcaaGreatDoor.Ref13
open Go.RowKit Go.Proofs.YtjfekjbmgckkcaaGreatDoorW.PrintWords
open Go.Proofs.YtjfekjbmgckkcaaGreatDoor.Bits Go.Proofs.YtjfekjbmgckkcaaGreatDoor.Base Go.Proofs.YtjfekjbmgckkcaaGreatDoor.VarPure Go.Proofs.YtjfekjbmgckkcaaGreatDoor.TimesPure Go.Proofs.YtjfekjbmgckkcaaGreatDoor.VarKit Go.Proofs.YtjfekjbmgckkcaaGreatDoor.Ref04 Go.Proofs.YtjfekjbmgckkcaaGreatDoor.TimesA

/-- numbers of 64 bits in memory. -/
def nats (l : List Nat) : List Int := l.map fun (n : Nat) => (n : Int)
theorem nats_length (l : List Nat) : (nats l).length = l.length := by simp [nats]
theorem nats_get (l : List Nat) (k : Nat) (h : k < l.length) (h' : k < (nats l).length) : (nats l)[k] = (l[k] : Int) := by simp [nats]
theorem nats_take (l : List Nat) (k : Nat) : nats (l.take k) = (nats l).take k := by simp [nats]
theorem nats_append (a b : List Nat) : nats (a ++ b) = nats a ++ nats b := by simp [nats]
theorem nat_at {w : World} {A : Option Addr} {l : List Nat} (h : RdI .u64 w A (nats l)) (k : Nat) (hk : k < l.length) : ∃ ad, A = some ad ∧ w.cell? (ad.add k) = some (.int .u64 (l[k] : Int)) := by
  obtain ⟨ad, he, hc⟩ := h.at_ k (by rw [nats_length]; exact hk)
  rw [nats_get l k hk] at hc
  exact ⟨ad, he, hc⟩

set_option maxHeartbeats 800000 in
theorem step_calls (A : Option Addr) (c : Nat) (l : List Nat) (w : World) (hr : RdI .u64 w A (nats l)) (hm : l.length ≤ 1000000) (hl : ∀ v ∈ l, v < 18446744073709551616) :
    Calls Tryz.prog 231 #[.slice A l.length c] w fun e w' => e = .returned (.int .u64 (stepOf l)) ∧ Drawn0 w w' := by
  by_cases h2 : l.length < 2
  · have d1 : decide ((l.length : Int) < 2) = true := by simp; omega
    have d1n : decide (l.length < 2) = true := by simp; omega
    rw [show stepOf l = 0 from if_pos h2]
    clear hr hl
    go_enter Tryz.func231, Tryz.ntmps231
    go_wp2
    go_ret
    exact ⟨rfl, Drawn0.refl _⟩
  · have d1 : decide ((l.length : Int) < 2) = false := by simp; omega
    have d1n : decide (l.length < 2) = false := by simp; omega
    obtain ⟨m, hmm⟩ : ∃ m, m + 2 = l.length := ⟨l.length - 2, by omega⟩
    obtain ⟨ad, rfl, x1⟩ := nat_at hr (m + 1) (by omega)
    obtain ⟨ad', he, x0⟩ := nat_at hr m (by omega)
    injection he with he
    subst he
    have h0 := hl l[m] (List.getElem_mem _)
    have h1 := hl l[m + 1] (List.getElem_mem _)
    have hst : stepOf l = sub64 l[m + 1] l[m] := by
      rw [stepOf, if_neg h2, show l.length - 1 = m + 1 from by omega, show l.length - 2 = m from by omega]
      congr 1
      · rw [List.getD_eq_getElem?_getD, List.getElem?_eq_getElem (by omega)]; rfl
      · rw [List.getD_eq_getElem?_getD, List.getElem?_eq_getElem (by omega)]; rfl
    rw [hst]
    obtain ⟨p, hp⟩ : ∃ p, p = l[m] := ⟨_, rfl⟩
    obtain ⟨q, hq⟩ : ∃ q, q = l[m + 1] := ⟨_, rfl⟩
    rw [← hp] at x0 h0 ⊢
    rw [← hq] at x1 h1 ⊢
    have hw := wrap_subU q p h1 h0
    obtain ⟨i, hi⟩ : ∃ i, i = m + 1 := ⟨_, rfl⟩
    rw [← hi] at x1
    obtain ⟨n, hnn⟩ : ∃ n, n = l.length := ⟨_, rfl⟩
    rw [← hnn] at d1 d1n hm ⊢
    have e1 : (n : Int) - 1 = (i : Int) := by omega
    have e2 : (n : Int) - 2 = (m : Int) := by omega
    have b1 : (i : Int) < (n : Int) := by omega
    have b2 : (m : Int) < (n : Int) := by omega
    have v1 : IntKind.i64.wrap (i : Int) = i := by rw [IntKind.wrap_i64]; omega
    have v2 : IntKind.i64.wrap (m : Int) = m := by rw [IntKind.wrap_i64]; omega
    have b1n : i < n := by omega
    have b2n : m < n := by omega
    clear hr hl hst hp hq h2 hmm hi hnn
    go_enter Tryz.func231, Tryz.ntmps231
    go_wp2_with (fail)
    go_quiet (fail)
    go_wp2
    go_ret
    exact ⟨rfl, by repeat (first | exact Drawn0.refl _ | apply Drawn0.step)⟩

set_option maxHeartbeats 800000 in
theorem putText_calls (sg : Bool) (A : Option Addr) (c v : Nat) (l : List Nat) (w : World) (hr : RdI .u64 w A (nats l)) (hm : l.length ≤ 1000000) (hl : ∀ v ∈ l, v < 18446744073709551616) (hv : v < 18446744073709551616) :
    Calls Tryz.prog 209 #[.slice A l.length c, .int .u64 v, .int .i64 (if sg then 1 else 0)] w fun e w' => e = .returned (.string (txt (toldL sg l v))) ∧ Below w.heap.size w w' := by
  by_cases h0 : l = []
  · subst h0
    clear hr hl
    cases sg with
    | true =>
      have hir := i64_range v hv
      have HS := Lib.hid (S_calls (i64 v) w hir.1 hir.2)
      have hw := VarbitD.wrap_i64 v hv
      rw [show toldL true [] v = encS (i64 v) from rfl]
      simp only [if_true, List.length_nil]
      clear hir
      go_enter Tryz.func209, Tryz.ntmps209
      go_wp2_with (go_at_call 81; refine HS.out.mono ?_; rintro e w1 ⟨rfl, hb⟩)
      go_ret
      exact ⟨rfl, hb⟩
    | false =>
      have HS := Lib.hid (U_calls v w hv)
      rw [show toldL false [] v = encU v from rfl]
      simp only [List.length_nil]
      go_enter Tryz.func209, Tryz.ntmps209
      go_wp2_with (go_at_call 156; refine HS.out.mono ?_; rintro e w1 ⟨rfl, hb⟩)
      go_ret
      exact ⟨rfl, hb⟩
  · have hn : 0 < l.length := List.length_pos_iff.2 h0
    have d0 : ((l.length : Int) == 0) = false := by simp; omega
    have d0n : (l.length == 0) = false := by simp; exact h0
    obtain ⟨m, hmm⟩ : ∃ m, m + 1 = l.length := ⟨l.length - 1, by omega⟩
    have HSTEP := Lib.hid (fun n => step_calls A c l (w.drewN n) (hr.drewN n) hm hl)
    obtain ⟨ad, rfl, x1⟩ := nat_at hr m (by omega)
    have h1 := hl l[m] (List.getElem_mem _)
    have hlast : lastOf l = l[m] := by
      rw [lastOf, List.getLast?_eq_getElem?, show l.length - 1 = m from by omega, List.getElem?_eq_getElem (by omega)]; rfl
    have hs : stepOf l < 18446744073709551616 := by
      unfold stepOf; split
      · decide
      · exact sub64_lt _ _
    have ht : toldL sg l v = encS (i64 (sub64 (sub64 v l[m]) (stepOf l))) := by
      rw [toldL, told, if_neg (by omega), hlast]
    rw [ht]
    obtain ⟨p, hp⟩ : ∃ p, p = l[m] := ⟨_, rfl⟩
    obtain ⟨s, hss⟩ : ∃ s, s = stepOf l := ⟨_, rfl⟩
    rw [← hp] at x1 h1 ⊢
    rw [← hss] at hs HSTEP ⊢
    have hw := wrap_subU v p hv h1
    have hq := sub64_lt v p
    obtain ⟨q, hqq⟩ : ∃ q, q = sub64 v p := ⟨_, rfl⟩
    rw [← hqq] at hw hq ⊢
    have hw2 := wrap_subU q s hq hs
    have hz := sub64_lt q s
    obtain ⟨z, hzz⟩ : ∃ z, z = sub64 q s := ⟨_, rfl⟩
    rw [← hzz] at hw2 hz ⊢
    have hw3 := VarbitD.wrap_i64 z hz
    have hir := i64_range z hz
    have HS := Lib.hid (fun W => S_calls (i64 z) W hir.1 hir.2)
    rw [← hmm] at HSTEP d0 d0n hm ⊢
    clear hr hl ht hp hss hqq hzz hir hlast h0 hmm hn
    cases sg with
    | true =>
      simp only [if_true]
      go_enter Tryz.func209, Tryz.ntmps209
      go_wp2_with (first | (go_at_call 231; refine (HSTEP.out 0).mono ?_; rintro e w' ⟨rfl, nd, rfl⟩) | (go_at_call 81; refine (HS.out _).mono ?_; rintro e w1 ⟨rfl, hb⟩))
      go_ret
      exact ⟨rfl, below_then (pw_below_drewN (Below.refl w.heap.size w) _) (Nat.le_refl _) hb⟩
    | false =>
      go_enter Tryz.func209, Tryz.ntmps209
      go_wp2_with (first | (go_at_call 231; refine (HSTEP.out 0).mono ?_; rintro e w' ⟨rfl, nd, rfl⟩) | (go_at_call 81; refine (HS.out _).mono ?_; rintro e w1 ⟨rfl, hb⟩))
      go_ret
      exact ⟨rfl, below_then (pw_below_drewN (Below.refl w.heap.size w) _) (Nat.le_refl _) hb⟩
end Go.Proofs.YtjfekjbmgckkcaaGreatDoor.Ref13

/- fchunk's object: what it is made of. -/
namespace Go.Proofs.YtjfekjbmgckkcaaGreatDoor.FcObj
open Go.RowKit Go.Proofs.YtjfekjbmgckkcaaGreatDoorW.PrintWords
open Go.Proofs.YtjfekjbmgckkcaaGreatDoor.Bits Go.Proofs.YtjfekjbmgckkcaaGreatDoor.Base Go.Proofs.YtjfekjbmgckkcaaGreatDoor.VarPure Go.Proofs.YtjfekjbmgckkcaaGreatDoor.VarbitA Go.Proofs.YtjfekjbmgckkcaaGreatDoor.StreamA Go.Proofs.YtjfekjbmgckkcaaGreatDoor.TimesPure Go.Proofs.YtjfekjbmgckkcaaGreatDoor.TimesA Go.Proofs.YtjfekjbmgckkcaaGreatDoor.Ref13 Go.Proofs.YtjfekjbmgckkcaaGreatDoor.SpanPure Go.Proofs.YtjfekjbmgckkcaaGreatDoor.SpanBase Go.Proofs.YtjfekjbmgckkcaaGreatDoor.HeadA Go.Proofs.YtjfekjbmgckkcaaGreatDoor.HeadB Go.Proofs.YtjfekjbmgckkcaaGreatDoor.HeadD Go.Proofs.YtjfekjbmgckkcaaGreatDoor.HeadPure Go.Proofs.YtjfekjbmgckkcaaGreatDoor.XorPure Go.Proofs.YtjfekjbmgckkcaaGreatDoor.XorB Go.Proofs.YtjfekjbmgckkcaaGreatDoor.FcPure

/-- numbers of 64 bits that are read. -/
structure Nul (w : World) (A : Option Addr) (c : Nat) (l : List Nat) : Prop where
  rd : RdI .u64 w A (nats l)
  len : l.length ≤ 1000000
  cap : l.length ≤ c
  nil : A = none → c = 0
theorem Nul.below {w W : World} {A : Option Addr} {c : Nat} {l : List Nat} (h : Nul w A c l) (hb : Below w.heap.size w W) : Nul W A c l := ⟨h.rd.below hb, h.len, h.cap, h.nil⟩
/-- where a slice lies, if it has anything: in a block of T. -/
def On (T : Nat → Prop) (A : Option Addr) (n : Nat) : Prop := ∀ ad, A = some ad → 0 < n → T ad.block
theorem On.mono {T T' : Nat → Prop} {A : Option Addr} {n : Nat} (h : On T A n) (hT : ∀ k, T k → T' k) : On T' A n := fun ad h1 h2 => hT _ (h ad h1 h2)
theorem Nul.ch {S T : Nat → Prop} {w W : World} {A : Option Addr} {c : Nat} {l : List Nat} (h : Nul w A c l) (hc : Ch S w W) (hT : On T A l.length) (hs : ∀ k, T k → ¬ S k) : Nul W A c l := ⟨h.rd.stay fun ad hA hp => hc.block _ (by
    obtain ⟨ad', he, hc0⟩ := RdI.at_ h.rd 0 hp
    rw [hA] at he
    injection he with he
    subst he
    have hl := World.block_lt_of_cell? w _ hc0
    have hbk : (ad.add 0).block = ad.block := by unfold Addr.add; split <;> rfl
    rwa [hbk] at hl) (hs _ (hT ad hA (by rwa [nats_length] at hp))), h.len, h.cap, h.nil⟩
theorem Spl.ch {S T : Nat → Prop} {w W : World} {A : Option Addr} {c : Nat} {l : List Sp} (h : Spl w A c l) (hc : Ch S w W) (hT : On T A l.length) (hs : ∀ k, T k → ¬ S k) : Spl W A c l := ⟨rd_ch h.rd hc fun ad hA hp => hs _ (hT ad hA hp), h.len, h.cap, h.nil⟩
/-- where a histogram's lists lie. -/
structure Lh where
  A : Option Addr
  c : Nat
  B : Option Addr
  d : Nat
  C : Option Addr
  cc : Nat
  D : Option Addr
  dd : Nat
def fcs (h : FH) (p : Lh) : List Value := [.int .i64 h.schema, .int .u64 h.zero, .int .u64 h.zc, .int .u64 h.cnt, .int .u64 h.sum, .slice p.A h.pos.length p.c, .slice p.B h.neg.length p.d, .slice p.C h.pc.length p.cc, .slice p.D h.nc.length p.dd]
def scs (s : FS) (p : Lh) : List Value := .int .i64 s.t :: fcs s.h p
/-- a histogram that lies in memory. -/
structure FhIn (w : World) (h : FH) (p : Lh) : Prop where
  pos : Spl w p.A p.c h.pos
  neg : Spl w p.B p.d h.neg
  pc : Nul w p.C p.cc h.pc
  nc : Nul w p.D p.dd h.nc
  n : In64H h
theorem FhIn.below {w W : World} {h : FH} {p : Lh} (x : FhIn w h p) (hb : Below w.heap.size w W) : FhIn W h p := ⟨x.pos.below hb, x.neg.below hb, x.pc.below hb, x.nc.below hb, x.n⟩
structure OnH (T : Nat → Prop) (h : FH) (p : Lh) : Prop where
  pos : On T p.A h.pos.length
  neg : On T p.B h.neg.length
  pc : On T p.C h.pc.length
  nc : On T p.D h.nc.length
theorem OnH.mono {T T' : Nat → Prop} {h : FH} {p : Lh} (x : OnH T h p) (hT : ∀ k, T k → T' k) : OnH T' h p := ⟨x.pos.mono hT, x.neg.mono hT, x.pc.mono hT, x.nc.mono hT⟩
theorem FhIn.ch {S T : Nat → Prop} {w W : World} {h : FH} {p : Lh} (x : FhIn w h p) (hc : Ch S w W) (hT : OnH T h p) (hs : ∀ k, T k → ¬ S k) : FhIn W h p := ⟨Spl.ch x.pos hc hT.pos hs, Spl.ch x.neg hc hT.neg hs, x.pc.ch hc hT.pc hs, x.nc.ch hc hT.nc hs, x.n⟩
/-- the last sample, on the head's spans; without samples: noughts. -/
def lastS (q : Hd) (l : List FS) : FS := match l.getLast? with | none => ⟨0, ⟨0, 0, 0, 0, 0, [], [], [], []⟩⟩ | some s => ⟨s.t, { s.h with pos := q.pos, neg := q.neg }⟩
theorem lastS_nil (q : Hd) : lastS q [] = ⟨0, ⟨0, 0, 0, 0, 0, [], [], [], []⟩⟩ := rfl
theorem lastS_snoc (q : Hd) (l : List FS) (s : FS) : lastS q (l ++ [s]) = ⟨s.t, { s.h with pos := q.pos, neg := q.neg }⟩ := by simp [lastS]
theorem lastS_t (q : Hd) (l : List FS) : (lastS q l).t = lastT l := by
  unfold lastS lastT
  cases l.getLast? <;> rfl
/-- where a chunk's parts lie: the head's lists; the writer; the times; the columns' slice, the columns; the last sample's lists; the blocks that stand still. -/
structure FkL where
  p : Lc
  gw : Nat
  gt : Nat
  Sw : Nat → Prop
  va : Addr
  vc : Nat
  cols : List Nat
  r : Lh
  T : Nat → Prop
def kcs (q : Hd) (l : List FS) (x : FkL) : List Value :=
  hcs q x.p ++ ([.pointer (some ⟨x.gw, 0, none⟩), .int .i64 l.length, .pointer (some ⟨x.gt, 0, none⟩), .slice (some x.va) (width q) x.vc] ++ scs (lastS q l) x.r)
/-- what a chunk is made of. -/
structure Fk (w : World) (g : Nat) (S : Nat → Prop) (q : Hd) (l : List FS) (x : FkL) : Prop where
  obj : w.heap[g]? = some (.cells (kcs q l x).toArray 158 (0, 0))
  hd : HdIn w q x.p
  wr : Wr w x.gw x.Sw (encH q ++ bitsB l)
  tr : TrS w x.gt (lastOf (ts l)) (stepOf (ts l)) l.length
  cl : x.cols.length = width q
  vc : width q ≤ x.vc
  vals : ∀ (k : Nat) (h : k < x.cols.length), w.cell? (x.va.add k) = some (.pointer (some ⟨x.cols[k], 0, none⟩))
  xs : ∀ (k : Nat) (h : k < x.cols.length), XrS w x.cols[k] (colX (col l k))
  la : FhIn w (lastS q l).h x.r
  n64 : ∀ s ∈ l, In64S s
  good : FcPure.Good q l
  okq : (headErr q).1 = 0
  onp : On x.T x.p.A q.pos.length
  onn : On x.T x.p.B q.neg.length
  onv : x.T x.va.block
  onr : OnH x.T (lastS q l).h x.r
  hS : ∀ k, S k ↔ k = g ∨ x.Sw k ∨ k = x.gt ∨ k ∈ x.cols ∨ x.T k
  old : ∀ k, S k → k < w.heap.size
  gw : ¬ x.Sw g
  gt : g ≠ x.gt
  gc : g ∉ x.cols
  gT : ¬ x.T g
  wt : ¬ x.Sw x.gt
  wc : ∀ k ∈ x.cols, ¬ x.Sw k
  wT : ∀ k, x.T k → ¬ x.Sw k
  tc : x.gt ∉ x.cols
  tT : ¬ x.T x.gt
  cn : x.cols.Nodup
  cT : ∀ k ∈ x.cols, ¬ x.T k
/-- what turns nothing of it leaves it. -/
theorem Fk.ch {S S' : Nat → Prop} {w w' : World} {g : Nat} {q : Hd} {l : List FS} {x : FkL} (h : Fk w g S q l x) (hc : Ch S' w w') (hs : ∀ k, S k → ¬ S' k) : Fk w' g S q l x := by
  have sg : S g := (h.hS g).2 (.inl rfl)
  have sw : ∀ k, x.Sw k → ¬ S' k := fun k hk => hs k ((h.hS k).2 (.inr (.inl hk)))
  have st : ¬ S' x.gt := hs _ ((h.hS _).2 (.inr (.inr (.inl rfl))))
  have sc : ∀ k ∈ x.cols, ¬ S' k := fun k hk => hs k ((h.hS k).2 (.inr (.inr (.inr (.inl hk)))))
  have sT : ∀ k, x.T k → ¬ S' k := fun k hk => hs k ((h.hS k).2 (.inr (.inr (.inr (.inr hk)))))
  exact { h with
    obj := hc.blk h.obj (hs g sg)
    hd := ⟨Spl.ch h.hd.pos hc h.onp sT, Spl.ch h.hd.neg hc h.onn sT, h.hd.z⟩
    wr := h.wr.ch hc sw
    tr := h.tr.ch hc st
    vals := fun k hk => hc.cell (h.vals k hk) (by rw [show (x.va.add k).block = x.va.block from by unfold Addr.add; split <;> rfl]; exact sT _ h.onv)
    xs := fun k hk => (h.xs k hk).ch hc (sc _ (List.getElem_mem _))
    la := h.la.ch hc h.onr sT
    old := fun k hk => Nat.lt_of_lt_of_le (h.old k hk) hc.size }
theorem Fk.below {S : Nat → Prop} {w w' : World} {g : Nat} {q : Hd} {l : List FS} {x : FkL} (h : Fk w g S q l x) (hb : Below w.heap.size w w') : Fk w' g S q l x := h.ch (Ch.of_below (S := fun _ => False) hb) fun _ _ hf => hf
/-- a chunk with just this head and these samples. -/
def Ck (w : World) (g : Nat) (S : Nat → Prop) (q : Hd) (l : List FS) : Prop := ∃ x, Fk w g S q l x
theorem Ck.ch {S S' : Nat → Prop} {w w' : World} {g : Nat} {q : Hd} {l : List FS} (h : Ck w g S q l) (hc : Ch S' w w') (hs : ∀ k, S k → ¬ S' k) : Ck w' g S q l := by
  obtain ⟨x, h⟩ := h
  exact ⟨x, h.ch hc hs⟩
theorem Ck.below {S : Nat → Prop} {w w' : World} {g : Nat} {q : Hd} {l : List FS} (h : Ck w g S q l) (hb : Below w.heap.size w w') : Ck w' g S q l := by
  obtain ⟨x, h⟩ := h
  exact ⟨x, h.below hb⟩
theorem Ck.old {S : Nat → Prop} {w : World} {g : Nat} {q : Hd} {l : List FS} (h : Ck w g S q l) : ∀ k, S k → k < w.heap.size := by
  obtain ⟨x, h⟩ := h
  exact h.old
/-- a cell of a chunk. -/
theorem Fk.cell {S : Nat → Prop} {w : World} {g : Nat} {q : Hd} {l : List FS} {x : FkL} (h : Fk w g S q l x) (i : Nat) (v : Value) (hi : (kcs q l x)[i]? = some v) : w.cell? ⟨g, i, none⟩ = some v := obj_cell h.obj (by simpa using hi)
end Go.Proofs.YtjfekjbmgckkcaaGreatDoor.FcObj

/- rows of numbers: one behind the other, cloned. -/
namespace Go.Proofs.YtjfekjbmgckkcaaGreatDoor.Cat
open Go.RowKit Go.Proofs.YtjfekjbmgckkcaaGreatDoorW.PrintWords
open Go.Proofs.YtjfekjbmgckkcaaGreatDoor.Base Go.Proofs.YtjfekjbmgckkcaaGreatDoor.StreamA Go.Proofs.YtjfekjbmgckkcaaGreatDoor.SpanBase

/-- append, by its run. -/
theorem wp_append_run {P : Program} {w w' : World} {o : Oper} {a : Act} {K : Act → World → Prop} {Q : Exit → Act → World → Prop} (s x : Operand) (t t' : TypeId) {v u v' : Value}
    (ho : o.op = .call { callee := .builtin .append, args := #[s, x], argTypes := #[t, t'] }) (hs : a.eval s = v) (hx : a.eval x = u) (hrun : (Builtin.append_ #[t, t'] o.type #[v, u]).run P w = .ok v' w') (h : K (a.put o.dst v') w') : o.wp P a w K Q := by
  unfold Oper.wp execOp
  simp only [ho, resolve, invoke, builtin, Sem.run_bind, Sem.run_pure, Result.andThen_ok, List.map_toArray, List.map_cons, List.map_nil, hs, hx, hrun]
  exact h
/-- a row that is handed on: where it lies, its capacity, what it has. -/
abbrev Row := Option Addr × Nat × List Int
def cat (L : List Row) : List Int := L.flatMap fun r => r.2.2
theorem cat_snoc (L : List Row) (r : Row) : cat (L ++ [r]) = cat L ++ r.2.2 := by simp [cat]
theorem cat_take (L : List Row) (k : Nat) (h : k < L.length) : cat (L.take (k + 1)) = cat (L.take k) ++ L[k].2.2 := by rw [List.take_succ_eq_append_getElem h, cat_snoc]
theorem cat_take_le (L : List Row) (k : Nat) : (cat (L.take k)).length ≤ (cat L).length := by
  conv => rhs; rw [← List.take_append_drop k L]
  rw [show cat (L.take k ++ L.drop k) = cat (L.take k) ++ cat (L.drop k) from List.flatMap_append, List.length_append]
  omega

/-! ### rows of uint64 -/
theorem infou64 : (Tryz.prog.info? 22).map (fun i => (i.zero, i.size, i.bytes)) = some (some (.int .u64 0), 1, 8) := by kernel_rfl
set_option maxRecDepth 100000 in
set_option maxHeartbeats 1600000 in
theorem growu64_calls (n : Nat) (w : World) (hn : n ≤ 1000000) :
    Calls Tryz.prog 216 #[.slice none 0 0, .int .i64 n] w fun e w' => ∃ v, e = .returned v ∧ OwI 22 .u64 w' w.heap.size v [] ∧ Below w.heap.size w w' := by
  have d0 : decide ((n : Int) < 0) = false := by simp
  rcases Nat.eq_zero_or_pos n with h0 | h0
  · subst h0
    go_enter Tryz.func216, Tryz.ntmps216
    go_wp2
    go_ret
    exact ⟨_, rfl, OwI.nil _ _ _ _, Below.refl _ _⟩
  · have d1 : decide ((n : Int) > 0) = true := by simp; omega
    have d1' : decide (0 < (n : Int)) = true := by simp; omega
    have d1n : decide (0 < n) = true := by simp; omega
    obtain ⟨i0, hi, hz0, hz1, hz2⟩ := info_parts infou64
    have hcap := grownCap_ge w n 0 22
    have hcap2 := grownCap_le_maxLen w n 0 22 (by unfold maxLen; omega)
    obtain ⟨cap, hcp⟩ : ∃ cap, cap = grownCap w n 0 22 := ⟨_, rfl⟩
    have hnx : Builtin.nextslicecap (0 + n) 0 * i0.bytes ≤ 281474976710656 := by
      rw [hz2]
      have : Builtin.nextslicecap (0 + n) 0 = n := by
        unfold Builtin.nextslicecap
        simp
        intro h
        omega
      rw [this]; omega
    have happ := Lib.run_append_grow_zeros (P := Tryz.prog) w 70 3 70 22 i0 _ .i64 .i64 Tryz.underlying70 Tryz.underlying3 hi hz0 none 0 0 [] (by simp [Builtin.firstCells]) n h0 (by rw [hz1]; decide) (by omega) (by omega) (by rw [hz2]; omega) hnx
    rw [Nat.zero_add, ← hcp] at happ
    rw [← hcp] at hcap hcap2
    have hc0 : 0 < cap := by omega
    obtain ⟨cs, hcs⟩ : ∃ cs, cs = ([] : List Value).toArray ++ Builtin.zeroCells (Value.int .u64 0).cells n ++ Builtin.zeroCells (Value.int .u64 0).cells (cap - n) := ⟨_, rfl⟩
    rw [← hcs] at happ
    have hsz : cs.size = cap := by rw [hcs]; simp [Builtin.zeroCells, Value.cells]; omega
    have HSZ := Lib.hid hsz
    have HC2 := Lib.hid hcap2
    have hcut : ∀ W, (Instr.slice 70 (.slice (some ⟨w.heap.size, 0, none⟩) n cap) none (some (.int .i64 0)) none).run Tryz.prog W = .ok (.slice (some ⟨w.heap.size, 0, none⟩) 0 cap) W := fun W => by
      have := cut_to (P := Tryz.prog) 70 22 .i64 Tryz.underlying70 hi (some ⟨w.heap.size, 0, none⟩) n cap 0 (by omega) (by omega) hcap W
      simpa using this
    clear hcp hcs hsz hcap hcap2 hnx hi hz0 hz1 hz2
    go_enter Tryz.func216, Tryz.ntmps216
    go_wp2_with (at_builtin; refine wpList_plain rfl fun _ hK => wp_append_run _ _ 70 3 rfl rfl rfl happ ?_; refine hK _ _ ?_; clear hK)
    go_ret
    refine ⟨_, rfl, ⟨rfl, .inr ⟨w.heap.size, cap, cs, rfl, Nat.le_refl _, heap_alloc_new w.drew _, Nat.zero_le _, HC2.out, by rw [HSZ.out]; simp, rfl⟩⟩, below_alloc (below_drew (Below.refl _ _)) _⟩

set_option maxHeartbeats 1600000 in
theorem concatu64_calls (h : Nat) (L : List Row) (w : World) (hc : ∀ (k : Nat) (hk : k < L.length), w.cell? ⟨h, k, none⟩ = some (.slice L[k].1 L[k].2.2.length L[k].2.1) ∧ RdI .u64 w L[k].1 L[k].2.2) (hm : (cat L).length ≤ 100000) (hL : 0 < L.length) (hL2 : L.length ≤ 10) :
    Calls Tryz.prog 175 #[.slice (some ⟨h, 0, none⟩) L.length L.length] w fun e w' => ∃ v, e = .returned v ∧ OwI 22 .u64 w' w.heap.size v (cat L) ∧ Below w.heap.size w w' := by
  have HG := Lib.hid (growu64_calls (cat L).length w (by omega))
  have hlt : h < w.heap.size := by
    have h0 := (hc 0 hL).1
    rcases Nat.lt_or_ge h w.heap.size with hl | hl
    · exact hl
    · simp [World.cell?, Array.getElem?_eq_none hl] at h0
  have HC := Lib.hid hc
  clear hc
  go_enter Tryz.func175, Tryz.ntmps175
  go_wp2
  go_loop [3, 11] (fun s i => ∃ (k m : Nat), k ≤ L.length ∧ i = .int .i64 k ∧ s = .int .i64 m ∧ Hid (m = (cat (L.take k)).length)) (fun _ i => L.length - (intOf i).toNat)
  case atStart => exact ⟨0, 0, by omega, rfl, rfl, Lib.hid rfl⟩
  case round =>
    obtain ⟨k, m, hk, rfl, rfl, HM⟩ := hrel
    by_cases hlt2 : k < L.length
    · have c1 := (HC.out k hlt2).1
      have HT := Lib.hid (show (cat (L.take (k + 1))).length = m + L[k].2.2.length from by rw [cat_take L k hlt2, List.length_append, HM.out])
      have hle := cat_take_le L (k + 1)
      rw [HT.out] at hle
      obtain ⟨n, hn⟩ : ∃ n, n = L[k].2.2.length := ⟨_, rfl⟩
      rw [← hn] at c1 HT hle
      obtain ⟨A1, hA1⟩ : ∃ A1, A1 = L[k].1 := ⟨_, rfl⟩
      obtain ⟨C1, hC1⟩ : ∃ C1, C1 = L[k].2.1 := ⟨_, rfl⟩
      rw [← hA1, ← hC1] at c1
      have d : decide ((m : Int) + (n : Int) < 0) = false := by simp; omega
      clear hn hA1 hC1 HM
      go_wp2
      go_round
      case rel => exact ⟨k + 1, m + n, by omega, by go_num, by go_num, Lib.hid HT.out.symm⟩
      case measure => simp [intOf]; omega
    · obtain rfl : k = L.length := by omega
      have hmm := HM.out
      rw [List.take_length] at hmm
      subst hmm
      go_wp2_with (fail)
      refine HG.out.mono ?_
      rintro e w1 ⟨v, rfl, ho, hb⟩
      have HO := Lib.hid ho
      have HB := Lib.hid hb
      clear ho hb HG
      go_wp2_with (fail)
      go_loopw [6, 27] (fun v i wr => ∃ k : Nat, k ≤ L.length ∧ i = .int .i64 k ∧ OwI 22 .u64 wr w.heap.size v (cat (L.take k)) ∧ Below w.heap.size w wr) (fun _ i _ => L.length - (intOf i).toNat)
      case atStart => exact ⟨0, by omega, rfl, HO.out, HB.out⟩
      case round =>
        clear HO HB HM
        obtain ⟨k, hk, rfl, ho, hb⟩ := hrel
        have HO := Lib.hid ho
        have HB := Lib.hid hb
        have hsz := hb.size
        by_cases hlt3 : k < L.length
        · have c1 := (HC.out k hlt3).1
          have HR := Lib.hid ((HC.out k hlt3).2.below hb)
          have HT := Lib.hid (cat_take L k hlt3)
          have hle := cat_take_le L (k + 1)
          rw [HT.out, List.length_append] at hle
          obtain ⟨r, hr⟩ : ∃ r, r = L[k] := ⟨_, rfl⟩
          rw [← hr] at c1 HR HT hle
          obtain ⟨A1, C1, xs⟩ := r
          simp only at c1 HR HT hle
          have c1' : wr.cell? ⟨h, k, none⟩ = some (.slice A1 xs.length C1) := (hb.cell (p := ⟨h, k, none⟩) hlt).trans c1
          obtain ⟨ys, hys⟩ : ∃ ys, ys = cat (L.take k) := ⟨_, rfl⟩
          rw [← hys] at HO HT hle
          clear ho hb hr c1 hys
          go_wp2_with (at_builtin; refine append_row (w0 := w) w.heap.size rfl _ _ 70 22 .u64 8 rfl Tryz.underlying70 infou64 (by decide) _ ys xs A1 xs.length C1 rfl rfl rfl HO.out HR.out HB.out hsz (by omega) ?_; intro v2 w2 ho2 hb2 _ _; have HO2 := Lib.hid ho2; have HB2 := Lib.hid hb2; clear ho2 hb2)
          go_roundw
          case rel => exact ⟨k + 1, by omega, by go_num, by rw [HT.out]; exact HO2.out, HB2.out⟩
          case measure => simp [intOf]; omega
        · obtain rfl : k = L.length := by omega
          rw [List.take_length] at HO
          obtain ⟨A3, c3, rfl, -, -⟩ := HO.out.reads
          clear ho hb
          go_wp2
          go_ret
          exact ⟨_, rfl, HO.out, HB.out⟩

set_option maxHeartbeats 800000 in
theorem cloneu64_calls (A : Option Addr) (c : Nat) (l : List Int) (w : World) (hr : RdI .u64 w A l) (hm : l.length ≤ 1000000000) (hc : l.length ≤ c) (hA : A = none → c = 0) :
    Calls Tryz.prog 181 #[.slice A l.length c] w fun e w' => ∃ v, e = .returned v ∧ OwI 22 .u64 w' w.heap.size v l ∧ Below w.heap.size w w' := by
  have HR := Lib.hid hr
  clear hr
  cases A with
  | none =>
    have hc0 := hA rfl
    have hl : l = [] := List.length_eq_zero_iff.1 (by omega)
    subst hl
    subst hc0
    clear hc hA
    have hnil := fun w => Lib.run_eql_slice_nil (P := Tryz.prog) w 70 22 none 0 0 0 0 Tryz.underlying70
    go_enter Tryz.func181, Tryz.ntmps181
    go_wp2
    go_ret
    exact ⟨_, rfl, OwI.nil _ _ _ _, Below.refl _ _⟩
  | some ad =>
    clear hA
    have hnil := fun w => Lib.run_eql_slice_nil (P := Tryz.prog) w 70 22 (some ad) l.length c 0 0 Tryz.underlying70
    go_enter Tryz.func181, Tryz.ntmps181
    go_wp2_with (at_builtin; refine append_row (w0 := w) w.heap.size rfl _ _ 70 22 .u64 8 rfl Tryz.underlying70 infou64 (by decide) _ [] l (some ad) l.length c rfl rfl rfl ?c1 ?c2 ?c3 ?c4 ?c5 ?_)
    case c1 => exact own_lit w w.heap.size 22 .u64 [] (Nat.le_refl _) (by decide)
    case c2 => exact HR.out.alloc _
    case c3 => exact below_alloc (Below.refl _ _) _
    case c4 => simp
    case c5 => simp; omega
    intro v1 w1 ho hb _ _
    go_wp2
    go_ret
    exact ⟨_, rfl, by simpa using ho, hb⟩

/-! ### rows of int64 -/
theorem infoi64 : (Tryz.prog.info? 2).map (fun i => (i.zero, i.size, i.bytes)) = some (some (.int .i64 0), 1, 8) := by kernel_rfl
set_option maxRecDepth 100000 in
set_option maxHeartbeats 1600000 in
theorem growi64_calls (n : Nat) (w : World) (hn : n ≤ 1000000) :
    Calls Tryz.prog 240 #[.slice none 0 0, .int .i64 n] w fun e w' => ∃ v, e = .returned v ∧ OwI 2 .i64 w' w.heap.size v [] ∧ Below w.heap.size w w' := by
  have d0 : decide ((n : Int) < 0) = false := by simp
  rcases Nat.eq_zero_or_pos n with h0 | h0
  · subst h0
    go_enter Tryz.func240, Tryz.ntmps240
    go_wp2
    go_ret
    exact ⟨_, rfl, OwI.nil _ _ _ _, Below.refl _ _⟩
  · have d1 : decide ((n : Int) > 0) = true := by simp; omega
    have d1' : decide (0 < (n : Int)) = true := by simp; omega
    have d1n : decide (0 < n) = true := by simp; omega
    obtain ⟨i0, hi, hz0, hz1, hz2⟩ := info_parts infoi64
    have hcap := grownCap_ge w n 0 2
    have hcap2 := grownCap_le_maxLen w n 0 2 (by unfold maxLen; omega)
    obtain ⟨cap, hcp⟩ : ∃ cap, cap = grownCap w n 0 2 := ⟨_, rfl⟩
    have hnx : Builtin.nextslicecap (0 + n) 0 * i0.bytes ≤ 281474976710656 := by
      rw [hz2]
      have : Builtin.nextslicecap (0 + n) 0 = n := by
        unfold Builtin.nextslicecap
        simp
        intro h
        omega
      rw [this]; omega
    have happ := Lib.run_append_grow_zeros (P := Tryz.prog) w 98 3 98 2 i0 _ .i64 .i64 Tryz.underlying98 Tryz.underlying3 hi hz0 none 0 0 [] (by simp [Builtin.firstCells]) n h0 (by rw [hz1]; decide) (by omega) (by omega) (by rw [hz2]; omega) hnx
    rw [Nat.zero_add, ← hcp] at happ
    rw [← hcp] at hcap hcap2
    have hc0 : 0 < cap := by omega
    obtain ⟨cs, hcs⟩ : ∃ cs, cs = ([] : List Value).toArray ++ Builtin.zeroCells (Value.int .i64 0).cells n ++ Builtin.zeroCells (Value.int .i64 0).cells (cap - n) := ⟨_, rfl⟩
    rw [← hcs] at happ
    have hsz : cs.size = cap := by rw [hcs]; simp [Builtin.zeroCells, Value.cells]; omega
    have HSZ := Lib.hid hsz
    have HC2 := Lib.hid hcap2
    have hcut : ∀ W, (Instr.slice 98 (.slice (some ⟨w.heap.size, 0, none⟩) n cap) none (some (.int .i64 0)) none).run Tryz.prog W = .ok (.slice (some ⟨w.heap.size, 0, none⟩) 0 cap) W := fun W => by
      have := cut_to (P := Tryz.prog) 98 2 .i64 Tryz.underlying98 hi (some ⟨w.heap.size, 0, none⟩) n cap 0 (by omega) (by omega) hcap W
      simpa using this
    clear hcp hcs hsz hcap hcap2 hnx hi hz0 hz1 hz2
    go_enter Tryz.func240, Tryz.ntmps240
    go_wp2_with (at_builtin; refine wpList_plain rfl fun _ hK => wp_append_run _ _ 98 3 rfl rfl rfl happ ?_; refine hK _ _ ?_; clear hK)
    go_ret
    refine ⟨_, rfl, ⟨rfl, .inr ⟨w.heap.size, cap, cs, rfl, Nat.le_refl _, heap_alloc_new w.drew _, Nat.zero_le _, HC2.out, by rw [HSZ.out]; simp, rfl⟩⟩, below_alloc (below_drew (Below.refl _ _)) _⟩

set_option maxHeartbeats 1600000 in
theorem concati64_calls (h : Nat) (L : List Row) (w : World) (hc : ∀ (k : Nat) (hk : k < L.length), w.cell? ⟨h, k, none⟩ = some (.slice L[k].1 L[k].2.2.length L[k].2.1) ∧ RdI .i64 w L[k].1 L[k].2.2) (hm : (cat L).length ≤ 100000) (hL : 0 < L.length) (hL2 : L.length ≤ 10) :
    Calls Tryz.prog 228 #[.slice (some ⟨h, 0, none⟩) L.length L.length] w fun e w' => ∃ v, e = .returned v ∧ OwI 2 .i64 w' w.heap.size v (cat L) ∧ Below w.heap.size w w' := by
  have HG := Lib.hid (growi64_calls (cat L).length w (by omega))
  have hlt : h < w.heap.size := by
    have h0 := (hc 0 hL).1
    rcases Nat.lt_or_ge h w.heap.size with hl | hl
    · exact hl
    · simp [World.cell?, Array.getElem?_eq_none hl] at h0
  have HC := Lib.hid hc
  clear hc
  go_enter Tryz.func228, Tryz.ntmps228
  go_wp2
  go_loop [3, 11] (fun s i => ∃ (k m : Nat), k ≤ L.length ∧ i = .int .i64 k ∧ s = .int .i64 m ∧ Hid (m = (cat (L.take k)).length)) (fun _ i => L.length - (intOf i).toNat)
  case atStart => exact ⟨0, 0, by omega, rfl, rfl, Lib.hid rfl⟩
  case round =>
    obtain ⟨k, m, hk, rfl, rfl, HM⟩ := hrel
    by_cases hlt2 : k < L.length
    · have c1 := (HC.out k hlt2).1
      have HT := Lib.hid (show (cat (L.take (k + 1))).length = m + L[k].2.2.length from by rw [cat_take L k hlt2, List.length_append, HM.out])
      have hle := cat_take_le L (k + 1)
      rw [HT.out] at hle
      obtain ⟨n, hn⟩ : ∃ n, n = L[k].2.2.length := ⟨_, rfl⟩
      rw [← hn] at c1 HT hle
      obtain ⟨A1, hA1⟩ : ∃ A1, A1 = L[k].1 := ⟨_, rfl⟩
      obtain ⟨C1, hC1⟩ : ∃ C1, C1 = L[k].2.1 := ⟨_, rfl⟩
      rw [← hA1, ← hC1] at c1
      have d : decide ((m : Int) + (n : Int) < 0) = false := by simp; omega
      clear hn hA1 hC1 HM
      go_wp2
      go_round
      case rel => exact ⟨k + 1, m + n, by omega, by go_num, by go_num, Lib.hid HT.out.symm⟩
      case measure => simp [intOf]; omega
    · obtain rfl : k = L.length := by omega
      have hmm := HM.out
      rw [List.take_length] at hmm
      subst hmm
      go_wp2_with (fail)
      refine HG.out.mono ?_
      rintro e w1 ⟨v, rfl, ho, hb⟩
      have HO := Lib.hid ho
      have HB := Lib.hid hb
      clear ho hb HG
      go_wp2_with (fail)
      go_loopw [6, 27] (fun v i wr => ∃ k : Nat, k ≤ L.length ∧ i = .int .i64 k ∧ OwI 2 .i64 wr w.heap.size v (cat (L.take k)) ∧ Below w.heap.size w wr) (fun _ i _ => L.length - (intOf i).toNat)
      case atStart => exact ⟨0, by omega, rfl, HO.out, HB.out⟩
      case round =>
        clear HO HB HM
        obtain ⟨k, hk, rfl, ho, hb⟩ := hrel
        have HO := Lib.hid ho
        have HB := Lib.hid hb
        have hsz := hb.size
        by_cases hlt3 : k < L.length
        · have c1 := (HC.out k hlt3).1
          have HR := Lib.hid ((HC.out k hlt3).2.below hb)
          have HT := Lib.hid (cat_take L k hlt3)
          have hle := cat_take_le L (k + 1)
          rw [HT.out, List.length_append] at hle
          obtain ⟨r, hr⟩ : ∃ r, r = L[k] := ⟨_, rfl⟩
          rw [← hr] at c1 HR HT hle
          obtain ⟨A1, C1, xs⟩ := r
          simp only at c1 HR HT hle
          have c1' : wr.cell? ⟨h, k, none⟩ = some (.slice A1 xs.length C1) := (hb.cell (p := ⟨h, k, none⟩) hlt).trans c1
          obtain ⟨ys, hys⟩ : ∃ ys, ys = cat (L.take k) := ⟨_, rfl⟩
          rw [← hys] at HO HT hle
          clear ho hb hr c1 hys
          go_wp2_with (at_builtin; refine append_row (w0 := w) w.heap.size rfl _ _ 98 2 .i64 8 rfl Tryz.underlying98 infoi64 (by decide) _ ys xs A1 xs.length C1 rfl rfl rfl HO.out HR.out HB.out hsz (by omega) ?_; intro v2 w2 ho2 hb2 _ _; have HO2 := Lib.hid ho2; have HB2 := Lib.hid hb2; clear ho2 hb2)
          go_roundw
          case rel => exact ⟨k + 1, by omega, by go_num, by rw [HT.out]; exact HO2.out, HB2.out⟩
          case measure => simp [intOf]; omega
        · obtain rfl : k = L.length := by omega
          rw [List.take_length] at HO
          obtain ⟨A3, c3, rfl, -, -⟩ := HO.out.reads
          clear ho hb
          go_wp2
          go_ret
          exact ⟨_, rfl, HO.out, HB.out⟩

set_option maxHeartbeats 800000 in
theorem clonei64_calls (A : Option Addr) (c : Nat) (l : List Int) (w : World) (hr : RdI .i64 w A l) (hm : l.length ≤ 1000000000) (hc : l.length ≤ c) (hA : A = none → c = 0) :
    Calls Tryz.prog 195 #[.slice A l.length c] w fun e w' => ∃ v, e = .returned v ∧ OwI 2 .i64 w' w.heap.size v l ∧ Below w.heap.size w w' := by
  have HR := Lib.hid hr
  clear hr
  cases A with
  | none =>
    have hc0 := hA rfl
    have hl : l = [] := List.length_eq_zero_iff.1 (by omega)
    subst hl
    subst hc0
    clear hc hA
    have hnil := fun w => Lib.run_eql_slice_nil (P := Tryz.prog) w 98 2 none 0 0 0 0 Tryz.underlying98
    go_enter Tryz.func195, Tryz.ntmps195
    go_wp2
    go_ret
    exact ⟨_, rfl, OwI.nil _ _ _ _, Below.refl _ _⟩
  | some ad =>
    clear hA
    have hnil := fun w => Lib.run_eql_slice_nil (P := Tryz.prog) w 98 2 (some ad) l.length c 0 0 Tryz.underlying98
    go_enter Tryz.func195, Tryz.ntmps195
    go_wp2_with (at_builtin; refine append_row (w0 := w) w.heap.size rfl _ _ 98 2 .i64 8 rfl Tryz.underlying98 infoi64 (by decide) _ [] l (some ad) l.length c rfl rfl rfl ?c1 ?c2 ?c3 ?c4 ?c5 ?_)
    case c1 => exact own_lit w w.heap.size 2 .i64 [] (Nat.le_refl _) (by decide)
    case c2 => exact HR.out.alloc _
    case c3 => exact below_alloc (Below.refl _ _) _
    case c4 => simp
    case c5 => simp; omega
    intro v1 w1 ho hb _ _
    go_wp2
    go_ret
    exact ⟨_, rfl, by simpa using ho, hb⟩
end Go.Proofs.YtjfekjbmgckkcaaGreatDoor.Cat

/- span's walks: all places, one by one; all of them. -/
namespace Go.Proofs.YtjfekjbmgckkcaaGreatDoor.SpanC
open Go.RowKit Go.Shelf Go.Proofs.YtjfekjbmgckkcaaGreatDoorW.PrintWords
open Go.Proofs.YtjfekjbmgckkcaaGreatDoor.Base Go.Proofs.YtjfekjbmgckkcaaGreatDoor.SpanPure Go.Proofs.YtjfekjbmgckkcaaGreatDoor.SpanBase Go.Proofs.YtjfekjbmgckkcaaGreatDoor.SpanA Go.Proofs.YtjfekjbmgckkcaaGreatDoor.SpanB
attribute [local go_sem] Oper.semAt_some

set_option maxHeartbeats 800000 in
theorem clone_calls (A : Option Addr) (c : Nat) (l : List Sp) (w : World) (hr : RdSp w A l) (hm : l.length ≤ 1000000000) (hc : l.length ≤ c) (hA : A = none → c = 0) :
    Calls Tryz.prog 137 #[.slice A l.length c] w fun e w' => ∃ v, e = .returned v ∧ OwSp 119 w' w.heap.size v l ∧ Below w.heap.size w w' := by
  have HR := Lib.hid hr
  clear hr
  cases A with
  | none =>
    have hc0 := hA rfl
    have hl : l = [] := List.length_eq_zero_iff.1 (by omega)
    subst hl
    subst hc0
    clear hc hA
    have hnil := fun w => Lib.run_eql_slice_nil (P := Tryz.prog) w 23 119 none 0 0 0 0 Tryz.underlying23
    go_enter Tryz.func137, Tryz.ntmps137
    go_wp2
    go_ret
    exact ⟨_, rfl, OwSp.nil _ _ _, Below.refl _ _⟩
  | some ad =>
    clear hA
    have hnil := fun w => Lib.run_eql_slice_nil (P := Tryz.prog) w 23 119 (some ad) l.length c 0 0 Tryz.underlying23
    go_enter Tryz.func137, Tryz.ntmps137
    go_wp2_with (at_builtin; refine append_spans (w0 := w) w.heap.size rfl _ _ 23 119 16 rfl Tryz.underlying23 infoSp _ [] l (some ad) c rfl rfl ?c1 ?c2 ?c3 ?c4 ?c5 ?c6 ?_)
    case c1 => exact OwSp.lit w 119 [] (by decide)
    case c2 => exact HR.out.below (below_alloc (Below.refl _ _) _)
    case c3 => exact below_alloc (Below.refl _ _) _
    case c4 => simp
    case c5 => simp; omega
    case c6 => simp; omega
    intro v1 w1 ho hb _ _
    go_wp2
    go_ret
    exact ⟨_, rfl, by simpa using ho, hb⟩

/-- what an iterator over a row asks of a round. -/
def KpA (A : Option Addr) (W W' : World) : Prop := ∀ ad, A = some ad → W'.heap[ad.block]? = W.heap[ad.block]?
theorem grown_of_below {w w' : World} (h : Below w.heap.size w w') : w.grownBy w' none := ⟨h.os, h.tape, h.output, h.size, fun k hk _ => h.block k hk⟩
/-- what comes of spans. -/
def told (L : List Sp) : List (Int × Int) := if chk L = 0 then idx 0 (places L) else []
abbrev encP (x : Int × Int) : Array Value := #[.int .i64 x.1, .int .i64 x.2]

set_option maxRecDepth 100000 in
set_option maxHeartbeats 3200000 in
/-- the iterator over right spans. -/
theorem all_right (n : Nat) (Bn : Nat) (A : Option Addr) (c : Nat) (L : List Sp) (w : World) (hBn : Bn < w.heap.size) (hc : w.cell? ⟨Bn, 0, none⟩ = some (.slice A L.length c)) (hL : RdSp w A L) (hm : L.length ≤ 1000000000) (hR : chk L = 0) :
    SeqStopsK Fence.wide n Tryz.prog 219 #[.pointer (some ⟨Bn, 0, none⟩)] encP (KpA A) (fun ys => ys = idx 0 (places L)) (fun pre => pre <+: idx 0 (places L)) (places L).length w := fun l J Jx W hW hJ hJx hY h0 => by
  have hr := (chk_zero.1 hR).2
  have hlen := places_len hr
  have HLR := Lib.hid (hL.below hW)
  have HC := Lib.hid (check_calls A c L W (hL.below hW) hm)
  rw [hR] at HC
  have hcell : W.cell? ⟨Bn, 0, none⟩ = some (.slice A L.length c) := (hW.cell (p := ⟨Bn, 0, none⟩) hBn).trans hc
  have HJ := Lib.hid hJ
  have HJX := Lib.hid hJx
  have HY := Lib.hid hY
  have HR := Lib.hid hr
  clear hL hW hJ hJx hY hr hc hR
  refine callsIn_of_wp Tryz.func219 rfl trivial ?_ rfl
  simp only [Tryz.ntmps219, List.size_toArray, List.length_cons, List.length_nil, Nat.reduceAdd, Nat.reduceSub, Array.replicate_succ, Array.replicate_zero, List.push_toArray, List.append_toArray, List.nil_append, List.cons_append]
  gi_wp2
  refine ⟨trivial, fun h => (by cases h), ?_⟩
  refine (callsIn_wide.2 HC.out).mono ?_
  rintro e w1 ⟨rfl, hb1⟩
  have hcell1 : w1.cell? ⟨Bn, 0, none⟩ = some (.slice A L.length c) := by
    have hBW : Bn < W.heap.size := by
      rcases Nat.lt_or_ge Bn W.heap.size with h | h
      · exact h
      · simp [World.cell?, Array.getElem?_eq_none h] at hcell
    exact (hb1.cell (p := ⟨Bn, 0, none⟩) hBW).trans hcell
  have HL1 := Lib.hid (HLR.out.below hb1)
  have HJ1 := Lib.hid (HJ.out _ _ _ none h0 (grown_of_below hb1) (fun r h => by cases h))
  clear hcell h0 hb1 HC
  gi_wp2
  gi_loopw [3, 4, 12] (fun a m i wr => ∃ (k N : Nat) (E : Int), k ≤ L.length ∧ i = .int .i64 k ∧ a = .int .i64 E ∧ m = .int .i64 (N : Int) ∧ Hid (E = endF 0 (L.take k)) ∧ Hid (N = (placesF 0 (L.take k)).length) ∧ J (idx 0 (placesF 0 (L.take k))) wr ∧ RdSp wr A L) (fun _ _ i _ => L.length - (intOf i).toNat)
  case atStart => exact ⟨0, 0, 0, by omega, rfl, rfl, rfl, Lib.hid rfl, Lib.hid rfl, HJ1.out, HL1.out⟩
  case round =>
    obtain ⟨k, N, E, hk, rfl, rfl, rfl, hE, hN, hJk, hLk⟩ := hrel
    by_cases hlt : k < L.length
    · obtain ⟨ad, hA, c0, c1⟩ := hLk.at_ k hlt
      subst hA
      obtain ⟨r1, r2, r3, r4, r5, r6⟩ := right_at HR.out k hlt
      have HPT := Lib.hid (placesF_take L k hlt)
      have HET := Lib.hid (endF_take L k hlt)
      have HPX := Lib.hid (places_prefix L k hlt)
      obtain ⟨s, hs⟩ : ∃ s, s = L[k] := ⟨_, rfl⟩
      rw [← hs] at c0 c1 r1 r2 r3 r4 HPT HET HPX
      rw [← hE.out] at r3 r4 r5 r6 HPT HET HPX
      obtain ⟨o, q⟩ := s
      simp only at c0 c1 r1 r2 r3 r4 HPT HET HPX
      obtain ⟨Q, rfl⟩ := Int.eq_ofNat_of_zero_le r1
      rw [Int.toNat_natCast] at HPT HPX
      obtain ⟨D, hD⟩ : ∃ D, D = E + o := ⟨_, rfl⟩
      have hNQ : N + Q ≤ 4096 := by
        have h1 := (HPX.out Q (Nat.le_refl _)).length_le
        rw [List.length_append, runP_length, ← hN.out] at h1
        have := hlen
        omega
      rw [← hD] at r3 r4 HPT HET HPX
      have HJK := Lib.hid hJk
      have HLK := Lib.hid hLk
      clear hs hJk hLk
      obtain ⟨wo, rfl⟩ : ∃ wo : World, wo = wr := ⟨_, rfl⟩
      gi_wp2
      rw [← hD]
      have HD := Lib.hid hD
      clear hD
      gi_loopw [3, 4, 22] (fun a m i wr => ∃ j : Nat, j ≤ Q ∧ i = .int .i64 j ∧ a = .int .i64 (D + (j : Int)) ∧ m = .int .i64 ((N : Int) + (j : Int)) ∧ J (idx 0 (placesF 0 (L.take k) ++ runP D j)) wr ∧ RdSp wr (some ad) L) (fun _ _ i _ => Q - (intOf i).toNat)
      case atStart =>
        refine ⟨0, by omega, rfl, by simp, by simp, ?_, HLK.out.below (below_alloc (Below.refl _ _) _)⟩
        rw [runP_zero, List.append_nil]
        exact HJ.out _ _ _ none HJK.out (World.grownBy_alloc _ _ none) (fun r h => by cases h)
      case round =>
        clear HJK HLK c0 c1
        obtain ⟨j, hj, rfl, rfl, rfl, hJj, hLj⟩ := hrel
        by_cases hjl : j < Q
        · obtain ⟨fn, tmps, assign, body, hy, hR⟩ := HY.out _ ((N : Int) + (j : Int), D + (j : Int)) wr hJj (by
            have := (HPX.out (j + 1) (by omega)).length_le
            rw [List.length_append, runP_length] at this
            rw [idx_length, List.length_append, runP_length]
            omega)
          dsimp only [encP] at hy
          have HLJ := Lib.hid hLj
          have HPRE := Lib.hid (show idx 0 (placesF 0 (L.take k) ++ runP D j) ++ [((N : Int) + (j : Int), D + (j : Int))] = idx 0 (placesF 0 (L.take k) ++ runP D (j + 1)) by
            rw [runP_snoc, ← List.append_assoc, idx_snoc, List.length_append, runP_length, ← hN.out, show (0 : Int) + ((N + j : Nat) : Int) = (N : Int) + (j : Int) from by omega])
          clear hJj hLj
          gi_wp2
          refine ⟨fun h => (by cases h), hR.mono ?_⟩
          rintro e W3 (⟨rfl, hJ3, hk3⟩ | ⟨rfl, hJx3⟩)
          · have HJ3 := Lib.hid (HPRE.out ▸ hJ3)
            have HL3 := Lib.hid (RdC.stay HLJ.out fun a h _ => hk3 a h : RdSp W3 (some ad) L)
            clear hJ3 hk3 hR
            gi_wp2
            go_roundw
            case rel => exact ⟨j + 1, by omega, by go_num, by go_num, by go_num, HJ3.out, HL3.out⟩
            case measure => simp [intOf]; omega
          · have HJ3 := Lib.hid (HPRE.out ▸ hJx3)
            have HPP := Lib.hid (idx_prefix 0 (HPX.out (j + 1) (by omega)))
            clear hJx3 hR
            gi_wp2
            refine bodyPost_ret (results_none rfl _ _ _) rfl ?_
            exact ⟨⟨_, rfl⟩, .inr ⟨_, HPP.out, HJ3.out⟩⟩
        · obtain rfl : j = Q := by omega
          rw [← HPT.out] at hJj
          have HJQ := Lib.hid hJj
          have HLQ := Lib.hid hLj
          have HE1 : Hid (D + (j : Int) = endF 0 (L.take (k + 1))) := Lib.hid (by rw [HET.out])
          have HN1 : Hid (N + j = (placesF 0 (L.take (k + 1))).length) := Lib.hid (by rw [HPT.out, List.length_append, runP_length, ← hN.out])
          clear hJj hLj
          gi_wp2
          go_roundw
          case rel => exact ⟨k + 1, N + j, D + (j : Int), by omega, by go_num, rfl, by go_num, HE1, HN1, HJQ.out, HLQ.out⟩
          case measure => simp [intOf]; omega
    · obtain rfl : k = L.length := by omega
      rw [List.take_length] at hJk
      have HJK := Lib.hid hJk
      clear hJk hLk
      gi_wp2
      go_end0
      exact ⟨⟨_, rfl⟩, .inl ⟨_, rfl, HJK.out⟩⟩
end Go.Proofs.YtjfekjbmgckkcaaGreatDoor.SpanC

/- span's walks: all of a list's places. -/
namespace Go.Proofs.YtjfekjbmgckkcaaGreatDoor.SpanD
open Go.RowKit Go.Shelf Go.Proofs.YtjfekjbmgckkcaaGreatDoorW.PrintWords
open Go.Proofs.YtjfekjbmgckkcaaGreatDoor.Base Go.Proofs.YtjfekjbmgckkcaaGreatDoor.SpanPure Go.Proofs.YtjfekjbmgckkcaaGreatDoor.SpanBase Go.Proofs.YtjfekjbmgckkcaaGreatDoor.SpanA Go.Proofs.YtjfekjbmgckkcaaGreatDoor.SpanB Go.Proofs.YtjfekjbmgckkcaaGreatDoor.SpanC
attribute [local go_sem] Oper.semAt_some

/-- what All hands back. -/
def AllPost (l : List Sp) (w : World) (e : Ending) (w' : World) : Prop :=
  ∃ (A : Option Addr) (c Bn : Nat), e = .returned (.func (.func 219) #[] #[.pointer (some ⟨Bn, 0, none⟩)]) ∧ w'.cell? ⟨Bn, 0, none⟩ = some (.slice A l.length c) ∧ RdSp w' A l ∧ (∀ ad, A = some ad → w.heap.size ≤ ad.block ∧ ad.block < w'.heap.size) ∧ w.heap.size ≤ Bn ∧ Bn < w'.heap.size ∧ Below w.heap.size w w'
set_option maxHeartbeats 800000 in
theorem all_calls (A : Option Addr) (c : Nat) (l : List Sp) (w : World) (hr : RdSp w A l) (hm : l.length ≤ 1000000000) (hc : l.length ≤ c) (hA : A = none → c = 0) :
    Calls Tryz.prog 182 #[.slice A l.length c] w (AllPost l w) := by
  have HC := Lib.hid (SpanC.clone_calls A c l w hr hm hc hA)
  clear hr hA hc
  go_enter Tryz.func182, Tryz.ntmps182
  go_wp2_with (fail)
  refine HC.out.mono ?_
  rintro e w1 ⟨v, rfl, ho, hb⟩
  obtain ⟨A1, c1, rfl, hc1, -, hr1⟩ := ho.reads
  have HR1 := Lib.hid hr1
  have HB := Lib.hid hb
  have HOB := Lib.hid (fun (ad : Addr) (h : A1 = some ad) => (⟨ho.base_ ad.block (by rw [h]; rfl), ho.lt_ ad.block (by rw [h]; rfl)⟩ : w.heap.size ≤ ad.block ∧ ad.block < w1.heap.size))
  have hsz := hb.size
  clear ho hr1 hb HC
  go_wp2
  go_ret
  refine ⟨A1, c1, w1.heap.size, rfl, by simp, HR1.out.below (below_alloc (Below.refl _ _) _), fun ad h => ?_, hsz, by simp, below_alloc HB.out _⟩
  have := HOB.out ad h
  exact ⟨this.1, by simp; omega⟩

theorem ownFrom_size {β : Type} {n B : Nat} : OwnFrom B (fun (_ : β) W => n ≤ W.heap.size) := fun _ _ _ _ hs hg _ => Nat.le_trans hs hg.size
/-- behind 'out = append(out, x)' on a box of its own: what else the round keeps. -/
theorem appended_keeps {W w1 : World} {base B : Nat} {e : TypeId} {v v' : Value} {k : Nat} {xs : List Value} {tmp : Obj} (hrow : W.ownsRow base e 1 v k xs) (hgrow : (W.alloc tmp).grownBy w1 v.ownBlock) (g : Nat) (hg : g < base) (hgB : g ≠ B) (hgW : g < W.heap.size) :
    (w1.setCell ⟨B, 0, none⟩ v').heap[g]? = W.heap[g]? := by
  rw [Below.heap_setCell _ _ _ _ hgB, hgrow.block g (by simp; omega) (fun he => by
    have := (World.ownsRow.lt hrow g he.symm).1
    omega)]
  exact Below.heap_alloc W tmp g hgW
theorem infoInt : (Tryz.prog.info? 3).map (fun i => (i.zero, i.size, i.bytes)) = some (some (.int .i64 0), 1, 8) := by kernel_rfl
/-- what Places hands back. -/
def PlacesPost (l : List Sp) (w : World) (e : Ending) (w' : World) : Prop :=
  Below w.heap.size w w' ∧ ((chk l ≠ 0 ∧ e = .returned (.tuple #[.slice none 0 0, .int .i64 (chk l)])) ∨ (chk l = 0 ∧ ∃ v, e = .returned (.tuple #[v, .int .i64 0]) ∧ OwI 3 .i64 w' w.heap.size v (places l)))
set_option maxRecDepth 100000 in
set_option maxHeartbeats 3200000 in
theorem places_calls (A : Option Addr) (c : Nat) (l : List Sp) (w : World) (hr : RdSp w A l) (hm : l.length ≤ 1000000000) (hc : l.length ≤ c) (hA : A = none → c = 0) :
    Calls Tryz.prog 118 #[.slice A l.length c] w (PlacesPost l w) := by
  have HC := Lib.hid (check_calls A c l w hr hm)
  refine (callsIn_wide (n := 4)).1 ?_
  refine callsIn_of_wp_marks Tryz.func118 rfl trivial ?_ rfl
  simp only [Tryz.ntmps118, List.size_toArray, List.length_cons, List.length_nil, Nat.reduceAdd, Nat.reduceSub, Array.replicate_succ, Array.replicate_zero, List.push_toArray, List.append_toArray, List.nil_append, List.cons_append]
  by_cases h0 : chk l = 0
  · have HALL := Lib.hid (fun W (h : Below w.heap.size w W) => all_calls A c l W (hr.below h) hm hc hA)
    have H0 := Lib.hid h0
    rw [h0] at HC
    clear hr hA hc h0
    gi_wp2
    refine ⟨trivial, ?_⟩
    refine (callsIn_wide.2 HC.out).mono ?_
    rintro e w1 ⟨rfl, hb1⟩
    have HB1 := Lib.hid hb1
    have hsz1 := hb1.size
    clear hb1 HC
    gi_wp2
    refine ⟨trivial, ?_⟩
    refine (callsIn_wide.2 (HALL.out _ (below_alloc HB1.out _))).mono ?_
    rintro e w2 ⟨A2, c2, Bn, rfl, hcell, hrd, hA2, hBn1, hBn2, hb2⟩
    have hB0 : w1.heap.size < w2.heap.size := by have := hb2.size; simp at this; omega
    have hbox : Boxed w2 w1.heap.size 174 (.slice none 0 0) := (hb2.block w1.heap.size (by simp)).trans (Boxed.new w1 174 (.slice none 0 0))
    have HB2 := Lib.hid (below_then (below_alloc HB1.out (.cells #[.slice none 0 0] 174)) (by simp; omega) hb2)
    have hA3 : ∀ ad, A2 = some ad → w1.heap.size + 1 ≤ ad.block ∧ ad.block < w2.heap.size := fun ad h => by have := hA2 ad h; simp at this; omega
    have HA3 := Lib.hid hA3
    have HBOX := Lib.hid hbox
    have HST := Lib.hid (all_right (n := 3) Bn A2 c2 l w2 hBn2 hcell hrd hm H0.out)
    have hlen := places_len (chk_zero.1 H0.out).2
    clear hcell hrd hA2 hBn1 hBn2 hb2 hA3 hbox HALL
    gi_wp2
    refine wpIn_rangeFunc_ownG rfl (by decide) (gf := 219) (lb := #[.pointer (some ⟨Bn, 0, none⟩)]) rfl trivial (enters_of Tryz.func219 (by kernel_rfl) rfl)
      HST.out (fun h1 h2 ad h => (h2 ad h).trans (h1 ad h)) (fun W r o o' hr _ _ _ ad h => World.putObj_heap_other (by have := (HA3.out ad h).2; omega)) (Below.refl _ _) (fun _ => rfl)
      (fun pre W => (∃ v, Boxed W w1.heap.size 174 v ∧ W.ownsRow w2.heap.size 3 1 v pre.length (pre.map fun x => Value.int .i64 x.2) ∧ True) ∧ (Below w.heap.size w W ∧ w2.heap.size ≤ W.heap.size))
      (fun _ _ _ => False)
      (OwnFrom.and (Own.from (holdsRow_own w2.heap.size w1.heap.size 174 3 1 (fun pre : List (Int × Int) => pre.length) (fun pre => pre.map fun x => Value.int .i64 x.2) (fun _ _ => True)) _) (OwnFrom.and (ownFrom_below (Nat.le_refl _) (by omega)) ownFrom_size))
      (fun _ _ _ _ _ hs _ _ => hs)
      ⟨⟨_, HBOX.out, World.ownsRow_nil _ _ _ _, trivial⟩, HB2.out, Nat.le_refl _⟩
      (fun x => { tmps := #[.slice A l.length c, undef, .slice none 0 0, .int .i64 0, .int .i64 0, .pointer (some ⟨w1.heap.size, 0, none⟩), undef, .int .i64 x.2, .slice A l.length c, .int .i64 0, .int .i64 0, .bool false, undef, .slice A l.length c, .func (.func 219) #[] #[.pointer (some ⟨Bn, 0, none⟩)], .int .i64 x.1, .int .i64 x.2, undef, undef, undef, undef, undef], defers := [] }) ?assign ?body ?done ?stop
    case assign =>
      intro l x W K hK
      gi_wp2
      exact hK
    case body =>
      rintro r pre x W ⟨⟨v, hv, hrow, -⟩, hB, hszW2⟩ hlt
      have hc := hv.cell
      have hszW := hB.size
      have hpl : pre.length < 4096 := by omega
      obtain ⟨i0, hi, hz0, hz1, hz2⟩ := info_parts infoInt
      have HRW := Lib.hid hrow
      have HV := Lib.hid hv
      have HBW := Lib.hid hB
      clear hB hv
      gi_wp2_with (gi_at_builtin; refine wpListIn_append_own _ rfl _ _ 174 rfl w2.heap.size 3 i0 (.int .i64 0) 1 8 Tryz.underlying174 hi hz0 hz1 hz2 rfl (by decide) _ _ _ rfl (HRW.out.alloc _) ⟨W.heap.size, 0, none⟩ 1 1 [.int .i64 x.2] rfl rfl (cell_one_new _ _ _) (by simp [Value.oneCell']) (by unfold maxLen; omega) (by omega) (by simp; omega) ?_; intro v' w4 hown' hgrow _; obtain ⟨g', cap', rfl⟩ := ownsRow_succ hown'; have hap := HV.out.appended (n₀ := w.heap.size) (by decide) (own_weaken HRW.out (by omega)) hszW (by omega) (own_weaken hown' (by omega)) hgrow; have HK := Lib.hid (fun g h1 h2 h3 => appended_keeps (v' := .slice (some ⟨g', 0, none⟩) (pre.length + 1) cap') (B := w1.heap.size) HRW.out hgrow g h1 h2 h3); have HOW := Lib.hid hown'; obtain ⟨hv1, hv2, hr2, hk2, hb2⟩ := hap; have hc1 := hv1.cell; have hf1 := hv1.frozen; have HV1 := Lib.hid hv1; have HV2 := Lib.hid hv2; have HK2 := Lib.hid hk2; have HB2 := Lib.hid hb2; clear hown' hgrow hv1 hv2 hr2 hk2 hb2)
      refine ⟨HK2.out.from _, fun ad h => ?_, ⟨_, HV2.out, ?_, trivial⟩, HBW.out.trans HB2.out, Nat.le_trans hszW2 HK2.out.size⟩
      · have := HA3.out ad h
        exact HK.out _ (by omega) (by omega) (by omega)
      · rw [List.length_append, List.length_singleton, List.map_append]
        exact HOW.out.kept (grownBy_setCell' _ _ _) (.inr (HV1.out.not_row (by decide) HOW.out).symm)
    case done =>
      rintro D ys W hD rfl ⟨⟨v, hv, hrow, -⟩, hB, -⟩ hK
      have hc := hv.cell
      gi_wp2
      refine ⟨by simp, .inl ⟨_, _, rfl, run_takeDeferred hK, ?_⟩⟩
      refine ⟨_, results_tmp2 rfl _ _ _, hB.trans (belowK_b (w := w) (Nat.le_refl _) W D _ _ (by omega) hK rfl rfl), .inr ⟨H0.out, v, rfl, ?_⟩⟩
      have h9 := ownsRow_putObj (own_weaken hrow (show w.heap.size ≤ w2.heap.size by omega)) (.deferred none) hK rfl
      unfold OwI
      rw [idx_length] at h9
      have h8 : (idx 0 (places l)).map (fun x => Value.int .i64 x.2) = nums .i64 (places l) := by
        rw [nums, ← idx_snd (places l) 0, List.map_map, idx_snd]; rfl
      rw [h8] at h9
      exact h9
    case stop =>
      rintro D c pre W _ _ h _
      exact h.elim
  · have e1 : ((chk l : Int) != 0) = true := by simp; exact h0
    have H0 := Lib.hid h0
    clear h0 hr hA hc
    gi_wp2
    refine ⟨trivial, ?_⟩
    refine (callsIn_wide.2 HC.out).mono ?_
    rintro e w1 ⟨rfl, hb1⟩
    have HB1 := Lib.hid hb1
    clear hb1 HC
    gi_wp2
    exact ⟨_, results_tmp2 rfl _ _ _, HB1.out, .inl ⟨H0.out, rfl⟩⟩
end Go.Proofs.YtjfekjbmgckkcaaGreatDoor.SpanD

/- span's walks without sorting: how many, the canonical list, equal. -/
namespace Go.Proofs.YtjfekjbmgckkcaaGreatDoor.SpanQ
open Go.RowKit Go.Proofs.YtjfekjbmgckkcaaGreatDoorW.PrintWords
open Go.Proofs.YtjfekjbmgckkcaaGreatDoor.Base Go.Proofs.YtjfekjbmgckkcaaGreatDoor.SpanPure Go.Proofs.YtjfekjbmgckkcaaGreatDoor.SpanBase Go.Proofs.YtjfekjbmgckkcaaGreatDoor.SpanA Go.Proofs.YtjfekjbmgckkcaaGreatDoor.SpanB Go.Proofs.YtjfekjbmgckkcaaGreatDoor.SpanC Go.Proofs.YtjfekjbmgckkcaaGreatDoor.SpanD

theorem ints_equal (v1 v2 : Value) (xs ys : List Int) (b1 b2 : Nat) (w : World) (h1 : OwI 3 .i64 w b1 v1 xs) (h2 : OwI 3 .i64 w b2 v2 ys) (hm : xs.length ≤ 1000000000) (hm2 : ys.length ≤ 1000000000) :
    Calls Tryz.prog 214 #[v1, v2] w fun e w' => e = .returned (.bool (decide (xs = ys))) ∧ Drawn0 w w' := by
  by_cases hl : xs.length = ys.length
  · rcases Nat.eq_zero_or_pos xs.length with h0 | h0
    · obtain rfl := List.length_eq_zero_iff.1 h0
      obtain rfl := List.length_eq_zero_iff.1 (hl.symm.trans h0)
      obtain ⟨A, c, rfl, -, -⟩ := h1.reads
      obtain ⟨A2, c2, rfl, -, -⟩ := h2.reads
      refine (Tryz.slices_Equal_int_empty A A2 c 0 c2 w (by decide)).mono ?_
      rintro e w' ⟨rfl, rfl⟩
      exact ⟨rfl, Drawn0.refl _⟩
    · obtain ⟨g, c, rfl, -, -, -⟩ := h1.form h0
      obtain ⟨g2, c2, rfl, -, -, -⟩ := h2.form (by omega)
      refine (Tryz.slices_Equal_int g 0 xs.length c g2 0 ys.length c2 xs ys w (Nat.le_refl _) (Nat.le_refl _) (by omega) (by omega) (fun j hj => ?_) (fun j hj => ?_)).mono ?_
      · rw [Nat.zero_add, List.getD_eq_getElem?_getD, List.getElem?_eq_getElem hj]; exact (OwI.at_ h1 j hj).1
      · rw [Nat.zero_add, List.getD_eq_getElem?_getD, List.getElem?_eq_getElem hj]; exact (OwI.at_ h2 j hj).1
      · rintro e w' ⟨rfl, q, rfl⟩
        refine ⟨?_, ⟨q, rfl⟩⟩
        rw [List.take_length, List.take_length]
        congr 2
        rw [Bool.eq_iff_iff, beq_iff_eq, decide_eq_true_iff]
  · obtain ⟨A, c, rfl, -, -⟩ := h1.reads
    obtain ⟨A2, c2, rfl, -, -⟩ := h2.reads
    refine (Tryz.slices_Equal_int_lens A A2 xs.length c ys.length c2 w hl).mono ?_
    rintro e w' ⟨rfl, rfl⟩
    refine ⟨?_, Drawn0.refl _⟩
    rw [decide_eq_false]
    rintro rfl
    exact hl rfl

theorem chk_lt (l : List Sp) : chk l ≤ 20 := by rcases chk_cases l with ⟨h, _⟩ | ⟨h, _⟩ | ⟨h, _⟩ <;> omega
theorem ne_chk {l : List Sp} (h : chk l ≠ 0) : ((chk l : Int) != 0) = true := by simp; exact h
/-- what is known of a right list. -/
theorem right_of {l : List Sp} (h : chk l = 0) : rightF true 0 0 l = true := (chk_zero.1 h).2
theorem from_len {l : List Sp} (h : chk l = 0) : (fromL (places l)).length ≤ l.length ∧ l.length ≤ 1024 := by
  obtain ⟨f, hb⟩ := fromL_built (places_rising (right_of h))
  exact ⟨by rw [hb.len]; exact runs_le l, (chk_zero.1 h).1⟩

set_option maxHeartbeats 1600000 in
theorem count_calls (A : Option Addr) (c : Nat) (l : List Sp) (w : World) (hr : RdSp w A l) (hm : l.length ≤ 1000000000) :
    Calls Tryz.prog 99 #[.slice A l.length c] w fun e w' => e = .returned (.int .i64 (if chk l = 0 then (places l).length else 0 : Nat)) ∧ Below w.heap.size w w' := by
  have HR := Lib.hid hr
  have HC := Lib.hid (check_calls A c l w hr hm)
  clear hr
  by_cases h0 : chk l = 0
  · rw [if_pos h0]
    rw [h0] at HC
    have hR := right_of h0
    have HRR := Lib.hid hR
    have HCN := Lib.hid (places_cnt hR)
    have HPL := Lib.hid (places_len hR)
    clear h0 hR
    go_enter Tryz.func99, Tryz.ntmps99
    go_wp2_with (go_at_call 166; refine HC.out.mono ?_; rintro e w1 ⟨rfl, hb1⟩; have HB1 := Lib.hid hb1; clear hb1)
    go_loopw [3, 11] (fun s i wr => ∃ (k : Nat) (m : Int), k ≤ l.length ∧ i = .int .i64 k ∧ s = .int .i64 m ∧ Hid (m = cntF 0 (l.take k)) ∧ 0 ≤ m ∧ m ≤ 4096 ∧ Below w.heap.size w wr) (fun _ i _ => l.length - (intOf i).toNat)
    case atStart => exact ⟨0, 0, by omega, rfl, rfl, Lib.hid rfl, by omega, by omega, HB1.out⟩
    case round =>
      obtain ⟨k, m, hk, rfl, rfl, hm1, hm2, hm3, hb⟩ := hrel
      have HB := Lib.hid hb
      have hsz := hb.size
      by_cases hlt : k < l.length
      · obtain ⟨ad, hA, c0, c1⟩ := (HR.out.below hb).at_ k hlt
        subst hA
        obtain ⟨r1, r2, -, -, -, -⟩ := right_at HRR.out k hlt
        have hn := rightF_facts (l.take (k + 1)) true 0 0 (right_take HRR.out (k + 1)) (by decide) (by decide)
        have he : cntF 0 (l.take (k + 1)) = m + l[k].2 := by rw [List.take_succ_eq_append_getElem hlt, cntF_append, ← hm1.out]; rfl
        have hle : m + l[k].2 ≤ 4096 := by
          rw [← he]
          rcases hn.2.1 with h | h
          · exact h
          · exact absurd h (by intro h2; have := congrArg List.length h2; simp only [List.length_take, List.length_nil] at this; omega)
        have HE := Lib.hid he
        obtain ⟨s, hs⟩ : ∃ s, s = l[k] := ⟨_, rfl⟩
        rw [← hs] at c0 c1 r1 r2 hle HE
        obtain ⟨o, q⟩ := s
        simp only at c0 c1 r1 r2 hle HE
        clear hs hb hn he
        go_wp2
        go_roundw
        case rel => exact ⟨k + 1, m + q, by omega, by go_num, rfl, Lib.hid HE.out.symm, by omega, by omega, HB.out.alloc hsz _⟩
        case measure => simp [intOf]; omega
      · obtain rfl : k = l.length := by omega
        have hmm : m = ((places l).length : Int) := by rw [hm1.out, List.take_length]; exact HCN.out
        subst hmm
        clear hb
        go_wp2
        go_ret
        exact ⟨rfl, HB.out⟩
  · rw [if_neg h0]
    have e1 := ne_chk h0
    clear h0
    go_enter Tryz.func99, Tryz.ntmps99
    go_wp2_with (go_at_call 166; refine HC.out.mono ?_; rintro e w1 ⟨rfl, hb1⟩; have HB1 := Lib.hid hb1; clear hb1)
    go_ret
    exact ⟨rfl, HB1.out⟩

/-- what Canon hands back. -/
def CanonPost (l : List Sp) (w : World) (e : Ending) (w' : World) : Prop :=
  Below w.heap.size w w' ∧ ((chk l ≠ 0 ∧ e = .returned (.tuple #[.slice none 0 0, .int .i64 (chk l)])) ∨ (chk l = 0 ∧ ∃ v, e = .returned (.tuple #[v, .int .i64 0]) ∧ OwSp 119 w' w.heap.size v (fromL (places l))))
set_option maxHeartbeats 800000 in
theorem canon_calls (A : Option Addr) (c : Nat) (l : List Sp) (w : World) (hr : RdSp w A l) (hm : l.length ≤ 1000000000) (hc : l.length ≤ c) (hA : A = none → c = 0) :
    Calls Tryz.prog 47 #[.slice A l.length c] w (CanonPost l w) := by
  have HP := Lib.hid (places_calls A c l w hr hm hc hA)
  clear hr hA hc
  go_enter Tryz.func47, Tryz.ntmps47
  go_wp2_with (fail)
  refine HP.out.mono ?_
  rintro e w1 ⟨hb1, ⟨h0, rfl⟩ | ⟨h0, v, rfl, ho⟩⟩
  · have HB1 := Lib.hid hb1
    have e1 := ne_chk h0
    have H0 := Lib.hid h0
    clear hb1 h0 HP
    go_wp2
    go_ret2
    exact ⟨HB1.out, .inl ⟨H0.out, rfl⟩⟩
  · obtain ⟨A1, c1, rfl, hc1, hr1⟩ := ho.reads
    have hpl := places_len (right_of h0)
    have hfl := from_len h0
    have HF := Lib.hid (from_calls A1 c1 (places l) w1 hr1 (by omega))
    have HB1 := Lib.hid hb1
    have H0 := Lib.hid h0
    clear ho hr1 hb1 h0 HP
    go_wp2_with (fail)
    refine HF.out.mono ?_
    rintro e w2 ⟨hb2, ⟨h1, -⟩ | ⟨-, h1, -⟩ | ⟨-, -, -, v, rfl, ho2⟩⟩
    · exact absurd (places_rising (right_of H0.out)) (by rw [h1]; simp)
    · exact absurd h1 (by omega)
    · have HB2 := Lib.hid (below_then HB1.out HB1.out.size hb2)
      have HO2 := Lib.hid (ho2.lower HB1.out.size)
      obtain ⟨A2, c2, rfl, -, -, -⟩ := ho2.reads
      clear hb2 ho2 HF
      go_wp2
      go_ret2
      exact ⟨HB2.out, .inr ⟨H0.out, _, rfl, HO2.out⟩⟩

set_option maxHeartbeats 1600000 in
theorem equal_calls (A1 A2 : Option Addr) (c1 c2 : Nat) (l m : List Sp) (w : World) (h1 : RdSp w A1 l) (h2 : RdSp w A2 m) (hm1 : l.length ≤ 1000000000) (hm2 : m.length ≤ 1000000000) (hc1 : l.length ≤ c1) (hc2 : m.length ≤ c2) (hA1 : A1 = none → c1 = 0) (hA2 : A2 = none → c2 = 0) :
    Calls Tryz.prog 170 #[.slice A1 l.length c1, .slice A2 m.length c2] w fun e w' => e = .returned (.bool (decide (chk l = 0 ∧ chk m = 0 ∧ places l = places m))) ∧ Below w.heap.size w w' := by
  have HP1 := Lib.hid (places_calls A1 c1 l w h1 hm1 hc1 hA1)
  have HP2 := Lib.hid (fun W (h : Below w.heap.size w W) => places_calls A2 c2 m W (h2.below h) hm2 hc2 hA2)
  clear h1 h2 hc1 hc2 hA1 hA2
  go_enter Tryz.func170, Tryz.ntmps170
  go_wp2_with (fail)
  refine HP1.out.mono ?_
  rintro e w1 ⟨hb1, ⟨h0, rfl⟩ | ⟨h0, v, rfl, ho⟩⟩
  · have HB1 := Lib.hid hb1
    have e1 : ((chk l : Int) == 0) = false := by simp; exact h0
    have HF : Hid (decide (chk l = 0 ∧ chk m = 0 ∧ places l = places m) = false) := Lib.hid (by simp [h0])
    clear hb1 h0 HP1
    go_wp2_with (fail)
    refine (HP2.out _ HB1.out).mono ?_
    rintro e w2 ⟨hb2, hcase⟩
    have HB2 := Lib.hid (below_then HB1.out HB1.out.size hb2)
    have : ∃ (v2 : Value) (k : Int), e = .returned (.tuple #[v2, .int .i64 k]) := by
      rcases hcase with ⟨-, rfl⟩ | ⟨-, v2, rfl, -⟩
      · exact ⟨_, _, rfl⟩
      · exact ⟨_, _, rfl⟩
    obtain ⟨v2, k, rfl⟩ := this
    clear hcase hb2
    go_wp2
    go_ret
    exact ⟨by rw [HF.out]; rfl, HB2.out⟩
  · have HB1 := Lib.hid hb1
    have H0 := Lib.hid h0
    obtain ⟨A3, c3, rfl, -, -⟩ := ho.reads
    have HO := Lib.hid ho
    have hpl := places_len (right_of h0)
    clear hb1 h0 HP1 ho
    go_wp2_with (fail)
    refine (HP2.out _ HB1.out).mono ?_
    rintro e w2 ⟨hb2, ⟨g0, rfl⟩ | ⟨g0, v2, rfl, ho2⟩⟩
    · have HB2 := Lib.hid (below_then HB1.out HB1.out.size hb2)
      have e1 : ((chk m : Int) == 0) = false := by simp; exact g0
      have HF : Hid (decide (chk l = 0 ∧ chk m = 0 ∧ places l = places m) = false) := Lib.hid (by simp [g0])
      clear hb2 g0
      go_wp2
      go_ret
      exact ⟨by rw [HF.out]; rfl, HB2.out⟩
    · have HB2 := Lib.hid (below_then HB1.out HB1.out.size hb2)
      have HE := Lib.hid (ints_equal _ _ (places l) (places m) _ _ w2 (HO.out.below hb2) ho2 (by omega) (by have := places_len (right_of g0); omega))
      have HF : Hid (decide (chk l = 0 ∧ chk m = 0 ∧ places l = places m) = decide (places l = places m)) := Lib.hid (by simp [H0.out, g0])
      obtain ⟨A4, c4, rfl, -, -⟩ := ho2.reads
      clear hb2 g0 ho2
      go_wp2_with (go_at_call 214; refine HE.out.mono ?_; rintro e w3 ⟨rfl, q, rfl⟩)
      go_ret
      exact ⟨by rw [HF.out]; rfl, pw_below_drewN HB2.out q⟩

end Go.Proofs.YtjfekjbmgckkcaaGreatDoor.SpanQ

/- fhist's walks: what is wrong with a histogram of floats. -/
namespace Go.Proofs.YtjfekjbmgckkcaaGreatDoor.FhistA
open Go.RowKit Go.Proofs.YtjfekjbmgckkcaaGreatDoorW.PrintWords
open Go.Proofs.YtjfekjbmgckkcaaGreatDoor.Bits Go.Proofs.YtjfekjbmgckkcaaGreatDoor.Base Go.Proofs.YtjfekjbmgckkcaaGreatDoor.StreamA Go.Proofs.YtjfekjbmgckkcaaGreatDoor.Ref13 Go.Proofs.YtjfekjbmgckkcaaGreatDoor.SpanPure Go.Proofs.YtjfekjbmgckkcaaGreatDoor.SpanBase Go.Proofs.YtjfekjbmgckkcaaGreatDoor.SpanD Go.Proofs.YtjfekjbmgckkcaaGreatDoor.ThrPure Go.Proofs.YtjfekjbmgckkcaaGreatDoor.HeadA Go.Proofs.YtjfekjbmgckkcaaGreatDoor.HeadB Go.Proofs.YtjfekjbmgckkcaaGreatDoor.FcPure Go.Proofs.YtjfekjbmgckkcaaGreatDoor.FcObj

set_option maxHeartbeats 400000 in
theorem wrong_calls (v : Nat) (w : World) :
    Calls Tryz.prog 234 #[.int .u64 v] w fun e w' => e = .returned (.bool (decide (inf ≤ v))) ∧ w = w' := by
  have HT : Hid (∀ W, Calls Tryz.prog 143 #[.int .u64 v] W fun e w' => e = .returned (.bool (!decide (inf ≤ v))) ∧ W = w') := Lib.hid (fun W => by
    refine (ThrA.thr_calls v W).mono ?_
    rintro e w' ⟨rfl, rfl⟩
    refine ⟨?_, rfl⟩
    congr 2
    unfold thrOk inf
    rw [Bool.eq_iff_iff]
    simp)
  have HR : Hid (Calls Tryz.prog 241 #[.int .u64 v] w fun e w' => e = .returned (.bool (!decide (inf ≤ v))) ∧ w = w') := Lib.hid (by
    go_enter Tryz.func241, Tryz.ntmps241
    go_wp2_with (go_at_call 143; refine (HT.out _).mono ?_; rintro e w' ⟨rfl, rfl⟩)
    go_ret
    exact ⟨rfl, rfl⟩)
  clear HT
  obtain ⟨b, hb⟩ : ∃ b, b = decide (inf ≤ v) := ⟨_, rfl⟩
  rw [← hb] at HR ⊢
  clear hb
  go_enter Tryz.func234, Tryz.ntmps234
  go_wp2_with (go_at_call 241; refine HR.out.mono ?_; rintro e w' ⟨rfl, rfl⟩)
  go_ret
  exact ⟨by simp, rfl⟩

/-- is one of them no count? -/
def anyInf (l : List Nat) : Bool := l.any fun v => decide (inf ≤ v)
set_option maxHeartbeats 1600000 in
theorem index_calls (A : Option Addr) (c : Nat) (l : List Nat) (w : World) (hr : RdI .u64 w A (nats l)) (hm : l.length ≤ 1000000) :
    Calls Tryz.prog 249 #[.slice A l.length c, .func (.func 234) #[] #[]] w fun e w' => (∃ r : Int, e = .returned (.int .i64 r) ∧ decide (0 ≤ r) = anyInf l) ∧ Drawn0 w w' := by
  have HR := Lib.hid hr
  clear hr
  go_enter Tryz.func249, Tryz.ntmps249
  go_wp2
  go_loopw [5, 8] (fun _ i wr => ∃ k : Nat, k ≤ l.length ∧ i = .int .i64 k ∧ Hid (anyInf (l.take k) = false) ∧ Drawn0 w wr) (fun _ i _ => l.length - (intOf i).toNat)
  case atStart => exact ⟨0, by omega, rfl, Lib.hid rfl, Drawn0.refl _⟩
  case round =>
    obtain ⟨k, hk, rfl, hf, ⟨m, rfl⟩⟩ := hrel
    by_cases hlt : k < l.length
    · obtain ⟨ad, hA, hc⟩ := nat_at (HR.out.drewN m) k hlt
      subst hA
      have HT : Hid (anyInf (l.take (k + 1)) = decide (inf ≤ l[k])) := Lib.hid (by
        have := hf.out
        unfold anyInf at this ⊢
        rw [List.take_succ_eq_append_getElem hlt, List.any_append, this]
        simp)
      have HU : Hid (decide (inf ≤ l[k]) = true → anyInf l = true) := Lib.hid (fun h => by
        unfold anyInf
        rw [List.any_eq_true]
        exact ⟨l[k], List.getElem_mem _, h⟩)
      obtain ⟨v, hv⟩ : ∃ v, v = l[k] := ⟨_, rfl⟩
      rw [← hv] at hc HT HU
      have HW := Lib.hid (wrong_calls v)
      cases hd : decide (inf ≤ v) with
      | true =>
        rw [hd] at HW
        have HU' := Lib.hid (HU.out hd)
        clear hv hd HU HT hf
        go_wp2_with (go_at_call 234; refine (HW.out _).mono ?_; rintro e w' ⟨rfl, rfl⟩)
        go_ret
        exact ⟨⟨_, rfl, by rw [HU'.out]; exact decide_eq_true (by omega)⟩, ⟨_, rfl⟩⟩
      | false =>
        rw [hd] at HW HT
        clear hv hd HU hf
        go_wp2_with (go_at_call 234; refine (HW.out _).mono ?_; rintro e w' ⟨rfl, rfl⟩)
        go_roundw
        case rel => exact ⟨k + 1, by omega, by go_num, HT, ⟨_, rfl⟩⟩
        case measure => simp [intOf]; omega
    · obtain rfl : k = l.length := by omega
      rw [List.take_length] at hf
      go_wp2
      go_ret
      exact ⟨⟨_, rfl, by rw [hf.out]; rfl⟩, ⟨_, rfl⟩⟩
theorem contains_calls (A : Option Addr) (c : Nat) (l : List Nat) (w : World) (hr : RdI .u64 w A (nats l)) (hm : l.length ≤ 1000000) :
    Calls Tryz.prog 242 #[.slice A l.length c, .func (.func 234) #[] #[]] w fun e w' => e = .returned (.bool (anyInf l)) ∧ Drawn0 w w' := by
  have HI := Lib.hid (index_calls A c l w hr hm)
  clear hr
  go_enter Tryz.func242, Tryz.ntmps242
  go_wp2_with (fail)
  refine HI.out.mono ?_
  rintro e w' ⟨⟨r, rfl, hd⟩, ⟨m, rfl⟩⟩
  have HD := Lib.hid hd
  clear hd
  go_wp2
  go_ret
  exact ⟨by rw [← HD.out]; rfl, ⟨_, rfl⟩⟩

/-! ### places with values -/
abbrev rPu : Rep.Rep (Int × Int) := Rep.pair (Rep.int .i64) (Rep.int .u64)
theorem infoPu : (Tryz.prog.info? 336).map (fun i => (i.zero, i.size, i.bytes)) = some (some (.agg #[.int .i64 0, .int .u64 0]), rPu.k, 16) := by kernel_rfl
def ZipPost (l : List Sp) (vs : List Nat) (w : World) (e : Ending) (w' : World) : Prop :=
  ∃ v, e = .returned (.tuple #[v, .int .i64 0]) ∧ Rep.OwX rPu 336 w' w.heap.size v ((places l).zip (nats vs)) ∧ Below w.heap.size w w'
set_option maxRecDepth 100000 in
set_option maxHeartbeats 1600000 in
theorem zip_calls (A B : Option Addr) (c d : Nat) (l : List Sp) (vs : List Nat) (w : World) (h1 : Spl w A c l) (h2 : RdI .u64 w B (nats vs)) (hok : chk l = 0) (hl : (places l).length = vs.length) :
    Calls Tryz.prog 243 #[.slice A l.length c, .slice B vs.length d] w (ZipPost l vs w) := by
  have HP := Lib.hid (places_calls A c l w h1.rd (by have := h1.len; omega) h1.cap h1.nil)
  have hpl := places_len (SpanQ.right_of hok)
  have HV := Lib.hid h2
  have H0 := Lib.hid hok
  clear h1 h2 hok
  go_enter Tryz.func243, Tryz.ntmps243
  go_wp2_with (fail)
  refine HP.out.mono ?_
  rintro e w1 ⟨hb1, ⟨h0, rfl⟩ | ⟨-, v, rfl, ho⟩⟩
  · exact absurd H0.out h0
  obtain ⟨A1, c1, rfl, hc1, hr1⟩ := ho.reads
  have HP1 := Lib.hid hr1
  have B1 := Lib.hid hb1
  obtain ⟨P, hP⟩ : ∃ P, P = places l := ⟨_, rfl⟩
  have HPP := Lib.hid hP
  simp only [← hP] at HP1 hl hpl hc1 ⊢
  have HL := Lib.hid hl
  have hne : ((P.length : Int) != (vs.length : Int)) = false := by simp; omega
  have hne' : ((P.length : Int) == (vs.length : Int)) = true := by simp; omega
  have hvl : vs.length ≤ 4096 := by omega
  clear hb1 ho hr1 hP hl HP
  go_wp2_with (fail)
  go_loopw [8, 9, 10, 28] (fun v _ _ i wr => ∃ k : Nat, k ≤ P.length ∧ i = .int .i64 k ∧ Rep.OwX rPu 336 wr w1.heap.size v ((P.take k).zip (nats (vs.take k))) ∧ Below w1.heap.size w1 wr) (fun _ _ _ i _ => P.length - (intOf i).toNat)
  case atStart => exact ⟨0, by omega, rfl, Rep.OwX.nil _ _ _ _, Below.refl _ _⟩
  case round =>
    obtain ⟨k, hk, rfl, ho, hb⟩ := hrel
    have HO := Lib.hid ho
    have HB := Lib.hid hb
    have hsz := hb.size
    by_cases hlt : k < P.length
    · have hlt2 : k < vs.length := by have := HL.out; omega
      obtain ⟨ad, hA, hc⟩ := RdI.at_ (HP1.out.below hb) k hlt
      subst hA
      obtain ⟨bd, hB, hd⟩ := nat_at ((HV.out.below B1.out).below hb) k hlt2
      subst hB
      have HT : Hid ((P.take (k + 1)).zip (nats (vs.take (k + 1))) = (P.take k).zip (nats (vs.take k)) ++ [(P[k], (vs[k] : Int))]) := Lib.hid (by
        rw [List.take_succ_eq_append_getElem hlt, List.take_succ_eq_append_getElem hlt2, nats_append, List.zip_append (by rw [List.length_take, nats_length, List.length_take]; omega)]
        rfl)
      have hll : ((P.take k).zip (nats (vs.take k))).length ≤ 4096 := by rw [List.length_zip, List.length_take]; omega
      obtain ⟨Z, hZ⟩ : ∃ Z, Z = (P.take k).zip (nats (vs.take k)) := ⟨_, rfl⟩
      obtain ⟨p, hp⟩ : ∃ p, p = P[k] := ⟨_, rfl⟩
      obtain ⟨q, hq⟩ : ∃ q, q = vs[k] := ⟨_, rfl⟩
      rw [← hZ] at HO HT hll
      rw [← hp] at hc HT
      rw [← hq] at hd HT
      clear ho hb hZ hp hq
      go_wp2_with (at_builtin; refine Rep.append_any (r := rPu) (w0 := w1) w1.heap.size rfl (.tmp 33) (.tmp 40) 283 336 _ 16 rfl Tryz.underlying283 infoPu rfl (by decide) _ Z (p, (q : Int)) _ rfl rfl wr.heap.size rfl rfl HO.out HB.out hsz (by omega) (by omega) ?_; intro v1 w2 ho2 hb2 _; have HO2 := Lib.hid ho2; have HB2 := Lib.hid hb2; clear ho2 hb2)
      go_roundw
      case rel => exact ⟨k + 1, by omega, by go_num, by rw [HT.out]; exact HO2.out, HB2.out⟩
      case measure => simp [intOf]; omega
    · obtain rfl : k = P.length := by omega
      rw [List.take_length, HL.out, List.take_length] at HO
      have HO3 := Lib.hid (HO.out.lower B1.out.size)
      have HB3 := Lib.hid (below_then B1.out B1.out.size HB.out)
      obtain ⟨x, rfl, -, -⟩ := ho.reads
      clear ho hb
      go_wp2
      go_ret2
      exact ⟨.slice x.at_ x.l.length x.cap, rfl, by rw [← HPP.out]; exact HO3.out, HB3.out⟩

/-! ### a side, both, all -/
/-- what a side is. -/
def SidePost (l : List Sp) (vs : List Nat) (w : World) (e : Ending) (w' : World) : Prop :=
  Below w.heap.size w w' ∧ ((sideF l vs ≠ 0 ∧ e = .returned (.tuple #[.slice none 0 0, .int .i64 (sideF l vs)])) ∨
    (sideF l vs = 0 ∧ ∃ v, e = .returned (.tuple #[v, .int .i64 0]) ∧ Rep.OwX rPu 336 w' w.heap.size v ((places l).zip (nats vs))))
set_option maxHeartbeats 1600000 in
theorem side_calls (A B : Option Addr) (c d : Nat) (l : List Sp) (vs : List Nat) (w : World) (h1 : Spl w A c l) (h2 : Nul w B d vs) :
    Calls Tryz.prog 235 #[.slice A l.length c, .slice B vs.length d] w (SidePost l vs w) := by
  have HC := Lib.hid (SpanA.check_calls A c l w h1.rd (by have := h1.len; omega))
  have HCT := Lib.hid (fun W (hb : Below w.heap.size w W) => SpanQ.count_calls A c l W (h1.below hb).rd (by have := h1.len; omega))
  have HCN := Lib.hid (fun W (hb : Below w.heap.size w W) => contains_calls B d vs W (h2.below hb).rd h2.len)
  by_cases h0 : chk l = 0
  · rw [h0] at HC
    by_cases hl : (places l).length = vs.length
    · cases hi : anyInf vs with
      | true =>
        have HF : Hid (SidePost l vs w = fun e w' => Below w.heap.size w w' ∧ ((22 ≠ 0 ∧ e = .returned (.tuple #[.slice none 0 0, .int .i64 (22 : Nat)])) ∨
            (22 = 0 ∧ ∃ v, e = .returned (.tuple #[v, .int .i64 0]) ∧ Rep.OwX rPu 336 w' w.heap.size v ((places l).zip (nats vs))))) := Lib.hid (by
          unfold SidePost
          rw [show sideF l vs = 22 from by unfold sideF; rw [if_neg (by omega), if_neg (by omega)]; exact if_pos hi])
        have hne : ((vs.length : Int) != (vs.length : Int)) = false := by simp
        rw [if_pos h0, hl] at HCT
        rw [hi] at HCN
        clear h1 h2 h0 hl hi
        rw [HF.out]
        go_enter Tryz.func235, Tryz.ntmps235
        go_wp2_with (fail)
        refine HC.out.mono ?_
        rintro e w1 ⟨rfl, hb1⟩
        have B1 := Lib.hid hb1
        clear hb1
        go_wp2_with (fail)
        refine (HCT.out _ B1.out).mono ?_
        rintro e w2 ⟨rfl, hb2⟩
        have B2 := Lib.hid (below_then B1.out B1.out.size hb2)
        clear hb2
        go_wp2_with (fail)
        refine (HCN.out _ B2.out).mono ?_
        rintro e w3 ⟨rfl, ⟨m, rfl⟩⟩
        go_wp2
        go_ret2
        exact ⟨pw_below_drewN B2.out m, .inl ⟨by decide, rfl⟩⟩
      | false =>
        have HF : Hid (SidePost l vs w = fun e w' => Below w.heap.size w w' ∧ ((0 ≠ 0 ∧ e = .returned (.tuple #[.slice none 0 0, .int .i64 (0 : Nat)])) ∨
            (0 = 0 ∧ ∃ v, e = .returned (.tuple #[v, .int .i64 0]) ∧ Rep.OwX rPu 336 w' w.heap.size v ((places l).zip (nats vs))))) := Lib.hid (by
          unfold SidePost
          rw [show sideF l vs = 0 from by unfold sideF; rw [if_neg (by omega), if_neg (by omega)]; exact if_neg (by rw [show (vs.any fun v => decide (inf ≤ v)) = false from hi]; decide)])
        have HZ := Lib.hid (fun W (hb : Below w.heap.size w W) => zip_calls A B c d l vs W (h1.below hb) (h2.below hb).rd h0 hl)
        have hne : ((vs.length : Int) != (vs.length : Int)) = false := by simp
        rw [if_pos h0, hl] at HCT
        rw [hi] at HCN
        clear h1 h2 h0 hl hi
        rw [HF.out]
        go_enter Tryz.func235, Tryz.ntmps235
        go_wp2_with (fail)
        refine HC.out.mono ?_
        rintro e w1 ⟨rfl, hb1⟩
        have B1 := Lib.hid hb1
        clear hb1
        go_wp2_with (fail)
        refine (HCT.out _ B1.out).mono ?_
        rintro e w2 ⟨rfl, hb2⟩
        have B2 := Lib.hid (below_then B1.out B1.out.size hb2)
        clear hb2
        go_wp2_with (fail)
        refine (HCN.out _ B2.out).mono ?_
        rintro e w3 ⟨rfl, ⟨m, rfl⟩⟩
        have B3 := Lib.hid (pw_below_drewN B2.out m)
        go_wp2_with (fail)
        refine (HZ.out _ B3.out).mono ?_
        rintro e w4 ⟨v, rfl, ho, hb4⟩
        have B4 := Lib.hid (below_then B3.out B3.out.size hb4)
        have O4 := Lib.hid (ho.lower B3.out.size)
        clear ho hb4
        go_wp2
        go_ret2
        exact ⟨B4.out, .inr ⟨trivial, v, rfl, O4.out⟩⟩
    · have HF : Hid (SidePost l vs w = fun e w' => Below w.heap.size w w' ∧ ((23 ≠ 0 ∧ e = .returned (.tuple #[.slice none 0 0, .int .i64 (23 : Nat)])) ∨
          (23 = 0 ∧ ∃ v, e = .returned (.tuple #[v, .int .i64 0]) ∧ Rep.OwX rPu 336 w' w.heap.size v ((places l).zip (nats vs))))) := Lib.hid (by
        unfold SidePost
        rw [show sideF l vs = 23 from by unfold sideF; rw [if_neg (by omega), if_pos hl]])
      have hne : (((places l).length : Int) != (vs.length : Int)) = true := by simp; omega
      rw [if_pos h0] at HCT
      obtain ⟨n, hn⟩ : ∃ n, n = (places l).length := ⟨_, rfl⟩
      rw [← hn] at HCT hne
      clear h1 h2 h0 hl hn
      rw [HF.out]
      go_enter Tryz.func235, Tryz.ntmps235
      go_wp2_with (fail)
      refine HC.out.mono ?_
      rintro e w1 ⟨rfl, hb1⟩
      have B1 := Lib.hid hb1
      clear hb1
      go_wp2_with (fail)
      refine (HCT.out _ B1.out).mono ?_
      rintro e w2 ⟨rfl, hb2⟩
      have B2 := Lib.hid (below_then B1.out B1.out.size hb2)
      clear hb2
      go_wp2
      go_ret2
      exact ⟨B2.out, .inl ⟨by decide, rfl⟩⟩
  · have HF : Hid (SidePost l vs w = fun e w' => Below w.heap.size w w' ∧ ((chk l ≠ 0 ∧ e = .returned (.tuple #[.slice none 0 0, .int .i64 (chk l)])) ∨
        (chk l = 0 ∧ ∃ v, e = .returned (.tuple #[v, .int .i64 0]) ∧ Rep.OwX rPu 336 w' w.heap.size v ((places l).zip (nats vs))))) := Lib.hid (by
      unfold SidePost
      rw [show sideF l vs = chk l from by unfold sideF; rw [if_pos h0]])
    have hne := SpanQ.ne_chk h0
    have H0 := Lib.hid h0
    clear h1 h2 h0
    rw [HF.out]
    go_enter Tryz.func235, Tryz.ntmps235
    go_wp2_with (fail)
    refine HC.out.mono ?_
    rintro e w1 ⟨rfl, hb1⟩
    have B1 := Lib.hid hb1
    clear hb1
    go_wp2
    go_ret2
    exact ⟨B1.out, .inl ⟨H0.out, rfl⟩⟩
end Go.Proofs.YtjfekjbmgckkcaaGreatDoor.FhistA

/- fhist's walks: a histogram of floats is opened, checked. -/
namespace Go.Proofs.YtjfekjbmgckkcaaGreatDoor.FhistB
open Go.RowKit Go.Proofs.YtjfekjbmgckkcaaGreatDoorW.PrintWords
open Go.Proofs.YtjfekjbmgckkcaaGreatDoor.Bits Go.Proofs.YtjfekjbmgckkcaaGreatDoor.Base Go.Proofs.YtjfekjbmgckkcaaGreatDoor.StreamA Go.Proofs.YtjfekjbmgckkcaaGreatDoor.Ref13 Go.Proofs.YtjfekjbmgckkcaaGreatDoor.SpanPure Go.Proofs.YtjfekjbmgckkcaaGreatDoor.SpanBase Go.Proofs.YtjfekjbmgckkcaaGreatDoor.ThrPure Go.Proofs.YtjfekjbmgckkcaaGreatDoor.HeadA Go.Proofs.YtjfekjbmgckkcaaGreatDoor.HeadB Go.Proofs.YtjfekjbmgckkcaaGreatDoor.FcPure Go.Proofs.YtjfekjbmgckkcaaGreatDoor.FcObj Go.Proofs.YtjfekjbmgckkcaaGreatDoor.FhistA

def OpenPost (h : FH) (w : World) (e : Ending) (w' : World) : Prop :=
  Below w.heap.size w w' ∧ ((errF h ≠ 0 ∧ e = .returned (.tuple #[.slice none 0 0, .slice none 0 0, .int .i64 (errF h)])) ∨
    (errF h = 0 ∧ ∃ v1 v2, e = .returned (.tuple #[v1, v2, .int .i64 0]) ∧ Rep.OwX rPu 336 w' w.heap.size v1 ((places h.pos).zip (nats h.pc)) ∧ Rep.OwX rPu 336 w' w.heap.size v2 ((places h.neg).zip (nats h.nc))))
theorem open_err {h : FH} {k : Nat} (he : errF h = k) (hk : k ≠ 0) {w w' : World} (hb : Below w.heap.size w w') : OpenPost h w (.returned (.tuple #[.slice none 0 0, .slice none 0 0, .int .i64 k])) w' :=
  ⟨hb, .inl ⟨by rw [he]; exact hk, by rw [he]⟩⟩
set_option maxRecDepth 100000 in
set_option maxHeartbeats 3200000 in
theorem open_calls (h : FH) (p : Lh) (w : World) (hh : FhIn w h p) :
    Calls Tryz.prog 213 #[.agg (fcs h p).toArray] w (OpenPost h w) := by
  obtain ⟨sc, z, zc, cn, su, pos, neg, pc, nc⟩ := h
  obtain ⟨A, c, B, d, C, cc, D, dd⟩ := p
  obtain ⟨hp, hn, hpc, hnc, -⟩ := hh
  simp only at hp hn hpc hnc
  show Calls Tryz.prog 213 #[.agg #[.int .i64 sc, .int .u64 z, .int .u64 zc, .int .u64 cn, .int .u64 su, .slice A pos.length c, .slice B neg.length d, .slice C pc.length cc, .slice D nc.length dd]] w _
  obtain ⟨W0, hW0, hbk, hal⟩ : ∃ W0 : World, W0 = w.alloc (.cells #[.int .i64 sc, .int .u64 z, .int .u64 zc, .int .u64 cn, .int .u64 su, .slice A pos.length c, .slice B neg.length d, .slice C pc.length cc, .slice D nc.length dd] 72) ∧ W0.heap[w.heap.size]? = some (.cells #[.int .i64 sc, .int .u64 z, .int .u64 zc, .int .u64 cn, .int .u64 su, .slice A pos.length c, .slice B neg.length d, .slice C pc.length cc, .slice D nc.length dd] 72 (0, 0)) ∧ Below w.heap.size w W0 := ⟨_, rfl, blk_last w _, below_alloc (Below.refl _ _) _⟩
  have HCEL : Hid (∀ W, Below W0.heap.size W0 W → (W.cell? ⟨w.heap.size, 0, none⟩ = some (.int .i64 sc) ∧ W.cell? ⟨w.heap.size, 1, none⟩ = some (.int .u64 z) ∧ W.cell? ⟨w.heap.size, 2, none⟩ = some (.int .u64 zc) ∧ W.cell? ⟨w.heap.size, 3, none⟩ = some (.int .u64 cn) ∧ W.cell? ⟨w.heap.size, 4, none⟩ = some (.int .u64 su) ∧ W.cell? ⟨w.heap.size, 5, none⟩ = some (.slice A pos.length c) ∧ W.cell? ⟨w.heap.size, 6, none⟩ = some (.slice B neg.length d) ∧ W.cell? ⟨w.heap.size, 7, none⟩ = some (.slice C pc.length cc) ∧ W.cell? ⟨w.heap.size, 8, none⟩ = some (.slice D nc.length dd))) := Lib.hid (fun W h => by
    have hb := (Ch.of_below (S := fun _ => False) h).blk hbk (fun x => x)
    exact ⟨obj_cell hb rfl, obj_cell hb rfl, obj_cell hb rfl, obj_cell hb rfl, obj_cell hb rfl, obj_cell hb rfl, obj_cell hb rfl, obj_cell hb rfl, obj_cell hb rfl⟩)
  have HSP := Lib.hid (fun W (h : Below W0.heap.size W0 W) => side_calls A C c cc pos pc W ((hp.below hal).below h) ((hpc.below hal).below h))
  have HSN := Lib.hid (fun W (h : Below W0.heap.size W0 W) => side_calls B D d dd neg nc W ((hn.below hal).below h) ((hnc.below hal).below h))
  have HTH := Lib.hid (fun W => ThrA.thr_calls z W)
  have HZC := Lib.hid (fun W => wrong_calls zc W)
  have HCN := Lib.hid (fun W => wrong_calls cn W)
  have HW0 := Lib.hid hW0
  have HB0 := Lib.hid hal
  have HOE := Lib.hid (fun k (he : errF ⟨sc, z, zc, cn, su, pos, neg, pc, nc⟩ = k) (hk : k ≠ 0) W (hb : Below W0.heap.size W0 W) => open_err he hk (below_then hal hal.size hb))
  have hEF : errF ⟨sc, z, zc, cn, su, pos, neg, pc, nc⟩ = if sc < -4 ∨ 8 < sc then 21 else if inf ≤ z then 11 else if inf ≤ zc ∨ inf ≤ cn then 22 else if sideF pos pc ≠ 0 then sideF pos pc else sideF neg nc := rfl
  have B0 := Below.refl W0.heap.size W0
  obtain ⟨k0, k1, k2, k3, k4, k5, k6, k7, k8⟩ := HCEL.out _ B0
  clear hp hn hpc hnc hbk hW0 hal
  by_cases h1 : sc < -4
  · have HE := Lib.hid (hEF.trans (if_pos (.inl h1)))
    have d1 : decide (sc < -4) = true := by simpa using h1
    clear hEF
    go_enter Tryz.func213, Tryz.ntmps213
    go_wp2_with (fail)
    rw [← HW0.out]
    go_wp2
    go_ret3
    exact HOE.out 21 HE.out (by decide) _ B0
  have d1 : decide (sc < -4) = false := by simpa using h1
  by_cases h2 : 8 < sc
  · have HE := Lib.hid (hEF.trans (if_pos (.inr h2)))
    have d2 : decide (8 < sc) = true := by simpa using h2
    have d2' : decide (sc > 8) = true := by simpa using h2
    clear hEF
    go_enter Tryz.func213, Tryz.ntmps213
    go_wp2_with (fail)
    rw [← HW0.out]
    go_wp2
    go_ret3
    exact HOE.out 21 HE.out (by decide) _ B0
  have d2 : decide (8 < sc) = false := by simpa using h2
  have d2' : decide (sc > 8) = false := by simpa using h2
  rw [if_neg (show ¬ (sc < -4 ∨ 8 < sc) by omega)] at hEF
  clear h1 h2
  by_cases h3 : inf ≤ z
  · have HE := Lib.hid (hEF.trans (if_pos h3))
    have ht : thrOk z = false := by unfold thrOk; unfold inf at h3; simp; omega
    rw [ht] at HTH
    clear hEF ht h3
    go_enter Tryz.func213, Tryz.ntmps213
    go_wp2_with (fail)
    rw [← HW0.out]
    go_wp2_with (go_at_call 143; refine (HTH.out _).mono ?_; rintro e w' ⟨rfl, rfl⟩)
    go_ret3
    exact HOE.out 11 HE.out (by decide) _ B0
  have ht : thrOk z = true := by unfold thrOk; unfold inf at h3; simp; omega
  rw [ht] at HTH
  rw [if_neg h3] at hEF
  clear h3 ht
  by_cases h4 : inf ≤ zc
  · have HE := Lib.hid (hEF.trans (if_pos (.inl h4)))
    rw [decide_eq_true h4] at HZC
    clear hEF h4
    go_enter Tryz.func213, Tryz.ntmps213
    go_wp2_with (fail)
    rw [← HW0.out]
    go_wp2_with (first
      | (go_at_call 143; refine (HTH.out _).mono ?_; rintro e w' ⟨rfl, rfl⟩; clear HTH)
      | (go_at_call 234; refine (HZC.out _).mono ?_; rintro e w' ⟨rfl, rfl⟩; clear HZC)
      | (go_at_call 234; refine (HCN.out _).mono ?_; rintro e w' ⟨rfl, rfl⟩; clear HCN))
    go_ret3
    exact HOE.out 22 HE.out (by decide) _ B0
  rw [decide_eq_false h4] at HZC
  by_cases h5 : inf ≤ cn
  · have HE := Lib.hid (hEF.trans (if_pos (.inr h5)))
    rw [decide_eq_true h5] at HCN
    clear hEF h4 h5
    go_enter Tryz.func213, Tryz.ntmps213
    go_wp2_with (fail)
    rw [← HW0.out]
    go_wp2_with (first
      | (go_at_call 143; refine (HTH.out _).mono ?_; rintro e w' ⟨rfl, rfl⟩; clear HTH)
      | (go_at_call 234; refine (HZC.out _).mono ?_; rintro e w' ⟨rfl, rfl⟩; clear HZC)
      | (go_at_call 234; refine (HCN.out _).mono ?_; rintro e w' ⟨rfl, rfl⟩; clear HCN))
    go_ret3
    exact HOE.out 22 HE.out (by decide) _ B0
  rw [decide_eq_false h5] at HCN
  rw [if_neg (show ¬ (inf ≤ zc ∨ inf ≤ cn) by omega)] at hEF
  have HEF := Lib.hid hEF
  clear h4 h5 hEF
  go_enter Tryz.func213, Tryz.ntmps213
  go_wp2_with (fail)
  rw [← HW0.out]
  go_wp2_with (first
    | (go_at_call 143; refine (HTH.out _).mono ?_; rintro e w' ⟨rfl, rfl⟩; clear HTH)
    | (go_at_call 234; refine (HZC.out _).mono ?_; rintro e w' ⟨rfl, rfl⟩; clear HZC)
    | (go_at_call 234; refine (HCN.out _).mono ?_; rintro e w' ⟨rfl, rfl⟩; clear HCN))
  refine (HSP.out _ B0).mono ?_
  rintro e w1 ⟨hb1, ⟨h0, rfl⟩ | ⟨h0, v1, rfl, ho1⟩⟩
  · have HE := Lib.hid (HEF.out.trans (if_pos h0))
    have H0 := Lib.hid h0
    have e1 : ((sideF pos pc : Int) != 0) = true := by simp; exact h0
    have B1 := Lib.hid hb1
    clear hb1 h0
    obtain ⟨k, hk⟩ : ∃ k, k = sideF pos pc := ⟨_, rfl⟩
    rw [← hk] at e1 HE H0 ⊢
    clear hk
    go_wp2
    go_ret3
    exact HOE.out k HE.out H0.out _ B1.out
  have HE := Lib.hid (HEF.out.trans (if_neg (by omega)))
  have B1 := Lib.hid hb1
  obtain ⟨k0, k1, k2, k3, k4, k5, k6, k7, k8⟩ := HCEL.out _ hb1
  have O1 := Lib.hid ho1
  obtain ⟨x1, rfl, -, -⟩ := ho1.reads
  clear hb1 h0 ho1
  go_wp2_with (fail)
  refine (HSN.out _ B1.out).mono ?_
  rintro e w2 ⟨hb2, ⟨h0, rfl⟩ | ⟨h0, v2, rfl, ho2⟩⟩
  · have H0 := Lib.hid h0
    have e1 : ((sideF neg nc : Int) != 0) = true := by simp; exact h0
    have B2 := Lib.hid (below_then B1.out B1.out.size hb2)
    clear hb2 h0
    obtain ⟨k, hk⟩ : ∃ k, k = sideF neg nc := ⟨_, rfl⟩
    rw [← hk] at e1 HE H0 ⊢
    clear hk
    go_wp2
    go_ret3
    exact HOE.out k HE.out H0.out _ B2.out
  have B2 := Lib.hid (below_then HB0.out HB0.out.size (below_then B1.out B1.out.size hb2))
  have O1' := Lib.hid ((O1.out.below hb2).lower HB0.out.size)
  have O2' := Lib.hid (ho2.lower (Nat.le_trans HB0.out.size B1.out.size))
  have H0 := Lib.hid (HE.out.trans h0)
  obtain ⟨x2, rfl, -, -⟩ := ho2.reads
  clear hb2 h0 ho2
  go_wp2
  go_ret3
  exact ⟨B2.out, .inr ⟨H0.out, _, _, rfl, O1'.out, O2'.out⟩⟩

set_option maxRecDepth 100000 in
set_option maxHeartbeats 1600000 in
theorem check_calls (h : FH) (p : Lh) (w : World) (hh : FhIn w h p) :
    Calls Tryz.prog 169 #[.agg (fcs h p).toArray] w fun e w' => e = .returned (.int .i64 (errF h)) ∧ Below w.heap.size w w' := by
  have hal := below_alloc (Below.refl w.heap.size w) (.cells (fcs h p).toArray 72)
  have HOP := Lib.hid (open_calls h p _ (hh.below hal))
  have HB0 := Lib.hid hal
  obtain ⟨sc, z, zc, cn, su, pos, neg, pc, nc⟩ := h
  obtain ⟨A, c, B, d, C, cc, D, dd⟩ := p
  simp only [fcs, List.toArray] at HOP HB0 ⊢
  clear hal hh
  go_enter Tryz.func169, Tryz.ntmps169
  go_wp2_with (fail)
  refine HOP.out.mono ?_
  rintro e w1 ⟨hb1, hc⟩
  have B1 := Lib.hid (below_then HB0.out HB0.out.size hb1)
  rcases hc with ⟨-, rfl⟩ | ⟨h0, v1, v2, rfl, ho1, ho2⟩
  · obtain ⟨k, hk⟩ : ∃ k, k = errF ⟨sc, z, zc, cn, su, pos, neg, pc, nc⟩ := ⟨_, rfl⟩
    rw [← hk]
    have HK := Lib.hid hk
    clear hb1 hk HOP
    go_wp2
    go_ret
    exact ⟨by rw [← HK.out]; rfl, B1.out⟩
  · obtain ⟨x1, rfl, -, -⟩ := ho1.reads
    obtain ⟨x2, rfl, -, -⟩ := ho2.reads
    have HE := Lib.hid h0
    clear hb1 ho1 ho2 h0 HOP
    go_wp2
    go_ret
    exact ⟨by rw [HE.out]; rfl, B1.out⟩
end Go.Proofs.YtjfekjbmgckkcaaGreatDoor.FhistB

/- fchunk's walks: an error at a place; a head's own copy; a sample's values, a sample on other spans. -/
namespace Go.Proofs.YtjfekjbmgckkcaaGreatDoor.FcA
open Go.RowKit Go.Proofs.YtjfekjbmgckkcaaGreatDoorW.PrintWords
open Go.Proofs.YtjfekjbmgckkcaaGreatDoor.Bits Go.Proofs.YtjfekjbmgckkcaaGreatDoor.Base Go.Proofs.YtjfekjbmgckkcaaGreatDoor.VarPure Go.Proofs.YtjfekjbmgckkcaaGreatDoor.StreamA Go.Proofs.YtjfekjbmgckkcaaGreatDoor.TimesPure Go.Proofs.YtjfekjbmgckkcaaGreatDoor.TimesA Go.Proofs.YtjfekjbmgckkcaaGreatDoor.Ref12 Go.Proofs.YtjfekjbmgckkcaaGreatDoor.Ref13 Go.Proofs.YtjfekjbmgckkcaaGreatDoor.SpanPure Go.Proofs.YtjfekjbmgckkcaaGreatDoor.SpanBase Go.Proofs.YtjfekjbmgckkcaaGreatDoor.FailAs Go.Proofs.YtjfekjbmgckkcaaGreatDoor.FailB Go.Proofs.YtjfekjbmgckkcaaGreatDoor.FailC Go.Proofs.YtjfekjbmgckkcaaGreatDoor.HeadA Go.Proofs.YtjfekjbmgckkcaaGreatDoor.HeadB Go.Proofs.YtjfekjbmgckkcaaGreatDoor.HeadPure Go.Proofs.YtjfekjbmgckkcaaGreatDoor.XorPure Go.Proofs.YtjfekjbmgckkcaaGreatDoor.XorB Go.Proofs.YtjfekjbmgckkcaaGreatDoor.FcPure Go.Proofs.YtjfekjbmgckkcaaGreatDoor.FcObj

/-- an error at a place; nil of 0. -/
theorem at_calls (c : Int) (nm : ByteArray) (n : Int) (w : World) (hg : GlE w) :
    Calls Tryz.prog 96 #[.int .i64 c, .string nm, .int .i64 n] w fun e w' => ∃ v, e = .returned v ∧ Err w' v (plc c nm n) .nilIface ∧ Below w.heap.size w w' := by
  by_cases hc : c = 0
  · subst hc
    have HG := Lib.hid hg
    clear hg
    go_enter Tryz.func96, Tryz.ntmps96
    go_wp2_with (first
      | (go_at_call 163; refine (new_zero _).mono ?_; rintro e w' ⟨rfl, rfl⟩)
      | (go_at_call 162; refine (wrap_nil _ _ _).mono ?_; rintro e w' ⟨rfl, rfl⟩))
    go_ret
    exact ⟨_, rfl, Err.nil HG.out, Below.refl _ _⟩
  · have HN := Lib.hid (new_code c w hg hc)
    have HP : Hid (plc c nm n = [⟨c, nm, n⟩, ⟨c, ⟨#[]⟩, 0⟩]) := Lib.hid (if_neg hc)
    clear hc hg
    go_enter Tryz.func96, Tryz.ntmps96
    go_wp2_with (fail)
    refine HN.out.mono ?_
    rintro e w1 ⟨v1, rfl, he, hb⟩
    have HW := Lib.hid (wrap_calls nm n he (.inl (by simp)))
    have B1 := Lib.hid hb
    clear he hb HN
    go_wp2_with (fail)
    refine HW.out.mono ?_
    rintro e w2 ⟨v2, rfl, he, hb⟩
    have E2 := Lib.hid he
    have B2 := Lib.hid (below_then B1.out B1.out.size hb)
    clear he hb HW
    go_wp2
    go_ret
    exact ⟨_, rfl, by rw [HP.out]; exact E2.out, B2.out⟩

theorem spl_own' {w : World} {base : Nat} {e : Nat} {A : Option Addr} {n c : Nat} {l : List Sp} (h : OwSp e w base (.slice A n c) l) (hl : l.length ≤ 1000000) : Spl w A c l := by
  obtain ⟨A', c', he, h1, h2, h3⟩ := h.reads
  injection he with e1 e2 e3
  subst e1 e3
  exact ⟨h3, hl, h1, h2⟩
theorem own_on {w : World} {base : Nat} {e : Nat} {A : Option Addr} {n c : Nat} {l : List Sp} (h : OwSp e w base (.slice A n c) l) : On (fun k => base ≤ k) A l.length := by
  intro ad hA hp
  obtain ⟨g, c', he, h1, -, -⟩ := h.form hp
  injection he with e1 e2 e3
  rw [hA] at e1
  injection e1 with e1
  subst e1
  exact h1
theorem sps_any {S : Nat → Prop} {e base : Nat} {w w1 : World} {v : Value} {l : List Sp} (h : OwSp e w base v l) (hc : Ch S w w1) (hS : ∀ k, S k → k < base) : OwSp e w1 base v l :=
  h.move fun g hg => hc.block g (h.lt_ g hg) fun hs => Nat.lt_irrefl _ (Nat.lt_of_lt_of_le (hS g hs) (h.base_ g hg))
theorem own_end {w W1 : World} {B : Nat} {e : Nat} {v1 v2 : Value} {l1 l2 : List Sp} (h1 : OwSp e W1 B v1 l1) (h2 : OwSp e W1 B v2 l2) (h3 : Below w.heap.size w W1) (hB : w.heap.size + 1 < B) (u0 u1 u2 u3 u4 u5 : Value) :
    OwSp e (HeadL.six W1 (w.heap.size + 1) u0 u1 u2 u3 u4 u5) B v1 l1 ∧ OwSp e (HeadL.six W1 (w.heap.size + 1) u0 u1 u2 u3 u4 u5) B v2 l2 ∧ Below w.heap.size w (HeadL.six W1 (w.heap.size + 1) u0 u1 u2 u3 u4 u5) := by
  have hc := HeadL.six_ch W1 (w.heap.size + 1) u0 u1 u2 u3 u4 u5
  exact ⟨sps_any h1 hc fun k hk => by omega, sps_any h2 hc fun k hk => by omega, h3.trans (hc.below_of h3.size fun k hk => by omega)⟩

set_option maxRecDepth 100000 in
set_option maxHeartbeats 3200000 in
theorem own_calls (q : Hd) (p : Lc) (w : World) (hh : HdIn w q p) :
    Calls Tryz.prog 97 #[.agg (hcs q p).toArray] w fun e w' => ∃ r : Lc, e = .returned (.agg (hcs q r).toArray) ∧ HdIn w' q r ∧ On (fun k => w.heap.size ≤ k) r.A q.pos.length ∧ On (fun k => w.heap.size ≤ k) r.B q.neg.length ∧ Below w.heap.size w w' := by
  obtain ⟨vr, hint, schema, zt, pos, neg⟩ := q
  obtain ⟨A, c, B, d⟩ := p
  obtain ⟨hp, hn, hz⟩ := hh
  simp only at hp hn hz
  show Calls Tryz.prog 97 #[.agg #[.int .i64 vr, .int .i64 hint, .int .i64 schema, .int .u64 zt, .slice A pos.length c, .slice B neg.length d]] w _
  obtain ⟨W0, hW0, hg1, hg2, hal⟩ : ∃ W0 : World, W0 = (w.alloc (.cells #[.int .i64 vr, .int .i64 hint, .int .i64 schema, .int .u64 zt, .slice A pos.length c, .slice B neg.length d] 25)).alloc (.cells #[.int .i64 0, .int .i64 0, .int .i64 0, .int .u64 0, .slice none 0 0, .slice none 0 0] 25) ∧ W0.heap[w.heap.size]? = some (.cells #[.int .i64 vr, .int .i64 hint, .int .i64 schema, .int .u64 zt, .slice A pos.length c, .slice B neg.length d] 25 (0, 0)) ∧ W0.heap[w.heap.size + 1]? = some (.cells #[.int .i64 0, .int .i64 0, .int .i64 0, .int .u64 0, .slice none 0 0, .slice none 0 0] 25 (0, 0)) ∧ Below w.heap.size w W0 :=
    ⟨_, rfl, (Below.heap_alloc _ _ w.heap.size (blk_lt (blk_last w _))).trans (blk_last w _), by
      have := blk_last (w.alloc (.cells #[.int .i64 vr, .int .i64 hint, .int .i64 schema, .int .u64 zt, .slice A pos.length c, .slice B neg.length d] 25)) (.cells #[.int .i64 0, .int .i64 0, .int .i64 0, .int .u64 0, .slice none 0 0, .slice none 0 0] 25)
      rwa [show (w.alloc (.cells #[.int .i64 vr, .int .i64 hint, .int .i64 schema, .int .u64 zt, .slice A pos.length c, .slice B neg.length d] 25)).heap.size = w.heap.size + 1 from by simp] at this, below_alloc (below_alloc (Below.refl _ _) _) _⟩
  have hlt1 := blk_lt hg1
  have hlt2 := blk_lt hg2
  have HK1 := Lib.hid (fun W (h : Below W0.heap.size W0 W) => (h.block _ hlt1).trans hg1)
  have HK2 := Lib.hid (fun W (h : Below W0.heap.size W0 W) => (h.block _ hlt2).trans hg2)
  have hc4 := fun W (h : Below W0.heap.size W0 W) => (obj_cell (HK1.out W h) rfl : W.cell? ⟨w.heap.size, 4, none⟩ = some (.slice A pos.length c))
  have hc5 := fun W (h : Below W0.heap.size W0 W) => (obj_cell (HK1.out W h) rfl : W.cell? ⟨w.heap.size, 5, none⟩ = some (.slice B neg.length d))
  have hf4 := fun W (h : Below W0.heap.size W0 W) => (obj_free (HK1.out W h) : W.frozen? ⟨w.heap.size, 4, none⟩ = false)
  have hf5 := fun W (h : Below W0.heap.size W0 W) => (obj_free (HK1.out W h) : W.frozen? ⟨w.heap.size, 5, none⟩ = false)
  have HPN : Hid (∀ (A' : Option Addr) (c' : Nat) (l : List Sp) W, Below W0.heap.size W0 W → Spl w A' c' l → Calls Tryz.prog 137 #[.slice A' l.length c'] W fun e w' =>
      ∃ A2 c2, e = .returned (.slice A2 l.length c2) ∧ OwSp 119 w' W0.heap.size (.slice A2 l.length c2) l ∧ Below W.heap.size W w' ∧ Below W0.heap.size W0 w') := Lib.hid (by
    intro A' c' l W hb hl
    refine (SpanC.clone_calls A' c' l W ((hl.below hal).below hb).rd (by have := hl.len; omega) hl.cap hl.nil).mono ?_
    rintro e w' ⟨v, rfl, ho, hb'⟩
    obtain ⟨A2, c2, rfl, -, -, -⟩ := ho.reads
    exact ⟨A2, c2, rfl, ho.lower hb.size, hb', below_then hb hb.size hb'⟩)
  have HEND : Hid (∀ (w2 w3 : World) (A1 : Option Addr) (c1 : Nat) (A2 : Option Addr) (c2 : Nat), OwSp 119 w2 W0.heap.size (.slice A1 pos.length c1) pos → OwSp 119 w3 W0.heap.size (.slice A2 neg.length c2) neg → Below w2.heap.size w2 w3 → Below W0.heap.size W0 w3 →
      ((w3.setCell ⟨w.heap.size, 4, none⟩ (.slice A1 pos.length c1)).setCell ⟨w.heap.size, 5, none⟩ (.slice A2 neg.length c2)).heap[w.heap.size]? = some (.cells #[.int .i64 vr, .int .i64 hint, .int .i64 schema, .int .u64 zt, .slice A1 pos.length c1, .slice A2 neg.length c2] 25 (0, 0)) ∧
      ((w3.setCell ⟨w.heap.size, 4, none⟩ (.slice A1 pos.length c1)).setCell ⟨w.heap.size, 5, none⟩ (.slice A2 neg.length c2)).heap[w.heap.size + 1]? = some (.cells #[.int .i64 0, .int .i64 0, .int .i64 0, .int .u64 0, .slice none 0 0, .slice none 0 0] 25 (0, 0)) ∧
      OwSp 119 ((w3.setCell ⟨w.heap.size, 4, none⟩ (.slice A1 pos.length c1)).setCell ⟨w.heap.size, 5, none⟩ (.slice A2 neg.length c2)) W0.heap.size (.slice A1 pos.length c1) pos ∧
      OwSp 119 ((w3.setCell ⟨w.heap.size, 4, none⟩ (.slice A1 pos.length c1)).setCell ⟨w.heap.size, 5, none⟩ (.slice A2 neg.length c2)) W0.heap.size (.slice A2 neg.length c2) neg ∧
      Below w.heap.size w ((w3.setCell ⟨w.heap.size, 4, none⟩ (.slice A1 pos.length c1)).setCell ⟨w.heap.size, 5, none⟩ (.slice A2 neg.length c2))) := Lib.hid (by
    intro w2 w3 A1 c1 A2 c2 o1 o2 b23 b03
    have hc : Ch (fun k => k = w.heap.size) w3 ((w3.setCell ⟨w.heap.size, 4, none⟩ (.slice A1 pos.length c1)).setCell ⟨w.heap.size, 5, none⟩ (.slice A2 neg.length c2)) := ((Ch.refl (fun k => k = w.heap.size) w3).setCell (p := ⟨w.heap.size, 4, none⟩) (.inl rfl) _).setCell (p := ⟨w.heap.size, 5, none⟩) (.inl rfl) _
    have hb3 := below_then hal hal.size b03
    exact ⟨blk_set (blk_set (HK1.out _ b03) 4 _) 5 _, hc.blk (HK2.out _ b03) (by omega), sps_any (o1.below b23) hc fun k hk => by omega, sps_any o2 hc fun k hk => by omega, hb3.trans (hc.below_of hb3.size fun k hk => by omega)⟩)
  have HSZ := Lib.hid hlt2
  have HW0 := Lib.hid hW0
  have HB0 := Lib.hid hal
  have HZ := Lib.hid hz
  have HPS := Lib.hid hp
  have HNS := Lib.hid hn
  have hb0 := Below.refl W0.heap.size W0
  clear hp hn hz hW0 hal hg1 hg2 hlt1 hlt2
  go_enter Tryz.func97, Tryz.ntmps97
  go_wp2_with (fail)
  rw [← HW0.out]
  go_region_with (first
    | (go_at_call 137; (with_reducible show Calls _ _ #[Value.slice A pos.length c] _ _); refine (HPN.out _ _ _ _ ?_ HPS.out).mono ?_; (first | exact hb0 | exact below_drew hb0 | assumption); rintro e w2 ⟨A1, c1, rfl, ho1, hx1, hb1⟩)
    | (go_at_call 137; refine (HPN.out _ _ _ _ ?_ HNS.out).mono ?_; (first | exact hb0 | exact below_drew hb0 | assumption); rintro e w3 ⟨A2, c2, rfl, ho2, hx2, hb2⟩))
  all_goals (
    have hw3 := hb2
    obtain ⟨q1, q2, q3, q4, q5⟩ := HEND.out w2 w3 A1 c1 A2 c2 ho1 ho2 hx2 hb2
    obtain ⟨W1, hW1⟩ : ∃ W : World, W = (w3.setCell ⟨w.heap.size, 4, none⟩ (.slice A1 pos.length c1)).setCell ⟨w.heap.size, 5, none⟩ (.slice A2 neg.length c2) := ⟨_, rfl⟩
    rw [← hW1] at q1 q2 q3 q4 q5 ⊢
    clear hW1 ho1 ho2 hx1 hx2 hb1 hb2 hw3 hc4 hc5 hf4 hf5 hb0
    have k0 : W1.cell? ⟨w.heap.size, 0, none⟩ = some (.int .i64 vr) := obj_cell q1 rfl
    have k1 : W1.cell? ⟨w.heap.size, 1, none⟩ = some (.int .i64 hint) := obj_cell q1 rfl
    have k2 : W1.cell? ⟨w.heap.size, 2, none⟩ = some (.int .i64 schema) := obj_cell q1 rfl
    have k3 : W1.cell? ⟨w.heap.size, 3, none⟩ = some (.int .u64 zt) := obj_cell q1 rfl
    have k4 : W1.cell? ⟨w.heap.size, 4, none⟩ = some (.slice A1 pos.length c1) := obj_cell q1 rfl
    have k5 : W1.cell? ⟨w.heap.size, 5, none⟩ = some (.slice A2 neg.length c2) := obj_cell q1 rfl
    have z0 : W1.cell? ⟨w.heap.size + 1, 0, none⟩ = some (.int .i64 0) := obj_cell q2 rfl
    have z1 : W1.cell? ⟨w.heap.size + 1, 1, none⟩ = some (.int .i64 0) := obj_cell q2 rfl
    have z2 : W1.cell? ⟨w.heap.size + 1, 2, none⟩ = some (.int .i64 0) := obj_cell q2 rfl
    have z3 : W1.cell? ⟨w.heap.size + 1, 3, none⟩ = some (.int .u64 0) := obj_cell q2 rfl
    have z4 : W1.cell? ⟨w.heap.size + 1, 4, none⟩ = some (.slice none 0 0) := obj_cell q2 rfl
    have z5 : W1.cell? ⟨w.heap.size + 1, 5, none⟩ = some (.slice none 0 0) := obj_cell q2 rfl
    have f0 : W1.frozen? ⟨w.heap.size + 1, 0, none⟩ = false := obj_free q2
    have f1 : W1.frozen? ⟨w.heap.size + 1, 1, none⟩ = false := obj_free q2
    have f2 : W1.frozen? ⟨w.heap.size + 1, 2, none⟩ = false := obj_free q2
    have f3 : W1.frozen? ⟨w.heap.size + 1, 3, none⟩ = false := obj_free q2
    have f4 : W1.frozen? ⟨w.heap.size + 1, 4, none⟩ = false := obj_free q2
    have f5 : W1.frozen? ⟨w.heap.size + 1, 5, none⟩ = false := obj_free q2
    have H6 := Lib.hid (own_end q3 q4 q5 HSZ.out (.int .i64 vr) (.int .i64 hint) (.int .i64 schema) (.int .u64 zt) (.slice A1 pos.length c1) (.slice A2 neg.length c2))
    clear q1 q2 q3 q4 q5
    go_wp2
    refine bodyPost_ret (v := .agg #[.int .i64 vr, .int .i64 hint, .int .i64 schema, .int .u64 zt, .slice A1 pos.length c1, .slice A2 neg.length c2]) (by rw [results_cell1 rfl]; go_simp) rfl ?_
    obtain ⟨r1, r2, r3⟩ := H6.out
    exact ⟨⟨A1, c1, A2, c2⟩, rfl, ⟨spl_own' r1 HPS.out.len, spl_own' r2 HNS.out.len, HZ.out⟩, own_on (r1.lower HB0.out.size), own_on (r2.lower HB0.out.size), r3⟩)
end Go.Proofs.YtjfekjbmgckkcaaGreatDoor.FcA

/- fchunk's walks: a sample's values, a sample on other spans; a chunk's head, length, bits. -/
namespace Go.Proofs.YtjfekjbmgckkcaaGreatDoor.FcB
open Go.RowKit Go.Proofs.YtjfekjbmgckkcaaGreatDoorW.PrintWords
open Go.Proofs.YtjfekjbmgckkcaaGreatDoor.Bits Go.Proofs.YtjfekjbmgckkcaaGreatDoor.Base Go.Proofs.YtjfekjbmgckkcaaGreatDoor.VarPure Go.Proofs.YtjfekjbmgckkcaaGreatDoor.StreamA Go.Proofs.YtjfekjbmgckkcaaGreatDoor.TimesPure Go.Proofs.YtjfekjbmgckkcaaGreatDoor.TimesA Go.Proofs.YtjfekjbmgckkcaaGreatDoor.Ref12 Go.Proofs.YtjfekjbmgckkcaaGreatDoor.Ref13 Go.Proofs.YtjfekjbmgckkcaaGreatDoor.SpanPure Go.Proofs.YtjfekjbmgckkcaaGreatDoor.SpanBase Go.Proofs.YtjfekjbmgckkcaaGreatDoor.HeadA Go.Proofs.YtjfekjbmgckkcaaGreatDoor.HeadB Go.Proofs.YtjfekjbmgckkcaaGreatDoor.HeadPure Go.Proofs.YtjfekjbmgckkcaaGreatDoor.XorPure Go.Proofs.YtjfekjbmgckkcaaGreatDoor.XorB Go.Proofs.YtjfekjbmgckkcaaGreatDoor.FcPure Go.Proofs.YtjfekjbmgckkcaaGreatDoor.FcObj Go.Proofs.YtjfekjbmgckkcaaGreatDoor.FcA Go.Proofs.YtjfekjbmgckkcaaGreatDoor.Cat

/-- a block's ten cells are set. -/
abbrev ten (w : World) (b : Nat) (v0 v1 v2 v3 v4 v5 v6 v7 v8 v9 : Value) : World := (((((((((w.setCell ⟨b, 0, none⟩ v0).setCell ⟨b, 1, none⟩ v1).setCell ⟨b, 2, none⟩ v2).setCell ⟨b, 3, none⟩ v3).setCell ⟨b, 4, none⟩ v4).setCell ⟨b, 5, none⟩ v5).setCell ⟨b, 6, none⟩ v6).setCell ⟨b, 7, none⟩ v7).setCell ⟨b, 8, none⟩ v8).setCell ⟨b, 9, none⟩ v9
theorem ten_ch (w : World) (b : Nat) (v0 v1 v2 v3 v4 v5 v6 v7 v8 v9 : Value) : Ch (fun k => k = b) w (ten w b v0 v1 v2 v3 v4 v5 v6 v7 v8 v9) :=
  (((((((((((Ch.refl (fun k => k = b) w).setCell (p := ⟨b, 0, none⟩) (.inl rfl) v0).setCell (p := ⟨b, 1, none⟩) (.inl rfl) v1).setCell (p := ⟨b, 2, none⟩) (.inl rfl) v2).setCell (p := ⟨b, 3, none⟩) (.inl rfl) v3).setCell (p := ⟨b, 4, none⟩) (.inl rfl) v4).setCell (p := ⟨b, 5, none⟩) (.inl rfl) v5).setCell (p := ⟨b, 6, none⟩) (.inl rfl) v6).setCell (p := ⟨b, 7, none⟩) (.inl rfl) v7).setCell (p := ⟨b, 8, none⟩) (.inl rfl) v8).setCell (p := ⟨b, 9, none⟩) (.inl rfl) v9)
theorem nul_own {w : World} {base : Nat} {e : Nat} {A : Option Addr} {n c : Nat} {l : List Nat} (h : OwI e .u64 w base (.slice A n c) (nats l)) (hl : l.length ≤ 1000000) : Nul w A c l := by
  obtain ⟨A', c', he, h1, h2⟩ := h.reads
  injection he with e1 e2 e3
  subst e1 e3
  rw [nats_length] at h1
  exact ⟨h2, hl, h1, OwI.nilcap h⟩
theorem nul_on {w : World} {base : Nat} {e : Nat} {A : Option Addr} {n c : Nat} {l : List Nat} (h : OwI e .u64 w base (.slice A n c) (nats l)) : On (fun k => base ≤ k) A l.length := by
  intro ad hA hp
  obtain ⟨g, c', he, h1, -, -⟩ := OwI.form h (by rw [nats_length]; exact hp)
  injection he with e1 e2 e3
  rw [hA] at e1
  injection e1 with e1
  subst e1
  exact h1
theorem on_end {w W1 : World} {B : Nat} {e e2 : Nat} {v1 v2 x1 x2 : Value} {l1 l2 : List Sp} {n1 n2 : List Int} (h1 : OwSp e W1 B v1 l1) (h2 : OwSp e W1 B v2 l2) (g1 : OwI e2 .u64 W1 B x1 n1) (g2 : OwI e2 .u64 W1 B x2 n2) (h3 : Below w.heap.size w W1) (hB : w.heap.size + 1 < B) (u0 u1 u2 u3 u4 u5 u6 u7 u8 u9 : Value) :
    OwSp e (ten W1 (w.heap.size + 1) u0 u1 u2 u3 u4 u5 u6 u7 u8 u9) B v1 l1 ∧ OwSp e (ten W1 (w.heap.size + 1) u0 u1 u2 u3 u4 u5 u6 u7 u8 u9) B v2 l2 ∧ OwI e2 .u64 (ten W1 (w.heap.size + 1) u0 u1 u2 u3 u4 u5 u6 u7 u8 u9) B x1 n1 ∧ OwI e2 .u64 (ten W1 (w.heap.size + 1) u0 u1 u2 u3 u4 u5 u6 u7 u8 u9) B x2 n2 ∧ Below w.heap.size w (ten W1 (w.heap.size + 1) u0 u1 u2 u3 u4 u5 u6 u7 u8 u9) := by
  have hc := ten_ch W1 (w.heap.size + 1) u0 u1 u2 u3 u4 u5 u6 u7 u8 u9
  exact ⟨sps_any h1 hc fun k hk => by omega, sps_any h2 hc fun k hk => by omega, OwI.ch g1 hc fun g hg he => by have := OwI.base_ g1 g hg; omega, OwI.ch g2 hc fun g hg he => by have := OwI.base_ g2 g hg; omega, h3.trans (hc.below_of h3.size fun k hk => by omega)⟩
theorem nat_cells (a b c : Nat) : (nums .u64 (nats [a, b, c])).toArray = #[.int .u64 a, .int .u64 b, .int .u64 c] := rfl
set_option maxRecDepth 100000 in
set_option maxHeartbeats 1600000 in
theorem values_calls (s : FS) (p : Lh) (w : World) (hh : FhIn w s.h p) (hm1 : s.h.pc.length ≤ 4096) (hm2 : s.h.nc.length ≤ 4096) :
    Calls Tryz.prog 109 #[.agg (scs s p).toArray] w fun e w' => ∃ v, e = .returned v ∧ OwI 22 .u64 w' w.heap.size v (nats (vals s.h)) ∧ Below w.heap.size w w' := by
  obtain ⟨t, sc, z, zc, cn, su, pos, neg, pc, nc⟩ := s
  obtain ⟨A, c, B, d, C, cc, D, dd⟩ := p
  obtain ⟨-, -, hpc, hnc, -⟩ := hh
  simp only at hpc hnc hm1 hm2
  show Calls Tryz.prog 109 #[.agg #[.int .i64 t, .int .i64 sc, .int .u64 z, .int .u64 zc, .int .u64 cn, .int .u64 su, .slice A pos.length c, .slice B neg.length d, .slice C pc.length cc, .slice D nc.length dd]] w _
  obtain ⟨W1, hW1, hb1, hsz1⟩ : ∃ W1 : World, W1 = w.alloc (.cells #[.int .i64 t, .int .i64 sc, .int .u64 z, .int .u64 zc, .int .u64 cn, .int .u64 su, .slice A pos.length c, .slice B neg.length d, .slice C pc.length cc, .slice D nc.length dd] 74) ∧ Below w.heap.size w W1 ∧ W1.heap.size = w.heap.size + 1 := ⟨_, rfl, below_alloc (Below.refl _ _) _, by simp⟩
  obtain ⟨W2, hW2, hb2, hsz2, ho2⟩ : ∃ W2 : World, W2 = W1.alloc (.cells #[.int .u64 cn, .int .u64 zc, .int .u64 su] 22) ∧ Below w.heap.size w W2 ∧ W2.heap.size = w.heap.size + 1 + 1 ∧ RdI .u64 W2 (some ⟨w.heap.size + 1, 0, none⟩) (nats [cn, zc, su]) := ⟨_, rfl, below_alloc hb1 _, by simp [hsz1], by
    have := RdI.lit .u64 W1 22 (0, 0) (nats [cn, zc, su]) (by rw [nats_length]; simp)
    rw [nat_cells, hsz1] at this
    exact this⟩
  obtain ⟨W3, hW3, hb3, hbk3, ho3⟩ : ∃ W3 : World, W3 = W2.alloc (.cells #[.slice (some ⟨w.heap.size + 1, 0, none⟩) 3 3, .slice C pc.length cc, .slice D nc.length dd] 70) ∧ Below w.heap.size w W3 ∧ W3.heap[w.heap.size + 1 + 1]? = some (.cells #[.slice (some ⟨w.heap.size + 1, 0, none⟩) 3 3, .slice C pc.length cc, .slice D nc.length dd] 70 (0, 0)) ∧ RdI .u64 W3 (some ⟨w.heap.size + 1, 0, none⟩) (nats [cn, zc, su]) := ⟨_, rfl, below_alloc hb2 _, by
    have := blk_last W2 (.cells #[.slice (some ⟨w.heap.size + 1, 0, none⟩) 3 3, .slice C pc.length cc, .slice D nc.length dd] 70)
    rwa [hsz2] at this, ho2.below (below_alloc (Below.refl _ _) _)⟩
  have HCA := Lib.hid (concatu64_calls (w.heap.size + 1 + 1) [(some ⟨w.heap.size + 1, 0, none⟩, 3, nats [cn, zc, su]), (C, cc, nats pc), (D, dd, nats nc)] W3 (by
    intro k hk
    rcases k with _ | _ | _ | k
    · exact ⟨obj_cell hbk3 rfl, ho3⟩
    · exact ⟨(obj_cell hbk3 rfl : W3.cell? ⟨w.heap.size + 1 + 1, 1, none⟩ = some (.slice C pc.length cc)).trans (by simp [nats_length]), (hpc.below hb3).rd⟩
    · exact ⟨(obj_cell hbk3 rfl : W3.cell? ⟨w.heap.size + 1 + 1, 2, none⟩ = some (.slice D nc.length dd)).trans (by simp [nats_length]), (hnc.below hb3).rd⟩
    · simp at hk; omega) (by simp [cat, nats_length]; omega) (by simp) (by simp))
  have HCAT : Hid (cat [(some ⟨w.heap.size + 1, 0, none⟩, 3, nats [cn, zc, su]), (C, cc, nats pc), (D, dd, nats nc)] = nats (vals ⟨sc, z, zc, cn, su, pos, neg, pc, nc⟩)) := Lib.hid (by simp [cat, vals, nats])
  rw [HCAT.out] at HCA
  have H1 := Lib.hid hW1
  have H2 := Lib.hid hW2
  have H3 := Lib.hid hW3
  have HB3 := Lib.hid hb3
  clear hpc hnc hW1 hW2 hW3 hb1 hb2 hb3 ho2 ho3 hbk3 HCAT
  go_enter Tryz.func109, Tryz.ntmps109
  go_wp2_with (fail)
  rw [← H1.out]
  rw [← H2.out]
  rw [← H3.out]
  refine HCA.out.mono ?_
  rintro e w4 ⟨v, rfl, ho, hb⟩
  have HO := Lib.hid (OwI.lower ho HB3.out.size)
  have HB := Lib.hid (below_then HB3.out HB3.out.size hb)
  obtain ⟨A4, c4, rfl, -, -⟩ := ho.reads
  clear ho hb HCA
  go_wp2
  go_ret
  exact ⟨_, rfl, HO.out, HB.out⟩
set_option maxRecDepth 100000 in
set_option maxHeartbeats 6400000 in
theorem on_calls (s : FS) (p : Lh) (pos2 neg2 : List Sp) (A2' B2' : Option Addr) (ca cb : Nat) (w : World) (hh : FhIn w s.h p) (hp2 : Spl w A2' ca pos2) (hn2 : Spl w B2' cb neg2) :
    Calls Tryz.prog 113 #[.agg (scs s p).toArray, .slice A2' pos2.length ca, .slice B2' neg2.length cb] w fun e w' =>
      ∃ r : Lh, e = .returned (.agg (scs ⟨s.t, { s.h with pos := pos2, neg := neg2 }⟩ r).toArray) ∧ FhIn w' { s.h with pos := pos2, neg := neg2 } r ∧ OnH (fun k => w.heap.size ≤ k) { s.h with pos := pos2, neg := neg2 } r ∧ Below w.heap.size w w' := by
  obtain ⟨t, sc, z, zc, cn, su, pos, neg, pc, nc⟩ := s
  obtain ⟨A, c, B, d, C, cc, D, dd⟩ := p
  obtain ⟨-, -, hpc, hnc, h64⟩ := hh
  simp only at hpc hnc h64
  show Calls Tryz.prog 113 #[.agg #[.int .i64 t, .int .i64 sc, .int .u64 z, .int .u64 zc, .int .u64 cn, .int .u64 su, .slice A pos.length c, .slice B neg.length d, .slice C pc.length cc, .slice D nc.length dd], _, _] w _
  obtain ⟨W0, hW0, hg1, hg2, hal⟩ : ∃ W0 : World, W0 = (w.alloc (.cells #[.int .i64 t, .int .i64 sc, .int .u64 z, .int .u64 zc, .int .u64 cn, .int .u64 su, .slice A pos.length c, .slice B neg.length d, .slice C pc.length cc, .slice D nc.length dd] 74)).alloc (.cells #[.int .i64 0, .int .i64 0, .int .u64 0, .int .u64 0, .int .u64 0, .int .u64 0, .slice none 0 0, .slice none 0 0, .slice none 0 0, .slice none 0 0] 74) ∧ W0.heap[w.heap.size]? = some (.cells #[.int .i64 t, .int .i64 sc, .int .u64 z, .int .u64 zc, .int .u64 cn, .int .u64 su, .slice A pos.length c, .slice B neg.length d, .slice C pc.length cc, .slice D nc.length dd] 74 (0, 0)) ∧ W0.heap[w.heap.size + 1]? = some (.cells #[.int .i64 0, .int .i64 0, .int .u64 0, .int .u64 0, .int .u64 0, .int .u64 0, .slice none 0 0, .slice none 0 0, .slice none 0 0, .slice none 0 0] 74 (0, 0)) ∧ Below w.heap.size w W0 :=
    ⟨_, rfl, (Below.heap_alloc _ _ w.heap.size (blk_lt (blk_last w _))).trans (blk_last w _), by
      have := blk_last (w.alloc (.cells #[.int .i64 t, .int .i64 sc, .int .u64 z, .int .u64 zc, .int .u64 cn, .int .u64 su, .slice A pos.length c, .slice B neg.length d, .slice C pc.length cc, .slice D nc.length dd] 74)) (.cells #[.int .i64 0, .int .i64 0, .int .u64 0, .int .u64 0, .int .u64 0, .int .u64 0, .slice none 0 0, .slice none 0 0, .slice none 0 0, .slice none 0 0] 74)
      rwa [show (w.alloc (.cells #[.int .i64 t, .int .i64 sc, .int .u64 z, .int .u64 zc, .int .u64 cn, .int .u64 su, .slice A pos.length c, .slice B neg.length d, .slice C pc.length cc, .slice D nc.length dd] 74)).heap.size = w.heap.size + 1 from by simp] at this, below_alloc (below_alloc (Below.refl _ _) _) _⟩
  have hlt1 := blk_lt hg1
  have hlt2 := blk_lt hg2
  have HCL : Hid (∀ (A' : Option Addr) (c' : Nat) (l : List Sp) W, Below W0.heap.size W0 W → Spl w A' c' l → Calls Tryz.prog 137 #[.slice A' l.length c'] W fun e w' =>
      ∃ A2 c2, e = .returned (.slice A2 l.length c2) ∧ OwSp 119 w' W0.heap.size (.slice A2 l.length c2) l ∧ Below W.heap.size W w' ∧ Below W0.heap.size W0 w') := Lib.hid (by
    intro A' c' l W hb hl
    refine (SpanC.clone_calls A' c' l W ((hl.below hal).below hb).rd (by have := hl.len; omega) hl.cap hl.nil).mono ?_
    rintro e w' ⟨v, rfl, ho, hb'⟩
    obtain ⟨A2, c2, rfl, -, -, -⟩ := ho.reads
    exact ⟨A2, c2, rfl, ho.lower hb.size, hb', below_then hb hb.size hb'⟩)
  have HCN : Hid (∀ (A' : Option Addr) (c' : Nat) (l : List Nat) W, Below w.heap.size w W → W0.heap.size ≤ W.heap.size → Nul w A' c' l → Calls Tryz.prog 181 #[.slice A' l.length c'] W fun e w' =>
      ∃ A2 c2, e = .returned (.slice A2 l.length c2) ∧ OwI 22 .u64 w' W0.heap.size (.slice A2 l.length c2) (nats l) ∧ Below W.heap.size W w') := Lib.hid (by
    intro A' c' l W hb hsz hl
    have := cloneu64_calls A' c' (nats l) W (hl.below hb).rd (by rw [nats_length]; have := hl.len; omega) (by rw [nats_length]; exact hl.cap) hl.nil
    rw [nats_length] at this
    refine this.mono ?_
    rintro e w' ⟨v, rfl, ho, hb'⟩
    obtain ⟨A2, c2, rfl, -, -⟩ := ho.reads
    rw [nats_length] at ho ⊢
    exact ⟨A2, c2, rfl, OwI.lower ho hsz, hb'⟩)
  have HS1 := Lib.hid (hp2)
  have HS2 := Lib.hid (hn2)
  have HS3 := Lib.hid hpc
  have HS4 := Lib.hid hnc
  have HW0 := Lib.hid hW0
  have HB0 := Lib.hid hal
  have H64 := Lib.hid h64
  have HG1 := Lib.hid (fun W (h : Below W0.heap.size W0 W) => (h.block _ hlt1).trans hg1)
  have HG2 := Lib.hid (fun W (h : Below W0.heap.size W0 W) => (h.block _ hlt2).trans hg2)
  have HSZ := Lib.hid hlt2
  clear hp2 hn2 hpc hnc hW0 hal h64 hg1 hg2 hlt1 hlt2
  go_enter Tryz.func113, Tryz.ntmps113
  go_wp2_with (fail)
  rw [← HW0.out]
  refine (HCL.out _ _ _ _ (Below.refl _ _) HS1.out).mono ?_
  rintro e w2 ⟨A1, c1, rfl, ho1, hx1, hb1⟩
  have O1 := Lib.hid ho1
  have B1 := Lib.hid hb1
  clear ho1 hx1 hb1
  go_wp2_with (fail)
  refine (HCL.out _ _ _ _ B1.out HS2.out).mono ?_
  rintro e w3 ⟨A2, c2, rfl, ho2, hx2, hb2⟩
  have q1 := HG1.out _ hb2
  have f5 : w3.frozen? ⟨w.heap.size, 6, none⟩ = false := obj_free q1
  have f6 : w3.frozen? ⟨w.heap.size, 7, none⟩ = false := obj_free q1
  have e5 : w3.cell? ⟨w.heap.size, 6, none⟩ = some (.slice A pos.length c) := obj_cell q1 rfl
  have e6 : w3.cell? ⟨w.heap.size, 7, none⟩ = some (.slice B neg.length d) := obj_cell q1 rfl
  have hc3 : Ch (fun k => k = w.heap.size) w3 ((w3.setCell ⟨w.heap.size, 6, none⟩ (.slice A1 pos2.length c1)).setCell ⟨w.heap.size, 7, none⟩ (.slice A2 neg2.length c2)) := ((Ch.refl (fun k => k = w.heap.size) w3).setCell (p := ⟨w.heap.size, 6, none⟩) (.inl rfl) _).setCell (p := ⟨w.heap.size, 7, none⟩) (.inl rfl) _
  obtain ⟨W4, hW4, g1, g2, o1, o2, b4, hsz4⟩ : ∃ W : World, W = (w3.setCell ⟨w.heap.size, 6, none⟩ (.slice A1 pos2.length c1)).setCell ⟨w.heap.size, 7, none⟩ (.slice A2 neg2.length c2) ∧ W.heap[w.heap.size]? = some (.cells #[.int .i64 t, .int .i64 sc, .int .u64 z, .int .u64 zc, .int .u64 cn, .int .u64 su, .slice A1 pos2.length c1, .slice A2 neg2.length c2, .slice C pc.length cc, .slice D nc.length dd] 74 (0, 0)) ∧ W.heap[w.heap.size + 1]? = some (.cells #[.int .i64 0, .int .i64 0, .int .u64 0, .int .u64 0, .int .u64 0, .int .u64 0, .slice none 0 0, .slice none 0 0, .slice none 0 0, .slice none 0 0] 74 (0, 0)) ∧
      OwSp 119 W W0.heap.size (.slice A1 pos2.length c1) pos2 ∧ OwSp 119 W W0.heap.size (.slice A2 neg2.length c2) neg2 ∧ Below w.heap.size w W ∧ W0.heap.size ≤ W.heap.size := by
    have hb3 := below_then HB0.out HB0.out.size hb2
    have hlt := HSZ.out
    exact ⟨_, rfl, blk_set (blk_set q1 6 _) 7 _, hc3.blk (HG2.out _ hb2) (by omega), sps_any (O1.out.below hx2) hc3 fun k hk => by omega, sps_any ho2 hc3 fun k hk => by omega, hb3.trans (hc3.below_of hb3.size fun k hk => by omega), Nat.le_trans hb2.size hc3.size⟩
  have HW4 := Lib.hid hW4
  have O1 := Lib.hid o1
  have O2 := Lib.hid o2
  have B4 := Lib.hid b4
  have HZ4 := Lib.hid hsz4
  have HK1 := Lib.hid (fun W (h : Below W4.heap.size W4 W) => (h.block _ (blk_lt g1)).trans g1)
  have HK2 := Lib.hid (fun W (h : Below W4.heap.size W4 W) => (h.block _ (blk_lt g2)).trans g2)
  have hc8 := fun W (h : Below W4.heap.size W4 W) => (obj_cell (HK1.out W h) rfl : W.cell? ⟨w.heap.size, 8, none⟩ = some (.slice C pc.length cc))
  have hc9 := fun W (h : Below W4.heap.size W4 W) => (obj_cell (HK1.out W h) rfl : W.cell? ⟨w.heap.size, 9, none⟩ = some (.slice D nc.length dd))
  have hf8 := fun W (h : Below W4.heap.size W4 W) => (obj_free (HK1.out W h) : W.frozen? ⟨w.heap.size, 8, none⟩ = false)
  have hf9 := fun W (h : Below W4.heap.size W4 W) => (obj_free (HK1.out W h) : W.frozen? ⟨w.heap.size, 9, none⟩ = false)
  have HCN : Hid (∀ (A' : Option Addr) (c' : Nat) (l : List Nat) W, Below W4.heap.size W4 W → Nul w A' c' l → Calls Tryz.prog 181 #[.slice A' l.length c'] W fun e w' =>
      ∃ A2 c2, e = .returned (.slice A2 l.length c2) ∧ OwI 22 .u64 w' W0.heap.size (.slice A2 l.length c2) (nats l) ∧ Below W.heap.size W w' ∧ Below W4.heap.size W4 w') := Lib.hid (by
    intro A' c' l W hb hl
    refine (HCN.out A' c' l W (below_then B4.out B4.out.size hb) (Nat.le_trans HZ4.out hb.size) hl).mono ?_
    rintro e w' ⟨A2, c2, h1, h2, h3⟩
    exact ⟨A2, c2, h1, h2, h3, below_then hb hb.size h3⟩)
  have HEND : Hid (∀ (w5 w6 : World) (C1 : Option Addr) (cc1 : Nat) (D1 : Option Addr) (dd1 : Nat), OwI 22 .u64 w5 W0.heap.size (.slice C1 pc.length cc1) (nats pc) → OwI 22 .u64 w6 W0.heap.size (.slice D1 nc.length dd1) (nats nc) → Below w5.heap.size w5 w6 → Below W4.heap.size W4 w6 →
      ((w6.setCell ⟨w.heap.size, 8, none⟩ (.slice C1 pc.length cc1)).setCell ⟨w.heap.size, 9, none⟩ (.slice D1 nc.length dd1)).heap[w.heap.size]? = some (.cells #[.int .i64 t, .int .i64 sc, .int .u64 z, .int .u64 zc, .int .u64 cn, .int .u64 su, .slice A1 pos2.length c1, .slice A2 neg2.length c2, .slice C1 pc.length cc1, .slice D1 nc.length dd1] 74 (0, 0)) ∧
      ((w6.setCell ⟨w.heap.size, 8, none⟩ (.slice C1 pc.length cc1)).setCell ⟨w.heap.size, 9, none⟩ (.slice D1 nc.length dd1)).heap[w.heap.size + 1]? = some (.cells #[.int .i64 0, .int .i64 0, .int .u64 0, .int .u64 0, .int .u64 0, .int .u64 0, .slice none 0 0, .slice none 0 0, .slice none 0 0, .slice none 0 0] 74 (0, 0)) ∧
      OwSp 119 ((w6.setCell ⟨w.heap.size, 8, none⟩ (.slice C1 pc.length cc1)).setCell ⟨w.heap.size, 9, none⟩ (.slice D1 nc.length dd1)) W0.heap.size (.slice A1 pos2.length c1) pos2 ∧
      OwSp 119 ((w6.setCell ⟨w.heap.size, 8, none⟩ (.slice C1 pc.length cc1)).setCell ⟨w.heap.size, 9, none⟩ (.slice D1 nc.length dd1)) W0.heap.size (.slice A2 neg2.length c2) neg2 ∧
      OwI 22 .u64 ((w6.setCell ⟨w.heap.size, 8, none⟩ (.slice C1 pc.length cc1)).setCell ⟨w.heap.size, 9, none⟩ (.slice D1 nc.length dd1)) W0.heap.size (.slice C1 pc.length cc1) (nats pc) ∧
      OwI 22 .u64 ((w6.setCell ⟨w.heap.size, 8, none⟩ (.slice C1 pc.length cc1)).setCell ⟨w.heap.size, 9, none⟩ (.slice D1 nc.length dd1)) W0.heap.size (.slice D1 nc.length dd1) (nats nc) ∧
      Below w.heap.size w ((w6.setCell ⟨w.heap.size, 8, none⟩ (.slice C1 pc.length cc1)).setCell ⟨w.heap.size, 9, none⟩ (.slice D1 nc.length dd1))) := Lib.hid (by
    intro w5 w6 C1 cc1 D1 dd1 o3 o4 b56 b46
    have hc : Ch (fun k => k = w.heap.size) w6 ((w6.setCell ⟨w.heap.size, 8, none⟩ (.slice C1 pc.length cc1)).setCell ⟨w.heap.size, 9, none⟩ (.slice D1 nc.length dd1)) := ((Ch.refl (fun k => k = w.heap.size) w6).setCell (p := ⟨w.heap.size, 8, none⟩) (.inl rfl) _).setCell (p := ⟨w.heap.size, 9, none⟩) (.inl rfl) _
    have hb6 := below_then B4.out B4.out.size b46
    have hsz := HSZ.out
    exact ⟨blk_set (blk_set (HK1.out _ b46) 8 _) 9 _, hc.blk (HK2.out _ b46) (by omega), sps_any (O1.out.below b46) hc fun k hk => by omega, sps_any (O2.out.below b46) hc fun k hk => by omega,
      OwI.ch (OwI.below o3 b56) hc fun g hg he => by have := OwI.base_ o3 g hg; omega, OwI.ch o4 hc fun g hg he => by have := OwI.base_ o4 g hg; omega, hb6.trans (hc.below_of hb6.size fun k hk => by omega)⟩)
  have hb0 := Below.refl W4.heap.size W4
  clear q1 hb2 ho2 hx2 hc3 hW4 g1 g2 o1 o2 b4 hsz4
  go_wp2_with (fail)
  rw [← HW4.out]
  clear e5 e6 f5 f6
  go_region_with (first
    | (go_at_call 181; (with_reducible show Calls _ _ #[Value.slice C pc.length cc] _ _); refine (HCN.out _ _ _ _ ?_ HS3.out).mono ?_; (first | exact hb0 | exact below_drew hb0 | assumption); rintro e w5 ⟨C1, cc1, rfl, ho3, hx3, hb3⟩)
    | (go_at_call 181; refine (HCN.out _ _ _ _ ?_ HS4.out).mono ?_; (first | exact hb0 | exact below_drew hb0 | assumption); rintro e w6 ⟨D1, dd1, rfl, ho4, hx4, hb4⟩))
  all_goals (
    obtain ⟨q1, q2, q3, q4, q5, q6, q7⟩ := HEND.out w5 w6 C1 cc1 D1 dd1 ho3 ho4 hx4 hb4
    obtain ⟨W5, hW5⟩ : ∃ W : World, W = (w6.setCell ⟨w.heap.size, 8, none⟩ (.slice C1 pc.length cc1)).setCell ⟨w.heap.size, 9, none⟩ (.slice D1 nc.length dd1) := ⟨_, rfl⟩
    rw [← hW5] at q1 q2 q3 q4 q5 q6 q7 ⊢
    clear hW5 ho3 ho4 hx3 hx4 hb3 hb4 hc8 hc9 hf8 hf9 hb0
    have k0 : W5.cell? ⟨w.heap.size, 0, none⟩ = some (.int .i64 t) := obj_cell q1 rfl
    have k1 : W5.cell? ⟨w.heap.size, 1, none⟩ = some (.int .i64 sc) := obj_cell q1 rfl
    have k2 : W5.cell? ⟨w.heap.size, 2, none⟩ = some (.int .u64 z) := obj_cell q1 rfl
    have k3 : W5.cell? ⟨w.heap.size, 3, none⟩ = some (.int .u64 zc) := obj_cell q1 rfl
    have k4 : W5.cell? ⟨w.heap.size, 4, none⟩ = some (.int .u64 cn) := obj_cell q1 rfl
    have k5 : W5.cell? ⟨w.heap.size, 5, none⟩ = some (.int .u64 su) := obj_cell q1 rfl
    have k6 : W5.cell? ⟨w.heap.size, 6, none⟩ = some (.slice A1 pos2.length c1) := obj_cell q1 rfl
    have k7 : W5.cell? ⟨w.heap.size, 7, none⟩ = some (.slice A2 neg2.length c2) := obj_cell q1 rfl
    have k8 : W5.cell? ⟨w.heap.size, 8, none⟩ = some (.slice C1 pc.length cc1) := obj_cell q1 rfl
    have k9 : W5.cell? ⟨w.heap.size, 9, none⟩ = some (.slice D1 nc.length dd1) := obj_cell q1 rfl
    have z0 : W5.cell? ⟨w.heap.size + 1, 0, none⟩ = some (.int .i64 0) := obj_cell q2 rfl
    have z1 : W5.cell? ⟨w.heap.size + 1, 1, none⟩ = some (.int .i64 0) := obj_cell q2 rfl
    have z2 : W5.cell? ⟨w.heap.size + 1, 2, none⟩ = some (.int .u64 0) := obj_cell q2 rfl
    have z3 : W5.cell? ⟨w.heap.size + 1, 3, none⟩ = some (.int .u64 0) := obj_cell q2 rfl
    have z4 : W5.cell? ⟨w.heap.size + 1, 4, none⟩ = some (.int .u64 0) := obj_cell q2 rfl
    have z5 : W5.cell? ⟨w.heap.size + 1, 5, none⟩ = some (.int .u64 0) := obj_cell q2 rfl
    have z6 : W5.cell? ⟨w.heap.size + 1, 6, none⟩ = some (.slice none 0 0) := obj_cell q2 rfl
    have z7 : W5.cell? ⟨w.heap.size + 1, 7, none⟩ = some (.slice none 0 0) := obj_cell q2 rfl
    have z8 : W5.cell? ⟨w.heap.size + 1, 8, none⟩ = some (.slice none 0 0) := obj_cell q2 rfl
    have z9 : W5.cell? ⟨w.heap.size + 1, 9, none⟩ = some (.slice none 0 0) := obj_cell q2 rfl
    have f0 : W5.frozen? ⟨w.heap.size + 1, 0, none⟩ = false := obj_free q2
    have f1 : W5.frozen? ⟨w.heap.size + 1, 1, none⟩ = false := obj_free q2
    have f2 : W5.frozen? ⟨w.heap.size + 1, 2, none⟩ = false := obj_free q2
    have f3 : W5.frozen? ⟨w.heap.size + 1, 3, none⟩ = false := obj_free q2
    have f4 : W5.frozen? ⟨w.heap.size + 1, 4, none⟩ = false := obj_free q2
    have f5 : W5.frozen? ⟨w.heap.size + 1, 5, none⟩ = false := obj_free q2
    have f6 : W5.frozen? ⟨w.heap.size + 1, 6, none⟩ = false := obj_free q2
    have f7 : W5.frozen? ⟨w.heap.size + 1, 7, none⟩ = false := obj_free q2
    have f8 : W5.frozen? ⟨w.heap.size + 1, 8, none⟩ = false := obj_free q2
    have f9 : W5.frozen? ⟨w.heap.size + 1, 9, none⟩ = false := obj_free q2
    have H10 := Lib.hid (on_end q3 q4 q5 q6 q7 HSZ.out (.int .i64 t) (.int .i64 sc) (.int .u64 z) (.int .u64 zc) (.int .u64 cn) (.int .u64 su) (.slice A1 pos2.length c1) (.slice A2 neg2.length c2) (.slice C1 pc.length cc1) (.slice D1 nc.length dd1))
    clear q1 q2 q3 q4 q5 q6 q7
    go_wp2
    refine bodyPost_ret (v := .agg #[.int .i64 t, .int .i64 sc, .int .u64 z, .int .u64 zc, .int .u64 cn, .int .u64 su, .slice A1 pos2.length c1, .slice A2 neg2.length c2, .slice C1 pc.length cc1, .slice D1 nc.length dd1]) (by rw [results_cell1 rfl]; go_simp) rfl ?_
    obtain ⟨r1, r2, r3, r4, r5⟩ := H10.out
    exact ⟨⟨A1, c1, A2, c2, C1, cc1, D1, dd1⟩, rfl, ⟨spl_own' r1 HS1.out.len, spl_own' r2 HS2.out.len, nul_own r3 HS3.out.len, nul_own r4 HS4.out.len, ⟨H64.out.zero, H64.out.zc, H64.out.cnt, H64.out.sum, H64.out.pc, H64.out.nc⟩⟩, ⟨own_on (r1.lower HB0.out.size), own_on (r2.lower HB0.out.size), nul_on (OwI.lower r3 HB0.out.size), nul_on (OwI.lower r4 HB0.out.size)⟩, r5⟩)
end Go.Proofs.YtjfekjbmgckkcaaGreatDoor.FcB
