/- what ChunkMakes stands on, part 2. -/
import Derived.Test.YtjfekjbmgckkcaaGreatDoorPartChunkMakesA
import Derived.Laws.ResultCell
import Derived.Deep.RegionHeld3
import Derived.Lib.BitFns
import Derived.Lib.TrailingZeros
import Derived.Shelf.Small.Bits
import Derived.Shelf.Strconv.Itoa0
import Derived.Shelf.Slices.Equal
import Derived.Shelf.Slices.Empties2
import Derived.Ground.SlbCloneProg
import Derived.Shelf.Bytes.SlClone
import Derived.Test.YtjfekjbmgckkcaaGreatDoorProg
import Derived.Laws.Bits64b
import Derived.Lib.AppendZerosOnto
import Derived.RangeFuncBox
import Derived.RangeFuncNested
import Derived.RangeFuncBound
import Derived.RangeFuncCalls
import Derived.RangeFuncLeaves
import Derived.Shelf.Abstract
import Derived.OwnWalkIn
import Derived.TacticsInMore
import Derived.LoopNIn
import Derived.LoopIn
import Derived.Maps.AppendAt
import Derived.Laws.Externs
import Derived.OwnWalk
import Derived.Laws.BitsAllLaws
import Derived.Deep.RegionWith
namespace Go.Proofs.YtjfekjbmgckkcaaGreatDoor.HeadL
open Go.RowKit Go.Proofs.YtjfekjbmgckkcaaGreatDoorW.PrintWords
open Go.Proofs.YtjfekjbmgckkcaaGreatDoor.Bits Go.Proofs.YtjfekjbmgckkcaaGreatDoor.Base Go.Proofs.YtjfekjbmgckkcaaGreatDoor.VarPure Go.Proofs.YtjfekjbmgckkcaaGreatDoor.VarbitA Go.Proofs.YtjfekjbmgckkcaaGreatDoor.StreamA Go.Proofs.YtjfekjbmgckkcaaGreatDoor.SpanPure Go.Proofs.YtjfekjbmgckkcaaGreatDoor.SpanBase Go.Proofs.YtjfekjbmgckkcaaGreatDoor.FailAs Go.Proofs.YtjfekjbmgckkcaaGreatDoor.FailB Go.Proofs.YtjfekjbmgckkcaaGreatDoor.FailC Go.Proofs.YtjfekjbmgckkcaaGreatDoor.ThrPure Go.Proofs.YtjfekjbmgckkcaaGreatDoor.HeadA Go.Proofs.YtjfekjbmgckkcaaGreatDoor.HeadB
abbrev six (w : World) (b : Nat) (v0 v1 v2 v3 v4 v5 : Value) : World := (((((w.setCell ⟨b, 0, none⟩ v0).setCell ⟨b, 1, none⟩ v1).setCell ⟨b, 2, none⟩ v2).setCell ⟨b, 3, none⟩ v3).setCell ⟨b, 4, none⟩ v4).setCell ⟨b, 5, none⟩ v5
theorem ch_six0 {S : Nat → Prop} {w w1 : World} {b : Nat} (h : Ch S w w1) (hb : S b ∨ w.heap.size ≤ b) (v0 v1 v2 v3 v4 v5 : Value) : Ch S w (six w1 b v0 v1 v2 v3 v4 v5) :=
  (((((h.setCell hb v0).setCell hb v1).setCell hb v2).setCell hb v3).setCell hb v4).setCell hb v5
theorem six_ch (w1 : World) (b : Nat) (v0 v1 v2 v3 v4 v5 : Value) : Ch (fun k => k = b) w1 (six w1 b v0 v1 v2 v3 v4 v5) := ch_six0 (S := fun k => k = b) (Ch.refl _ w1) (.inl rfl) v0 v1 v2 v3 v4 v5
end Go.Proofs.YtjfekjbmgckkcaaGreatDoor.HeadL
namespace Go.Proofs.YtjfekjbmgckkcaaGreatDoor.Law15A
open Go.RowKit Go.Proofs.YtjfekjbmgckkcaaGreatDoorW.PrintWords
open Go.Proofs.YtjfekjbmgckkcaaGreatDoor.Bits Go.Proofs.YtjfekjbmgckkcaaGreatDoor.Base Go.Proofs.YtjfekjbmgckkcaaGreatDoor.VarPure Go.Proofs.YtjfekjbmgckkcaaGreatDoor.VarKit Go.Proofs.YtjfekjbmgckkcaaGreatDoor.StreamA Go.Proofs.YtjfekjbmgckkcaaGreatDoor.SpanPure Go.Proofs.YtjfekjbmgckkcaaGreatDoor.SpanBase Go.Proofs.YtjfekjbmgckkcaaGreatDoor.FailAs Go.Proofs.YtjfekjbmgckkcaaGreatDoor.FailB Go.Proofs.YtjfekjbmgckkcaaGreatDoor.FailC Go.Proofs.YtjfekjbmgckkcaaGreatDoor.HeadA Go.Proofs.YtjfekjbmgckkcaaGreatDoor.HeadB Go.Proofs.YtjfekjbmgckkcaaGreatDoor.HeadC Go.Proofs.YtjfekjbmgckkcaaGreatDoor.HeadE Go.Proofs.YtjfekjbmgckkcaaGreatDoor.HeadL Go.Proofs.YtjfekjbmgckkcaaGreatDoor.Ref01 Go.Proofs.YtjfekjbmgckkcaaGreatDoor.Ref12 Go.Proofs.YtjfekjbmgckkcaaGreatDoor.Ref14A Go.Proofs.YtjfekjbmgckkcaaGreatDoor.Law14A
set_option maxRecDepth 100000 in
set_option maxHeartbeats 800000 in
theorem spans_calls (A : Option Addr) (c : Nat) (l : List Sp) (w : World) (hr : RdSp w A l) (hm : l.length ≤ 1000000) :
    Calls Tryz.prog 128 #[.slice A l.length c] w fun e w' => ∃ v, e = .returned v ∧ OwSp 214 w' w.heap.size v l ∧ Below w.heap.size w w' := by
  have HR := Lib.hid hr
  clear hr
  go_enter Tryz.func128, Tryz.ntmps128
  go_wp2
  go_loopw [3, 8] (fun v i wr => ∃ (k : Nat), k ≤ l.length ∧ i = .int .i64 k ∧ OwSp 214 wr w.heap.size v (l.take k) ∧ Below w.heap.size w wr) (fun _ i _ => l.length - (intOf i).toNat)
  case atStart => exact ⟨0, by omega, rfl, OwSp.nil _ _ _, Below.refl _ _⟩
  case round =>
    obtain ⟨k, hk, rfl, ho, hb⟩ := hrel
    have HO := Lib.hid ho
    have HB := Lib.hid hb
    have hsz := hb.size
    by_cases hlt : k < l.length
    · obtain ⟨ad, hA, c0, c1⟩ := (HR.out.below hb).at_ k hlt
      subst hA
      have HT := Lib.hid (show l.take (k + 1) = l.take k ++ [l[k]] from List.take_succ_eq_append_getElem hlt)
      obtain ⟨s, hs⟩ : ∃ s, s = l[k] := ⟨_, rfl⟩
      rw [← hs] at c0 c1 HT
      obtain ⟨o, q⟩ := s
      simp only at c0 c1
      have hlk : (l.take k).length ≤ 1000000 := by rw [List.length_take]; omega
      obtain ⟨L, hL⟩ : ∃ L, L = l.take k := ⟨_, rfl⟩
      rw [← hL] at HO HT hlk
      clear hs ho hb hL
      go_wp2_with (at_builtin; refine append_span_at (w0 := w) w.heap.size rfl (.tmp 12) (.tmp 18) 39 214 16 rfl Tryz.underlying39 infoRs _ L o q rfl (wr.heap.size + 1) (by simp) rfl (by exact HO.out.below (below_alloc (Below.refl _ _) _)) (by exact below_alloc HB.out _) (by simp; omega) (by omega) (by omega) ?_; intro g cap w1 ho1 hb1 _ _; have HO1 := Lib.hid ho1; have HB1 := Lib.hid hb1; clear ho1 hb1)
      go_roundw
      case rel => exact ⟨k + 1, by omega, by go_num, by rw [HT.out]; exact HO1.out, HB1.out⟩
      case measure => simp [intOf]; omega
    · obtain rfl : k = l.length := by omega
      rw [List.take_length] at HO
      obtain ⟨A1, c1, rfl, -, -, -⟩ := HO.out.reads
      clear ho hb
      go_wp2
      go_ret
      exact ⟨_, rfl, HO.out, HB.out⟩
set_option maxHeartbeats 1600000 in
theorem few_calls (A : Option Addr) (c : Nat) (l : List Sp) (w : World) (hr : RdSp w A l) (hm : l.length ≤ 9223372036854775807) :
    Calls Tryz.prog 66 #[.slice A l.length c] w fun e w' => e = .returned (.bool (few l)) ∧ Below w.heap.size w w' := by
  have HR := Lib.hid hr
  clear hr
  go_enter Tryz.func66, Tryz.ntmps66
  go_wp2
  go_loopw [3, 8] (fun n i wr => ∃ (k : Nat) (m : Int), k ≤ l.length ∧ i = .int .i64 k ∧ n = .int .i64 m ∧ 0 ≤ m ∧ m ≤ 400 ∧ Hid (few l = fewF m (l.drop k)) ∧ Below w.heap.size w wr) (fun _ i _ => l.length - (intOf i).toNat)
  case atStart => exact ⟨0, 0, by omega, rfl, rfl, by omega, by omega, Lib.hid rfl, Below.refl _ _⟩
  case round =>
    obtain ⟨k, m, hk, rfl, rfl, hm0, hm6, ht, hb⟩ := hrel
    have HB := Lib.hid hb
    have hsz := hb.size
    by_cases hlt : k < l.length
    · obtain ⟨ad, hA, c0, c1⟩ := (HR.out.below hb).at_ k hlt
      subst hA
      have HD := Lib.hid (show l.drop k = l[k] :: l.drop (k + 1) from List.drop_eq_getElem_cons hlt)
      obtain ⟨s, hs⟩ : ∃ s, s = l[k] := ⟨_, rfl⟩
      rw [← hs] at c0 c1 HD
      obtain ⟨o, q⟩ := s
      simp only at c0 c1
      clear hs hb
      by_cases hq : 0 < q
      · have d1 : decide (q > 0) = true := by simpa using hq
        have d1' : decide (0 < q) = true := by simpa using hq
        by_cases hq5 : q ≤ 5000
        · have e5 : min q 5000 = q := by omega
          have HS : Hid (few l = (decide (m + (1 + q / 10) + 1 ≤ 400) && fewF (m + (1 + q / 10) + 1) (l.drop (k + 1)))) := Lib.hid (by rw [ht.out, HD.out, fewF, if_pos hq, e5])
          go_wp2
          all_goals first
            | (have HF : few l = false := by rw [HS.out, decide_eq_false (by omega)]; rfl
               go_ret
               exact ⟨by rw [HF]; rfl, HB.out.alloc hsz _⟩)
            | (have HF : few l = fewF (m + (1 + q / 10) + 1) (l.drop (k + 1)) := by rw [HS.out, decide_eq_true (by omega)]; rfl
               go_roundw
               case rel => exact ⟨k + 1, _, by omega, by go_num, rfl, by omega, by omega, Lib.hid HF, HB.out.alloc hsz _⟩
               case measure => simp [intOf]; omega)
        · have hq6 : 5000 < q := by omega
          have e5 : min q 5000 = 5000 := by omega
          have HS : Hid (few l = (decide (m + 501 + 1 ≤ 400) && fewF (m + 501 + 1) (l.drop (k + 1)))) := Lib.hid (by rw [ht.out, HD.out, fewF, if_pos hq, e5]; rfl)
          clear hq5
          go_wp2
          all_goals first
            | (have HF : few l = false := by rw [HS.out, decide_eq_false (by omega)]; rfl
               go_ret
               exact ⟨by rw [HF]; rfl, HB.out.alloc hsz _⟩)
            | (have HF : few l = fewF (m + 501 + 1) (l.drop (k + 1)) := by rw [HS.out, decide_eq_true (by omega)]; rfl
               go_roundw
               case rel => exact ⟨k + 1, _, by omega, by go_num, rfl, by omega, by omega, Lib.hid HF, HB.out.alloc hsz _⟩
               case measure => simp [intOf]; omega)
      · have d1 : decide (q > 0) = false := by simpa using hq
        have d1' : decide (0 < q) = false := by simpa using hq
        have HS : Hid (few l = (decide (m + 1 ≤ 400) && fewF (m + 1) (l.drop (k + 1)))) := Lib.hid (by rw [ht.out, HD.out, fewF, if_neg hq, Int.add_zero])
        clear hq
        go_wp2
        all_goals first
          | (have HF : few l = false := by rw [HS.out, decide_eq_false (by omega)]; rfl
             go_ret
             exact ⟨by rw [HF]; rfl, HB.out.alloc hsz _⟩)
          | (have HF : few l = fewF (m + 1) (l.drop (k + 1)) := by rw [HS.out, decide_eq_true (by omega)]; rfl
             go_roundw
             case rel => exact ⟨k + 1, _, by omega, by go_num, rfl, by omega, by omega, Lib.hid HF, HB.out.alloc hsz _⟩
             case measure => simp [intOf]; omega)
    · obtain rfl : k = l.length := by omega
      have HF : Hid (few l = true) := Lib.hid (by rw [ht.out, List.drop_length]; rfl)
      clear ht hb
      go_wp2
      go_ret
      exact ⟨by rw [HF.out]; rfl, HB.out⟩
set_option maxHeartbeats 1600000 in
theorem tells_calls (v : Value) (c : Nat) (nm : ByteArray) (n : Nat) (w : World) (h : Err w v (plc c nm n) .nilIface) (hc : c ≠ 0) :
    Calls Tryz.prog 56 #[v, .agg #[.int .i64 c, .string nm, .int .i64 n]] w fun e w' => e = .returned (.bool true) ∧ Below w.heap.size w w' := by
  have hb0 := below_alloc (Below.refl w.heap.size w) (.cells #[.int .i64 c, .string nm, .int .i64 n] 37)
  have HB0 := Lib.hid hb0
  have hpl : plc (c : Int) nm n = [⟨c, nm, n⟩, ⟨c, ⟨#[]⟩, 0⟩] := if_neg (by omega)
  rw [hpl] at h
  have h0 := h.below hb0
  have HAT := Lib.hid (FailE.at_calls nm h0)
  rw [show FailE.atF [⟨(c : Int), nm, (n : Int)⟩, ⟨c, ⟨#[]⟩, 0⟩] nm = ((n : Int), true) from if_pos rfl] at HAT
  have HK := Lib.hid (blk_last w (.cells #[.int .i64 c, .string nm, .int .i64 n] 37))
  have H0 := Lib.hid h0
  clear hb0 hpl h h0
  go_enter Tryz.func56, Tryz.ntmps56
  go_wp2_with (fail)
  refine HAT.out.mono ?_
  rintro e w1 ⟨rfl, hb1⟩
  have HB1 := Lib.hid (below_then HB0.out HB0.out.size hb1)
  have hk1 := (Ch.of_below (S := fun _ => False) hb1).blk HK.out (fun x => x)
  have HS := Lib.hid (fun W (hb : Below w1.heap.size w1 W) => (⟨hb, obj_cell (i := 0) ((Ch.of_below (S := fun _ => False) hb).blk hk1 (fun x => x)) rfl, obj_cell (i := 2) ((Ch.of_below (S := fun _ => False) hb).blk hk1 (fun x => x)) rfl⟩ : Below w1.heap.size w1 W ∧ W.cell? ⟨w.heap.size, 0, none⟩ = some (.int .i64 c) ∧ W.cell? ⟨w.heap.size, 2, none⟩ = some (.int .i64 n)))
  have HCO : Hid (∀ W, Below w1.heap.size w1 W → Calls Tryz.prog 50 #[v] W fun e w' => e = .returned (.int .i64 c) ∧ Below w1.heap.size w1 w') := Lib.hid (fun W hb => lift hb hb.size (code_calls ((H0.out.below hb1).below hb)))
  have HDE : Hid (∀ W, Below w1.heap.size w1 W → Calls Tryz.prog 79 #[v] W fun e w' => e = .returned (.int .i64 2) ∧ Below w1.heap.size w1 w') := Lib.hid (fun W hb => lift hb hb.size (FailE.depth_calls ((H0.out.below hb1).below hb) (by simp)))
  have hcc : ((c : Int) == (c : Int)) = true := by simp
  have hnn : ((n : Int) == (n : Int)) = true := by simp
  have hs1 := HS.out w1 (Below.refl _ _)
  clear hb1 hk1 HAT
  go_wp2_with (fail)
  go_region_held3 (fun W => Below w1.heap.size w1 W ∧ W.cell? ⟨w.heap.size, 0, none⟩ = some (.int .i64 c) ∧ W.cell? ⟨w.heap.size, 2, none⟩ = some (.int .i64 n))
    (first | exact HS.out _ (below_drew (by first | exact Below.refl _ _ | exact (And.left (by assumption)))) | exact HS.out _ (by assumption) | assumption)
    (first
    | (go_at_call 50; refine (HCO.out _ (And.left (by assumption))).mono ?_; rintro e w2 ⟨rfl, hb2⟩)
    | (go_at_call 79; refine (HDE.out _ (And.left (by assumption))).mono ?_; rintro e w2 ⟨rfl, hb3⟩))
  go_wp2
  go_ret
  exact ⟨rfl, below_then HB1.out HB1.out.size (by assumption)⟩
end Go.Proofs.YtjfekjbmgckkcaaGreatDoor.Law15A
namespace Go.Proofs.YtjfekjbmgckkcaaGreatDoor.Law14D
open Go.RowKit Go.Proofs.YtjfekjbmgckkcaaGreatDoorW.PrintWords
open Go.Proofs.YtjfekjbmgckkcaaGreatDoor.Bits Go.Proofs.YtjfekjbmgckkcaaGreatDoor.Base Go.Proofs.YtjfekjbmgckkcaaGreatDoor.VarKit Go.Proofs.YtjfekjbmgckkcaaGreatDoor.StreamA Go.Proofs.YtjfekjbmgckkcaaGreatDoor.SpanPure Go.Proofs.YtjfekjbmgckkcaaGreatDoor.SpanBase Go.Proofs.YtjfekjbmgckkcaaGreatDoor.HeadA Go.Proofs.YtjfekjbmgckkcaaGreatDoor.HeadB Go.Proofs.YtjfekjbmgckkcaaGreatDoor.HeadL Go.Proofs.YtjfekjbmgckkcaaGreatDoor.Ref12 Go.Proofs.YtjfekjbmgckkcaaGreatDoor.Law14A
structure St (w : World) (o : Obj) (W : World) : Prop where
  b : Below w.heap.size w W
  o : W.heap[w.heap.size]? = some o
  z : ∃ cs : Array Value, cs.size = 6 ∧ W.heap[w.heap.size + 1]? = some (.cells cs 41 (0, 0))
theorem St.drew {w W : World} {o : Obj} (h : St w o W) : St w o W.drew := ⟨below_drew h.b, h.o, h.z⟩
theorem St.six {w W : World} {o : Obj} (h : St w o W) (v0 v1 v2 v3 v4 v5 : Value) : St w o (six W (w.heap.size + 1) v0 v1 v2 v3 v4 v5) :=
  ⟨(((((h.b.setCell (Nat.le_succ _) v0).setCell (Nat.le_succ _) v1).setCell (Nat.le_succ _) v2).setCell (Nat.le_succ _) v3).setCell (Nat.le_succ _) v4).setCell (Nat.le_succ _) v5,
    (six_ch W (w.heap.size + 1) v0 v1 v2 v3 v4 v5).blk h.o (by omega), by
    obtain ⟨cs, hs, hz⟩ := h.z
    exact ⟨_, by simpa using hs, blk_set (blk_set (blk_set (blk_set (blk_set (blk_set hz 0 v0) 1 v1) 2 v2) 3 v3) 4 v4) 5 v5⟩⟩
theorem St.below {w W W2 : World} {o : Obj} (h : St w o W) (hb : Below W.heap.size W W2) : St w o W2 :=
  ⟨below_then h.b h.b.size hb, (Ch.of_below (S := fun _ => False) hb).blk h.o (fun x => x), by
    obtain ⟨cs, hs, hz⟩ := h.z
    exact ⟨cs, hs, (Ch.of_below (S := fun _ => False) hb).blk hz (fun x => x)⟩⟩
theorem St.free {w W : World} {o : Obj} (h : St w o W) : ∃ u0 u1 u2 u3 u4 u5 : Value, (W.frozen? ⟨w.heap.size + 1, 0, none⟩ = false ∧ W.frozen? ⟨w.heap.size + 1, 1, none⟩ = false ∧ W.frozen? ⟨w.heap.size + 1, 2, none⟩ = false ∧ W.frozen? ⟨w.heap.size + 1, 3, none⟩ = false ∧ W.frozen? ⟨w.heap.size + 1, 4, none⟩ = false ∧ W.frozen? ⟨w.heap.size + 1, 5, none⟩ = false) ∧
    (W.cell? ⟨w.heap.size + 1, 0, none⟩ = some u0 ∧ W.cell? ⟨w.heap.size + 1, 1, none⟩ = some u1 ∧ W.cell? ⟨w.heap.size + 1, 2, none⟩ = some u2 ∧ W.cell? ⟨w.heap.size + 1, 3, none⟩ = some u3 ∧ W.cell? ⟨w.heap.size + 1, 4, none⟩ = some u4 ∧ W.cell? ⟨w.heap.size + 1, 5, none⟩ = some u5) := by
  obtain ⟨cs, hs, hz⟩ := h.z
  have hc : ∀ i, i < 6 → cs[i]? = some (cs.getD i undef) := fun i hi => by simp [Array.getD, hs, hi]
  exact ⟨_, _, _, _, _, _, ⟨obj_free hz, obj_free hz, obj_free hz, obj_free hz, obj_free hz, obj_free hz⟩, ⟨obj_cell hz (hc 0 (by decide)), obj_cell hz (hc 1 (by decide)), obj_cell hz (hc 2 (by decide)), obj_cell hz (hc 3 (by decide)), obj_cell hz (hc 4 (by decide)), obj_cell hz (hc 5 (by decide))⟩⟩
theorem sps_any {S : Nat → Prop} {e base : Nat} {w w1 : World} {v : Value} {l : List Sp} (h : OwSp e w base v l) (hc : Ch S w w1) (hS : ∀ k, S k → k < base) : OwSp e w1 base v l :=
  h.move fun g hg => hc.block g (h.lt_ g hg) fun hs => Nat.lt_irrefl _ (Nat.lt_of_lt_of_le (hS g hs) (h.base_ g hg))
theorem spl_any {w : World} {base : Nat} {e : Nat} {A : Option Addr} {n c : Nat} {l : List Sp} (h : OwSp e w base (.slice A n c) l) (hl : l.length ≤ 1000000) : Spl w A c l := by
  obtain ⟨A', c', he, h1, h2, h3⟩ := h.reads
  injection he with e1 e2 e3
  subst e1 e3
  exact ⟨h3, hl, h1, h2⟩
end Go.Proofs.YtjfekjbmgckkcaaGreatDoor.Law14D
namespace Go.Proofs.YtjfekjbmgckkcaaGreatDoor.Law15B
open Go.RowKit Go.Proofs.YtjfekjbmgckkcaaGreatDoorW.PrintWords
open Go.Proofs.YtjfekjbmgckkcaaGreatDoor.Bits Go.Proofs.YtjfekjbmgckkcaaGreatDoor.Base Go.Proofs.YtjfekjbmgckkcaaGreatDoor.VarPure Go.Proofs.YtjfekjbmgckkcaaGreatDoor.VarKit Go.Proofs.YtjfekjbmgckkcaaGreatDoor.StreamA Go.Proofs.YtjfekjbmgckkcaaGreatDoor.SpanPure Go.Proofs.YtjfekjbmgckkcaaGreatDoor.SpanBase Go.Proofs.YtjfekjbmgckkcaaGreatDoor.FailAs Go.Proofs.YtjfekjbmgckkcaaGreatDoor.FailB Go.Proofs.YtjfekjbmgckkcaaGreatDoor.FailC Go.Proofs.YtjfekjbmgckkcaaGreatDoor.HeadA Go.Proofs.YtjfekjbmgckkcaaGreatDoor.HeadB Go.Proofs.YtjfekjbmgckkcaaGreatDoor.HeadC Go.Proofs.YtjfekjbmgckkcaaGreatDoor.HeadE Go.Proofs.YtjfekjbmgckkcaaGreatDoor.HeadL Go.Proofs.YtjfekjbmgckkcaaGreatDoor.Ref01 Go.Proofs.YtjfekjbmgckkcaaGreatDoor.Ref12 Go.Proofs.YtjfekjbmgckkcaaGreatDoor.Ref14A Go.Proofs.YtjfekjbmgckkcaaGreatDoor.Law14D Go.Proofs.YtjfekjbmgckkcaaGreatDoor.Law15A
set_option maxRecDepth 100000 in
set_option maxHeartbeats 3200000 in
theorem heads_calls (h : Hd) (p : Lc) (w : World) (hh : HdIn w h p) :
    Calls Tryz.prog 55 #[.agg (hcs h p).toArray] w fun e w' => ∃ r : Lc, e = .returned (.agg (hcs h r).toArray) ∧ HdIn w' h r ∧ Below w.heap.size w w' := by
  obtain ⟨vr, hint, schema, zt, pos, neg⟩ := h
  obtain ⟨A, c, B, d⟩ := p
  obtain ⟨hp, hn, hz⟩ := hh
  simp only at hp hn hz
  show Calls Tryz.prog 55 #[.agg #[.int .i64 vr, .int .i64 hint, .int .i64 schema, .int .u64 zt, .slice A pos.length c, .slice B neg.length d]] w _
  obtain ⟨o0, ho0, hs0⟩ : ∃ o : Obj, o = (.cells #[.int .i64 vr, .int .i64 hint, .int .i64 schema, .int .u64 zt, .slice A pos.length c, .slice B neg.length d] 25 (0, 0)) ∧ St w o ((w.alloc (.cells #[.int .i64 vr, .int .i64 hint, .int .i64 schema, .int .u64 zt, .slice A pos.length c, .slice B neg.length d] 25)).alloc (.cells #[.int .i64 0, .int .i64 0, .int .i64 0, .int .u64 0, .slice none 0 0, .slice none 0 0] 41)) := ⟨_, rfl, ⟨below_alloc (below_alloc (Below.refl _ _) _) _, (Below.heap_alloc (w.alloc (.cells #[.int .i64 vr, .int .i64 hint, .int .i64 schema, .int .u64 zt, .slice A pos.length c, .slice B neg.length d] 25)) (.cells #[.int .i64 0, .int .i64 0, .int .i64 0, .int .u64 0, .slice none 0 0, .slice none 0 0] 41) w.heap.size (blk_lt (blk_last w _))).trans (blk_last w _), ⟨_, rfl, by
    have := blk_last (w.alloc (.cells #[.int .i64 vr, .int .i64 hint, .int .i64 schema, .int .u64 zt, .slice A pos.length c, .slice B neg.length d] 25)) (.cells #[.int .i64 0, .int .i64 0, .int .i64 0, .int .u64 0, .slice none 0 0, .slice none 0 0] 41)
    rwa [show (w.alloc (.cells #[.int .i64 vr, .int .i64 hint, .int .i64 schema, .int .u64 zt, .slice A pos.length c, .slice B neg.length d] 25)).heap.size = w.heap.size + 1 from by simp] at this⟩⟩⟩
  have HSF : Hid (∀ W, St w (.cells #[.int .i64 vr, .int .i64 hint, .int .i64 schema, .int .u64 zt, .slice A pos.length c, .slice B neg.length d] 25 (0, 0)) W → (St w (.cells #[.int .i64 vr, .int .i64 hint, .int .i64 schema, .int .u64 zt, .slice A pos.length c, .slice B neg.length d] 25 (0, 0)) W ∧ W.cell? ⟨w.heap.size, 0, none⟩ = some (.int .i64 vr) ∧ W.cell? ⟨w.heap.size, 1, none⟩ = some (.int .i64 hint) ∧ W.cell? ⟨w.heap.size, 2, none⟩ = some (.int .i64 schema) ∧ W.cell? ⟨w.heap.size, 3, none⟩ = some (.int .u64 zt) ∧ W.cell? ⟨w.heap.size, 4, none⟩ = some (.slice A pos.length c) ∧ W.cell? ⟨w.heap.size, 5, none⟩ = some (.slice B neg.length d))) := Lib.hid (fun W h => ⟨h, obj_cell h.o rfl, obj_cell h.o rfl, obj_cell h.o rfl, obj_cell h.o rfl, obj_cell h.o rfl, obj_cell h.o rfl⟩)
  rw [← ho0] at HSF
  have HPN : Hid (∀ (A' : Option Addr) (c' : Nat) (l : List Sp) W, St w o0 W → Spl w A' c' l → Calls Tryz.prog 128 #[.slice A' l.length c'] W fun e w' =>
      ∃ v, e = .returned v ∧ OwSp 214 w' W.heap.size v l ∧ Below W.heap.size W w' ∧ St w o0 w') := Lib.hid (by
    intro A' c' l W hb hl
    refine (Law15A.spans_calls _ _ l W (hl.below hb.b).rd hl.len).mono ?_
    rintro e w' ⟨v, he, hw, hb'⟩
    exact ⟨v, he, hw, hb', hb.below hb'⟩)
  have HS0 := Lib.hid hs0
  have HZ := Lib.hid hz
  have HPS := Lib.hid hp
  have HNS := Lib.hid hn
  clear hp hn hz ho0 hs0
  go_enter Tryz.func55, Tryz.ntmps55
  go_wp2_with (fail)
  go_region_held3 (fun W => St w o0 W ∧ W.cell? ⟨w.heap.size, 0, none⟩ = some (.int .i64 vr) ∧ W.cell? ⟨w.heap.size, 1, none⟩ = some (.int .i64 hint) ∧ W.cell? ⟨w.heap.size, 2, none⟩ = some (.int .i64 schema) ∧ W.cell? ⟨w.heap.size, 3, none⟩ = some (.int .u64 zt) ∧ W.cell? ⟨w.heap.size, 4, none⟩ = some (.slice A pos.length c) ∧ W.cell? ⟨w.heap.size, 5, none⟩ = some (.slice B neg.length d))
    (first | (with_reducible exact HSF.out _ (St.drew HS0.out)) | (with_reducible exact HSF.out _ hst2) | (with_reducible exact HSF.out _ hst1) | (exact HSF.out _ (St.six hst2 _ _ _ _ _ _)))
    (first
    | (go_at_call 128; (with_reducible show Calls _ _ #[Value.slice A pos.length c] _ _); refine (HPN.out _ _ _ _ (And.left (by assumption)) HPS.out).mono ?_; rintro e w2 ⟨v1, rfl, ho1, hb1, hst1⟩; obtain ⟨A1, c1, rfl, -, -, -⟩ := ho1.reads; have hS1 := HSF.out _ hst1)
    | (go_at_call 128; refine (HPN.out _ _ _ _ (And.left (by assumption)) HNS.out).mono ?_; rintro e w3 ⟨v2, rfl, ho2, hb2, hst2⟩; obtain ⟨A2, c2, rfl, -, -, -⟩ := ho2.reads; have hS2 := HSF.out _ hst2; obtain ⟨u0, u1, u2, u3, u4, u5, ⟨f0, f1, f2, f3, f4, f5⟩, ⟨e0, e1, e2, e3, e4, e5⟩⟩ := hst2.free))
  have h6 := (St.six hst2 (.int .i64 vr) (.int .i64 hint) (.int .i64 schema) (.int .u64 zt) (.slice A1 pos.length c1) (.slice A2 neg.length c2)).b
  have hx := six_ch w3 (w.heap.size + 1) (.int .i64 vr) (.int .i64 hint) (.int .i64 schema) (.int .u64 zt) (.slice A1 pos.length c1) (.slice A2 neg.length c2)
  have hst1s := hst1.b.size
  have q1 := sps_any (ho1.below hb2) hx (fun k hk => by rw [hk]; simp)
  have q2 := sps_any ho2 hx (fun k hk => by rw [hk]; obtain ⟨cs, -, hz⟩ := hst1.z; exact blk_lt hz)
  have H6 := Lib.hid h6
  have Q1 := Lib.hid q1
  have Q2 := Lib.hid q2
  clear h6 hx q1 q2 ho1 ho2 hb1 hb2 hS1 hS2 hst1 hst2 hst1s
  go_wp2
  refine bodyPost_ret (v := .agg #[.int .i64 vr, .int .i64 hint, .int .i64 schema, .int .u64 zt, .slice A1 pos.length c1, .slice A2 neg.length c2]) (by rw [results_cell1 rfl]; go_simp) rfl ?_
  exact ⟨⟨A1, c1, A2, c2⟩, rfl, ⟨spl_any Q1.out HPS.out.len, spl_any Q2.out HNS.out.len, HZ.out⟩, H6.out⟩
end Go.Proofs.YtjfekjbmgckkcaaGreatDoor.Law15B
namespace Go.Proofs.YtjfekjbmgckkcaaGreatDoor.Law14B
open Go.RowKit Go.Proofs.YtjfekjbmgckkcaaGreatDoorW.PrintWords
open Go.Proofs.YtjfekjbmgckkcaaGreatDoor.Bits Go.Proofs.YtjfekjbmgckkcaaGreatDoor.Base Go.Proofs.YtjfekjbmgckkcaaGreatDoor.VarPure Go.Proofs.YtjfekjbmgckkcaaGreatDoor.VarbitA Go.Proofs.YtjfekjbmgckkcaaGreatDoor.VarbitD Go.Proofs.YtjfekjbmgckkcaaGreatDoor.VarKit Go.Proofs.YtjfekjbmgckkcaaGreatDoor.StreamA Go.Proofs.YtjfekjbmgckkcaaGreatDoor.SpanPure Go.Proofs.YtjfekjbmgckkcaaGreatDoor.SpanBase Go.Proofs.YtjfekjbmgckkcaaGreatDoor.FailAs Go.Proofs.YtjfekjbmgckkcaaGreatDoor.FailB Go.Proofs.YtjfekjbmgckkcaaGreatDoor.FailC Go.Proofs.YtjfekjbmgckkcaaGreatDoor.ThrPure Go.Proofs.YtjfekjbmgckkcaaGreatDoor.HeadA Go.Proofs.YtjfekjbmgckkcaaGreatDoor.HeadB Go.Proofs.YtjfekjbmgckkcaaGreatDoor.HeadC Go.Proofs.YtjfekjbmgckkcaaGreatDoor.HeadD Go.Proofs.YtjfekjbmgckkcaaGreatDoor.HeadPure Go.Proofs.YtjfekjbmgckkcaaGreatDoor.HeadE Go.Proofs.YtjfekjbmgckkcaaGreatDoor.HeadK
theorem spl_own {w : World} {base : Nat} {e : Nat} {A : Option Addr} {n c : Nat} {l : List Sp} (h : OwSp e w base (.slice A n c) l) (hl : l.length ≤ 1000000) : Spl w A c l := by
  obtain ⟨A', c', he, h1, h2, h3⟩ := h.reads
  injection he with e1 e2 e3
  subst e1 e3
  exact ⟨h3, hl, h1, h2⟩
theorem hdin_nil (w : World) (v i s : Int) (z : Nat) (hz : z < 18446744073709551616) : HdIn w ⟨v, i, s, z, [], []⟩ ⟨none, 0, none, 0⟩ :=
  ⟨spl_own (OwSp.nil 119 w 0) (Nat.zero_le _), spl_own (OwSp.nil 119 w 0) (Nat.zero_le _), hz⟩
end Go.Proofs.YtjfekjbmgckkcaaGreatDoor.Law14B
namespace Go.Proofs.YtjfekjbmgckkcaaGreatDoor.TimesPure
open Go.Proofs.YtjfekjbmgckkcaaGreatDoor.Bits Go.Proofs.YtjfekjbmgckkcaaGreatDoor.VarPure
def sub64 (a b : Nat) : Nat := (a + (18446744073709551616 - b)) % 18446744073709551616
theorem sub64_lt (a b : Nat) : sub64 a b < 18446744073709551616 := Nat.mod_lt _ (by decide)
def told (sg : Bool) (last step n v : Nat) : List Bool :=
  if n = 0 then (if sg then encS (i64 v) else encU v) else encS (i64 (sub64 (sub64 v last) step))
def stepTo (last n v : Nat) : Nat := if n = 0 then 0 else sub64 v last
theorem stepTo_lt (last n v : Nat) : stepTo last n v < 18446744073709551616 := by
  unfold stepTo
  split
  · decide
  · exact sub64_lt _ _
def lastOf (l : List Nat) : Nat := l.getLast?.getD 0
def stepOf (l : List Nat) : Nat := if l.length < 2 then 0 else sub64 (l.getD (l.length - 1) 0) (l.getD (l.length - 2) 0)
theorem lastOf_snoc (l : List Nat) (v : Nat) : lastOf (l ++ [v]) = v := by simp [lastOf]
theorem stepOf_snoc (l : List Nat) (v : Nat) : stepOf (l ++ [v]) = stepTo (lastOf l) l.length v := by
  unfold stepOf stepTo lastOf
  rcases Nat.eq_zero_or_pos l.length with h | h
  · have : l = [] := List.length_eq_zero_iff.1 h
    subst this
    rw [if_pos (by simp), if_pos List.length_nil]
  · rw [if_neg (by rw [List.length_append]; simp; omega), if_neg (by omega), List.length_append, List.length_singleton]
    congr 1
    · simp [List.getD_eq_getElem?_getD]
    · rw [show l.length + 1 - 2 = l.length - 1 from by omega, List.getD_eq_getElem?_getD, List.getElem?_append_left (by omega), List.getLast?_eq_getElem?]
def toldL (sg : Bool) (l : List Nat) (v : Nat) : List Bool := told sg (lastOf l) (stepOf l) l.length v
end Go.Proofs.YtjfekjbmgckkcaaGreatDoor.TimesPure
namespace Go.Proofs.YtjfekjbmgckkcaaGreatDoor.XorPure
open Go.Proofs.YtjfekjbmgckkcaaGreatDoor.Bits
def lz (x : Nat) : Nat := 64 - Lib.bitLen x
def tz (x : Nat) : Nat := Lib.ctz 64 x
theorem bitLen_up (x : Nat) (h : x < 18446744073709551616) : x < 2 ^ Lib.bitLen x := by
  rcases Nat.lt_or_ge x (2 ^ Lib.bitLen x) with h1 | h1
  · exact h1
  · have h2 := Lib.bitLen_shift _ x h1 h
    have h3 : x / 2 ^ Lib.bitLen x ≠ 0 := by
      have hp : 0 < 2 ^ Lib.bitLen x := Nat.two_pow_pos _
      have := Nat.div_pos h1 hp
      omega
    have h4 := Lib.bitLen_half (x / 2 ^ Lib.bitLen x) h3 (Nat.lt_of_le_of_lt (Nat.div_le_self _ _) h)
    omega
theorem bitLen64 (x : Nat) (h : x < 18446744073709551616) : Lib.bitLen x ≤ 64 := Lib.bitLen_le x 64 (Nat.le_refl _) h
theorem lz_le (x : Nat) : lz x ≤ 64 := Nat.sub_le _ _
theorem tz_spec (x : Nat) (h0 : x ≠ 0) (h : x < 18446744073709551616) : tz x < 64 ∧ x.testBit (tz x) = true ∧ ∀ j, j < tz x → x.testBit j = false := by
  obtain ⟨m, hm, hl⟩ := Lib.ctzFrom_spec 64 x (by omega) h
  have ht : tz x = Lib.ctzFrom 64 x := by unfold tz Lib.ctz; rw [if_neg h0]
  rw [ht]
  generalize Lib.ctzFrom 64 x = c at hm hl ⊢
  refine ⟨hl, ?_, ?_⟩
  · rw [hm, Nat.testBit_two_pow_mul]
    simp [Nat.testBit_zero]
  · intro j hj
    rw [hm, Nat.testBit_two_pow_mul]
    simp
    omega
theorem lz_tz (x : Nat) (h0 : x ≠ 0) (h : x < 18446744073709551616) : lz x + tz x < 64 := by
  obtain ⟨h1, h2, -⟩ := tz_spec x h0 h
  have h3 := bitLen_up x h
  have h4 : tz x < Lib.bitLen x := by
    rcases Nat.lt_or_ge (tz x) (Lib.bitLen x) with h5 | h5
    · exact h5
    · have := Nat.testBit_lt_two_pow (Nat.lt_of_lt_of_le h3 (Nat.pow_le_pow_right (by decide) h5))
      rw [this] at h2
      cases h2
  have := bitLen64 x h
  unfold lz
  omega
structure XR where
  last : Nat
  n : Nat
  ahead : Nat
  len : Nat
def xr0 : XR := ⟨0, 0, 0, 0⟩
structure OkX (x : XR) : Prop where
  last : x.last < 18446744073709551616
  ahead : x.ahead ≤ 31
  len : x.ahead + x.len ≤ 64
theorem ok0 : OkX xr0 := ⟨by decide, by decide, by decide⟩
def winA (d : Nat) : Nat := min (lz d) 31
def winL (d : Nat) : Nat := 64 - winA d - tz d
def holds (a b d : Nat) : Bool := decide (0 < b) && (decide (a ≤ lz d) && decide (64 - a - b ≤ tz d))
def putX (x : XR) (v : Nat) : XR :=
  if x.n = 0 then ⟨v, 1, x.ahead, x.len⟩
  else if v = x.last then ⟨v, x.n + 1, x.ahead, x.len⟩
  else if holds x.ahead x.len (v ^^^ x.last) then ⟨v, x.n + 1, x.ahead, x.len⟩
  else ⟨v, x.n + 1, winA (v ^^^ x.last), winL (v ^^^ x.last)⟩
def toldX (x : XR) (v : Nat) : List Bool :=
  if x.n = 0 then nb v 64
  else if v = x.last then [false]
  else if holds x.ahead x.len (v ^^^ x.last) then [true, false] ++ nb ((v ^^^ x.last) >>> (64 - x.ahead - x.len)) x.len
  else [true, true] ++ nb (winA (v ^^^ x.last)) 5 ++ nb (winL (v ^^^ x.last)) 6 ++ nb ((v ^^^ x.last) >>> (64 - winA (v ^^^ x.last) - winL (v ^^^ x.last))) (winL (v ^^^ x.last))
theorem xor_lt {a b : Nat} (ha : a < 18446744073709551616) (hb : b < 18446744073709551616) : a ^^^ b < 18446744073709551616 := Nat.xor_lt_two_pow (n := 64) ha hb
theorem xor_ne {a b : Nat} (h : a ≠ b) : a ^^^ b ≠ 0 := fun h0 => h (by
  have h1 : (a ^^^ b) ^^^ b = a := by rw [Nat.xor_assoc, Nat.xor_self, Nat.xor_zero]
  rw [h0, Nat.zero_xor] at h1
  exact h1.symm)
theorem win_in (d : Nat) (h0 : d ≠ 0) (h : d < 18446744073709551616) : winA d ≤ 31 ∧ 0 < winL d ∧ winA d + winL d ≤ 64 ∧ winL d ≤ 64 ∧ winA d + winL d + tz d = 64 := by
  have := lz_tz d h0 h
  unfold winL winA
  omega
theorem putX_ok {x : XR} {v : Nat} (h : OkX x) (hv : v < 18446744073709551616) : OkX (putX x v) := by
  unfold putX
  split
  · exact ⟨hv, h.ahead, h.len⟩
  · split
    · exact ⟨hv, h.ahead, h.len⟩
    · rename_i _ hne
      split
      · exact ⟨hv, h.ahead, h.len⟩
      · obtain ⟨h1, -, h3, -⟩ := win_in _ (xor_ne hne) (xor_lt hv h.last)
        exact ⟨hv, h1, h3⟩
theorem putX_n (x : XR) (v : Nat) : (putX x v).n = x.n + 1 := by
  unfold putX
  split
  · rename_i h; rw [h]
  · split
    · rfl
    · split <;> rfl
theorem toldX_le {x : XR} {v : Nat} (h : OkX x) (hv : v < 18446744073709551616) : (toldX x v).length ≤ 77 := by
  unfold toldX
  split
  · rw [nb_length]; decide
  · split
    · decide
    · rename_i _ hne
      have h1 := h.len
      obtain ⟨-, -, -, h4, -⟩ := win_in _ (xor_ne hne) (xor_lt hv h.last)
      split
      · simp only [List.length_append, nb_length, List.length_cons, List.length_nil]; omega
      · simp only [List.length_append, nb_length, List.length_cons, List.length_nil]; omega
def colX (l : List Nat) : XR := l.foldl putX xr0
theorem colX_snoc (l : List Nat) (v : Nat) : colX (l ++ [v]) = putX (colX l) v := by simp [colX]
theorem colX_n : ∀ l : List Nat, (colX l).n = l.length := snoc_ind rfl fun l v ih => by rw [colX_snoc, putX_n, ih, List.length_append, List.length_singleton]
theorem colX_ok : ∀ l : List Nat, (∀ v ∈ l, v < 18446744073709551616) → OkX (colX l) := snoc_ind (fun _ => ok0) fun l v ih h => by
  rw [colX_snoc]
  exact putX_ok (ih fun u hu => h u (List.mem_append_left _ hu)) (h v (List.mem_append_right _ List.mem_cons_self))
end Go.Proofs.YtjfekjbmgckkcaaGreatDoor.XorPure
namespace Go.Proofs.YtjfekjbmgckkcaaGreatDoor.CkPure
open Go.Proofs.YtjfekjbmgckkcaaGreatDoor.Bits Go.Proofs.YtjfekjbmgckkcaaGreatDoor.VarPure Go.Proofs.YtjfekjbmgckkcaaGreatDoor.SpanPure Go.Proofs.YtjfekjbmgckkcaaGreatDoor.TimesPure Go.Proofs.YtjfekjbmgckkcaaGreatDoor.XorPure Go.Proofs.YtjfekjbmgckkcaaGreatDoor.HeadA Go.Proofs.YtjfekjbmgckkcaaGreatDoor.HeadB Go.Proofs.YtjfekjbmgckkcaaGreatDoor.HeadPure
structure IH where
  schema : Int
  zero : Nat
  zc : Nat
  cnt : Nat
  sum : Nat
  pos : List Sp
  neg : List Sp
  pd : List Int
  nd : List Int
structure IS where
  t : Int
  h : IH
def inf : Nat := 9218868437227405312
def pHist : ByteArray := ⟨#[104, 105, 115, 116]⟩
def pTime : ByteArray := ⟨#[116, 105, 109, 101]⟩
def sumAt (l : List Int) (k : Nat) : Int := (l.take k).sum
theorem sumAt_succ (l : List Int) (k : Nat) (h : k < l.length) : sumAt l (k + 1) = sumAt l k + l[k] := by
  unfold sumAt
  rw [List.take_succ_eq_append_getElem h, List.sum_append]
  simp
def cumsTo (l : List Int) (k : Nat) : List Int := (List.range k).map fun j => sumAt l (j + 1)
theorem cumsTo_succ (l : List Int) (k : Nat) : cumsTo l (k + 1) = cumsTo l k ++ [sumAt l (k + 1)] := by simp [cumsTo, List.range_succ]
theorem cumsTo_length (l : List Int) (k : Nat) : (cumsTo l k).length = k := by simp [cumsTo]
def cums (l : List Int) : List Int := cumsTo l l.length
theorem cums_length (l : List Int) : (cums l).length = l.length := cumsTo_length _ _
def in64 (v : Int) : Bool := decide (-9223372036854775808 ≤ v ∧ v ≤ 9223372036854775807)
def fitTo (l : List Int) (k : Nat) : Bool := (cumsTo l k).all in64
theorem fitTo_succ (l : List Int) (k : Nat) : fitTo l (k + 1) = (fitTo l k && in64 (sumAt l (k + 1))) := by simp [fitTo, cumsTo_succ]
theorem cumsTo_get (l : List Int) (k j : Nat) (h : j < (cumsTo l k).length) : (cumsTo l k)[j] = sumAt l (j + 1) := by simp [cumsTo]
theorem fitTo_at {l : List Int} {k j : Nat} (h : fitTo l k = true) (hj : j ≤ k) : in64 (sumAt l j) = true := by
  rcases Nat.eq_zero_or_pos j with h0 | h0
  · subst h0; rfl
  · unfold fitTo at h
    rw [List.all_eq_true] at h
    have := h (sumAt l j) (by
      rw [List.mem_iff_getElem]
      refine ⟨j - 1, by rw [cumsTo_length]; omega, ?_⟩
      rw [cumsTo_get, show j - 1 + 1 = j from by omega])
    exact this
theorem fitTo_no {l : List Int} {k j : Nat} (h : in64 (sumAt l j) = false) (hj : j ≤ k) : fitTo l k = false := by
  cases hf : fitTo l k with
  | false => rfl
  | true => rw [fitTo_at hf hj] at h; cases h
def anyNeg (l : List Int) : Bool := l.any fun v => decide (v < 0)
def sideI (l : List Sp) (d : List Int) : Nat := if chk l ≠ 0 then chk l else if (places l).length ≠ d.length then 23 else if fitTo d d.length = false then 28 else if anyNeg (cums d) then 22 else 0
def nan (v : Nat) : Bool := decide (inf < v % 9223372036854775808)
def total (h : IH) : Int := h.zc + (cums h.pd).sum + (cums h.nd).sum
def fitsI (h : IH) : Nat := if (h.cnt : Int) < total h then 22 else if total h < h.cnt ∧ nan h.sum = false then 22 else 0
def errI (h : IH) : Nat :=
  if h.schema < -4 ∨ 8 < h.schema then 21
  else if inf ≤ h.zero then 11
  else if sideI h.pos h.pd ≠ 0 then sideI h.pos h.pd
  else if sideI h.neg h.nd ≠ 0 then sideI h.neg h.nd
  else fitsI h
theorem sideI_zero {l : List Sp} {d : List Int} (h : sideI l d = 0) : chk l = 0 ∧ (places l).length = d.length ∧ fitTo d d.length = true ∧ anyNeg (cums d) = false := by
  unfold sideI at h
  split at h
  · rename_i h1; omega
  · rename_i h1
    split at h
    · cases h
    · rename_i h2
      split at h
      · cases h
      · rename_i h3
        split at h
        · cases h
        · rename_i h4
          exact ⟨by omega, by omega, by simpa using h3, by simpa using h4⟩
theorem errI_zero {h : IH} (he : errI h = 0) : -4 ≤ h.schema ∧ h.schema ≤ 8 ∧ h.zero < inf ∧ sideI h.pos h.pd = 0 ∧ sideI h.neg h.nd = 0 ∧ fitsI h = 0 := by
  unfold errI at he
  split at he
  · cases he
  · rename_i h1
    split at he
    · cases he
    · rename_i h2
      split at he
      · rename_i h4; omega
      · rename_i h4
        split at he
        · rename_i h5; omega
        · rename_i h5
          exact ⟨by omega, by omega, by omega, by omega, by omega, he⟩
def vals (h : IH) : List Nat := [h.cnt, h.zc, h.sum] ++ (h.pd ++ h.nd).map u64
theorem vals_length (h : IH) : (vals h).length = 3 + h.pd.length + h.nd.length := by simp [vals]; omega
def ts (l : List IS) : List Nat := l.map fun s => u64 s.t
theorem ts_length (l : List IS) : (ts l).length = l.length := by simp [ts]
theorem ts_snoc (l : List IS) (s : IS) : ts (l ++ [s]) = ts l ++ [u64 s.t] := by simp [ts]
def lastT (l : List IS) : Int := match l.getLast? with | none => 0 | some s => s.t
def wrongI (q : Hd) (l : List IS) (s : IS) : Nat × ByteArray :=
  if errI s.h ≠ 0 then (errI s.h, pHist)
  else if s.h.schema ≠ q.schema then (21, pSchema)
  else if s.h.zero ≠ q.zero then (11, pZero)
  else if places s.h.pos ≠ places q.pos then (23, pPos)
  else if places s.h.neg ≠ places q.neg then (23, pNeg)
  else if 0 < l.length ∧ s.t ≤ lastT l then (24, pTime)
  else (0, ⟨#[]⟩)
theorem wrong_zero {q : Hd} {l : List IS} {s : IS} (h : (wrongI q l s).1 = 0) : errI s.h = 0 ∧ s.h.schema = q.schema ∧ s.h.zero = q.zero ∧ places s.h.pos = places q.pos ∧ places s.h.neg = places q.neg ∧ (0 < l.length → lastT l < s.t) := by
  unfold wrongI at h
  split at h
  · rename_i h1; exact absurd h h1
  · rename_i h1
    split at h
    · cases h
    · rename_i h2
      split at h
      · cases h
      · rename_i h3
        split at h
        · cases h
        · rename_i h4
          split at h
          · cases h
          · rename_i h5
            split at h
            · cases h
            · rename_i h6
              exact ⟨by omega, Decidable.not_not.1 h2, Decidable.not_not.1 h3, Decidable.not_not.1 h4, Decidable.not_not.1 h5, fun h7 => by omega⟩
def Good (q : Hd) (l : List IS) : Prop := ∀ (k : Nat) (h : k < l.length), (wrongI q (l.take k) l[k]).1 = 0
theorem good_nil (q : Hd) : Good q [] := fun k h => absurd h (by simp)
theorem good_snoc {q : Hd} {l : List IS} {s : IS} (h : Good q l) (hs : (wrongI q l s).1 = 0) : Good q (l ++ [s]) := by
  intro k hk
  rw [List.length_append, List.length_singleton] at hk
  rcases Nat.lt_or_ge k l.length with h1 | h1
  · rw [List.getElem_append_left h1, List.take_append_of_le_length (by omega)]
    exact h k h1
  · obtain rfl : k = l.length := by omega
    rw [List.take_left' rfl, List.getElem_append_right (Nat.le_refl _)]
    simpa using hs
def width (q : Hd) : Nat := 3 + (places q.pos).length + (places q.neg).length
theorem wrong_width {q : Hd} {l : List IS} {s : IS} (h : (wrongI q l s).1 = 0) : (vals s.h).length = width q := by
  obtain ⟨h1, -, -, h4, h5, -⟩ := wrong_zero h
  obtain ⟨-, -, -, h6, h7, -⟩ := errI_zero h1
  rw [vals_length, width, ← h4, ← h5, (sideI_zero h6).2.1, (sideI_zero h7).2.1]
def col (l : List IS) (k : Nat) : List Nat := l.map fun s => (vals s.h).getD k 0
theorem col_snoc (l : List IS) (s : IS) (k : Nat) : col (l ++ [s]) k = col l k ++ [(vals s.h).getD k 0] := by simp [col]
theorem col_length (l : List IS) (k : Nat) : (col l k).length = l.length := by simp [col]
def colB (l : List IS) (s : IS) (k : Nat) : List Bool := if k < 2 then toldL false (col l k) ((vals s.h).getD k 0) else if k = 2 then toldX (colX (col l k)) ((vals s.h).getD k 0) else toldL true (col l k) ((vals s.h).getD k 0)
def colsB (l : List IS) (s : IS) (n : Nat) : List Bool := (List.range n).flatMap (colB l s)
theorem colsB_zero (l : List IS) (s : IS) : colsB l s 0 = [] := rfl
theorem colsB_succ (l : List IS) (s : IS) (n : Nat) : colsB l s (n + 1) = colsB l s n ++ colB l s n := by simp [colsB, List.range_succ]
def lastB (l : List IS) (s : IS) : List Bool := toldL true (ts l) (u64 s.t) ++ colsB l s (vals s.h).length
def allB : List IS → List IS → List Bool
  | _, [] => []
  | l, s :: t => lastB l s ++ allB (l ++ [s]) t
theorem allB_snoc : ∀ (t l : List IS) (s : IS), allB l (t ++ [s]) = allB l t ++ lastB (l ++ t) s
  | [], l, s => by simp [allB]
  | u :: t, l, s => by
    simp only [List.cons_append, allB, allB_snoc t (l ++ [u]) s, List.append_assoc]
    rfl
def bitsB (l : List IS) : List Bool := allB [] l
theorem bitsB_nil : bitsB [] = [] := rfl
theorem bitsB_snoc (l : List IS) (s : IS) : bitsB (l ++ [s]) = bitsB l ++ lastB l s := allB_snoc l [] s
structure In64H (h : IH) : Prop where
  zero : h.zero < 18446744073709551616
  zc : h.zc < 18446744073709551616
  cnt : h.cnt < 18446744073709551616
  sum : h.sum < 18446744073709551616
  pd : ∀ v ∈ h.pd, -9223372036854775808 ≤ v ∧ v ≤ 9223372036854775807
  nd : ∀ v ∈ h.nd, -9223372036854775808 ≤ v ∧ v ≤ 9223372036854775807
structure In64S (s : IS) : Prop where
  lo : -9223372036854775808 ≤ s.t
  hi : s.t ≤ 9223372036854775807
  h : In64H s.h
theorem vals64 {h : IH} (x : In64H h) : ∀ v ∈ vals h, v < 18446744073709551616 := by
  intro v hv
  simp only [vals, List.mem_append, List.mem_cons, List.not_mem_nil, or_false, List.mem_map] at hv
  rcases hv with (rfl | rfl | rfl) | ⟨a, -, rfl⟩
  · exact x.cnt
  · exact x.zc
  · exact x.sum
  · exact u64_lt a
theorem getD64 {l : List Nat} (h : ∀ v ∈ l, v < 18446744073709551616) (k : Nat) : l.getD k 0 < 18446744073709551616 := by
  rcases Nat.lt_or_ge k l.length with h1 | h1
  · rw [List.getD_eq_getElem?_getD, List.getElem?_eq_getElem h1]; exact h _ (List.getElem_mem _)
  · rw [List.getD_eq_getElem?_getD, List.getElem?_eq_none h1]; decide
theorem col64 {l : List IS} (h : ∀ s ∈ l, In64S s) (k : Nat) : ∀ v ∈ col l k, v < 18446744073709551616 := by
  intro v hv
  obtain ⟨s, hs, rfl⟩ := List.mem_map.1 hv
  exact getD64 (vals64 (h s hs).h) k
theorem toldL_le (sg : Bool) (l : List Nat) (v : Nat) : (toldL sg l v).length ≤ 72 := by
  unfold toldL told
  split
  · split
    · exact encS_le _
    · exact encU_le _
  · exact encS_le _
theorem colB_le {l : List IS} {s : IS} (h : ∀ s ∈ l, In64S s) (hs : In64S s) (k : Nat) : (colB l s k).length ≤ 77 := by
  unfold colB
  split
  · exact Nat.le_trans (toldL_le _ _ _) (by decide)
  · split
    · exact toldX_le (colX_ok _ (col64 h k)) (getD64 (vals64 hs.h) k)
    · exact Nat.le_trans (toldL_le _ _ _) (by decide)
theorem colsB_le {l : List IS} {s : IS} (h : ∀ s ∈ l, In64S s) (hs : In64S s) (n : Nat) : (colsB l s n).length ≤ 77 * n := by
  induction n with
  | zero => exact Nat.le_refl _
  | succ n ih => rw [colsB_succ, List.length_append]; have := colB_le h hs n; omega
theorem lastB_le {l : List IS} {s : IS} (h : ∀ s ∈ l, In64S s) (hs : In64S s) : (lastB l s).length ≤ 72 + 77 * (vals s.h).length := by
  unfold lastB
  rw [List.length_append]
  have h1 := toldL_le true (ts l) (u64 s.t)
  have h2 := colsB_le h hs (vals s.h).length
  omega
end Go.Proofs.YtjfekjbmgckkcaaGreatDoor.CkPure
namespace Go.Proofs
open Go.Shelf
def Tryz.lays134_ren : Go.Shelf.Ren := ⟨fun | 134 => 217 | 129 => 236 | n => n, fun | 53 => 22 | 3 => 3 | 4 => 4 | 46 => 124 | 5 => 5 | 9 => 9 | n => n, fun | n => n⟩
theorem Tryz.lays134 : Go.Proofs.Lays.n134 Tryz.prog Tryz.lays134_ren := {
  mixed := by kernel_rfl
  f129 := Tryz.func236.trans (congrArg some (by kernel_rfl))
  f134 := Tryz.func217.trans (congrArg some (by kernel_rfl))
  t3 := Tryz.underlying3
  a3 := Tryz.isAgg3
  z3 := Tryz.sizeOf3
  v3 := Tryz.zeroValue3
  t4 := Tryz.underlying4
  a4 := Tryz.isAgg4
  z4 := Tryz.sizeOf4
  v4 := Tryz.zeroValue4
  t5 := Tryz.underlying5
  a5 := Tryz.isAgg5
  z5 := Tryz.sizeOf5
  v5 := Tryz.zeroValue5
  t9 := Tryz.underlying9
  a9 := Tryz.isAgg9
  z9 := Tryz.sizeOf9
  v9 := Tryz.zeroValue9
  t46 := Tryz.underlying124
  a46 := Tryz.isAgg124
  z46 := Tryz.sizeOf124
  v46 := Tryz.zeroValue124
  t53 := Tryz.underlying22
  a53 := Tryz.isAgg22
  z53 := Tryz.sizeOf22
  v53 := Tryz.zeroValue22 }
theorem Tryz.bits_LeadingZeros64 (x : Int) (w : World) (h0 : 0 ≤ x) (h1 : x ≤ 18446744073709551615) :
    Calls Tryz.prog 217 #[.int .u64 x] w fun e w' => e = .returned (.int .i64 (64 - (Lib.bitLen x.toNat : Int))) ∧ w' = w := Any.bits_LeadingZeros64 Tryz.lays134 x w h0 h1
def Tryz.lays111_ren : Go.Shelf.Ren := ⟨fun | 111 => 214 | n => n, fun | 28 => 174 | 3 => 3 | 4 => 4 | 0 => 0 | n => n, fun | n => n⟩
theorem Tryz.lays111 : Go.Proofs.Lays.n111 Tryz.prog Tryz.lays111_ren := {
  mixed := by kernel_rfl
  f111 := Tryz.func214.trans (congrArg some (by kernel_rfl))
  t0 := Tryz.underlying0
  a0 := Tryz.isAgg0
  z0 := Tryz.sizeOf0
  v0 := Tryz.zeroValue0
  t3 := Tryz.underlying3
  a3 := Tryz.isAgg3
  z3 := Tryz.sizeOf3
  v3 := Tryz.zeroValue3
  t4 := Tryz.underlying4
  a4 := Tryz.isAgg4
  z4 := Tryz.sizeOf4
  v4 := Tryz.zeroValue4
  t28 := Tryz.underlying174
  a28 := Tryz.isAgg174
  z28 := Tryz.sizeOf174
  v28 := Tryz.zeroValue174 }
open Go.RowKit Go.Lib in
theorem Tryz.slices_Equal_int (b1 o1 n c b2 o2 m d : Nat) (xs ys : List Int) (w : World) (hx : n ≤ xs.length) (hy : m ≤ ys.length) (hbig : n ≤ 9223372036854775807) (hbig2 : m ≤ 9223372036854775807) (hc1 : ∀ j, j < xs.length → w.cell? ⟨b1, o1 + j, none⟩ = some (.int .i64 (xs.getD j 0))) (hc2 : ∀ j, j < ys.length → w.cell? ⟨b2, o2 + j, none⟩ = some (.int .i64 (ys.getD j 0))) :
    Calls Tryz.prog 214 #[.slice (some ⟨b1, o1, none⟩) n c, .slice (some ⟨b2, o2, none⟩) m d] w fun e w' => e = .returned (.bool (xs.take n == ys.take m)) ∧ ∃ q, w' = w.drewN q := Any.slices_Equal_int Tryz.lays111 b1 o1 n c b2 o2 m d xs ys w hx hy hbig hbig2 hc1 hc2
open Go.RowKit Go.Lib in
theorem Tryz.slices_Equal_int_empty (a1 a2 : Option Addr) (c m d : Nat) (w : World) (hbig2 : m ≤ 9223372036854775807) :
    Calls Tryz.prog 214 #[.slice a1 0 c, .slice a2 m d] w fun e w' => e = .returned (.bool (decide (m = 0))) ∧ w' = w := Any.slices_Equal_int_empty Tryz.lays111 a1 a2 c m d w hbig2
open Go.RowKit Go.Lib in
theorem Tryz.slices_Equal_int_lens (a1 a2 : Option Addr) (n c m d : Nat) (w : World) (hnm : n ≠ m) :
    Calls Tryz.prog 214 #[.slice a1 n c, .slice a2 m d] w fun e w' => e = .returned (.bool false) ∧ w' = w := Any.slices_Equal_int_lens Tryz.lays111 a1 a2 n c m d w hnm
end Go.Proofs
namespace Go.Proofs.YtjfekjbmgckkcaaGreatDoor.XorA
open Go.RowKit Go.Proofs.YtjfekjbmgckkcaaGreatDoorW.PrintWords
open Go.Proofs.YtjfekjbmgckkcaaGreatDoor.Bits Go.Proofs.YtjfekjbmgckkcaaGreatDoor.Base Go.Proofs.YtjfekjbmgckkcaaGreatDoor.StreamA Go.Proofs.YtjfekjbmgckkcaaGreatDoor.XorPure Go.Proofs.YtjfekjbmgckkcaaGreatDoor.Ref12
def Tz (w : World) : Prop := ∀ j, j < 64 → w.cell? ⟨2, j, none⟩ = some (.int .u8 ((Lib.deBruijn64tab.getD j 0 : Nat) : Int))
theorem Tz.below {w w1 : World} (h : Tz w) (hb : Below w.heap.size w w1) : Tz w1 := fun j hj => pw_cell_below hb (h j hj)
theorem Tz.ch {S : Nat → Prop} {w w1 : World} (h : Tz w) (hc : Ch S w w1) (hs : ¬ S 2) : Tz w1 := fun j hj => hc.cell (h j hj) hs
theorem Tz.lt {w : World} (h : Tz w) : 2 < w.heap.size := World.block_lt_of_cell? w _ (h 0 (by decide))
theorem tz64_key (x a : Nat) (hx : x < 18446744073709551616) (hx0 : x ≠ 0) (hlow : x &&& (18446744073709551616 - x) = a) :
    IntKind.u64.wrap (Go.bits BinOp.and IntKind.u64 (x : Int) (IntKind.u64.wrap (-(x : Int))) * 285870213051353865) / 288230376151711744 = ((a * 285870213051353865 % 18446744073709551616 / 288230376151711744 : Nat) : Int) := by
  have e1 : IntKind.u64.wrap (-(x : Int)) = ((18446744073709551616 - x : Nat) : Int) := by rw [IntKind.wrap_u64]; omega
  rw [e1, u64_and_nat x _ hx (by omega), hlow, IntKind.wrap_u64]
  omega
theorem tz_core (x k idx : Nat) (w : World) (hx0 : ((x : Int) == 0) = false)
    (key : IntKind.u64.wrap (Go.bits BinOp.and IntKind.u64 (x : Int) (IntKind.u64.wrap (-(x : Int))) * 285870213051353865) / 288230376151711744 = (idx : Int))
    (hi : idx < 64) (hk : k < 64) (hcell : w.cell? ⟨2, idx, none⟩ = some (.int .u8 k)) :
    Calls Tryz.prog 218 #[.int .u64 x] w fun e w' => e = .returned (.int .i64 k) ∧ w' = w := by
  go_enter Tryz.func218, Tryz.ntmps218
  go_wp2_with (simp only [key])
  go_ret
  exact ⟨rfl, rfl⟩
theorem tz_calls (x : Nat) (w : World) (hx : x < 18446744073709551616) (hx0 : x ≠ 0) (hT : Tz w) :
    Calls Tryz.prog 218 #[.int .u64 x] w fun e w' => e = .returned (.int .i64 (tz x)) ∧ w = w' := by
  obtain ⟨hlow, hk⟩ := Lib.lowest_bit 64 x hx0 hx
  obtain ⟨hi, htab⟩ := Lib.deBruijn64_at _ hk
  have hcell := hT _ hi
  rw [htab] at hcell
  refine (tz_core x _ _ w (by simp; omega) (tz64_key x _ hx hx0 hlow) hi hk hcell).mono ?_
  rintro e w' ⟨rfl, rfl⟩
  exact ⟨rfl, rfl⟩
theorem lz_calls (x : Nat) (w : World) (hx : x < 18446744073709551616) :
    Calls Tryz.prog 217 #[.int .u64 x] w fun e w' => e = .returned (.int .i64 (lz x)) ∧ w = w' := by
  refine (Tryz.bits_LeadingZeros64 x w (by omega) (by omega)).mono ?_
  rintro e w' ⟨rfl, rfl⟩
  have := bitLen64 x hx
  rw [Int.toNat_natCast, show (64 : Int) - (Lib.bitLen x : Int) = ((lz x : Nat) : Int) from by unfold lz; omega]
  exact ⟨rfl, rfl⟩
theorem q_same {P : Program} {f : Nat} {args : Array Value} {w : World} {n : Nat} {v : Value} (h : Calls P f args (w.drewN n) fun e w' => e = .returned v ∧ w.drewN n = w') :
    Calls P f args (w.drewN n) fun e w'' => e = .returned v ∧ ∃ m, w'' = w.drewN m := h.mono fun _ _ ⟨he, hm⟩ => ⟨he, n, hm.symm⟩
set_option maxHeartbeats 800000 in
theorem of_calls (d : Nat) (w : World) (hd : d < 18446744073709551616) (h0 : d ≠ 0) (hT : Tz w) :
    Calls Tryz.prog 177 #[.int .u64 d] w fun e w' => e = .returned (.agg #[.int .i64 (winA d), .int .i64 (winL d)]) ∧ Below w.heap.size w w' := by
  have HL := Lib.hid (fun W => lz_calls d W hd)
  have HZ := Lib.hid (fun W (h : Below w.heap.size w W) => tz_calls d W hd h0 (hT.below h))
  have h1 := win_in d h0 hd
  have h2 : winA d = min (lz d) 31 := rfl
  have h3 := lz_le d
  obtain ⟨a, ha⟩ : ∃ a, a = winA d := ⟨_, rfl⟩
  obtain ⟨n, hn⟩ : ∃ n, n = winL d := ⟨_, rfl⟩
  obtain ⟨z, hz⟩ : ∃ z, z = tz d := ⟨_, rfl⟩
  obtain ⟨y, hy⟩ : ∃ y, y = lz d := ⟨_, rfl⟩
  rw [← ha, ← hn]
  rw [← hy] at HL
  rw [← hz] at HZ
  rw [← ha, ← hn, ← hz] at h1
  rw [← ha, ← hy] at h2
  rw [← hy] at h3
  have hmin : min (y : Int) 31 = (a : Int) := by omega
  have hw : (64 : Int) - (a : Int) - (z : Int) = (n : Int) := by omega
  have HW := Lib.hid hw
  obtain ⟨m1, m2, m3, m4, m5⟩ := h1
  have hz64 : z ≤ 64 := by omega
  have ha64 : a ≤ 31 := m1
  clear ha hn hz hy h0 hT h2 hw m1 m2 m3 m4 m5
  have hal := below_alloc (Below.refl w.heap.size w) (.cells #[.int .i64 0, .int .i64 0] 230)
  have HAL := Lib.hid hal
  clear hal
  go_enter Tryz.func177, Tryz.ntmps177
  go_wp2_with (first
    | (go_at_call 217; refine (HL.out _).mono ?_; rintro e w' ⟨rfl, rfl⟩)
    | (go_at_call 218; refine (HZ.out _ HAL.out).mono ?_; rintro e w' ⟨rfl, rfl⟩))
  rw [HW.out]
  refine bodyPost_ret (v := .agg #[.int .i64 a, .int .i64 n]) (by rw [results_cell1 rfl]; go_simp) rfl ?_
  exact ⟨rfl, below_alloc (Below.refl _ _) _⟩
set_option maxHeartbeats 400000 in
theorem behind_calls (a b : Nat) (w : World) (h : a + b ≤ 64) :
    Calls Tryz.prog 179 #[.agg #[.int .i64 a, .int .i64 b]] w fun e w' => e = .returned (.int .i64 (64 - a - b : Nat)) ∧ Below w.heap.size w w' := by
  have e1 : (64 : Int) - (a : Int) - (b : Int) = ((64 - a - b : Nat) : Int) := by omega
  have H1 := Lib.hid e1
  clear e1
  go_enter Tryz.func179, Tryz.ntmps179
  go_wp2
  rw [H1.out]
  go_ret
  exact ⟨rfl, below_alloc (Below.refl _ _) _⟩
set_option maxHeartbeats 1600000 in
theorem holds_calls (a b d : Nat) (w : World) (h : a + b ≤ 64) (hd : d < 18446744073709551616) (h0 : d ≠ 0) (hT : Tz w) :
    Calls Tryz.prog 176 #[.agg #[.int .i64 a, .int .i64 b], .int .u64 d] w fun e w' => e = .returned (.bool (holds a b d)) ∧ Below w.heap.size w w' := by
  have HL := Lib.hid (fun W => lz_calls d W hd)
  have HZ := Lib.hid (fun W (h : Below w.heap.size w W) => tz_calls d W hd h0 (hT.below h))
  have HBH := Lib.hid (fun W => behind_calls a b W h)
  have HHH := Lib.hid (show holds a b d = (decide (0 < b) && (decide (a ≤ lz d) && decide (64 - a - b ≤ tz d))) from rfl)
  obtain ⟨hv, hhv⟩ : ∃ hv, hv = holds a b d := ⟨_, rfl⟩
  rw [← hhv] at HHH ⊢
  obtain ⟨z, hz⟩ : ∃ z, z = tz d := ⟨_, rfl⟩
  obtain ⟨y, hy⟩ : ∃ y, y = lz d := ⟨_, rfl⟩
  obtain ⟨m, hm⟩ : ∃ m, m = 64 - a - b := ⟨_, rfl⟩
  rw [← hy] at HL HHH
  rw [← hz] at HZ HHH
  rw [← hm] at HBH HHH
  clear hz hy hm h0 hT hhv
  obtain ⟨W0, hW0, hk, hb0⟩ : ∃ W0 : World, W0 = w.alloc (.cells #[.int .i64 a, .int .i64 b] 230) ∧ W0.heap[w.heap.size]? = some (.cells #[.int .i64 a, .int .i64 b] 230 (0, 0)) ∧ Below w.heap.size w W0 := ⟨_, rfl, blk_last w _, below_alloc (Below.refl _ _) _⟩
  have HS := Lib.hid (fun W (hb : Below W0.heap.size W0 W) => (⟨hb, obj_cell (i := 0) ((Ch.of_below (S := fun _ => False) hb).blk hk (fun x => x)) rfl, obj_cell (i := 1) ((Ch.of_below (S := fun _ => False) hb).blk hk (fun x => x)) rfl⟩ : Below W0.heap.size W0 W ∧ W.cell? ⟨w.heap.size, 0, none⟩ = some (.int .i64 a) ∧ W.cell? ⟨w.heap.size, 1, none⟩ = some (.int .i64 b)))
  have HW0 := Lib.hid hW0
  have HB0 := Lib.hid hb0
  have HZ2 := Lib.hid (fun W (h : Below W0.heap.size W0 W) => HZ.out W (below_then hb0 hb0.size h))
  have HBH2 : Hid (∀ W, Below W0.heap.size W0 W → Calls Tryz.prog 179 #[.agg #[.int .i64 a, .int .i64 b]] W fun e w' => e = .returned (.int .i64 m) ∧ Below W0.heap.size W0 w') := Lib.hid (fun W hb => VarKit.lift hb hb.size (HBH.out W))
  obtain ⟨hs0, c0, c1⟩ := HS.out W0 (Below.refl _ _)
  clear hb0 hk hW0 HZ HBH
  rcases Nat.eq_zero_or_pos b with g1 | g1
  · have d1 : decide ((b : Int) > 0) = false := by simp; omega
    have d1' : decide (0 < (b : Int)) = false := by simp; omega
    have d1n : decide (0 < b) = false := by simp; omega
    rw [d1n] at HHH
    clear g1
    go_enter Tryz.func176, Tryz.ntmps176
    go_wp2_with (fail)
    rw [← HW0.out]
    go_quiet (fail)
    go_wp2
    go_ret
    exact ⟨by rw [HHH.out]; rfl, pw_below_drewN HB0.out _⟩
  · have d1 : decide ((b : Int) > 0) = true := by simp; omega
    have d1' : decide (0 < (b : Int)) = true := by simp; omega
    have d1n : decide (0 < b) = true := by simp; omega
    rw [d1n] at HHH
    clear g1
    by_cases g2 : a ≤ y
    · have d2 : decide ((y : Int) ≥ (a : Int)) = true := by simp; omega
      have d2' : decide ((a : Int) ≤ (y : Int)) = true := by simp; omega
      have d2n : decide (a ≤ y) = true := by simp; omega
      rw [d2n] at HHH
      clear g2
      go_enter Tryz.func176, Tryz.ntmps176
      go_wp2_with (fail)
      rw [← HW0.out]
      go_region_held3 (fun W => Below W0.heap.size W0 W ∧ W.cell? ⟨w.heap.size, 0, none⟩ = some (.int .i64 a) ∧ W.cell? ⟨w.heap.size, 1, none⟩ = some (.int .i64 b))
      (first | exact HS.out _ (below_drew (by first | exact Below.refl _ _ | exact (And.left (by assumption)))) | exact HS.out _ (by assumption) | assumption)
      (first
      | (go_at_call 217; refine (HL.out _).mono ?_; rintro e w2 ⟨rfl, rfl⟩)
      | (go_at_call 218; refine (HZ2.out _ (And.left (by assumption))).mono ?_; rintro e w2 ⟨rfl, rfl⟩)
      | (go_at_call 179; refine (HBH2.out _ (And.left (by assumption))).mono ?_; rintro e w2 ⟨rfl, hb2⟩))
      all_goals
        go_wp2
        go_ret
        exact ⟨by rw [HHH.out]; rfl, below_then HB0.out HB0.out.size (by first | assumption | exact (And.left (by assumption)))⟩
    · have d2 : decide ((y : Int) ≥ (a : Int)) = false := by simp; omega
      have d2' : decide ((a : Int) ≤ (y : Int)) = false := by simp; omega
      have d2n : decide (a ≤ y) = false := by simp; omega
      rw [d2n] at HHH
      clear g2
      go_enter Tryz.func176, Tryz.ntmps176
      go_wp2_with (fail)
      rw [← HW0.out]
      go_quiet (first | (go_at_call 217; exact q_same (HL.out _)))
      go_wp2
      go_ret
      exact ⟨by rw [HHH.out]; rfl, pw_below_drewN HB0.out _⟩
end Go.Proofs.YtjfekjbmgckkcaaGreatDoor.XorA
namespace Go.Proofs.YtjfekjbmgckkcaaGreatDoor.XorB
open Go.RowKit Go.Proofs.YtjfekjbmgckkcaaGreatDoorW.PrintWords
open Go.Proofs.YtjfekjbmgckkcaaGreatDoor.Bits Go.Proofs.YtjfekjbmgckkcaaGreatDoor.Base Go.Proofs.YtjfekjbmgckkcaaGreatDoor.StreamA Go.Proofs.YtjfekjbmgckkcaaGreatDoor.XorPure Go.Proofs.YtjfekjbmgckkcaaGreatDoor.Ref12 Go.Proofs.YtjfekjbmgckkcaaGreatDoor.VarKit Go.Proofs.YtjfekjbmgckkcaaGreatDoor.XorA
def XrS (w : World) (g : Nat) (x : XR) : Prop :=
  w.heap[g]? = some (.cells #[.int .u64 x.last, .int .i64 x.n, .int .i64 x.ahead, .int .i64 x.len] 232 (0, 0)) ∧ OkX x ∧ x.n ≤ 1000000
theorem XrS.ch {S : Nat → Prop} {w w' : World} {g : Nat} {x : XR} (h : XrS w g x) (hc : Ch S w w') (hs : ¬ S g) : XrS w' g x := ⟨hc.blk h.1 hs, h.2⟩
theorem XrS.below {w w' : World} {g : Nat} {x : XR} (h : XrS w g x) (hb : Below w.heap.size w w') : XrS w' g x := h.ch (Ch.of_below (S := fun _ => False) hb) id
theorem XrS.lt {w : World} {g : Nat} {x : XR} (h : XrS w g x) : g < w.heap.size := blk_lt h.1
theorem new_calls (w : World) :
    Calls Tryz.prog 100 #[] w fun e w' => e = .returned (.pointer (some ⟨w.heap.size, 0, none⟩)) ∧ XrS w' w.heap.size xr0 ∧ Below w.heap.size w w' := by
  go_enter Tryz.func100, Tryz.ntmps100
  go_wp2
  go_ret
  exact ⟨rfl, ⟨blk_last _ _, ok0, by decide⟩, below_alloc (Below.refl _ _) _⟩
set_option maxHeartbeats 800000 in
theorem take_calls (g : Nat) (x : XR) (v a b : Nat) (w : World) (h : XrS w g x) (hk : OkX ⟨v, x.n + 1, a, b⟩) (hn : x.n < 1000000) :
    Calls Tryz.prog 180 #[.pointer (some ⟨g, 0, none⟩), .int .u64 v, .agg #[.int .i64 a, .int .i64 b]] w fun e w' => e = .returned (.tuple #[]) ∧ XrS w' g ⟨v, x.n + 1, a, b⟩ ∧ Ch (fun k => k = g) w w' := by
  obtain ⟨last, n, a0, b0⟩ := x
  have hlt := h.lt
  obtain ⟨hg, hok, -⟩ := h
  simp only at hg hn
  have hne : g ≠ w.heap.size := by omega
  have hne' : w.heap.size ≠ g := by omega
  obtain ⟨W0, hW0, hbk, hg0, hch⟩ : ∃ W0 : World, W0 = w.alloc (.cells #[.int .i64 a, .int .i64 b] 230) ∧ W0.heap[w.heap.size]? = some (.cells #[.int .i64 a, .int .i64 b] 230 (0, 0)) ∧ W0.heap[g]? = some (.cells #[.int .u64 last, .int .i64 n, .int .i64 a0, .int .i64 b0] 232 (0, 0)) ∧ Ch (fun k => k = g) w W0 :=
    ⟨_, rfl, blk_last w _, (Below.heap_alloc w _ g hlt).trans hg, (Ch.refl _ w).alloc _⟩
  have k0 : W0.cell? ⟨w.heap.size, 0, none⟩ = some (.int .i64 a) := obj_cell hbk rfl
  have k1 : W0.cell? ⟨w.heap.size, 1, none⟩ = some (.int .i64 b) := obj_cell hbk rfl
  have c0 : W0.cell? ⟨g, 0, none⟩ = some (.int .u64 last) := obj_cell hg0 rfl
  have c1 : W0.cell? ⟨g, 1, none⟩ = some (.int .i64 n) := obj_cell hg0 rfl
  have c2 : W0.cell? ⟨g, 2, none⟩ = some (.int .i64 a0) := obj_cell hg0 rfl
  have c3 : W0.cell? ⟨g, 3, none⟩ = some (.int .i64 b0) := obj_cell hg0 rfl
  have f0 : W0.frozen? ⟨g, 0, none⟩ = false := obj_free hg0
  have f1 : W0.frozen? ⟨g, 1, none⟩ = false := obj_free hg0
  have f2 : W0.frozen? ⟨g, 2, none⟩ = false := obj_free hg0
  have f3 : W0.frozen? ⟨g, 3, none⟩ = false := obj_free hg0
  have HG := Lib.hid hg0
  have HC := Lib.hid hch
  have HW0 := Lib.hid hW0
  have HK := Lib.hid hk
  clear hg hg0 hch hW0 hbk hok hk
  go_enter Tryz.func180, Tryz.ntmps180
  go_wp2_with (fail)
  rw [← HW0.out]
  go_region
  go_wp2
  go_end0
  refine ⟨rfl, ⟨?_, HK.out, by show n + 1 ≤ 1000000; omega⟩, ?_⟩
  · exact blk_set (blk_set (blk_set (blk_set HG.out 0 _) 2 _) 3 _) 1 _
  · exact (((((HC.out.setCell (p := ⟨g, 0, none⟩) (.inl rfl) _).setCell (p := ⟨g, 2, none⟩) (.inl rfl) _).setCell (p := ⟨g, 3, none⟩) (.inl rfl) _).setCell (p := ⟨g, 1, none⟩) (.inl rfl) _)).drew
set_option maxRecDepth 100000 in
set_option maxHeartbeats 3200000 in
theorem cost_calls (g : Nat) (x : XR) (v : Nat) (w : World) (hT : Tz w) (h : XrS w g x) (hv : v < 18446744073709551616) :
    Calls Tryz.prog 110 #[.pointer (some ⟨g, 0, none⟩), .int .u64 v] w fun e w' => e = .returned (.int .i64 (toldX x v).length) ∧ Below w.heap.size w w' := by
  have hblk : ∀ W, Below w.heap.size w W → W.heap[g]? = some (.cells #[.int .u64 x.last, .int .i64 x.n, .int .i64 x.ahead, .int .i64 x.len] 232 (0, 0)) := fun W hb => (h.below hb).1
  have HBK := Lib.hid hblk
  obtain ⟨hg, hok, hn⟩ := h
  have hx := u64_xor_nat v x.last hv hok.last
  have hd := xor_lt hv hok.last
  have hln := hok.len
  have c0 : w.cell? ⟨g, 0, none⟩ = some (.int .u64 x.last) := obj_cell hg rfl
  have c1 : w.cell? ⟨g, 1, none⟩ = some (.int .i64 x.n) := obj_cell hg rfl
  have c2 : w.cell? ⟨g, 2, none⟩ = some (.int .i64 x.ahead) := obj_cell hg rfl
  have c3 : w.cell? ⟨g, 3, none⟩ = some (.int .i64 x.len) := obj_cell hg rfl
  by_cases h0 : x.n = 0
  · have HE := Lib.hid (show (toldX x v).length = 64 from by unfold toldX; rw [if_pos h0, nb_length])
    rw [HE.out]
    have d0 : ((x.n : Int) == 0) = true := by simp; omega
    clear h0 hblk hg hok
    go_enter Tryz.func110, Tryz.ntmps110
    go_wp2
    go_ret
    exact ⟨rfl, Below.refl _ _⟩
  have d0 : ((x.n : Int) == 0) = false := by simp; omega
  by_cases h1 : v = x.last
  · have HE := Lib.hid (show (toldX x v).length = 1 from by unfold toldX; rw [if_neg h0, if_pos h1]; rfl)
    rw [HE.out]
    have hz : v ^^^ x.last = 0 := by rw [h1, Nat.xor_self]
    rw [hz] at hx
    clear h0 h1 hblk hg hok hz hd
    go_enter Tryz.func110, Tryz.ntmps110
    go_wp2
    go_ret
    exact ⟨rfl, Below.refl _ _⟩
  have hne := xor_ne h1
  have HHO := Lib.hid (holds_calls x.ahead x.len (v ^^^ x.last) w hok.len hd hne hT)
  have HOF := Lib.hid (fun W (hb : Below w.heap.size w W) => of_calls (v ^^^ x.last) W hd hne (hT.below hb))
  have HWI := Lib.hid (win_in _ hne hd)
  have HTX := Lib.hid (show toldX x v = if holds x.ahead x.len (v ^^^ x.last) then [true, false] ++ nb ((v ^^^ x.last) >>> (64 - x.ahead - x.len)) x.len
    else [true, true] ++ nb (winA (v ^^^ x.last)) 5 ++ nb (winL (v ^^^ x.last)) 6 ++ nb ((v ^^^ x.last) >>> (64 - winA (v ^^^ x.last) - winL (v ^^^ x.last))) (winL (v ^^^ x.last)) from by unfold toldX; rw [if_neg h0, if_neg h1])
  obtain ⟨d, hdd⟩ : ∃ d, d = v ^^^ x.last := ⟨_, rfl⟩
  rw [← hdd] at hx hd HHO HOF HWI HTX hne
  have d1 : ((d : Int) == 0) = false := by simp; omega
  have hwl : winL d ≤ 64 := HWI.out.2.2.2.1
  obtain ⟨last, n, a, b⟩ := x
  simp only at c0 c1 c2 c3 d0 hx HHO HBK HTX hln
  cases hh : holds a b d with
  | true =>
    rw [hh] at HHO HTX
    have HE := Lib.hid (show (toldX ⟨last, n, a, b⟩ v).length = 2 + b from by rw [HTX.out, if_pos rfl, List.length_append, nb_length]; rfl)
    rw [HE.out]
    clear h0 h1 hblk hg hok hdd hh HTX HOF HWI hne
    go_enter Tryz.func110, Tryz.ntmps110
    go_wp2_with (fail)
    refine HHO.out.mono ?_
    rintro e w1 ⟨rfl, hb1⟩
    have hg1 := HBK.out w1 hb1
    have c2 : w1.cell? ⟨g, 2, none⟩ = some (.int .i64 a) := obj_cell hg1 rfl
    have c3 : w1.cell? ⟨g, 3, none⟩ = some (.int .i64 b) := obj_cell hg1 rfl
    have B1 := Lib.hid hb1
    clear hb1 hg1
    go_wp2
    go_ret
    exact ⟨by go_num, B1.out⟩
  | false =>
    rw [hh] at HHO HTX
    have HE := Lib.hid (show (toldX ⟨last, n, a, b⟩ v).length = 13 + winL d from by rw [HTX.out, if_neg (by decide)]; simp only [List.length_append, nb_length, List.length_cons, List.length_nil])
    rw [HE.out]
    obtain ⟨y, hy⟩ : ∃ y, y = winL d := ⟨_, rfl⟩
    obtain ⟨z, hz⟩ : ∃ z, z = winA d := ⟨_, rfl⟩
    rw [← hy] at hwl HOF ⊢
    rw [← hz] at HOF
    clear h0 h1 hblk hg hok hdd hh HTX HWI hne hy hz HE
    go_enter Tryz.func110, Tryz.ntmps110
    go_wp2_with (fail)
    refine HHO.out.mono ?_
    rintro e w1 ⟨rfl, hb1⟩
    have B1 := Lib.hid hb1
    clear hb1
    go_wp2_with (fail)
    refine (HOF.out _ B1.out).mono ?_
    rintro e w2 ⟨rfl, hb2⟩
    have B2 := Lib.hid (below_then B1.out B1.out.size hb2)
    clear hb2
    have hfd : ∀ W : World, (Instr.field 230 (.agg #[.int .i64 z, .int .i64 y]) 1).run Tryz.prog W = .ok (.int .i64 y) W := fun _ => by kernel_rfl
    go_wp2
    go_ret
    exact ⟨by go_num, B2.out⟩
def PutX (g gx : Nat) (S : Nat → Prop) (l : List Bool) (x : XR) (v : Nat) (w w' : World) : Prop :=
  ∃ S', Wr w' g S' (l ++ toldX x v) ∧ (∀ k, S' k → S k ∨ w.heap.size ≤ k) ∧ XrS w' gx (putX x v) ∧ Ch (fun k => S k ∨ k = gx) w w'
structure Pw (g gx : Nat) (S : Nat → Prop) (x : XR) (w : World) (l : List Bool) (a b : Nat) (W : World) : Prop where
  wr : ∃ S', Wr W g S' l ∧ ∀ k, S' k → S k ∨ w.heap.size < k
  ch : Ch S w W
  xs : XrS W gx x
  win : W.heap[w.heap.size]? = some (.cells #[.int .i64 a, .int .i64 b] 230 (0, 0))
section
variable {g gx : Nat} {S : Nat → Prop} {x : XR} {w W W2 : World} {l m : List Bool} {a b : Nat}
theorem Pw.drew (h : Pw g gx S x w l a b W) : Pw g gx S x w l a b W.drew := ⟨h.wr, h.ch.drew, h.xs, h.win⟩
theorem Pw.below (h : Pw g gx S x w l a b W) (hb : Below W.heap.size W W2) : Pw g gx S x w l a b W2 := by
  obtain ⟨S', h1, h2⟩ := h.wr
  exact ⟨⟨S', h1.below hb, h2⟩, h.ch.then_below hb, h.xs.below hb, (Ch.of_below (S := fun _ => False) hb).blk h.win id⟩
theorem Pw.put (h : Pw g gx S x w l a b W) (hold : ∀ k, S k → k < w.heap.size) (hgx : ¬ S gx) (hx : gx < w.heap.size) {S' : Nat → Prop} (hs : ∀ k, S' k → S k ∨ w.heap.size < k) (hu : Upd (fun w S => Wr w g S (l ++ m)) S' W W2) : Pw g gx S x w (l ++ m) a b W2 := by
  obtain ⟨S2, h1, h2, h3⟩ := hu
  have hlt := blk_lt h.win
  refine ⟨⟨S2, h1, fun k hk => ?_⟩, h.ch.trans h3 fun i hi hi2 => ?_, h.xs.ch h3 ?_, h3.blk h.win ?_⟩
  · rcases h2 k hk with h4 | h4
    · exact hs k h4
    · exact .inr (by omega)
  · rcases hs i hi2 with h4 | h4
    · exact h4
    · omega
  · intro h4
    rcases hs _ h4 with h5 | h5
    · exact hgx h5
    · omega
  · intro h4
    rcases hs _ h4 with h5 | h5
    · have := hold _ h5; omega
    · omega
theorem Pw.set (h : Pw g gx S x w l a b W) (hold : ∀ k, S k → k < w.heap.size) (hx : gx < w.heap.size) (a' b' : Nat) : Pw g gx S x w l a' b' ((W.setCell ⟨w.heap.size, 0, none⟩ (.int .i64 a')).setCell ⟨w.heap.size, 1, none⟩ (.int .i64 b')) := by
  have hc : Ch (fun k => k = w.heap.size) W ((W.setCell ⟨w.heap.size, 0, none⟩ (.int .i64 a')).setCell ⟨w.heap.size, 1, none⟩ (.int .i64 b')) := ((Ch.refl (fun k => k = w.heap.size) W).setCell (p := ⟨w.heap.size, 0, none⟩) (.inl rfl) _).setCell (p := ⟨w.heap.size, 1, none⟩) (.inl rfl) _
  obtain ⟨S', h1, h2⟩ := h.wr
  refine ⟨⟨S', h1.ch hc fun k hk he => ?_, h2⟩, h.ch.trans hc fun i hi he => ?_, h.xs.ch hc ?_, blk_set (blk_set h.win 0 _) 1 _⟩
  · rcases h2 k hk with h3 | h3
    · have := hold k h3; omega
    · omega
  · omega
  · intro he; omega
theorem Pw.done (h : Pw g gx S x w l a b W) (hgx : ¬ S gx) (hx : gx < w.heap.size) {l0 : List Bool} {v : Nat} (hl : l = l0 ++ toldX x v) {y : XR} (hy : y = putX x v) (h1 : XrS W2 gx y) (hc : Ch (fun k => k = gx) W W2) : PutX g gx S l0 x v w W2 := by
  subst hl hy
  obtain ⟨S', h3, h4⟩ := h.wr
  refine ⟨S', h3.ch hc fun k hk he => ?_, fun k hk => ?_, h1, (h.ch.mono fun k _ h => .inl h).trans hc fun i _ h => .inr h⟩
  · subst he
    rcases h4 _ hk with h5 | h5
    · exact hgx h5
    · omega
  · rcases h4 k hk with h5 | h5
    · exact .inl h5
    · exact .inr (by omega)
end
set_option maxRecDepth 100000 in
set_option maxHeartbeats 6400000 in
theorem put_row (g gx : Nat) (S : Nat → Prop) (l : List Bool) (x : XR) (v : Nat) (w : World) (hT : Tz w) (hG : ¬ S 2) (hx : XrS w gx x) (hw : Wr w g S l) (hgx : ¬ S gx)
    (hm : l.length ≤ 10000000000) (hv : v < 18446744073709551616) (hn : x.n < 1000000) :
    Calls Tryz.prog 112 #[.pointer (some ⟨gx, 0, none⟩), .pointer (some ⟨g, 0, none⟩), .int .u64 v] w fun e w' => e = .returned (.tuple #[]) ∧ PutX g gx S l x v w w' := by
  have hold := hw.old
  have hlt := hx.lt
  have hok := hx.2.1
  have hxv := u64_xor_nat v x.last hv hok.last
  have hd := xor_lt hv hok.last
  have hln := hok.len
  obtain ⟨W0, hW0, hp0⟩ : ∃ W0 : World, W0 = w.alloc (.cells #[.int .i64 x.ahead, .int .i64 x.len] 230) ∧ Pw g gx S x w l x.ahead x.len W0 :=
    ⟨_, rfl, ⟨S, hw.below (below_alloc (Below.refl _ _) _), fun k hk => .inl hk⟩, (Ch.refl S w).alloc _, hx.below (below_alloc (Below.refl _ _) _), blk_last w _⟩
  have HPUT : Hid (∀ (l' : List Bool) (n k a b : Nat) W, Pw g gx S x w l' a b W → l'.length ≤ 10000000100 → k ≤ 64 → n < 18446744073709551616 → Calls Tryz.prog 72 #[.pointer (some ⟨g, 0, none⟩), .int .u64 n, .int .i64 k] W fun e w' => e = .returned (.tuple #[]) ∧ Pw g gx S x w (l' ++ nb n k) a b w') := Lib.hid (by
    intro l' n k a b W h h1 h2 h3
    obtain ⟨S', h4, h5⟩ := h.wr
    refine (StreamBit.put_calls g S' l' n k W h4 (by omega) h2 h3).mono ?_
    rintro e w' ⟨rfl, hu⟩
    exact ⟨rfl, h.put hold hgx hlt h5 hu⟩)
  have HTAKE : Hid (∀ (l' : List Bool) (a b : Nat) W, Pw g gx S x w l' a b W → l' = l ++ toldX x v → (⟨v, x.n + 1, a, b⟩ : XR) = putX x v → Calls Tryz.prog 180 #[.pointer (some ⟨gx, 0, none⟩), .int .u64 v, .agg #[.int .i64 a, .int .i64 b]] W fun e w' => e = .returned (.tuple #[]) ∧ PutX g gx S l x v w w') := Lib.hid (by
    intro l' a b W h h1 h2
    refine (take_calls gx x v a b W h.xs (by rw [h2]; exact putX_ok hok hv) hn).mono ?_
    rintro e w' ⟨rfl, h3, h4⟩
    exact ⟨rfl, h.done hgx hlt h1 h2 h3 h4⟩)
  have HCELL : Hid (∀ (l' : List Bool) (a b : Nat) W, Pw g gx S x w l' a b W → W.cell? ⟨w.heap.size, 0, none⟩ = some (.int .i64 a) ∧ W.cell? ⟨w.heap.size, 1, none⟩ = some (.int .i64 b)) := Lib.hid (fun l' a b W h => ⟨obj_cell h.win rfl, obj_cell h.win rfl⟩)
  have hg := hx.1
  have c0 : w.cell? ⟨gx, 0, none⟩ = some (.int .u64 x.last) := obj_cell hg rfl
  have c2 : w.cell? ⟨gx, 2, none⟩ = some (.int .i64 x.ahead) := obj_cell hg rfl
  have c3 : w.cell? ⟨gx, 3, none⟩ = some (.int .i64 x.len) := obj_cell hg rfl
  have c1 : w.cell? ⟨gx, 1, none⟩ = some (.int .i64 x.n) := obj_cell hg rfl
  have HW0 := Lib.hid hW0
  have HP0 := Lib.hid hp0
  by_cases h0 : x.n = 0
  · have HE := Lib.hid (show toldX x v = nb v 64 from by unfold toldX; rw [if_pos h0])
    have HY := Lib.hid (show (⟨v, x.n + 1, x.ahead, x.len⟩ : XR) = putX x v from by unfold putX; rw [if_pos h0, h0])
    have HP : Hid (∀ W, Pw g gx S x w l x.ahead x.len W → Calls Tryz.prog 72 #[.pointer (some ⟨g, 0, none⟩), .int .u64 v, .int .i64 64] W fun e w' => e = .returned (.tuple #[]) ∧ Pw g gx S x w (l ++ nb v 64) x.ahead x.len w') := Lib.hid (fun W h => HPUT.out l v 64 _ _ W h (by omega) (by omega) hv)
    have d0 : ((x.n : Int) == 0) = true := by simp; omega
    clear h0 hg hok hT hG hw hx hW0 hp0 hd
    go_enter Tryz.func112, Tryz.ntmps112
    go_wp2_with (fail)
    rw [← HW0.out]
    refine (HP.out _ HP0.out).mono ?_
    rintro e w1 ⟨rfl, hp1⟩
    have P1 := Lib.hid hp1
    obtain ⟨k0, k1⟩ := HCELL.out _ _ _ _ hp1
    clear hp1 c0 c1 c2 c3
    go_wp2_with (fail)
    refine (HTAKE.out _ _ _ _ P1.out (by rw [HE.out]) HY.out).mono ?_
    rintro e w2 ⟨rfl, hd⟩
    have D := Lib.hid hd
    clear hd
    go_wp2
    go_end0
    exact ⟨rfl, D.out⟩
  have d0 : ((x.n : Int) == 0) = false := by simp; omega
  by_cases h1 : v = x.last
  · have HE := Lib.hid (show toldX x v = [false] from by unfold toldX; rw [if_neg h0, if_pos h1])
    have HY := Lib.hid (show (⟨v, x.n + 1, x.ahead, x.len⟩ : XR) = putX x v from by unfold putX; rw [if_neg h0, if_pos h1])
    have HB : Hid (∀ W, Pw g gx S x w l x.ahead x.len W → Calls Tryz.prog 16 #[.pointer (some ⟨g, 0, none⟩), .bool false] W fun e w' => e = .returned (.tuple #[]) ∧ Pw g gx S x w (l ++ [false]) x.ahead x.len w') := Lib.hid (by
      intro W h
      obtain ⟨S', h4, h5⟩ := h.wr
      refine (StreamBit.bit_calls g S' l false W h4 (by omega)).mono ?_
      rintro e w' ⟨rfl, hu⟩
      exact ⟨rfl, h.put hold hgx hlt h5 hu⟩)
    have hz : v ^^^ x.last = 0 := by rw [h1, Nat.xor_self]
    rw [hz] at hxv
    clear h0 h1 hg hok hT hG hw hx hW0 hp0 hd hz
    go_enter Tryz.func112, Tryz.ntmps112
    go_wp2_with (fail)
    rw [← HW0.out]
    refine (HB.out _ HP0.out).mono ?_
    rintro e w1 ⟨rfl, hp1⟩
    have P1 := Lib.hid hp1
    obtain ⟨k0, k1⟩ := HCELL.out _ _ _ _ hp1
    clear hp1 c0 c1 c2 c3
    go_wp2_with (fail)
    refine (HTAKE.out _ _ _ _ P1.out (by rw [HE.out]) HY.out).mono ?_
    rintro e w2 ⟨rfl, hd⟩
    have D := Lib.hid hd
    clear hd
    go_wp2
    go_end0
    exact ⟨rfl, D.out⟩
  have hne := xor_ne h1
  have HWI := Lib.hid (win_in _ hne hd)
  have HTX := Lib.hid (show toldX x v = if holds x.ahead x.len (v ^^^ x.last) then [true, false] ++ nb ((v ^^^ x.last) >>> (64 - x.ahead - x.len)) x.len
    else [true, true] ++ nb (winA (v ^^^ x.last)) 5 ++ nb (winL (v ^^^ x.last)) 6 ++ nb ((v ^^^ x.last) >>> (64 - winA (v ^^^ x.last) - winL (v ^^^ x.last))) (winL (v ^^^ x.last)) from by unfold toldX; rw [if_neg h0, if_neg h1])
  have HPX := Lib.hid (show putX x v = if holds x.ahead x.len (v ^^^ x.last) then ⟨v, x.n + 1, x.ahead, x.len⟩ else ⟨v, x.n + 1, winA (v ^^^ x.last), winL (v ^^^ x.last)⟩ from by unfold putX; rw [if_neg h0, if_neg h1])
  have HTZ : Hid (∀ W, Ch S w W → Tz W) := Lib.hid (fun W hc => hT.ch hc hG)
  have HHO : Hid (∀ (l' : List Bool) (a b : Nat) W, Pw g gx S x w l' a b W → Calls Tryz.prog 176 #[.agg #[.int .i64 x.ahead, .int .i64 x.len], .int .u64 (v ^^^ x.last : Nat)] W fun e w' => e = .returned (.bool (holds x.ahead x.len (v ^^^ x.last))) ∧ Pw g gx S x w l' a b w') := Lib.hid (by
    intro l' a b W h
    refine (holds_calls x.ahead x.len (v ^^^ x.last) W hok.len hd hne (HTZ.out W h.ch)).mono ?_
    rintro e w' ⟨rfl, hb⟩
    exact ⟨rfl, h.below hb⟩)
  have HOF : Hid (∀ (l' : List Bool) (a b : Nat) W, Pw g gx S x w l' a b W → Calls Tryz.prog 177 #[.int .u64 (v ^^^ x.last : Nat)] W fun e w' => e = .returned (.agg #[.int .i64 (winA (v ^^^ x.last)), .int .i64 (winL (v ^^^ x.last))]) ∧ Pw g gx S x w l' a b w') := Lib.hid (by
    intro l' a b W h
    refine (of_calls (v ^^^ x.last) W hd hne (HTZ.out W h.ch)).mono ?_
    rintro e w' ⟨rfl, hb⟩
    exact ⟨rfl, h.below hb⟩)
  have HBH : Hid (∀ (l' : List Bool) (a b : Nat) W, Pw g gx S x w l' a b W → a + b ≤ 64 → Calls Tryz.prog 179 #[.agg #[.int .i64 a, .int .i64 b]] W fun e w' => e = .returned (.int .i64 (64 - a - b : Nat)) ∧ Pw g gx S x w l' a b w') := Lib.hid (by
    intro l' a b W h hab
    refine (behind_calls a b W hab).mono ?_
    rintro e w' ⟨rfl, hb⟩
    exact ⟨rfl, h.below hb⟩)
  have HSET : Hid (∀ (l' : List Bool) (a b a' b' : Nat) W, Pw g gx S x w l' a b W → Pw g gx S x w l' a' b' ((W.setCell ⟨w.heap.size, 0, none⟩ (.int .i64 a')).setCell ⟨w.heap.size, 1, none⟩ (.int .i64 b'))) := Lib.hid (fun l' a b a' b' W h => h.set hold hlt a' b')
  have hok0 := hok.last
  obtain ⟨d, hdd⟩ : ∃ d, d = v ^^^ x.last := ⟨_, rfl⟩
  rw [← hdd] at hxv hd HHO HOF HWI HTX HPX hne
  have d1 : ((d : Int) == 0) = false := by simp; omega
  obtain ⟨a, ha⟩ : ∃ a, a = x.ahead := ⟨_, rfl⟩
  obtain ⟨b, hb⟩ : ∃ b, b = x.len := ⟨_, rfl⟩
  obtain ⟨n, hn'⟩ : ∃ n, n = x.n := ⟨_, rfl⟩
  obtain ⟨la, hla⟩ : ∃ la, la = x.last := ⟨_, rfl⟩
  rw [← ha] at c2 hln HW0 HP0 HHO HTX HPX
  rw [← hb] at c3 hln HW0 HP0 HHO HTX HPX
  rw [← hn'] at c1 d0 HTAKE HPX
  rw [← hla] at c0 hxv
  have HSH : Hid (∀ k : Nat, k ≤ 64 → ((d : Int) / 2 ^ k = ((d >>> k : Nat) : Int)) ∧ d >>> k < 18446744073709551616) := Lib.hid (fun k hk => ⟨by rw [Nat.shiftRight_eq_div_pow]; simp, Nat.lt_of_le_of_lt (by rw [Nat.shiftRight_eq_div_pow]; exact Nat.div_le_self _ _) hd⟩)
  cases hh : holds a b d with
  | true =>
    rw [hh] at HHO HTX HPX
    rw [if_pos rfl] at HTX HPX
    have HP2 : Hid (∀ W, Pw g gx S x w l a b W → Calls Tryz.prog 72 #[.pointer (some ⟨g, 0, none⟩), .int .u64 2, .int .i64 2] W fun e w' => e = .returned (.tuple #[]) ∧ Pw g gx S x w (l ++ [true, false]) a b w') := Lib.hid (fun W h => HPUT.out l 2 2 _ _ W h (by omega) (by omega) (by omega))
    have hsh := HSH.out (64 - a - b) (by omega)
    have HP3 : Hid (∀ W, Pw g gx S x w (l ++ [true, false]) a b W → Calls Tryz.prog 72 #[.pointer (some ⟨g, 0, none⟩), .int .u64 (d >>> (64 - a - b) : Nat), .int .i64 b] W fun e w' => e = .returned (.tuple #[]) ∧ Pw g gx S x w (l ++ toldX x v) a b w') := Lib.hid (fun W h => by
      have := HPUT.out (l ++ [true, false]) (d >>> (64 - a - b)) b _ _ W h (by rw [List.length_append]; simp; omega) (by omega) hsh.2
      rw [List.append_assoc, ← HTX.out] at this
      exact this)
    have HBH := Lib.hid (fun W h => HBH.out (l ++ [true, false]) a b W h hln)
    obtain ⟨k, hk⟩ : ∃ k, k = 64 - a - b := ⟨_, rfl⟩
    obtain ⟨sh, hsd⟩ : ∃ sh, sh = d >>> (64 - a - b) := ⟨_, rfl⟩
    rw [← hsd] at HP3
    have hk64 : k ≤ 64 := by omega
    rw [← hk] at HBH
    have hshk : (d : Int) / 2 ^ k = (sh : Int) := by rw [hsd, hk]; exact hsh.1
    have hsh64 : sh < 18446744073709551616 := by rw [hsd]; exact hsh.2
    have HSHK := Lib.hid hshk
    clear h0 h1 hg hok hT hG hw hx hW0 hp0 hdd hh HOF HWI hne ha hb hn' hla hsh hk hsd hshk
    go_enter Tryz.func112, Tryz.ntmps112
    go_wp2_with (fail)
    rw [← HW0.out]
    refine (HHO.out _ _ _ _ HP0.out).mono ?_
    rintro e w1 ⟨rfl, hp1⟩
    have P1 := Lib.hid hp1
    clear hp1 c0 c1 c2 c3
    go_wp2_with (fail)
    refine (HP2.out _ P1.out).mono ?_
    rintro e w2 ⟨rfl, hp2⟩
    have P2 := Lib.hid hp2
    obtain ⟨k0, k1⟩ := HCELL.out _ _ _ _ hp2
    clear hp2
    go_wp2_with (fail)
    go_region_held3 (fun W => W.cell? ⟨w.heap.size, 0, none⟩ = some (.int .i64 a) ∧ W.cell? ⟨w.heap.size, 1, none⟩ = some (.int .i64 b))
      (first | (with_reducible exact HCELL.out _ _ _ _ P2.out.drew) | (with_reducible exact HCELL.out _ _ _ _ hpa) | (with_reducible exact HCELL.out _ _ _ _ hpb) | assumption)
      (first
      | (go_at_call 179; refine (HBH.out _ P2.out.drew).mono ?_; rintro e wa ⟨rfl, hpa⟩)
      | (go_at_call 72; (try rw [HSHK.out]); refine (HP3.out _ hpa).mono ?_; rintro e wb ⟨rfl, hpb⟩))
    have PB := Lib.hid hpb
    obtain ⟨k0, k1⟩ := HCELL.out _ _ _ _ hpb
    clear hpa hpb
    go_wp2_with (fail)
    refine (HTAKE.out _ _ _ _ PB.out rfl HPX.out.symm).mono ?_
    rintro e w4 ⟨rfl, hd⟩
    have D := Lib.hid hd
    clear hd
    go_wp2
    go_end0
    exact ⟨rfl, D.out⟩
  | false =>
    rw [hh] at HHO HTX HPX
    rw [if_neg (by decide)] at HTX HPX
    have HP2 : Hid (∀ W, Pw g gx S x w l (winA d) (winL d) W → Calls Tryz.prog 72 #[.pointer (some ⟨g, 0, none⟩), .int .u64 3, .int .i64 2] W fun e w' => e = .returned (.tuple #[]) ∧ Pw g gx S x w (l ++ [true, true]) (winA d) (winL d) w') := Lib.hid (fun W h => HPUT.out l 3 2 _ _ W h (by omega) (by omega) (by omega))
    have HPA : Hid (∀ W, Pw g gx S x w (l ++ [true, true]) (winA d) (winL d) W → Calls Tryz.prog 72 #[.pointer (some ⟨g, 0, none⟩), .int .u64 (winA d), .int .i64 5] W fun e w' => e = .returned (.tuple #[]) ∧ Pw g gx S x w (l ++ [true, true] ++ nb (winA d) 5) (winA d) (winL d) w') := Lib.hid (fun W h => HPUT.out (l ++ [true, true]) (winA d) 5 _ _ W h (by rw [List.length_append]; simp; omega) (by omega) (by have := HWI.out.1; omega))
    have HPL : Hid (∀ W, Pw g gx S x w (l ++ [true, true] ++ nb (winA d) 5) (winA d) (winL d) W → Calls Tryz.prog 72 #[.pointer (some ⟨g, 0, none⟩), .int .u64 (winL d % 64 : Nat), .int .i64 6] W fun e w' => e = .returned (.tuple #[]) ∧ Pw g gx S x w (l ++ [true, true] ++ nb (winA d) 5 ++ nb (winL d) 6) (winA d) (winL d) w') := Lib.hid (fun W h => by
      have := HPUT.out (l ++ [true, true] ++ nb (winA d) 5) (winL d % 64) 6 _ _ W h (by simp only [List.length_append, nb_length, List.length_cons, List.length_nil]; omega) (by omega) (by omega)
      rwa [show nb (winL d % 64) 6 = nb (winL d) 6 from nb_mod (winL d) 6] at this)
    have hsh := HSH.out (64 - winA d - winL d) (by omega)
    have HP3 : Hid (∀ W, Pw g gx S x w (l ++ [true, true] ++ nb (winA d) 5 ++ nb (winL d) 6) (winA d) (winL d) W → Calls Tryz.prog 72 #[.pointer (some ⟨g, 0, none⟩), .int .u64 (d >>> (64 - winA d - winL d) : Nat), .int .i64 (winL d)] W fun e w' => e = .returned (.tuple #[]) ∧ Pw g gx S x w (l ++ toldX x v) (winA d) (winL d) w') := Lib.hid (fun W h => by
      have := HPUT.out (l ++ [true, true] ++ nb (winA d) 5 ++ nb (winL d) 6) (d >>> (64 - winA d - winL d)) (winL d) _ _ W h (by simp only [List.length_append, nb_length, List.length_cons, List.length_nil]; omega) HWI.out.2.2.2.1 hsh.2
      rw [show l ++ [true, true] ++ nb (winA d) 5 ++ nb (winL d) 6 ++ nb (d >>> (64 - winA d - winL d)) (winL d) = l ++ toldX x v from by rw [HTX.out]; simp only [List.append_assoc]] at this
      exact this)
    have HBH := Lib.hid (fun W h => HBH.out (l ++ [true, true] ++ nb (winA d) 5 ++ nb (winL d) 6) (winA d) (winL d) W h HWI.out.2.2.1)
    have HOF := Lib.hid (fun W h => HOF.out l a b W h)
    have HSET := Lib.hid (fun W h => HSET.out l a b (winA d) (winL d) W h)
    have HTK := Lib.hid (fun W h => HTAKE.out (l ++ toldX x v) (winA d) (winL d) W h rfl HPX.out.symm)
    have hwi := HWI.out
    obtain ⟨L1, hL1⟩ : ∃ L1, L1 = l ++ [true, true] := ⟨_, rfl⟩
    rw [← hL1] at HP2 HPA HPL HP3 HBH
    obtain ⟨L2, hL2⟩ : ∃ L2, L2 = L1 ++ nb (winA d) 5 := ⟨_, rfl⟩
    rw [← hL2] at HPA HPL HP3 HBH
    obtain ⟨L3, hL3⟩ : ∃ L3, L3 = L2 ++ nb (winL d) 6 := ⟨_, rfl⟩
    rw [← hL3] at HPL HP3 HBH
    obtain ⟨L4, hL4⟩ : ∃ L4, L4 = l ++ toldX x v := ⟨_, rfl⟩
    rw [← hL4] at HP3 HTK
    clear HTX HPX HWI
    obtain ⟨z, hz⟩ : ∃ z, z = winA d := ⟨_, rfl⟩
    obtain ⟨y, hy⟩ : ∃ y, y = winL d := ⟨_, rfl⟩
    obtain ⟨sh, hsd⟩ : ∃ sh, sh = d >>> (64 - winA d - winL d) := ⟨_, rfl⟩
    rw [← hsd] at HP3 hsh
    rw [← hz, ← hy] at HP2 HPA HPL HP3 HBH HOF HSET HTK hsh
    rw [← hz, ← hy] at hwi
    obtain ⟨k, hk⟩ : ∃ k, k = 64 - z - y := ⟨_, rfl⟩
    rw [← hk] at HBH hsh
    have hk64 : k ≤ 64 := by omega
    obtain ⟨i1, i2, i3, i4, -⟩ := hwi
    obtain ⟨y6, h6⟩ : ∃ y6, y6 = y % 64 := ⟨_, rfl⟩
    rw [← h6] at HPL
    have hy2 : ((y : Int) % 64) = (y6 : Int) := by omega
    have h66 : y6 < 64 := by omega
    clear h6
    have hsh64 := hsh.2
    have HSHK := Lib.hid hsh.1
    clear h0 h1 hg hok hT hG hw hx hW0 hp0 hdd hh hne ha hb hn' hla hsh hk hsd hL1 hL2 hL3 hL4 hz hy HTAKE HPUT
    go_enter Tryz.func112, Tryz.ntmps112
    go_wp2_with (fail)
    rw [← HW0.out]
    refine (HHO.out _ _ _ _ HP0.out).mono ?_
    rintro e w1 ⟨rfl, hp1⟩
    have P1 := Lib.hid hp1
    clear hp1 c0 c1 c2 c3
    go_wp2_with (fail)
    refine (HOF.out _ P1.out).mono ?_
    rintro e w2 ⟨rfl, hp2⟩
    obtain ⟨k0, k1⟩ := HCELL.out _ _ _ _ hp2
    have f0 : w2.frozen? ⟨w.heap.size, 0, none⟩ = false := obj_free hp2.win
    have f1 : w2.frozen? ⟨w.heap.size, 1, none⟩ = false := obj_free hp2.win
    obtain ⟨w2s, hw2s, hs2⟩ : ∃ W : World, W = (w2.setCell ⟨w.heap.size, 0, none⟩ (.int .i64 z)).setCell ⟨w.heap.size, 1, none⟩ (.int .i64 y) ∧ Pw g gx S x w l z y W := ⟨_, rfl, HSET.out _ hp2⟩
    have HW2 := Lib.hid hw2s
    have P2 := Lib.hid hs2
    clear hp2 hw2s hs2
    go_wp2_with (fail)
    rw [← HW2.out]
    refine (HP2.out _ P2.out).mono ?_
    rintro e w3 ⟨rfl, hp3⟩
    have P3 := Lib.hid hp3
    obtain ⟨k0, k1⟩ := HCELL.out _ _ _ _ hp3
    clear hp3 f0 f1
    go_wp2_with (fail)
    refine (HPA.out _ P3.out).mono ?_
    rintro e w4 ⟨rfl, hp4⟩
    have P4 := Lib.hid hp4
    obtain ⟨k0, k1⟩ := HCELL.out _ _ _ _ hp4
    clear hp4
    go_wp2_with (fail)
    refine (HPL.out _ P4.out).mono ?_
    rintro e w5 ⟨rfl, hp5⟩
    have P5 := Lib.hid hp5
    obtain ⟨k0, k1⟩ := HCELL.out _ _ _ _ hp5
    clear hp5
    go_wp2_with (fail)
    go_region_held3 (fun W => W.cell? ⟨w.heap.size, 0, none⟩ = some (.int .i64 z) ∧ W.cell? ⟨w.heap.size, 1, none⟩ = some (.int .i64 y))
      (first | (with_reducible exact HCELL.out _ _ _ _ P5.out.drew) | (with_reducible exact HCELL.out _ _ _ _ hpa) | (with_reducible exact HCELL.out _ _ _ _ hpb) | assumption)
      (first
      | (go_at_call 179; refine (HBH.out _ P5.out.drew).mono ?_; rintro e wa ⟨rfl, hpa⟩)
      | (go_at_call 72; (try rw [HSHK.out]); refine (HP3.out _ hpa).mono ?_; rintro e wb ⟨rfl, hpb⟩))
    have PB := Lib.hid hpb
    obtain ⟨k0, k1⟩ := HCELL.out _ _ _ _ hpb
    clear hpa hpb
    go_wp2_with (fail)
    refine (HTK.out _ PB.out).mono ?_
    rintro e w4 ⟨rfl, hd⟩
    have D := Lib.hid hd
    clear hd
    go_wp2
    go_end0
    exact ⟨rfl, D.out⟩
end Go.Proofs.YtjfekjbmgckkcaaGreatDoor.XorB
namespace Go.Proofs.YtjfekjbmgckkcaaGreatDoor.TimesA
open Go.RowKit Go.Proofs.YtjfekjbmgckkcaaGreatDoorW.PrintWords
open Go.Proofs.YtjfekjbmgckkcaaGreatDoor.Bits Go.Proofs.YtjfekjbmgckkcaaGreatDoor.Base Go.Proofs.YtjfekjbmgckkcaaGreatDoor.VarPure Go.Proofs.YtjfekjbmgckkcaaGreatDoor.TimesPure Go.Proofs.YtjfekjbmgckkcaaGreatDoor.VarbitA Go.Proofs.YtjfekjbmgckkcaaGreatDoor.VarbitB Go.Proofs.YtjfekjbmgckkcaaGreatDoor.VarbitD Go.Proofs.YtjfekjbmgckkcaaGreatDoor.StreamA Go.Proofs.YtjfekjbmgckkcaaGreatDoor.VarKit
theorem wrap_sub (a b : Nat) (_ : a < 18446744073709551616) (hb : b < 18446744073709551616) : IntKind.i64.wrap (i64 a - i64 b) = i64 (sub64 a b) := by
  rw [IntKind.wrap_i64]; unfold i64 sub64; repeat' split
  all_goals omega
theorem wrap_subU (a b : Nat) (_ : a < 18446744073709551616) (hb : b < 18446744073709551616) : IntKind.u64.wrap ((a : Int) - (b : Int)) = (sub64 a b : Int) := by
  rw [IntKind.wrap_u64]; unfold sub64; omega
def firstS (v : Nat) : List Bool := encS (i64 v)
def firstU (v : Nat) : List Bool := encU v
theorem lenSv_calls (v : Nat) (w : World) (hT : Tab w) (hv : v < 18446744073709551616) :
    Calls Tryz.prog 172 #[.int .i64 (i64 v)] w fun e w' => e = .returned (.int .i64 (firstS v).length) ∧ w = w' := lenS_calls (i64 v) w hT (i64_range v hv).1 (i64_range v hv).2
theorem lenUv_calls (v : Nat) (w : World) (hT : Tab w) (hv : v < 18446744073709551616) :
    Calls Tryz.prog 174 #[.int .u64 v] w fun e w' => e = .returned (.int .i64 (firstU v).length) ∧ w = w' := lenU_calls v w hT hv
theorem putSv_calls (g : Nat) (S : Nat → Prop) (l : List Bool) (v : Nat) (w : World) (hT : Tab w) (hG : ¬ S 1) (h : Wr w g S l) (hm : l.length ≤ 10000000000) (hv : v < 18446744073709551616) :
    Calls Tryz.prog 73 #[.pointer (some ⟨g, 0, none⟩), .int .i64 (i64 v)] w fun e w' => e = .returned (.tuple #[]) ∧ Upd (fun w S => Wr w g S (l ++ firstS v)) S w w' := putS_calls g S l (i64 v) w hT hG h hm (i64_range v hv).1 (i64_range v hv).2
theorem putUv_calls (g : Nat) (S : Nat → Prop) (l : List Bool) (v : Nat) (w : World) (hT : Tab w) (hG : ¬ S 1) (h : Wr w g S l) (hm : l.length ≤ 10000000000) (hv : v < 18446744073709551616) :
    Calls Tryz.prog 150 #[.pointer (some ⟨g, 0, none⟩), .int .u64 v] w fun e w' => e = .returned (.tuple #[]) ∧ Upd (fun w S => Wr w g S (l ++ firstU v)) S w w' := putU_calls g S l v w hT hG h hm hv
theorem upd_undrew {O : World → (Nat → Prop) → Prop} {S : Nat → Prop} {w w' : World} {n : Nat} (h : Upd O S (w.drewN n) w') : Upd O S w w' := Upd.then (fun _ hk => .inl hk) ((Ch.refl S w).drewN n) h
theorem upd_ch {O : World → (Nat → Prop) → Prop} {S : Nat → Prop} {w w' : World} {n : Nat} (h : Upd O S (w.drewN n) w') : Ch S w w' := by
  obtain ⟨_, _, _, hc⟩ := h
  exact ((Ch.refl S w).drewN n).trans hc fun _ _ h => h
def TrS (w : World) (g last step n : Nat) : Prop :=
  w.heap[g]? = some (.cells #[.int .i64 (i64 last), .int .i64 (i64 step), .int .i64 n] 228 (0, 0)) ∧ last < 18446744073709551616 ∧ step < 18446744073709551616 ∧ n ≤ 1000000
theorem TrS.ch {S : Nat → Prop} {w w' : World} {g last step n : Nat} (h : TrS w g last step n) (hc : Ch S w w') (hs : ¬ S g) : TrS w' g last step n := ⟨hc.blk h.1 hs, h.2⟩
theorem TrS.below {w w' : World} {g last step n : Nat} (h : TrS w g last step n) (hb : Below w.heap.size w w') : TrS w' g last step n := h.ch (Ch.of_below (S := fun _ => False) hb) id
theorem TrS.lt {w : World} {g last step n : Nat} (h : TrS w g last step n) : g < w.heap.size := blk_lt h.1
theorem newS_calls (w : World) :
    Calls Tryz.prog 98 #[] w fun e w' => e = .returned (.pointer (some ⟨w.heap.size, 0, none⟩)) ∧ TrS w' w.heap.size 0 0 0 ∧ Below w.heap.size w w' := by
  go_enter Tryz.func98, Tryz.ntmps98
  go_wp2
  go_ret
  exact ⟨rfl, ⟨blk_last _ _, by decide, by decide, by decide⟩, below_alloc (Below.refl _ _) _⟩
set_option maxHeartbeats 400000 in
theorem signedS_calls (g : Nat) (w : World) :
    Calls Tryz.prog 173 #[.pointer (some ⟨g, 0, none⟩)] w fun e w' => e = .returned (.bool true) ∧ w = w' := by
  go_enter Tryz.func173, Tryz.ntmps173
  go_wp2
  go_ret
  exact ⟨rfl, rfl⟩
set_option maxHeartbeats 800000 in
theorem toS_calls (g last step n v : Nat) (w : World) (h : TrS w g last step n) (hv : v < 18446744073709551616) :
    Calls Tryz.prog 171 #[.pointer (some ⟨g, 0, none⟩), .int .i64 (i64 v)] w fun e w' =>
      e = .returned (.tuple #[.int .i64 (i64 (stepTo last n v)), .int .i64 (if n = 0 then 0 else i64 (sub64 (sub64 v last) step))]) ∧ Drawn0 w w' := by
  obtain ⟨hg, hl, hs, hn⟩ := h
  have c0 : w.cell? ⟨g, 0, none⟩ = some (.int .i64 (i64 last)) := obj_cell hg rfl
  have c1 : w.cell? ⟨g, 1, none⟩ = some (.int .i64 (i64 step)) := obj_cell hg rfl
  have c2 : w.cell? ⟨g, 2, none⟩ = some (.int .i64 n) := obj_cell hg rfl
  clear hg
  by_cases h0 : n = 0
  · subst h0
    rw [if_pos rfl, show stepTo last 0 v = 0 from rfl, show i64 0 = 0 from rfl]
    clear c0 c1 hl hs
    go_enter Tryz.func171, Tryz.ntmps171
    go_wp2
    go_ret2
    exact ⟨rfl, Drawn0.refl _⟩
  · have d0 : ((n : Int) == 0) = false := by simp; omega
    rw [if_neg h0, show stepTo last n v = sub64 v last from if_neg h0]
    have e1 := wrap_sub v last hv hl
    have hq := sub64_lt v last
    obtain ⟨q, hqq⟩ : ∃ q, q = sub64 v last := ⟨_, rfl⟩
    rw [← hqq] at e1 hq ⊢
    skip
    have e2 := wrap_sub q step hq hs
    have H2 := Lib.hid e2
    clear hqq h0
    go_enter Tryz.func171, Tryz.ntmps171
    go_wp2_with (fail)
    go_quiet (fail)
    go_wp2
    go_ret2
    exact ⟨rfl, by repeat (first | exact Drawn0.refl _ | apply Drawn0.step)⟩
set_option maxHeartbeats 800000 in
theorem takeS_calls (g last step n v st : Nat) (w : World) (h : TrS w g last step n) (hv : v < 18446744073709551616) (hst : st < 18446744073709551616) (hn : n < 1000000) :
    Calls Tryz.prog 178 #[.pointer (some ⟨g, 0, none⟩), .int .i64 (i64 v), .int .i64 (i64 st)] w fun e w' => e = .returned (.tuple #[]) ∧ TrS w' g v st (n + 1) ∧ Ch (fun k => k = g) w w' := by
  obtain ⟨hg, -⟩ := h
  have c0 : w.cell? ⟨g, 0, none⟩ = some (.int .i64 (i64 last)) := obj_cell hg rfl
  have c1 : w.cell? ⟨g, 1, none⟩ = some (.int .i64 (i64 step)) := obj_cell hg rfl
  have c2 : w.cell? ⟨g, 2, none⟩ = some (.int .i64 n) := obj_cell hg rfl
  have f0 : w.frozen? ⟨g, 0, none⟩ = false := obj_free hg
  have f1 : w.frozen? ⟨g, 1, none⟩ = false := obj_free hg
  have f2 : w.frozen? ⟨g, 2, none⟩ = false := obj_free hg
  have HG := Lib.hid hg
  clear hg
  go_enter Tryz.func178, Tryz.ntmps178
  go_wp2_with (fail)
  go_end0
  refine ⟨rfl, ⟨?_, hv, hst, by omega⟩, ?_⟩
  · exact blk_set (blk_set (blk_set HG.out 0 _) 1 _) 2 _
  · exact (((Ch.refl (fun k => k = g) w).setCell (p := ⟨g, 0, none⟩) (.inl rfl) _).setCell (p := ⟨g, 1, none⟩) (.inl rfl) _).setCell (p := ⟨g, 2, none⟩) (.inl rfl) _
set_option maxHeartbeats 800000 in
theorem costS_calls (g last step n v : Nat) (w : World) (hT : Tab w) (h : TrS w g last step n) (hv : v < 18446744073709551616) :
    Calls Tryz.prog 108 #[.pointer (some ⟨g, 0, none⟩), .int .i64 (i64 v)] w fun e w' => e = .returned (.int .i64 (told true last step n v).length) ∧ Drawn0 w w' := by
  have HTO := Lib.hid (toS_calls g last step n v w h hv)
  have HT := Lib.hid hT
  obtain ⟨hg, hl, hs, hn⟩ := h
  have c2 : w.cell? ⟨g, 2, none⟩ = some (.int .i64 n) := obj_cell hg rfl
  by_cases h0 : n = 0
  · subst h0
    have hir := i64_range v hv
    have HL := Lib.hid (fun m => lenSv_calls v (w.drewN m) (HT.out.drewN m) hv)
    have HSG := Lib.hid (fun m => signedS_calls g (w.drewN m))
    rw [show told true last step 0 v = firstS v from rfl]
    clear hg hT
    go_enter Tryz.func108, Tryz.ntmps108
    go_wp2_with (first
      | (go_at_call 171; refine HTO.out.mono ?_; rintro e w' ⟨rfl, nd, rfl⟩)
      | (go_at_call 173; refine (HSG.out _).mono ?_; rintro e w' ⟨rfl, rfl⟩)
      | (go_at_call 172; refine (HL.out _).mono ?_; rintro e w' ⟨rfl, rfl⟩))
    go_ret
    exact ⟨rfl, _, rfl⟩
  · have d0 : decide ((n : Int) > 0) = true := by simp; omega
    have d0' : decide (0 < (n : Int)) = true := by simp; omega
    have d0n : decide (0 < n) = true := by simp; omega
    have hir := i64_range (sub64 (sub64 v last) step) (sub64_lt _ _)
    have HL := Lib.hid (fun m => lenS_calls (i64 (sub64 (sub64 v last) step)) (w.drewN m) (HT.out.drewN m) hir.1 hir.2)
    rw [show told true last step n v = encS (i64 (sub64 (sub64 v last) step)) from if_neg h0]
    rw [if_neg h0] at HTO
    clear hg hT h0
    go_enter Tryz.func108, Tryz.ntmps108
    go_wp2_with (first
      | (go_at_call 171; refine HTO.out.mono ?_; rintro e w' ⟨rfl, nd, rfl⟩)
      | (go_at_call 172; refine (HL.out _).mono ?_; rintro e w' ⟨rfl, rfl⟩))
    go_ret
    exact ⟨rfl, _, rfl⟩
def PutS (g gx : Nat) (S : Nat → Prop) (l : List Bool) (last step n v : Nat) (w w' : World) : Prop :=
  ∃ S', Wr w' g S' (l ++ told true last step n v) ∧ (∀ k, S' k → S k ∨ w.heap.size ≤ k) ∧ TrS w' gx v (stepTo last n v) (n + 1) ∧ Ch (fun k => S k ∨ k = gx) w w'
set_option maxHeartbeats 800000 in
theorem putS_row (g gx : Nat) (S : Nat → Prop) (l : List Bool) (last step n v : Nat) (w : World) (hT : Tab w) (hG : ¬ S 1) (hx : TrS w gx last step n) (hw : Wr w g S l) (hgx : ¬ S gx)
    (hm : l.length ≤ 10000000000) (hv : v < 18446744073709551616) (hn : n < 1000000) :
    Calls Tryz.prog 111 #[.pointer (some ⟨gx, 0, none⟩), .pointer (some ⟨g, 0, none⟩), .int .i64 (i64 v)] w fun e w' => e = .returned (.tuple #[]) ∧ PutS g gx S l last step n v w w' := by
  have HTO := Lib.hid (toS_calls gx last step n v w hx hv)
  have HX := Lib.hid hx
  have HEND := Lib.hid (fun (b : List Bool) (w1 w2 : World) (hu : Upd (fun w S => Wr w g S (l ++ b)) S w w1) (h2 : b = told true last step n v) (hx2 : TrS w2 gx v (stepTo last n v) (n + 1)) (hc : Ch (fun k => k = gx) w1 w2) =>
    show PutS g gx S l last step n v w w2 from by
      obtain ⟨S', ho, hs, h1⟩ := hu
      subst h2
      refine ⟨S', ho.ch hc ?_, hs, hx2, ?_⟩
      · rintro k hk rfl
        rcases hs _ hk with h3 | h3
        · exact hgx h3
        · have := hx.lt; omega
      · exact (h1.mono fun k _ h => .inl h).trans hc fun i _ h => .inr h)
  have HST := Lib.hid (stepTo_lt last n v)
  have HTX := Lib.hid (fun (w1 : World) (h : Ch S w w1) => takeS_calls gx last step n v (stepTo last n v) w1 (hx.ch h hgx) hv (stepTo_lt last n v) hn)
  have c2 : w.cell? ⟨gx, 2, none⟩ = some (.int .i64 n) := obj_cell hx.1 rfl
  by_cases h0 : n = 0
  · subst h0
    have hir := i64_range v hv
    have HP := Lib.hid (fun m => putSv_calls g S l v (w.drewN m) hT hG hw hm hv)
    have HSG := Lib.hid (fun m => signedS_calls gx (w.drewN m))
    clear hT hG hx hw hgx HX HST
    go_enter Tryz.func111, Tryz.ntmps111
    go_wp2_with (first
      | (go_at_call 171; refine HTO.out.mono ?_; rintro e w' ⟨rfl, nd, rfl⟩)
      | (go_at_call 173; refine (HSG.out _).mono ?_; rintro e w' ⟨rfl, rfl⟩)
      | (go_at_call 73; refine (HP.out _).mono ?_; rintro e w1 ⟨rfl, hu⟩; have HU := Lib.hid hu; clear hu)
      | (go_at_call 178; refine (HTX.out _ (upd_ch HU.out)).mono ?_; rintro e w2 ⟨rfl, hx2, hc2⟩))
    go_end0
    exact ⟨rfl, HEND.out _ _ _ (upd_undrew HU.out) rfl hx2 hc2⟩
  · have d0 : decide ((n : Int) > 0) = true := by simp; omega
    have d0' : decide (0 < (n : Int)) = true := by simp; omega
    have d0n : decide (0 < n) = true := by simp; omega
    have hir := i64_range (sub64 (sub64 v last) step) (sub64_lt _ _)
    have HP := Lib.hid (fun m => putS_calls g S l (i64 (sub64 (sub64 v last) step)) (w.drewN m) hT hG hw hm hir.1 hir.2)
    have HTL := Lib.hid (show told true last step n v = encS (i64 (sub64 (sub64 v last) step)) from if_neg h0)
    rw [if_neg h0] at HTO
    clear hT hG hx hw hgx h0 HX HST
    go_enter Tryz.func111, Tryz.ntmps111
    go_wp2_with (first
      | (go_at_call 171; refine HTO.out.mono ?_; rintro e w' ⟨rfl, nd, rfl⟩)
      | (go_at_call 73; refine (HP.out _).mono ?_; rintro e w1 ⟨rfl, hu⟩; have HU := Lib.hid hu; clear hu)
      | (go_at_call 178; refine (HTX.out _ (upd_ch HU.out)).mono ?_; rintro e w2 ⟨rfl, hx2, hc2⟩))
    go_end0
    exact ⟨rfl, HEND.out _ _ _ (upd_undrew HU.out) HTL.out.symm hx2 hc2⟩
def TrU (w : World) (g last step n : Nat) : Prop :=
  w.heap[g]? = some (.cells #[.int .u64 last, .int .i64 (i64 step), .int .i64 n] 304 (0, 0)) ∧ last < 18446744073709551616 ∧ step < 18446744073709551616 ∧ n ≤ 1000000
theorem TrU.ch {S : Nat → Prop} {w w' : World} {g last step n : Nat} (h : TrU w g last step n) (hc : Ch S w w') (hs : ¬ S g) : TrU w' g last step n := ⟨hc.blk h.1 hs, h.2⟩
theorem TrU.below {w w' : World} {g last step n : Nat} (h : TrU w g last step n) (hb : Below w.heap.size w w') : TrU w' g last step n := h.ch (Ch.of_below (S := fun _ => False) hb) id
theorem TrU.lt {w : World} {g last step n : Nat} (h : TrU w g last step n) : g < w.heap.size := blk_lt h.1
theorem newU_calls (w : World) :
    Calls Tryz.prog 188 #[] w fun e w' => e = .returned (.pointer (some ⟨w.heap.size, 0, none⟩)) ∧ TrU w' w.heap.size 0 0 0 ∧ Below w.heap.size w w' := by
  go_enter Tryz.func188, Tryz.ntmps188
  go_wp2
  go_ret
  exact ⟨rfl, ⟨blk_last _ _, by decide, by decide, by decide⟩, below_alloc (Below.refl _ _) _⟩
set_option maxHeartbeats 400000 in
theorem signedU_calls (g : Nat) (w : World) :
    Calls Tryz.prog 227 #[.pointer (some ⟨g, 0, none⟩)] w fun e w' => e = .returned (.bool false) ∧ w = w' := by
  go_enter Tryz.func227, Tryz.ntmps227
  go_wp2
  go_ret
  exact ⟨rfl, rfl⟩
set_option maxHeartbeats 800000 in
theorem toU_calls (g last step n v : Nat) (w : World) (h : TrU w g last step n) (hv : v < 18446744073709551616) :
    Calls Tryz.prog 226 #[.pointer (some ⟨g, 0, none⟩), .int .u64 v] w fun e w' =>
      e = .returned (.tuple #[.int .i64 (i64 (stepTo last n v)), .int .i64 (if n = 0 then 0 else i64 (sub64 (sub64 v last) step))]) ∧ Drawn0 w w' := by
  obtain ⟨hg, hl, hs, hn⟩ := h
  have c0 : w.cell? ⟨g, 0, none⟩ = some (.int .u64 last) := obj_cell hg rfl
  have c1 : w.cell? ⟨g, 1, none⟩ = some (.int .i64 (i64 step)) := obj_cell hg rfl
  have c2 : w.cell? ⟨g, 2, none⟩ = some (.int .i64 n) := obj_cell hg rfl
  clear hg
  by_cases h0 : n = 0
  · subst h0
    rw [if_pos rfl, show stepTo last 0 v = 0 from rfl, show i64 0 = 0 from rfl]
    clear c0 c1 hl hs
    go_enter Tryz.func226, Tryz.ntmps226
    go_wp2
    go_ret2
    exact ⟨rfl, Drawn0.refl _⟩
  · have d0 : ((n : Int) == 0) = false := by simp; omega
    rw [if_neg h0, show stepTo last n v = sub64 v last from if_neg h0]
    have e1 := wrap_subU v last hv hl
    have hq := sub64_lt v last
    obtain ⟨q, hqq⟩ : ∃ q, q = sub64 v last := ⟨_, rfl⟩
    rw [← hqq] at e1 hq ⊢
    have e3 := wrap_i64 q hq
    have e2 := wrap_sub q step hq hs
    have H2 := Lib.hid e2
    clear hqq h0
    go_enter Tryz.func226, Tryz.ntmps226
    go_wp2_with (fail)
    go_quiet (fail)
    go_wp2
    go_ret2
    exact ⟨rfl, by repeat (first | exact Drawn0.refl _ | apply Drawn0.step)⟩
set_option maxHeartbeats 800000 in
theorem takeU_calls (g last step n v st : Nat) (w : World) (h : TrU w g last step n) (hv : v < 18446744073709551616) (hst : st < 18446744073709551616) (hn : n < 1000000) :
    Calls Tryz.prog 229 #[.pointer (some ⟨g, 0, none⟩), .int .u64 v, .int .i64 (i64 st)] w fun e w' => e = .returned (.tuple #[]) ∧ TrU w' g v st (n + 1) ∧ Ch (fun k => k = g) w w' := by
  obtain ⟨hg, -⟩ := h
  have c0 : w.cell? ⟨g, 0, none⟩ = some (.int .u64 last) := obj_cell hg rfl
  have c1 : w.cell? ⟨g, 1, none⟩ = some (.int .i64 (i64 step)) := obj_cell hg rfl
  have c2 : w.cell? ⟨g, 2, none⟩ = some (.int .i64 n) := obj_cell hg rfl
  have f0 : w.frozen? ⟨g, 0, none⟩ = false := obj_free hg
  have f1 : w.frozen? ⟨g, 1, none⟩ = false := obj_free hg
  have f2 : w.frozen? ⟨g, 2, none⟩ = false := obj_free hg
  have HG := Lib.hid hg
  clear hg
  go_enter Tryz.func229, Tryz.ntmps229
  go_wp2_with (fail)
  go_end0
  refine ⟨rfl, ⟨?_, hv, hst, by omega⟩, ?_⟩
  · exact blk_set (blk_set (blk_set HG.out 0 _) 1 _) 2 _
  · exact (((Ch.refl (fun k => k = g) w).setCell (p := ⟨g, 0, none⟩) (.inl rfl) _).setCell (p := ⟨g, 1, none⟩) (.inl rfl) _).setCell (p := ⟨g, 2, none⟩) (.inl rfl) _
set_option maxHeartbeats 800000 in
theorem costU_calls (g last step n v : Nat) (w : World) (hT : Tab w) (h : TrU w g last step n) (hv : v < 18446744073709551616) :
    Calls Tryz.prog 192 #[.pointer (some ⟨g, 0, none⟩), .int .u64 v] w fun e w' => e = .returned (.int .i64 (told false last step n v).length) ∧ Drawn0 w w' := by
  have HTO := Lib.hid (toU_calls g last step n v w h hv)
  have HT := Lib.hid hT
  obtain ⟨hg, hl, hs, hn⟩ := h
  have c2 : w.cell? ⟨g, 2, none⟩ = some (.int .i64 n) := obj_cell hg rfl
  by_cases h0 : n = 0
  · subst h0
    have hir := i64_range v hv
    have HL := Lib.hid (fun m => lenUv_calls v (w.drewN m) (HT.out.drewN m) hv)
    have HSG := Lib.hid (fun m => signedU_calls g (w.drewN m))
    rw [show told false last step 0 v = firstU v from rfl]
    clear hg hT
    go_enter Tryz.func192, Tryz.ntmps192
    go_wp2_with (first
      | (go_at_call 226; refine HTO.out.mono ?_; rintro e w' ⟨rfl, nd, rfl⟩)
      | (go_at_call 227; refine (HSG.out _).mono ?_; rintro e w' ⟨rfl, rfl⟩)
      | (go_at_call 174; refine (HL.out _).mono ?_; rintro e w' ⟨rfl, rfl⟩))
    go_ret
    exact ⟨rfl, _, rfl⟩
  · have d0 : decide ((n : Int) > 0) = true := by simp; omega
    have d0' : decide (0 < (n : Int)) = true := by simp; omega
    have d0n : decide (0 < n) = true := by simp; omega
    have hir := i64_range (sub64 (sub64 v last) step) (sub64_lt _ _)
    have HL := Lib.hid (fun m => lenS_calls (i64 (sub64 (sub64 v last) step)) (w.drewN m) (HT.out.drewN m) hir.1 hir.2)
    rw [show told false last step n v = encS (i64 (sub64 (sub64 v last) step)) from if_neg h0]
    rw [if_neg h0] at HTO
    clear hg hT h0
    go_enter Tryz.func192, Tryz.ntmps192
    go_wp2_with (first
      | (go_at_call 226; refine HTO.out.mono ?_; rintro e w' ⟨rfl, nd, rfl⟩)
      | (go_at_call 172; refine (HL.out _).mono ?_; rintro e w' ⟨rfl, rfl⟩))
    go_ret
    exact ⟨rfl, _, rfl⟩
def PutU (g gx : Nat) (S : Nat → Prop) (l : List Bool) (last step n v : Nat) (w w' : World) : Prop :=
  ∃ S', Wr w' g S' (l ++ told false last step n v) ∧ (∀ k, S' k → S k ∨ w.heap.size ≤ k) ∧ TrU w' gx v (stepTo last n v) (n + 1) ∧ Ch (fun k => S k ∨ k = gx) w w'
set_option maxHeartbeats 800000 in
theorem putU_row (g gx : Nat) (S : Nat → Prop) (l : List Bool) (last step n v : Nat) (w : World) (hT : Tab w) (hG : ¬ S 1) (hx : TrU w gx last step n) (hw : Wr w g S l) (hgx : ¬ S gx)
    (hm : l.length ≤ 10000000000) (hv : v < 18446744073709551616) (hn : n < 1000000) :
    Calls Tryz.prog 194 #[.pointer (some ⟨gx, 0, none⟩), .pointer (some ⟨g, 0, none⟩), .int .u64 v] w fun e w' => e = .returned (.tuple #[]) ∧ PutU g gx S l last step n v w w' := by
  have HTO := Lib.hid (toU_calls gx last step n v w hx hv)
  have HX := Lib.hid hx
  have HEND := Lib.hid (fun (b : List Bool) (w1 w2 : World) (hu : Upd (fun w S => Wr w g S (l ++ b)) S w w1) (h2 : b = told false last step n v) (hx2 : TrU w2 gx v (stepTo last n v) (n + 1)) (hc : Ch (fun k => k = gx) w1 w2) =>
    show PutU g gx S l last step n v w w2 from by
      obtain ⟨S', ho, hs, h1⟩ := hu
      subst h2
      refine ⟨S', ho.ch hc ?_, hs, hx2, ?_⟩
      · rintro k hk rfl
        rcases hs _ hk with h3 | h3
        · exact hgx h3
        · have := hx.lt; omega
      · exact (h1.mono fun k _ h => .inl h).trans hc fun i _ h => .inr h)
  have HST := Lib.hid (stepTo_lt last n v)
  have HTX := Lib.hid (fun (w1 : World) (h : Ch S w w1) => takeU_calls gx last step n v (stepTo last n v) w1 (hx.ch h hgx) hv (stepTo_lt last n v) hn)
  have c2 : w.cell? ⟨gx, 2, none⟩ = some (.int .i64 n) := obj_cell hx.1 rfl
  by_cases h0 : n = 0
  · subst h0
    have hir := i64_range v hv
    have HP := Lib.hid (fun m => putUv_calls g S l v (w.drewN m) hT hG hw hm hv)
    have HSG := Lib.hid (fun m => signedU_calls gx (w.drewN m))
    clear hT hG hx hw hgx HX HST
    go_enter Tryz.func194, Tryz.ntmps194
    go_wp2_with (first
      | (go_at_call 226; refine HTO.out.mono ?_; rintro e w' ⟨rfl, nd, rfl⟩)
      | (go_at_call 227; refine (HSG.out _).mono ?_; rintro e w' ⟨rfl, rfl⟩)
      | (go_at_call 150; refine (HP.out _).mono ?_; rintro e w1 ⟨rfl, hu⟩; have HU := Lib.hid hu; clear hu)
      | (go_at_call 229; refine (HTX.out _ (upd_ch HU.out)).mono ?_; rintro e w2 ⟨rfl, hx2, hc2⟩))
    go_end0
    exact ⟨rfl, HEND.out _ _ _ (upd_undrew HU.out) rfl hx2 hc2⟩
  · have d0 : decide ((n : Int) > 0) = true := by simp; omega
    have d0' : decide (0 < (n : Int)) = true := by simp; omega
    have d0n : decide (0 < n) = true := by simp; omega
    have hir := i64_range (sub64 (sub64 v last) step) (sub64_lt _ _)
    have HP := Lib.hid (fun m => putS_calls g S l (i64 (sub64 (sub64 v last) step)) (w.drewN m) hT hG hw hm hir.1 hir.2)
    have HTL := Lib.hid (show told false last step n v = encS (i64 (sub64 (sub64 v last) step)) from if_neg h0)
    rw [if_neg h0] at HTO
    clear hT hG hx hw hgx h0 HX HST
    go_enter Tryz.func194, Tryz.ntmps194
    go_wp2_with (first
      | (go_at_call 226; refine HTO.out.mono ?_; rintro e w' ⟨rfl, nd, rfl⟩)
      | (go_at_call 73; refine (HP.out _).mono ?_; rintro e w1 ⟨rfl, hu⟩; have HU := Lib.hid hu; clear hu)
      | (go_at_call 229; refine (HTX.out _ (upd_ch HU.out)).mono ?_; rintro e w2 ⟨rfl, hx2, hc2⟩))
    go_end0
    exact ⟨rfl, HEND.out _ _ _ (upd_undrew HU.out) HTL.out.symm hx2 hc2⟩
end Go.Proofs.YtjfekjbmgckkcaaGreatDoor.TimesA
namespace Go.Proofs.YtjfekjbmgckkcaaGreatDoor.CkObj
open Go.RowKit Go.Proofs.YtjfekjbmgckkcaaGreatDoorW.PrintWords
open Go.Proofs.YtjfekjbmgckkcaaGreatDoor.Bits Go.Proofs.YtjfekjbmgckkcaaGreatDoor.Base Go.Proofs.YtjfekjbmgckkcaaGreatDoor.VarPure Go.Proofs.YtjfekjbmgckkcaaGreatDoor.VarbitA Go.Proofs.YtjfekjbmgckkcaaGreatDoor.StreamA Go.Proofs.YtjfekjbmgckkcaaGreatDoor.TimesPure Go.Proofs.YtjfekjbmgckkcaaGreatDoor.TimesA Go.Proofs.YtjfekjbmgckkcaaGreatDoor.SpanPure Go.Proofs.YtjfekjbmgckkcaaGreatDoor.SpanBase Go.Proofs.YtjfekjbmgckkcaaGreatDoor.HeadA Go.Proofs.YtjfekjbmgckkcaaGreatDoor.HeadB Go.Proofs.YtjfekjbmgckkcaaGreatDoor.HeadD Go.Proofs.YtjfekjbmgckkcaaGreatDoor.HeadPure Go.Proofs.YtjfekjbmgckkcaaGreatDoor.XorPure Go.Proofs.YtjfekjbmgckkcaaGreatDoor.XorB Go.Proofs.YtjfekjbmgckkcaaGreatDoor.CkPure
structure Inl (w : World) (A : Option Addr) (c : Nat) (l : List Int) : Prop where
  rd : RdI .i64 w A l
  len : l.length ≤ 1000000
  cap : l.length ≤ c
  nil : A = none → c = 0
theorem Inl.below {w W : World} {A : Option Addr} {c : Nat} {l : List Int} (h : Inl w A c l) (hb : Below w.heap.size w W) : Inl W A c l := ⟨h.rd.below hb, h.len, h.cap, h.nil⟩
def On (T : Nat → Prop) (A : Option Addr) (n : Nat) : Prop := ∀ ad, A = some ad → 0 < n → T ad.block
theorem On.mono {T T' : Nat → Prop} {A : Option Addr} {n : Nat} (h : On T A n) (hT : ∀ k, T k → T' k) : On T' A n := fun ad h1 h2 => hT _ (h ad h1 h2)
theorem Inl.ch {S T : Nat → Prop} {w W : World} {A : Option Addr} {c : Nat} {l : List Int} (h : Inl w A c l) (hc : Ch S w W) (hT : On T A l.length) (hs : ∀ k, T k → ¬ S k) : Inl W A c l := ⟨h.rd.stay fun ad hA hp => hc.block _ (by
    obtain ⟨ad', he, hc0⟩ := RdI.at_ h.rd 0 hp
    rw [hA] at he
    injection he with he
    subst he
    have hl := World.block_lt_of_cell? w _ hc0
    have hbk : (ad.add 0).block = ad.block := by unfold Addr.add; split <;> rfl
    rwa [hbk] at hl) (hs _ (hT ad hA (hp))), h.len, h.cap, h.nil⟩
theorem Spl.ch {S T : Nat → Prop} {w W : World} {A : Option Addr} {c : Nat} {l : List Sp} (h : Spl w A c l) (hc : Ch S w W) (hT : On T A l.length) (hs : ∀ k, T k → ¬ S k) : Spl W A c l := ⟨rd_ch h.rd hc fun ad hA hp => hs _ (hT ad hA hp), h.len, h.cap, h.nil⟩
def ColK (k : Nat) (w : World) (g : Nat) (l : List Nat) : Prop := if k < 2 then TrU w g (lastOf l) (stepOf l) l.length else if k = 2 then XrS w g (colX l) else TrS w g (lastOf l) (stepOf l) l.length
theorem ColK.ch {S : Nat → Prop} {w w' : World} {k g : Nat} {l : List Nat} (h : ColK k w g l) (hc : Ch S w w') (hs : ¬ S g) : ColK k w' g l := by
  unfold ColK at h ⊢
  split
  · rename_i h1
    rw [if_pos h1] at h
    exact h.ch hc hs
  · rename_i h1
    rw [if_neg h1] at h
    split
    · rename_i h2
      rw [if_pos h2] at h
      exact h.ch hc hs
    · rename_i h2
      rw [if_neg h2] at h
      exact h.ch hc hs
theorem ColK.below {w w' : World} {k g : Nat} {l : List Nat} (h : ColK k w g l) (hb : Below w.heap.size w w') : ColK k w' g l := h.ch (Ch.of_below (S := fun _ => False) hb) id
theorem ColK.lt {w : World} {k g : Nat} {l : List Nat} (h : ColK k w g l) : g < w.heap.size := by
  unfold ColK at h
  split at h
  · exact h.lt
  · split at h
    · exact h.lt
    · exact h.lt
structure Lh where
  A : Option Addr
  c : Nat
  B : Option Addr
  d : Nat
  C : Option Addr
  cc : Nat
  D : Option Addr
  dd : Nat
def ics (h : IH) (p : Lh) : List Value := [.int .i64 h.schema, .int .u64 h.zero, .int .u64 h.zc, .int .u64 h.cnt, .int .u64 h.sum, .slice p.A h.pos.length p.c, .slice p.B h.neg.length p.d, .slice p.C h.pd.length p.cc, .slice p.D h.nd.length p.dd]
def isc (s : IS) (p : Lh) : List Value := .int .i64 s.t :: ics s.h p
structure IhIn (w : World) (h : IH) (p : Lh) : Prop where
  pos : Spl w p.A p.c h.pos
  neg : Spl w p.B p.d h.neg
  pd : Inl w p.C p.cc h.pd
  nd : Inl w p.D p.dd h.nd
  n : In64H h
theorem IhIn.below {w W : World} {h : IH} {p : Lh} (x : IhIn w h p) (hb : Below w.heap.size w W) : IhIn W h p := ⟨x.pos.below hb, x.neg.below hb, x.pd.below hb, x.nd.below hb, x.n⟩
structure OnH (T : Nat → Prop) (h : IH) (p : Lh) : Prop where
  pos : On T p.A h.pos.length
  neg : On T p.B h.neg.length
  pd : On T p.C h.pd.length
  nd : On T p.D h.nd.length
theorem OnH.mono {T T' : Nat → Prop} {h : IH} {p : Lh} (x : OnH T h p) (hT : ∀ k, T k → T' k) : OnH T' h p := ⟨x.pos.mono hT, x.neg.mono hT, x.pd.mono hT, x.nd.mono hT⟩
theorem IhIn.ch {S T : Nat → Prop} {w W : World} {h : IH} {p : Lh} (x : IhIn w h p) (hc : Ch S w W) (hT : OnH T h p) (hs : ∀ k, T k → ¬ S k) : IhIn W h p := ⟨Spl.ch x.pos hc hT.pos hs, Spl.ch x.neg hc hT.neg hs, x.pd.ch hc hT.pd hs, x.nd.ch hc hT.nd hs, x.n⟩
def lastS (q : Hd) (l : List IS) : IS := match l.getLast? with | none => ⟨0, ⟨0, 0, 0, 0, 0, [], [], [], []⟩⟩ | some s => ⟨s.t, { s.h with pos := q.pos, neg := q.neg }⟩
theorem lastS_nil (q : Hd) : lastS q [] = ⟨0, ⟨0, 0, 0, 0, 0, [], [], [], []⟩⟩ := rfl
theorem lastS_snoc (q : Hd) (l : List IS) (s : IS) : lastS q (l ++ [s]) = ⟨s.t, { s.h with pos := q.pos, neg := q.neg }⟩ := by simp [lastS]
theorem lastS_t (q : Hd) (l : List IS) : (lastS q l).t = lastT l := by
  unfold lastS lastT
  cases l.getLast? <;> rfl
structure IkL where
  p : Lc
  gw : Nat
  gt : Nat
  Sw : Nat → Prop
  va : Option Addr
  vc : Nat
  cols : List Nat
  r : Lh
  T : Nat → Prop
def kic (q : Hd) (l : List IS) (x : IkL) : List Value :=
  hcs q x.p ++ ([.pointer (some ⟨x.gw, 0, none⟩), .int .i64 l.length, .pointer (some ⟨x.gt, 0, none⟩), .pointer (some ⟨x.cols.getD 0 0, 0, none⟩), .pointer (some ⟨x.cols.getD 1 0, 0, none⟩), .pointer (some ⟨x.cols.getD 2 0, 0, none⟩), .slice x.va (width q - 3) x.vc] ++ isc (lastS q l) x.r)
structure Ik (w : World) (g : Nat) (S : Nat → Prop) (q : Hd) (l : List IS) (x : IkL) : Prop where
  obj : w.heap[g]? = some (.cells (kic q l x).toArray 195 (0, 0))
  hd : HdIn w q x.p
  wr : Wr w x.gw x.Sw (encH q ++ bitsB l)
  tr : TrS w x.gt (lastOf (ts l)) (stepOf (ts l)) l.length
  cl : x.cols.length = width q
  vc : width q - 3 ≤ x.vc
  vals : ∀ (k : Nat) (h : 3 + k < x.cols.length), ∃ ad, x.va = some ad ∧ w.cell? (ad.add k) = some (.pointer (some ⟨x.cols[3 + k], 0, none⟩))
  xs : ∀ (k : Nat) (h : k < x.cols.length), ColK k w x.cols[k] (col l k)
  la : IhIn w (lastS q l).h x.r
  n64 : ∀ s ∈ l, In64S s
  good : CkPure.Good q l
  okq : (headErr q).1 = 0
  onp : On x.T x.p.A q.pos.length
  onn : On x.T x.p.B q.neg.length
  onv : On x.T x.va (width q - 3)
  onr : OnH x.T (lastS q l).h x.r
  hS : ∀ k, S k ↔ k = g ∨ x.Sw k ∨ k = x.gt ∨ k ∈ x.cols ∨ x.T k
  old : ∀ k, S k → k < w.heap.size
  gw : ¬ x.Sw g
  gt : g ≠ x.gt
  gc : g ∉ x.cols
  gT : ¬ x.T g
  wt : ¬ x.Sw x.gt
  wc : ∀ k ∈ x.cols, ¬ x.Sw k
  wT : ∀ k, x.T k → ¬ x.Sw k
  tc : x.gt ∉ x.cols
  tT : ¬ x.T x.gt
  cn : x.cols.Nodup
  cT : ∀ k ∈ x.cols, ¬ x.T k
theorem Ik.ch {S S' : Nat → Prop} {w w' : World} {g : Nat} {q : Hd} {l : List IS} {x : IkL} (h : Ik w g S q l x) (hc : Ch S' w w') (hs : ∀ k, S k → ¬ S' k) : Ik w' g S q l x := by
  have sg : S g := (h.hS g).2 (.inl rfl)
  have sw : ∀ k, x.Sw k → ¬ S' k := fun k hk => hs k ((h.hS k).2 (.inr (.inl hk)))
  have st : ¬ S' x.gt := hs _ ((h.hS _).2 (.inr (.inr (.inl rfl))))
  have sc : ∀ k ∈ x.cols, ¬ S' k := fun k hk => hs k ((h.hS k).2 (.inr (.inr (.inr (.inl hk)))))
  have sT : ∀ k, x.T k → ¬ S' k := fun k hk => hs k ((h.hS k).2 (.inr (.inr (.inr (.inr hk)))))
  exact { h with
    obj := hc.blk h.obj (hs g sg)
    hd := ⟨Spl.ch h.hd.pos hc h.onp sT, Spl.ch h.hd.neg hc h.onn sT, h.hd.z⟩
    wr := h.wr.ch hc sw
    tr := h.tr.ch hc st
    vals := fun k hk => by
      obtain ⟨ad, h1, h2⟩ := h.vals k hk
      exact ⟨ad, h1, hc.cell h2 (by rw [show (ad.add k).block = ad.block from by unfold Addr.add; split <;> rfl]; exact sT _ (h.onv ad h1 (by have := h.cl; omega)))⟩
    xs := fun k hk => (h.xs k hk).ch hc (sc _ (List.getElem_mem _))
    la := h.la.ch hc h.onr sT
    old := fun k hk => Nat.lt_of_lt_of_le (h.old k hk) hc.size }
theorem Ik.below {S : Nat → Prop} {w w' : World} {g : Nat} {q : Hd} {l : List IS} {x : IkL} (h : Ik w g S q l x) (hb : Below w.heap.size w w') : Ik w' g S q l x := h.ch (Ch.of_below (S := fun _ => False) hb) fun _ _ hf => hf
def Ci (w : World) (g : Nat) (S : Nat → Prop) (q : Hd) (l : List IS) : Prop := ∃ x, Ik w g S q l x
theorem Ci.below {S : Nat → Prop} {w w' : World} {g : Nat} {q : Hd} {l : List IS} (h : Ci w g S q l) (hb : Below w.heap.size w w') : Ci w' g S q l := by
  obtain ⟨x, h⟩ := h
  exact ⟨x, h.below hb⟩
end Go.Proofs.YtjfekjbmgckkcaaGreatDoor.CkObj
namespace Go.Proofs.YtjfekjbmgckkcaaGreatDoor.Cat
open Go.RowKit Go.Proofs.YtjfekjbmgckkcaaGreatDoorW.PrintWords
open Go.Proofs.YtjfekjbmgckkcaaGreatDoor.Base Go.Proofs.YtjfekjbmgckkcaaGreatDoor.StreamA Go.Proofs.YtjfekjbmgckkcaaGreatDoor.SpanBase
theorem wp_append_run {P : Program} {w w' : World} {o : Oper} {a : Act} {K : Act → World → Prop} {Q : Exit → Act → World → Prop} (s x : Operand) (t t' : TypeId) {v u v' : Value}
    (ho : o.op = .call { callee := .builtin .append, args := #[s, x], argTypes := #[t, t'] }) (hs : a.eval s = v) (hx : a.eval x = u) (hrun : (Builtin.append_ #[t, t'] o.type #[v, u]).run P w = .ok v' w') (h : K (a.put o.dst v') w') : o.wp P a w K Q := by
  unfold Oper.wp execOp
  simp only [ho, resolve, invoke, builtin, Sem.run_bind, Sem.run_pure, Result.andThen_ok, List.map_toArray, List.map_cons, List.map_nil, hs, hx, hrun]
  exact h
abbrev Row := Option Addr × Nat × List Int
def cat (L : List Row) : List Int := L.flatMap fun r => r.2.2
theorem cat_snoc (L : List Row) (r : Row) : cat (L ++ [r]) = cat L ++ r.2.2 := by simp [cat]
theorem cat_take (L : List Row) (k : Nat) (h : k < L.length) : cat (L.take (k + 1)) = cat (L.take k) ++ L[k].2.2 := by rw [List.take_succ_eq_append_getElem h, cat_snoc]
theorem cat_take_le (L : List Row) (k : Nat) : (cat (L.take k)).length ≤ (cat L).length := by
  conv => rhs; rw [← List.take_append_drop k L]
  rw [show cat (L.take k ++ L.drop k) = cat (L.take k) ++ cat (L.drop k) from List.flatMap_append, List.length_append]
  omega
theorem infou64 : (Tryz.prog.info? 22).map (fun i => (i.zero, i.size, i.bytes)) = some (some (.int .u64 0), 1, 8) := by kernel_rfl
set_option maxRecDepth 100000 in
set_option maxHeartbeats 1600000 in
theorem growu64_calls (n : Nat) (w : World) (hn : n ≤ 1000000) :
    Calls Tryz.prog 216 #[.slice none 0 0, .int .i64 n] w fun e w' => ∃ v, e = .returned v ∧ OwI 22 .u64 w' w.heap.size v [] ∧ Below w.heap.size w w' := by
  have d0 : decide ((n : Int) < 0) = false := by simp
  rcases Nat.eq_zero_or_pos n with h0 | h0
  · subst h0
    go_enter Tryz.func216, Tryz.ntmps216
    go_wp2
    go_ret
    exact ⟨_, rfl, OwI.nil _ _ _ _, Below.refl _ _⟩
  · have d1 : decide ((n : Int) > 0) = true := by simp; omega
    have d1' : decide (0 < (n : Int)) = true := by simp; omega
    have d1n : decide (0 < n) = true := by simp; omega
    obtain ⟨i0, hi, hz0, hz1, hz2⟩ := info_parts infou64
    have hcap := grownCap_ge w n 0 22
    have hcap2 := grownCap_le_maxLen w n 0 22 (by unfold maxLen; omega)
    obtain ⟨cap, hcp⟩ : ∃ cap, cap = grownCap w n 0 22 := ⟨_, rfl⟩
    have hnx : Builtin.nextslicecap (0 + n) 0 * i0.bytes ≤ 281474976710656 := by
      rw [hz2]
      have : Builtin.nextslicecap (0 + n) 0 = n := by
        unfold Builtin.nextslicecap
        simp
        intro h
        omega
      rw [this]; omega
    have happ := Lib.run_append_grow_zeros (P := Tryz.prog) w 70 3 70 22 i0 _ .i64 .i64 Tryz.underlying70 Tryz.underlying3 hi hz0 none 0 0 [] (by simp [Builtin.firstCells]) n h0 (by rw [hz1]; decide) (by omega) (by omega) (by rw [hz2]; omega) hnx
    rw [Nat.zero_add, ← hcp] at happ
    rw [← hcp] at hcap hcap2
    have hc0 : 0 < cap := by omega
    obtain ⟨cs, hcs⟩ : ∃ cs, cs = ([] : List Value).toArray ++ Builtin.zeroCells (Value.int .u64 0).cells n ++ Builtin.zeroCells (Value.int .u64 0).cells (cap - n) := ⟨_, rfl⟩
    rw [← hcs] at happ
    have hsz : cs.size = cap := by rw [hcs]; simp [Builtin.zeroCells, Value.cells]; omega
    have HSZ := Lib.hid hsz
    have HC2 := Lib.hid hcap2
    have hcut : ∀ W, (Instr.slice 70 (.slice (some ⟨w.heap.size, 0, none⟩) n cap) none (some (.int .i64 0)) none).run Tryz.prog W = .ok (.slice (some ⟨w.heap.size, 0, none⟩) 0 cap) W := fun W => by
      have := cut_to (P := Tryz.prog) 70 22 .i64 Tryz.underlying70 hi (some ⟨w.heap.size, 0, none⟩) n cap 0 (by omega) (by omega) hcap W
      simpa using this
    clear hcp hcs hsz hcap hcap2 hnx hi hz0 hz1 hz2
    go_enter Tryz.func216, Tryz.ntmps216
    go_wp2_with (at_builtin; refine wpList_plain rfl fun _ hK => wp_append_run _ _ 70 3 rfl rfl rfl happ ?_; refine hK _ _ ?_; clear hK)
    go_ret
    refine ⟨_, rfl, ⟨rfl, .inr ⟨w.heap.size, cap, cs, rfl, Nat.le_refl _, heap_alloc_new w.drew _, Nat.zero_le _, HC2.out, by rw [HSZ.out]; simp, rfl⟩⟩, below_alloc (below_drew (Below.refl _ _)) _⟩
set_option maxHeartbeats 1600000 in
theorem concatu64_calls (h : Nat) (L : List Row) (w : World) (hc : ∀ (k : Nat) (hk : k < L.length), w.cell? ⟨h, k, none⟩ = some (.slice L[k].1 L[k].2.2.length L[k].2.1) ∧ RdI .u64 w L[k].1 L[k].2.2) (hm : (cat L).length ≤ 100000) (hL : 0 < L.length) (hL2 : L.length ≤ 10) :
    Calls Tryz.prog 175 #[.slice (some ⟨h, 0, none⟩) L.length L.length] w fun e w' => ∃ v, e = .returned v ∧ OwI 22 .u64 w' w.heap.size v (cat L) ∧ Below w.heap.size w w' := by
  have HG := Lib.hid (growu64_calls (cat L).length w (by omega))
  have hlt : h < w.heap.size := by
    have h0 := (hc 0 hL).1
    rcases Nat.lt_or_ge h w.heap.size with hl | hl
    · exact hl
    · simp [World.cell?, Array.getElem?_eq_none hl] at h0
  have HC := Lib.hid hc
  clear hc
  go_enter Tryz.func175, Tryz.ntmps175
  go_wp2
  go_loop [3, 11] (fun s i => ∃ (k m : Nat), k ≤ L.length ∧ i = .int .i64 k ∧ s = .int .i64 m ∧ Hid (m = (cat (L.take k)).length)) (fun _ i => L.length - (intOf i).toNat)
  case atStart => exact ⟨0, 0, by omega, rfl, rfl, Lib.hid rfl⟩
  case round =>
    obtain ⟨k, m, hk, rfl, rfl, HM⟩ := hrel
    by_cases hlt2 : k < L.length
    · have c1 := (HC.out k hlt2).1
      have HT := Lib.hid (show (cat (L.take (k + 1))).length = m + L[k].2.2.length from by rw [cat_take L k hlt2, List.length_append, HM.out])
      have hle := cat_take_le L (k + 1)
      rw [HT.out] at hle
      obtain ⟨n, hn⟩ : ∃ n, n = L[k].2.2.length := ⟨_, rfl⟩
      rw [← hn] at c1 HT hle
      obtain ⟨A1, hA1⟩ : ∃ A1, A1 = L[k].1 := ⟨_, rfl⟩
      obtain ⟨C1, hC1⟩ : ∃ C1, C1 = L[k].2.1 := ⟨_, rfl⟩
      rw [← hA1, ← hC1] at c1
      have d : decide ((m : Int) + (n : Int) < 0) = false := by simp; omega
      clear hn hA1 hC1 HM
      go_wp2
      go_round
      case rel => exact ⟨k + 1, m + n, by omega, by go_num, by go_num, Lib.hid HT.out.symm⟩
      case measure => simp [intOf]; omega
    · obtain rfl : k = L.length := by omega
      have hmm := HM.out
      rw [List.take_length] at hmm
      subst hmm
      go_wp2_with (fail)
      refine HG.out.mono ?_
      rintro e w1 ⟨v, rfl, ho, hb⟩
      have HO := Lib.hid ho
      have HB := Lib.hid hb
      clear ho hb HG
      go_wp2_with (fail)
      go_loopw [6, 27] (fun v i wr => ∃ k : Nat, k ≤ L.length ∧ i = .int .i64 k ∧ OwI 22 .u64 wr w.heap.size v (cat (L.take k)) ∧ Below w.heap.size w wr) (fun _ i _ => L.length - (intOf i).toNat)
      case atStart => exact ⟨0, by omega, rfl, HO.out, HB.out⟩
      case round =>
        clear HO HB HM
        obtain ⟨k, hk, rfl, ho, hb⟩ := hrel
        have HO := Lib.hid ho
        have HB := Lib.hid hb
        have hsz := hb.size
        by_cases hlt3 : k < L.length
        · have c1 := (HC.out k hlt3).1
          have HR := Lib.hid ((HC.out k hlt3).2.below hb)
          have HT := Lib.hid (cat_take L k hlt3)
          have hle := cat_take_le L (k + 1)
          rw [HT.out, List.length_append] at hle
          obtain ⟨r, hr⟩ : ∃ r, r = L[k] := ⟨_, rfl⟩
          rw [← hr] at c1 HR HT hle
          obtain ⟨A1, C1, xs⟩ := r
          simp only at c1 HR HT hle
          have c1' : wr.cell? ⟨h, k, none⟩ = some (.slice A1 xs.length C1) := (hb.cell (p := ⟨h, k, none⟩) hlt).trans c1
          obtain ⟨ys, hys⟩ : ∃ ys, ys = cat (L.take k) := ⟨_, rfl⟩
          rw [← hys] at HO HT hle
          clear ho hb hr c1 hys
          go_wp2_with (at_builtin; refine append_row (w0 := w) w.heap.size rfl _ _ 70 22 .u64 8 rfl Tryz.underlying70 infou64 (by decide) _ ys xs A1 xs.length C1 rfl rfl rfl HO.out HR.out HB.out hsz (by omega) ?_; intro v2 w2 ho2 hb2 _ _; have HO2 := Lib.hid ho2; have HB2 := Lib.hid hb2; clear ho2 hb2)
          go_roundw
          case rel => exact ⟨k + 1, by omega, by go_num, by rw [HT.out]; exact HO2.out, HB2.out⟩
          case measure => simp [intOf]; omega
        · obtain rfl : k = L.length := by omega
          rw [List.take_length] at HO
          obtain ⟨A3, c3, rfl, -, -⟩ := HO.out.reads
          clear ho hb
          go_wp2
          go_ret
          exact ⟨_, rfl, HO.out, HB.out⟩
set_option maxHeartbeats 800000 in
theorem cloneu64_calls (A : Option Addr) (c : Nat) (l : List Int) (w : World) (hr : RdI .u64 w A l) (hm : l.length ≤ 1000000000) (hc : l.length ≤ c) (hA : A = none → c = 0) :
    Calls Tryz.prog 181 #[.slice A l.length c] w fun e w' => ∃ v, e = .returned v ∧ OwI 22 .u64 w' w.heap.size v l ∧ Below w.heap.size w w' := by
  have HR := Lib.hid hr
  clear hr
  cases A with
  | none =>
    have hc0 := hA rfl
    have hl : l = [] := List.length_eq_zero_iff.1 (by omega)
    subst hl
    subst hc0
    clear hc hA
    have hnil := fun w => Lib.run_eql_slice_nil (P := Tryz.prog) w 70 22 none 0 0 0 0 Tryz.underlying70
    go_enter Tryz.func181, Tryz.ntmps181
    go_wp2
    go_ret
    exact ⟨_, rfl, OwI.nil _ _ _ _, Below.refl _ _⟩
  | some ad =>
    clear hA
    have hnil := fun w => Lib.run_eql_slice_nil (P := Tryz.prog) w 70 22 (some ad) l.length c 0 0 Tryz.underlying70
    go_enter Tryz.func181, Tryz.ntmps181
    go_wp2_with (at_builtin; refine append_row (w0 := w) w.heap.size rfl _ _ 70 22 .u64 8 rfl Tryz.underlying70 infou64 (by decide) _ [] l (some ad) l.length c rfl rfl rfl ?c1 ?c2 ?c3 ?c4 ?c5 ?_)
    case c1 => exact own_lit w w.heap.size 22 .u64 [] (Nat.le_refl _) (by decide)
    case c2 => exact HR.out.alloc _
    case c3 => exact below_alloc (Below.refl _ _) _
    case c4 => simp
    case c5 => simp; omega
    intro v1 w1 ho hb _ _
    go_wp2
    go_ret
    exact ⟨_, rfl, by simpa using ho, hb⟩
theorem infoi64 : (Tryz.prog.info? 2).map (fun i => (i.zero, i.size, i.bytes)) = some (some (.int .i64 0), 1, 8) := by kernel_rfl
set_option maxRecDepth 100000 in
set_option maxHeartbeats 1600000 in
theorem growi64_calls (n : Nat) (w : World) (hn : n ≤ 1000000) :
    Calls Tryz.prog 240 #[.slice none 0 0, .int .i64 n] w fun e w' => ∃ v, e = .returned v ∧ OwI 2 .i64 w' w.heap.size v [] ∧ Below w.heap.size w w' := by
  have d0 : decide ((n : Int) < 0) = false := by simp
  rcases Nat.eq_zero_or_pos n with h0 | h0
  · subst h0
    go_enter Tryz.func240, Tryz.ntmps240
    go_wp2
    go_ret
    exact ⟨_, rfl, OwI.nil _ _ _ _, Below.refl _ _⟩
  · have d1 : decide ((n : Int) > 0) = true := by simp; omega
    have d1' : decide (0 < (n : Int)) = true := by simp; omega
    have d1n : decide (0 < n) = true := by simp; omega
    obtain ⟨i0, hi, hz0, hz1, hz2⟩ := info_parts infoi64
    have hcap := grownCap_ge w n 0 2
    have hcap2 := grownCap_le_maxLen w n 0 2 (by unfold maxLen; omega)
    obtain ⟨cap, hcp⟩ : ∃ cap, cap = grownCap w n 0 2 := ⟨_, rfl⟩
    have hnx : Builtin.nextslicecap (0 + n) 0 * i0.bytes ≤ 281474976710656 := by
      rw [hz2]
      have : Builtin.nextslicecap (0 + n) 0 = n := by
        unfold Builtin.nextslicecap
        simp
        intro h
        omega
      rw [this]; omega
    have happ := Lib.run_append_grow_zeros (P := Tryz.prog) w 98 3 98 2 i0 _ .i64 .i64 Tryz.underlying98 Tryz.underlying3 hi hz0 none 0 0 [] (by simp [Builtin.firstCells]) n h0 (by rw [hz1]; decide) (by omega) (by omega) (by rw [hz2]; omega) hnx
    rw [Nat.zero_add, ← hcp] at happ
    rw [← hcp] at hcap hcap2
    have hc0 : 0 < cap := by omega
    obtain ⟨cs, hcs⟩ : ∃ cs, cs = ([] : List Value).toArray ++ Builtin.zeroCells (Value.int .i64 0).cells n ++ Builtin.zeroCells (Value.int .i64 0).cells (cap - n) := ⟨_, rfl⟩
    rw [← hcs] at happ
    have hsz : cs.size = cap := by rw [hcs]; simp [Builtin.zeroCells, Value.cells]; omega
    have HSZ := Lib.hid hsz
    have HC2 := Lib.hid hcap2
    have hcut : ∀ W, (Instr.slice 98 (.slice (some ⟨w.heap.size, 0, none⟩) n cap) none (some (.int .i64 0)) none).run Tryz.prog W = .ok (.slice (some ⟨w.heap.size, 0, none⟩) 0 cap) W := fun W => by
      have := cut_to (P := Tryz.prog) 98 2 .i64 Tryz.underlying98 hi (some ⟨w.heap.size, 0, none⟩) n cap 0 (by omega) (by omega) hcap W
      simpa using this
    clear hcp hcs hsz hcap hcap2 hnx hi hz0 hz1 hz2
    go_enter Tryz.func240, Tryz.ntmps240
    go_wp2_with (at_builtin; refine wpList_plain rfl fun _ hK => wp_append_run _ _ 98 3 rfl rfl rfl happ ?_; refine hK _ _ ?_; clear hK)
    go_ret
    refine ⟨_, rfl, ⟨rfl, .inr ⟨w.heap.size, cap, cs, rfl, Nat.le_refl _, heap_alloc_new w.drew _, Nat.zero_le _, HC2.out, by rw [HSZ.out]; simp, rfl⟩⟩, below_alloc (below_drew (Below.refl _ _)) _⟩
set_option maxHeartbeats 1600000 in
theorem concati64_calls (h : Nat) (L : List Row) (w : World) (hc : ∀ (k : Nat) (hk : k < L.length), w.cell? ⟨h, k, none⟩ = some (.slice L[k].1 L[k].2.2.length L[k].2.1) ∧ RdI .i64 w L[k].1 L[k].2.2) (hm : (cat L).length ≤ 100000) (hL : 0 < L.length) (hL2 : L.length ≤ 10) :
    Calls Tryz.prog 228 #[.slice (some ⟨h, 0, none⟩) L.length L.length] w fun e w' => ∃ v, e = .returned v ∧ OwI 2 .i64 w' w.heap.size v (cat L) ∧ Below w.heap.size w w' := by
  have HG := Lib.hid (growi64_calls (cat L).length w (by omega))
  have hlt : h < w.heap.size := by
    have h0 := (hc 0 hL).1
    rcases Nat.lt_or_ge h w.heap.size with hl | hl
    · exact hl
    · simp [World.cell?, Array.getElem?_eq_none hl] at h0
  have HC := Lib.hid hc
  clear hc
  go_enter Tryz.func228, Tryz.ntmps228
  go_wp2
  go_loop [3, 11] (fun s i => ∃ (k m : Nat), k ≤ L.length ∧ i = .int .i64 k ∧ s = .int .i64 m ∧ Hid (m = (cat (L.take k)).length)) (fun _ i => L.length - (intOf i).toNat)
  case atStart => exact ⟨0, 0, by omega, rfl, rfl, Lib.hid rfl⟩
  case round =>
    obtain ⟨k, m, hk, rfl, rfl, HM⟩ := hrel
    by_cases hlt2 : k < L.length
    · have c1 := (HC.out k hlt2).1
      have HT := Lib.hid (show (cat (L.take (k + 1))).length = m + L[k].2.2.length from by rw [cat_take L k hlt2, List.length_append, HM.out])
      have hle := cat_take_le L (k + 1)
      rw [HT.out] at hle
      obtain ⟨n, hn⟩ : ∃ n, n = L[k].2.2.length := ⟨_, rfl⟩
      rw [← hn] at c1 HT hle
      obtain ⟨A1, hA1⟩ : ∃ A1, A1 = L[k].1 := ⟨_, rfl⟩
      obtain ⟨C1, hC1⟩ : ∃ C1, C1 = L[k].2.1 := ⟨_, rfl⟩
      rw [← hA1, ← hC1] at c1
      have d : decide ((m : Int) + (n : Int) < 0) = false := by simp; omega
      clear hn hA1 hC1 HM
      go_wp2
      go_round
      case rel => exact ⟨k + 1, m + n, by omega, by go_num, by go_num, Lib.hid HT.out.symm⟩
      case measure => simp [intOf]; omega
    · obtain rfl : k = L.length := by omega
      have hmm := HM.out
      rw [List.take_length] at hmm
      subst hmm
      go_wp2_with (fail)
      refine HG.out.mono ?_
      rintro e w1 ⟨v, rfl, ho, hb⟩
      have HO := Lib.hid ho
      have HB := Lib.hid hb
      clear ho hb HG
      go_wp2_with (fail)
      go_loopw [6, 27] (fun v i wr => ∃ k : Nat, k ≤ L.length ∧ i = .int .i64 k ∧ OwI 2 .i64 wr w.heap.size v (cat (L.take k)) ∧ Below w.heap.size w wr) (fun _ i _ => L.length - (intOf i).toNat)
      case atStart => exact ⟨0, by omega, rfl, HO.out, HB.out⟩
      case round =>
        clear HO HB HM
        obtain ⟨k, hk, rfl, ho, hb⟩ := hrel
        have HO := Lib.hid ho
        have HB := Lib.hid hb
        have hsz := hb.size
        by_cases hlt3 : k < L.length
        · have c1 := (HC.out k hlt3).1
          have HR := Lib.hid ((HC.out k hlt3).2.below hb)
          have HT := Lib.hid (cat_take L k hlt3)
          have hle := cat_take_le L (k + 1)
          rw [HT.out, List.length_append] at hle
          obtain ⟨r, hr⟩ : ∃ r, r = L[k] := ⟨_, rfl⟩
          rw [← hr] at c1 HR HT hle
          obtain ⟨A1, C1, xs⟩ := r
          simp only at c1 HR HT hle
          have c1' : wr.cell? ⟨h, k, none⟩ = some (.slice A1 xs.length C1) := (hb.cell (p := ⟨h, k, none⟩) hlt).trans c1
          obtain ⟨ys, hys⟩ : ∃ ys, ys = cat (L.take k) := ⟨_, rfl⟩
          rw [← hys] at HO HT hle
          clear ho hb hr c1 hys
          go_wp2_with (at_builtin; refine append_row (w0 := w) w.heap.size rfl _ _ 98 2 .i64 8 rfl Tryz.underlying98 infoi64 (by decide) _ ys xs A1 xs.length C1 rfl rfl rfl HO.out HR.out HB.out hsz (by omega) ?_; intro v2 w2 ho2 hb2 _ _; have HO2 := Lib.hid ho2; have HB2 := Lib.hid hb2; clear ho2 hb2)
          go_roundw
          case rel => exact ⟨k + 1, by omega, by go_num, by rw [HT.out]; exact HO2.out, HB2.out⟩
          case measure => simp [intOf]; omega
        · obtain rfl : k = L.length := by omega
          rw [List.take_length] at HO
          obtain ⟨A3, c3, rfl, -, -⟩ := HO.out.reads
          clear ho hb
          go_wp2
          go_ret
          exact ⟨_, rfl, HO.out, HB.out⟩
set_option maxHeartbeats 800000 in
theorem clonei64_calls (A : Option Addr) (c : Nat) (l : List Int) (w : World) (hr : RdI .i64 w A l) (hm : l.length ≤ 1000000000) (hc : l.length ≤ c) (hA : A = none → c = 0) :
    Calls Tryz.prog 195 #[.slice A l.length c] w fun e w' => ∃ v, e = .returned v ∧ OwI 2 .i64 w' w.heap.size v l ∧ Below w.heap.size w w' := by
  have HR := Lib.hid hr
  clear hr
  cases A with
  | none =>
    have hc0 := hA rfl
    have hl : l = [] := List.length_eq_zero_iff.1 (by omega)
    subst hl
    subst hc0
    clear hc hA
    have hnil := fun w => Lib.run_eql_slice_nil (P := Tryz.prog) w 98 2 none 0 0 0 0 Tryz.underlying98
    go_enter Tryz.func195, Tryz.ntmps195
    go_wp2
    go_ret
    exact ⟨_, rfl, OwI.nil _ _ _ _, Below.refl _ _⟩
  | some ad =>
    clear hA
    have hnil := fun w => Lib.run_eql_slice_nil (P := Tryz.prog) w 98 2 (some ad) l.length c 0 0 Tryz.underlying98
    go_enter Tryz.func195, Tryz.ntmps195
    go_wp2_with (at_builtin; refine append_row (w0 := w) w.heap.size rfl _ _ 98 2 .i64 8 rfl Tryz.underlying98 infoi64 (by decide) _ [] l (some ad) l.length c rfl rfl rfl ?c1 ?c2 ?c3 ?c4 ?c5 ?_)
    case c1 => exact own_lit w w.heap.size 2 .i64 [] (Nat.le_refl _) (by decide)
    case c2 => exact HR.out.alloc _
    case c3 => exact below_alloc (Below.refl _ _) _
    case c4 => simp
    case c5 => simp; omega
    intro v1 w1 ho hb _ _
    go_wp2
    go_ret
    exact ⟨_, rfl, by simpa using ho, hb⟩
end Go.Proofs.YtjfekjbmgckkcaaGreatDoor.Cat
namespace Go.Proofs.YtjfekjbmgckkcaaGreatDoor.SpanC
open Go.RowKit Go.Shelf Go.Proofs.YtjfekjbmgckkcaaGreatDoorW.PrintWords
open Go.Proofs.YtjfekjbmgckkcaaGreatDoor.Base Go.Proofs.YtjfekjbmgckkcaaGreatDoor.SpanPure Go.Proofs.YtjfekjbmgckkcaaGreatDoor.SpanBase Go.Proofs.YtjfekjbmgckkcaaGreatDoor.SpanA Go.Proofs.YtjfekjbmgckkcaaGreatDoor.SpanB
attribute [local go_sem] Oper.semAt_some
set_option maxHeartbeats 800000 in
theorem clone_calls (A : Option Addr) (c : Nat) (l : List Sp) (w : World) (hr : RdSp w A l) (hm : l.length ≤ 1000000000) (hc : l.length ≤ c) (hA : A = none → c = 0) :
    Calls Tryz.prog 137 #[.slice A l.length c] w fun e w' => ∃ v, e = .returned v ∧ OwSp 119 w' w.heap.size v l ∧ Below w.heap.size w w' := by
  have HR := Lib.hid hr
  clear hr
  cases A with
  | none =>
    have hc0 := hA rfl
    have hl : l = [] := List.length_eq_zero_iff.1 (by omega)
    subst hl
    subst hc0
    clear hc hA
    have hnil := fun w => Lib.run_eql_slice_nil (P := Tryz.prog) w 23 119 none 0 0 0 0 Tryz.underlying23
    go_enter Tryz.func137, Tryz.ntmps137
    go_wp2
    go_ret
    exact ⟨_, rfl, OwSp.nil _ _ _, Below.refl _ _⟩
  | some ad =>
    clear hA
    have hnil := fun w => Lib.run_eql_slice_nil (P := Tryz.prog) w 23 119 (some ad) l.length c 0 0 Tryz.underlying23
    go_enter Tryz.func137, Tryz.ntmps137
    go_wp2_with (at_builtin; refine append_spans (w0 := w) w.heap.size rfl _ _ 23 119 16 rfl Tryz.underlying23 infoSp _ [] l (some ad) c rfl rfl ?c1 ?c2 ?c3 ?c4 ?c5 ?c6 ?_)
    case c1 => exact OwSp.lit w 119 [] (by decide)
    case c2 => exact HR.out.below (below_alloc (Below.refl _ _) _)
    case c3 => exact below_alloc (Below.refl _ _) _
    case c4 => simp
    case c5 => simp; omega
    case c6 => simp; omega
    intro v1 w1 ho hb _ _
    go_wp2
    go_ret
    exact ⟨_, rfl, by simpa using ho, hb⟩
def KpA (A : Option Addr) (W W' : World) : Prop := ∀ ad, A = some ad → W'.heap[ad.block]? = W.heap[ad.block]?
theorem grown_of_below {w w' : World} (h : Below w.heap.size w w') : w.grownBy w' none := ⟨h.os, h.tape, h.output, h.size, fun k hk _ => h.block k hk⟩
abbrev encP (x : Int × Int) : Array Value := #[.int .i64 x.1, .int .i64 x.2]
set_option maxRecDepth 100000 in
set_option maxHeartbeats 3200000 in
theorem all_right (n : Nat) (Bn : Nat) (A : Option Addr) (c : Nat) (L : List Sp) (w : World) (hBn : Bn < w.heap.size) (hc : w.cell? ⟨Bn, 0, none⟩ = some (.slice A L.length c)) (hL : RdSp w A L) (hm : L.length ≤ 1000000000) (hR : chk L = 0) :
    SeqStopsK Fence.wide n Tryz.prog 219 #[.pointer (some ⟨Bn, 0, none⟩)] encP (KpA A) (fun ys => ys = idx 0 (places L)) (fun pre => pre <+: idx 0 (places L)) (places L).length w := fun l J Jx W hW hJ hJx hY h0 => by
  have hr := (chk_zero.1 hR).2
  have hlen := places_len hr
  have HLR := Lib.hid (hL.below hW)
  have HC := Lib.hid (check_calls A c L W (hL.below hW) hm)
  rw [hR] at HC
  have hcell : W.cell? ⟨Bn, 0, none⟩ = some (.slice A L.length c) := (hW.cell (p := ⟨Bn, 0, none⟩) hBn).trans hc
  have HJ := Lib.hid hJ
  have HJX := Lib.hid hJx
  have HY := Lib.hid hY
  have HR := Lib.hid hr
  clear hL hW hJ hJx hY hr hc hR
  refine callsIn_of_wp Tryz.func219 rfl trivial ?_ rfl
  simp only [Tryz.ntmps219, List.size_toArray, List.length_cons, List.length_nil, Nat.reduceAdd, Nat.reduceSub, Array.replicate_succ, Array.replicate_zero, List.push_toArray, List.append_toArray, List.nil_append, List.cons_append]
  gi_wp2
  refine ⟨trivial, fun h => (by cases h), ?_⟩
  refine (callsIn_wide.2 HC.out).mono ?_
  rintro e w1 ⟨rfl, hb1⟩
  have hcell1 : w1.cell? ⟨Bn, 0, none⟩ = some (.slice A L.length c) := by
    have hBW : Bn < W.heap.size := by
      rcases Nat.lt_or_ge Bn W.heap.size with h | h
      · exact h
      · simp [World.cell?, Array.getElem?_eq_none h] at hcell
    exact (hb1.cell (p := ⟨Bn, 0, none⟩) hBW).trans hcell
  have HL1 := Lib.hid (HLR.out.below hb1)
  have HJ1 := Lib.hid (HJ.out _ _ _ none h0 (grown_of_below hb1) (fun r h => by cases h))
  clear hcell h0 hb1 HC
  gi_wp2
  gi_loopw [3, 4, 12] (fun a m i wr => ∃ (k N : Nat) (E : Int), k ≤ L.length ∧ i = .int .i64 k ∧ a = .int .i64 E ∧ m = .int .i64 (N : Int) ∧ Hid (E = endF 0 (L.take k)) ∧ Hid (N = (placesF 0 (L.take k)).length) ∧ J (idx 0 (placesF 0 (L.take k))) wr ∧ RdSp wr A L) (fun _ _ i _ => L.length - (intOf i).toNat)
  case atStart => exact ⟨0, 0, 0, by omega, rfl, rfl, rfl, Lib.hid rfl, Lib.hid rfl, HJ1.out, HL1.out⟩
  case round =>
    obtain ⟨k, N, E, hk, rfl, rfl, rfl, hE, hN, hJk, hLk⟩ := hrel
    by_cases hlt : k < L.length
    · obtain ⟨ad, hA, c0, c1⟩ := hLk.at_ k hlt
      subst hA
      obtain ⟨r1, r2, r3, r4, r5, r6⟩ := right_at HR.out k hlt
      have HPT := Lib.hid (placesF_take L k hlt)
      have HET := Lib.hid (endF_take L k hlt)
      have HPX := Lib.hid (places_prefix L k hlt)
      obtain ⟨s, hs⟩ : ∃ s, s = L[k] := ⟨_, rfl⟩
      rw [← hs] at c0 c1 r1 r2 r3 r4 HPT HET HPX
      rw [← hE.out] at r3 r4 r5 r6 HPT HET HPX
      obtain ⟨o, q⟩ := s
      simp only at c0 c1 r1 r2 r3 r4 HPT HET HPX
      obtain ⟨Q, rfl⟩ := Int.eq_ofNat_of_zero_le r1
      rw [Int.toNat_natCast] at HPT HPX
      obtain ⟨D, hD⟩ : ∃ D, D = E + o := ⟨_, rfl⟩
      have hNQ : N + Q ≤ 4096 := by
        have h1 := (HPX.out Q (Nat.le_refl _)).length_le
        rw [List.length_append, runP_length, ← hN.out] at h1
        have := hlen
        omega
      rw [← hD] at r3 r4 HPT HET HPX
      have HJK := Lib.hid hJk
      have HLK := Lib.hid hLk
      clear hs hJk hLk
      obtain ⟨wo, rfl⟩ : ∃ wo : World, wo = wr := ⟨_, rfl⟩
      gi_wp2
      rw [← hD]
      have HD := Lib.hid hD
      clear hD
      gi_loopw [3, 4, 22] (fun a m i wr => ∃ j : Nat, j ≤ Q ∧ i = .int .i64 j ∧ a = .int .i64 (D + (j : Int)) ∧ m = .int .i64 ((N : Int) + (j : Int)) ∧ J (idx 0 (placesF 0 (L.take k) ++ runP D j)) wr ∧ RdSp wr (some ad) L) (fun _ _ i _ => Q - (intOf i).toNat)
      case atStart =>
        refine ⟨0, by omega, rfl, by simp, by simp, ?_, HLK.out.below (below_alloc (Below.refl _ _) _)⟩
        rw [runP_zero, List.append_nil]
        exact HJ.out _ _ _ none HJK.out (World.grownBy_alloc _ _ none) (fun r h => by cases h)
      case round =>
        clear HJK HLK c0 c1
        obtain ⟨j, hj, rfl, rfl, rfl, hJj, hLj⟩ := hrel
        by_cases hjl : j < Q
        · obtain ⟨fn, tmps, assign, body, hy, hR⟩ := HY.out _ ((N : Int) + (j : Int), D + (j : Int)) wr hJj (by
            have := (HPX.out (j + 1) (by omega)).length_le
            rw [List.length_append, runP_length] at this
            rw [idx_length, List.length_append, runP_length]
            omega)
          dsimp only [encP] at hy
          have HLJ := Lib.hid hLj
          have HPRE := Lib.hid (show idx 0 (placesF 0 (L.take k) ++ runP D j) ++ [((N : Int) + (j : Int), D + (j : Int))] = idx 0 (placesF 0 (L.take k) ++ runP D (j + 1)) by
            rw [runP_snoc, ← List.append_assoc, idx_snoc, List.length_append, runP_length, ← hN.out, show (0 : Int) + ((N + j : Nat) : Int) = (N : Int) + (j : Int) from by omega])
          clear hJj hLj
          gi_wp2
          refine ⟨fun h => (by cases h), hR.mono ?_⟩
          rintro e W3 (⟨rfl, hJ3, hk3⟩ | ⟨rfl, hJx3⟩)
          · have HJ3 := Lib.hid (HPRE.out ▸ hJ3)
            have HL3 := Lib.hid (RdC.stay HLJ.out fun a h _ => hk3 a h : RdSp W3 (some ad) L)
            clear hJ3 hk3 hR
            gi_wp2
            go_roundw
            case rel => exact ⟨j + 1, by omega, by go_num, by go_num, by go_num, HJ3.out, HL3.out⟩
            case measure => simp [intOf]; omega
          · have HJ3 := Lib.hid (HPRE.out ▸ hJx3)
            have HPP := Lib.hid (idx_prefix 0 (HPX.out (j + 1) (by omega)))
            clear hJx3 hR
            gi_wp2
            refine bodyPost_ret (results_none rfl _ _ _) rfl ?_
            exact ⟨⟨_, rfl⟩, .inr ⟨_, HPP.out, HJ3.out⟩⟩
        · obtain rfl : j = Q := by omega
          rw [← HPT.out] at hJj
          have HJQ := Lib.hid hJj
          have HLQ := Lib.hid hLj
          have HE1 : Hid (D + (j : Int) = endF 0 (L.take (k + 1))) := Lib.hid (by rw [HET.out])
          have HN1 : Hid (N + j = (placesF 0 (L.take (k + 1))).length) := Lib.hid (by rw [HPT.out, List.length_append, runP_length, ← hN.out])
          clear hJj hLj
          gi_wp2
          go_roundw
          case rel => exact ⟨k + 1, N + j, D + (j : Int), by omega, by go_num, rfl, by go_num, HE1, HN1, HJQ.out, HLQ.out⟩
          case measure => simp [intOf]; omega
    · obtain rfl : k = L.length := by omega
      rw [List.take_length] at hJk
      have HJK := Lib.hid hJk
      clear hJk hLk
      gi_wp2
      go_end0
      exact ⟨⟨_, rfl⟩, .inl ⟨_, rfl, HJK.out⟩⟩
end Go.Proofs.YtjfekjbmgckkcaaGreatDoor.SpanC
namespace Go.Proofs.YtjfekjbmgckkcaaGreatDoor.SpanD
open Go.RowKit Go.Shelf Go.Proofs.YtjfekjbmgckkcaaGreatDoorW.PrintWords
open Go.Proofs.YtjfekjbmgckkcaaGreatDoor.Base Go.Proofs.YtjfekjbmgckkcaaGreatDoor.SpanPure Go.Proofs.YtjfekjbmgckkcaaGreatDoor.SpanBase Go.Proofs.YtjfekjbmgckkcaaGreatDoor.SpanA Go.Proofs.YtjfekjbmgckkcaaGreatDoor.SpanB Go.Proofs.YtjfekjbmgckkcaaGreatDoor.SpanC
attribute [local go_sem] Oper.semAt_some
def AllPost (l : List Sp) (w : World) (e : Ending) (w' : World) : Prop :=
  ∃ (A : Option Addr) (c Bn : Nat), e = .returned (.func (.func 219) #[] #[.pointer (some ⟨Bn, 0, none⟩)]) ∧ w'.cell? ⟨Bn, 0, none⟩ = some (.slice A l.length c) ∧ RdSp w' A l ∧ (∀ ad, A = some ad → w.heap.size ≤ ad.block ∧ ad.block < w'.heap.size) ∧ w.heap.size ≤ Bn ∧ Bn < w'.heap.size ∧ Below w.heap.size w w'
set_option maxHeartbeats 800000 in
theorem all_calls (A : Option Addr) (c : Nat) (l : List Sp) (w : World) (hr : RdSp w A l) (hm : l.length ≤ 1000000000) (hc : l.length ≤ c) (hA : A = none → c = 0) :
    Calls Tryz.prog 182 #[.slice A l.length c] w (AllPost l w) := by
  have HC := Lib.hid (SpanC.clone_calls A c l w hr hm hc hA)
  clear hr hA hc
  go_enter Tryz.func182, Tryz.ntmps182
  go_wp2_with (fail)
  refine HC.out.mono ?_
  rintro e w1 ⟨v, rfl, ho, hb⟩
  obtain ⟨A1, c1, rfl, hc1, -, hr1⟩ := ho.reads
  have HR1 := Lib.hid hr1
  have HB := Lib.hid hb
  have HOB := Lib.hid (fun (ad : Addr) (h : A1 = some ad) => (⟨ho.base_ ad.block (by rw [h]; rfl), ho.lt_ ad.block (by rw [h]; rfl)⟩ : w.heap.size ≤ ad.block ∧ ad.block < w1.heap.size))
  have hsz := hb.size
  clear ho hr1 hb HC
  go_wp2
  go_ret
  refine ⟨A1, c1, w1.heap.size, rfl, by simp, HR1.out.below (below_alloc (Below.refl _ _) _), fun ad h => ?_, hsz, by simp, below_alloc HB.out _⟩
  have := HOB.out ad h
  exact ⟨this.1, by simp; omega⟩
theorem ownFrom_size {β : Type} {n B : Nat} : OwnFrom B (fun (_ : β) W => n ≤ W.heap.size) := fun _ _ _ _ hs hg _ => Nat.le_trans hs hg.size
theorem appended_keeps {W w1 : World} {base B : Nat} {e : TypeId} {v v' : Value} {k : Nat} {xs : List Value} {tmp : Obj} (hrow : W.ownsRow base e 1 v k xs) (hgrow : (W.alloc tmp).grownBy w1 v.ownBlock) (g : Nat) (hg : g < base) (hgB : g ≠ B) (hgW : g < W.heap.size) :
    (w1.setCell ⟨B, 0, none⟩ v').heap[g]? = W.heap[g]? := by
  rw [Below.heap_setCell _ _ _ _ hgB, hgrow.block g (by simp; omega) (fun he => by
    have := (World.ownsRow.lt hrow g he.symm).1
    omega)]
  exact Below.heap_alloc W tmp g hgW
theorem infoInt : (Tryz.prog.info? 3).map (fun i => (i.zero, i.size, i.bytes)) = some (some (.int .i64 0), 1, 8) := by kernel_rfl
def PlacesPost (l : List Sp) (w : World) (e : Ending) (w' : World) : Prop :=
  Below w.heap.size w w' ∧ ((chk l ≠ 0 ∧ e = .returned (.tuple #[.slice none 0 0, .int .i64 (chk l)])) ∨ (chk l = 0 ∧ ∃ v, e = .returned (.tuple #[v, .int .i64 0]) ∧ OwI 3 .i64 w' w.heap.size v (places l)))
set_option maxRecDepth 100000 in
set_option maxHeartbeats 3200000 in
theorem places_calls (A : Option Addr) (c : Nat) (l : List Sp) (w : World) (hr : RdSp w A l) (hm : l.length ≤ 1000000000) (hc : l.length ≤ c) (hA : A = none → c = 0) :
    Calls Tryz.prog 118 #[.slice A l.length c] w (PlacesPost l w) := by
  have HC := Lib.hid (check_calls A c l w hr hm)
  refine (callsIn_wide (n := 4)).1 ?_
  refine callsIn_of_wp_marks Tryz.func118 rfl trivial ?_ rfl
  simp only [Tryz.ntmps118, List.size_toArray, List.length_cons, List.length_nil, Nat.reduceAdd, Nat.reduceSub, Array.replicate_succ, Array.replicate_zero, List.push_toArray, List.append_toArray, List.nil_append, List.cons_append]
  by_cases h0 : chk l = 0
  · have HALL := Lib.hid (fun W (h : Below w.heap.size w W) => all_calls A c l W (hr.below h) hm hc hA)
    have H0 := Lib.hid h0
    rw [h0] at HC
    clear hr hA hc h0
    gi_wp2
    refine ⟨trivial, ?_⟩
    refine (callsIn_wide.2 HC.out).mono ?_
    rintro e w1 ⟨rfl, hb1⟩
    have HB1 := Lib.hid hb1
    have hsz1 := hb1.size
    clear hb1 HC
    gi_wp2
    refine ⟨trivial, ?_⟩
    refine (callsIn_wide.2 (HALL.out _ (below_alloc HB1.out _))).mono ?_
    rintro e w2 ⟨A2, c2, Bn, rfl, hcell, hrd, hA2, hBn1, hBn2, hb2⟩
    have hB0 : w1.heap.size < w2.heap.size := by have := hb2.size; simp at this; omega
    have hbox : Boxed w2 w1.heap.size 174 (.slice none 0 0) := (hb2.block w1.heap.size (by simp)).trans (Boxed.new w1 174 (.slice none 0 0))
    have HB2 := Lib.hid (below_then (below_alloc HB1.out (.cells #[.slice none 0 0] 174)) (by simp; omega) hb2)
    have hA3 : ∀ ad, A2 = some ad → w1.heap.size + 1 ≤ ad.block ∧ ad.block < w2.heap.size := fun ad h => by have := hA2 ad h; simp at this; omega
    have HA3 := Lib.hid hA3
    have HBOX := Lib.hid hbox
    have HST := Lib.hid (all_right (n := 3) Bn A2 c2 l w2 hBn2 hcell hrd hm H0.out)
    have hlen := places_len (chk_zero.1 H0.out).2
    clear hcell hrd hA2 hBn1 hBn2 hb2 hA3 hbox HALL
    gi_wp2
    refine wpIn_rangeFunc_ownG rfl (by decide) (gf := 219) (lb := #[.pointer (some ⟨Bn, 0, none⟩)]) rfl trivial (enters_of Tryz.func219 (by kernel_rfl) rfl)
      HST.out (fun h1 h2 ad h => (h2 ad h).trans (h1 ad h)) (fun W r o o' hr _ _ _ ad h => World.putObj_heap_other (by have := (HA3.out ad h).2; omega)) (Below.refl _ _) (fun _ => rfl)
      (fun pre W => (∃ v, Boxed W w1.heap.size 174 v ∧ W.ownsRow w2.heap.size 3 1 v pre.length (pre.map fun x => Value.int .i64 x.2) ∧ True) ∧ (Below w.heap.size w W ∧ w2.heap.size ≤ W.heap.size))
      (fun _ _ _ => False)
      (OwnFrom.and (Own.from (holdsRow_own w2.heap.size w1.heap.size 174 3 1 (fun pre : List (Int × Int) => pre.length) (fun pre => pre.map fun x => Value.int .i64 x.2) (fun _ _ => True)) _) (OwnFrom.and (ownFrom_below (Nat.le_refl _) (by omega)) ownFrom_size))
      (fun _ _ _ _ _ hs _ _ => hs)
      ⟨⟨_, HBOX.out, World.ownsRow_nil _ _ _ _, trivial⟩, HB2.out, Nat.le_refl _⟩
      (fun x => { tmps := #[.slice A l.length c, undef, .slice none 0 0, .int .i64 0, .int .i64 0, .pointer (some ⟨w1.heap.size, 0, none⟩), undef, .int .i64 x.2, .slice A l.length c, .int .i64 0, .int .i64 0, .bool false, undef, .slice A l.length c, .func (.func 219) #[] #[.pointer (some ⟨Bn, 0, none⟩)], .int .i64 x.1, .int .i64 x.2, undef, undef, undef, undef, undef], defers := [] }) ?assign ?body ?done ?stop
    case assign =>
      intro l x W K hK
      gi_wp2
      exact hK
    case body =>
      rintro r pre x W ⟨⟨v, hv, hrow, -⟩, hB, hszW2⟩ hlt
      have hc := hv.cell
      have hszW := hB.size
      have hpl : pre.length < 4096 := by omega
      obtain ⟨i0, hi, hz0, hz1, hz2⟩ := info_parts infoInt
      have HRW := Lib.hid hrow
      have HV := Lib.hid hv
      have HBW := Lib.hid hB
      clear hB hv
      gi_wp2_with (gi_at_builtin; refine wpListIn_append_own _ rfl _ _ 174 rfl w2.heap.size 3 i0 (.int .i64 0) 1 8 Tryz.underlying174 hi hz0 hz1 hz2 rfl (by decide) _ _ _ rfl (HRW.out.alloc _) ⟨W.heap.size, 0, none⟩ 1 1 [.int .i64 x.2] rfl rfl (cell_one_new _ _ _) (by simp [Value.oneCell']) (by unfold maxLen; omega) (by omega) (by simp; omega) ?_; intro v' w4 hown' hgrow _; obtain ⟨g', cap', rfl⟩ := ownsRow_succ hown'; have hap := HV.out.appended (n₀ := w.heap.size) (by decide) (own_weaken HRW.out (by omega)) hszW (by omega) (own_weaken hown' (by omega)) hgrow; have HK := Lib.hid (fun g h1 h2 h3 => appended_keeps (v' := .slice (some ⟨g', 0, none⟩) (pre.length + 1) cap') (B := w1.heap.size) HRW.out hgrow g h1 h2 h3); have HOW := Lib.hid hown'; obtain ⟨hv1, hv2, hr2, hk2, hb2⟩ := hap; have hc1 := hv1.cell; have hf1 := hv1.frozen; have HV1 := Lib.hid hv1; have HV2 := Lib.hid hv2; have HK2 := Lib.hid hk2; have HB2 := Lib.hid hb2; clear hown' hgrow hv1 hv2 hr2 hk2 hb2)
      refine ⟨HK2.out.from _, fun ad h => ?_, ⟨_, HV2.out, ?_, trivial⟩, HBW.out.trans HB2.out, Nat.le_trans hszW2 HK2.out.size⟩
      · have := HA3.out ad h
        exact HK.out _ (by omega) (by omega) (by omega)
      · rw [List.length_append, List.length_singleton, List.map_append]
        exact HOW.out.kept (grownBy_setCell' _ _ _) (.inr (HV1.out.not_row (by decide) HOW.out).symm)
    case done =>
      rintro D ys W hD rfl ⟨⟨v, hv, hrow, -⟩, hB, -⟩ hK
      have hc := hv.cell
      gi_wp2
      refine ⟨by simp, .inl ⟨_, _, rfl, run_takeDeferred hK, ?_⟩⟩
      refine ⟨_, results_tmp2 rfl _ _ _, hB.trans (belowK_b (w := w) (Nat.le_refl _) W D _ _ (by omega) hK rfl rfl), .inr ⟨H0.out, v, rfl, ?_⟩⟩
      have h9 := ownsRow_putObj (own_weaken hrow (show w.heap.size ≤ w2.heap.size by omega)) (.deferred none) hK rfl
      unfold OwI
      rw [idx_length] at h9
      have h8 : (idx 0 (places l)).map (fun x => Value.int .i64 x.2) = nums .i64 (places l) := by
        rw [nums, ← idx_snd (places l) 0, List.map_map, idx_snd]; rfl
      rw [h8] at h9
      exact h9
    case stop =>
      rintro D c pre W _ _ h _
      exact h.elim
  · have e1 : ((chk l : Int) != 0) = true := by simp; exact h0
    have H0 := Lib.hid h0
    clear h0 hr hA hc
    gi_wp2
    refine ⟨trivial, ?_⟩
    refine (callsIn_wide.2 HC.out).mono ?_
    rintro e w1 ⟨rfl, hb1⟩
    have HB1 := Lib.hid hb1
    clear hb1 HC
    gi_wp2
    exact ⟨_, results_tmp2 rfl _ _ _, HB1.out, .inl ⟨H0.out, rfl⟩⟩
end Go.Proofs.YtjfekjbmgckkcaaGreatDoor.SpanD
namespace Go.Proofs.YtjfekjbmgckkcaaGreatDoor.SpanQ
open Go.RowKit Go.Proofs.YtjfekjbmgckkcaaGreatDoorW.PrintWords
open Go.Proofs.YtjfekjbmgckkcaaGreatDoor.Base Go.Proofs.YtjfekjbmgckkcaaGreatDoor.SpanPure Go.Proofs.YtjfekjbmgckkcaaGreatDoor.SpanBase Go.Proofs.YtjfekjbmgckkcaaGreatDoor.SpanA Go.Proofs.YtjfekjbmgckkcaaGreatDoor.SpanB Go.Proofs.YtjfekjbmgckkcaaGreatDoor.SpanC Go.Proofs.YtjfekjbmgckkcaaGreatDoor.SpanD
theorem ints_equal (v1 v2 : Value) (xs ys : List Int) (b1 b2 : Nat) (w : World) (h1 : OwI 3 .i64 w b1 v1 xs) (h2 : OwI 3 .i64 w b2 v2 ys) (hm : xs.length ≤ 1000000000) (hm2 : ys.length ≤ 1000000000) :
    Calls Tryz.prog 214 #[v1, v2] w fun e w' => e = .returned (.bool (decide (xs = ys))) ∧ Drawn0 w w' := by
  by_cases hl : xs.length = ys.length
  · rcases Nat.eq_zero_or_pos xs.length with h0 | h0
    · obtain rfl := List.length_eq_zero_iff.1 h0
      obtain rfl := List.length_eq_zero_iff.1 (hl.symm.trans h0)
      obtain ⟨A, c, rfl, -, -⟩ := h1.reads
      obtain ⟨A2, c2, rfl, -, -⟩ := h2.reads
      refine (Tryz.slices_Equal_int_empty A A2 c 0 c2 w (by decide)).mono ?_
      rintro e w' ⟨rfl, rfl⟩
      exact ⟨rfl, Drawn0.refl _⟩
    · obtain ⟨g, c, rfl, -, -, -⟩ := h1.form h0
      obtain ⟨g2, c2, rfl, -, -, -⟩ := h2.form (by omega)
      refine (Tryz.slices_Equal_int g 0 xs.length c g2 0 ys.length c2 xs ys w (Nat.le_refl _) (Nat.le_refl _) (by omega) (by omega) (fun j hj => ?_) (fun j hj => ?_)).mono ?_
      · rw [Nat.zero_add, List.getD_eq_getElem?_getD, List.getElem?_eq_getElem hj]; exact (OwI.at_ h1 j hj).1
      · rw [Nat.zero_add, List.getD_eq_getElem?_getD, List.getElem?_eq_getElem hj]; exact (OwI.at_ h2 j hj).1
      · rintro e w' ⟨rfl, q, rfl⟩
        refine ⟨?_, ⟨q, rfl⟩⟩
        rw [List.take_length, List.take_length]
        congr 2
        rw [Bool.eq_iff_iff, beq_iff_eq, decide_eq_true_iff]
  · obtain ⟨A, c, rfl, -, -⟩ := h1.reads
    obtain ⟨A2, c2, rfl, -, -⟩ := h2.reads
    refine (Tryz.slices_Equal_int_lens A A2 xs.length c ys.length c2 w hl).mono ?_
    rintro e w' ⟨rfl, rfl⟩
    refine ⟨?_, Drawn0.refl _⟩
    rw [decide_eq_false]
    rintro rfl
    exact hl rfl
theorem ne_chk {l : List Sp} (h : chk l ≠ 0) : ((chk l : Int) != 0) = true := by simp; exact h
theorem right_of {l : List Sp} (h : chk l = 0) : rightF true 0 0 l = true := (chk_zero.1 h).2
set_option maxHeartbeats 1600000 in
theorem count_calls (A : Option Addr) (c : Nat) (l : List Sp) (w : World) (hr : RdSp w A l) (hm : l.length ≤ 1000000000) :
    Calls Tryz.prog 99 #[.slice A l.length c] w fun e w' => e = .returned (.int .i64 (if chk l = 0 then (places l).length else 0 : Nat)) ∧ Below w.heap.size w w' := by
  have HR := Lib.hid hr
  have HC := Lib.hid (check_calls A c l w hr hm)
  clear hr
  by_cases h0 : chk l = 0
  · rw [if_pos h0]
    rw [h0] at HC
    have hR := right_of h0
    have HRR := Lib.hid hR
    have HCN := Lib.hid (places_cnt hR)
    have HPL := Lib.hid (places_len hR)
    clear h0 hR
    go_enter Tryz.func99, Tryz.ntmps99
    go_wp2_with (go_at_call 166; refine HC.out.mono ?_; rintro e w1 ⟨rfl, hb1⟩; have HB1 := Lib.hid hb1; clear hb1)
    go_loopw [3, 11] (fun s i wr => ∃ (k : Nat) (m : Int), k ≤ l.length ∧ i = .int .i64 k ∧ s = .int .i64 m ∧ Hid (m = cntF 0 (l.take k)) ∧ 0 ≤ m ∧ m ≤ 4096 ∧ Below w.heap.size w wr) (fun _ i _ => l.length - (intOf i).toNat)
    case atStart => exact ⟨0, 0, by omega, rfl, rfl, Lib.hid rfl, by omega, by omega, HB1.out⟩
    case round =>
      obtain ⟨k, m, hk, rfl, rfl, hm1, hm2, hm3, hb⟩ := hrel
      have HB := Lib.hid hb
      have hsz := hb.size
      by_cases hlt : k < l.length
      · obtain ⟨ad, hA, c0, c1⟩ := (HR.out.below hb).at_ k hlt
        subst hA
        obtain ⟨r1, r2, -, -, -, -⟩ := right_at HRR.out k hlt
        have hn := rightF_facts (l.take (k + 1)) true 0 0 (right_take HRR.out (k + 1)) (by decide) (by decide)
        have he : cntF 0 (l.take (k + 1)) = m + l[k].2 := by rw [List.take_succ_eq_append_getElem hlt, cntF_append, ← hm1.out]; rfl
        have hle : m + l[k].2 ≤ 4096 := by
          rw [← he]
          rcases hn.2.1 with h | h
          · exact h
          · exact absurd h (by intro h2; have := congrArg List.length h2; simp only [List.length_take, List.length_nil] at this; omega)
        have HE := Lib.hid he
        obtain ⟨s, hs⟩ : ∃ s, s = l[k] := ⟨_, rfl⟩
        rw [← hs] at c0 c1 r1 r2 hle HE
        obtain ⟨o, q⟩ := s
        simp only at c0 c1 r1 r2 hle HE
        clear hs hb hn he
        go_wp2
        go_roundw
        case rel => exact ⟨k + 1, m + q, by omega, by go_num, rfl, Lib.hid HE.out.symm, by omega, by omega, HB.out.alloc hsz _⟩
        case measure => simp [intOf]; omega
      · obtain rfl : k = l.length := by omega
        have hmm : m = ((places l).length : Int) := by rw [hm1.out, List.take_length]; exact HCN.out
        subst hmm
        clear hb
        go_wp2
        go_ret
        exact ⟨rfl, HB.out⟩
  · rw [if_neg h0]
    have e1 := ne_chk h0
    clear h0
    go_enter Tryz.func99, Tryz.ntmps99
    go_wp2_with (go_at_call 166; refine HC.out.mono ?_; rintro e w1 ⟨rfl, hb1⟩; have HB1 := Lib.hid hb1; clear hb1)
    go_ret
    exact ⟨rfl, HB1.out⟩
set_option maxHeartbeats 1600000 in
theorem equal_calls (A1 A2 : Option Addr) (c1 c2 : Nat) (l m : List Sp) (w : World) (h1 : RdSp w A1 l) (h2 : RdSp w A2 m) (hm1 : l.length ≤ 1000000000) (hm2 : m.length ≤ 1000000000) (hc1 : l.length ≤ c1) (hc2 : m.length ≤ c2) (hA1 : A1 = none → c1 = 0) (hA2 : A2 = none → c2 = 0) :
    Calls Tryz.prog 170 #[.slice A1 l.length c1, .slice A2 m.length c2] w fun e w' => e = .returned (.bool (decide (chk l = 0 ∧ chk m = 0 ∧ places l = places m))) ∧ Below w.heap.size w w' := by
  have HP1 := Lib.hid (places_calls A1 c1 l w h1 hm1 hc1 hA1)
  have HP2 := Lib.hid (fun W (h : Below w.heap.size w W) => places_calls A2 c2 m W (h2.below h) hm2 hc2 hA2)
  clear h1 h2 hc1 hc2 hA1 hA2
  go_enter Tryz.func170, Tryz.ntmps170
  go_wp2_with (fail)
  refine HP1.out.mono ?_
  rintro e w1 ⟨hb1, ⟨h0, rfl⟩ | ⟨h0, v, rfl, ho⟩⟩
  · have HB1 := Lib.hid hb1
    have e1 : ((chk l : Int) == 0) = false := by simp; exact h0
    have HF : Hid (decide (chk l = 0 ∧ chk m = 0 ∧ places l = places m) = false) := Lib.hid (by simp [h0])
    clear hb1 h0 HP1
    go_wp2_with (fail)
    refine (HP2.out _ HB1.out).mono ?_
    rintro e w2 ⟨hb2, hcase⟩
    have HB2 := Lib.hid (below_then HB1.out HB1.out.size hb2)
    have : ∃ (v2 : Value) (k : Int), e = .returned (.tuple #[v2, .int .i64 k]) := by
      rcases hcase with ⟨-, rfl⟩ | ⟨-, v2, rfl, -⟩
      · exact ⟨_, _, rfl⟩
      · exact ⟨_, _, rfl⟩
    obtain ⟨v2, k, rfl⟩ := this
    clear hcase hb2
    go_wp2
    go_ret
    exact ⟨by rw [HF.out]; rfl, HB2.out⟩
  · have HB1 := Lib.hid hb1
    have H0 := Lib.hid h0
    obtain ⟨A3, c3, rfl, -, -⟩ := ho.reads
    have HO := Lib.hid ho
    have hpl := places_len (right_of h0)
    clear hb1 h0 HP1 ho
    go_wp2_with (fail)
    refine (HP2.out _ HB1.out).mono ?_
    rintro e w2 ⟨hb2, ⟨g0, rfl⟩ | ⟨g0, v2, rfl, ho2⟩⟩
    · have HB2 := Lib.hid (below_then HB1.out HB1.out.size hb2)
      have e1 : ((chk m : Int) == 0) = false := by simp; exact g0
      have HF : Hid (decide (chk l = 0 ∧ chk m = 0 ∧ places l = places m) = false) := Lib.hid (by simp [g0])
      clear hb2 g0
      go_wp2
      go_ret
      exact ⟨by rw [HF.out]; rfl, HB2.out⟩
    · have HB2 := Lib.hid (below_then HB1.out HB1.out.size hb2)
      have HE := Lib.hid (ints_equal _ _ (places l) (places m) _ _ w2 (HO.out.below hb2) ho2 (by omega) (by have := places_len (right_of g0); omega))
      have HF : Hid (decide (chk l = 0 ∧ chk m = 0 ∧ places l = places m) = decide (places l = places m)) := Lib.hid (by simp [H0.out, g0])
      obtain ⟨A4, c4, rfl, -, -⟩ := ho2.reads
      clear hb2 g0 ho2
      go_wp2_with (go_at_call 214; refine HE.out.mono ?_; rintro e w3 ⟨rfl, q, rfl⟩)
      go_ret
      exact ⟨by rw [HF.out]; rfl, pw_below_drewN HB2.out q⟩
end Go.Proofs.YtjfekjbmgckkcaaGreatDoor.SpanQ
namespace Go.Proofs.YtjfekjbmgckkcaaGreatDoor.HistA
open Go.RowKit Go.Proofs.YtjfekjbmgckkcaaGreatDoorW.PrintWords
open Go.Proofs.YtjfekjbmgckkcaaGreatDoor.Bits Go.Proofs.YtjfekjbmgckkcaaGreatDoor.Base Go.Proofs.YtjfekjbmgckkcaaGreatDoor.StreamA Go.Proofs.YtjfekjbmgckkcaaGreatDoor.SpanPure Go.Proofs.YtjfekjbmgckkcaaGreatDoor.SpanBase Go.Proofs.YtjfekjbmgckkcaaGreatDoor.HeadA Go.Proofs.YtjfekjbmgckkcaaGreatDoor.HeadB Go.Proofs.YtjfekjbmgckkcaaGreatDoor.SpanD Go.Proofs.YtjfekjbmgckkcaaGreatDoor.ThrPure Go.Proofs.YtjfekjbmgckkcaaGreatDoor.CkPure Go.Proofs.YtjfekjbmgckkcaaGreatDoor.CkObj
theorem info64 : (Tryz.prog.info? 2).map (fun i => (i.zero, i.size, i.bytes)) = some (some (.int .i64 0), 1, 8) := by kernel_rfl
theorem wrap_in (z : Int) (h : in64 z = true) : IntKind.i64.wrap z = z := by
  unfold in64 at h
  simp only [decide_eq_true_eq] at h
  rw [IntKind.wrap_i64]; omega
set_option maxHeartbeats 400000 in
theorem add_calls (x y : Int) (w : World) (hy : in64 y = true) (h : in64 (x + y) = true) :
    Calls Tryz.prog 250 #[.int .i64 x, .int .i64 y] w fun e w' => e = .returned (.tuple #[.int .i64 (x + y), .bool true]) ∧ w = w' := by
  have hw := wrap_in _ h
  simp only [in64, decide_eq_true_eq] at hy h
  by_cases h0 : 0 < y
  · have d1 : decide (x + y > x) = true := by simp; omega
    have d1' : decide (x < x + y) = true := by simp; omega
    have d2 : decide (y > 0) = true := by simp; omega
    have d2' : decide (0 < y) = true := by simp; omega
    go_enter Tryz.func250, Tryz.ntmps250
    go_wp2
    go_ret2
    exact ⟨rfl, rfl⟩
  · have d1 : decide (x + y > x) = false := by simp; omega
    have d1' : decide (x < x + y) = false := by simp; omega
    have d2 : decide (y > 0) = false := by simp; omega
    have d2' : decide (0 < y) = false := by simp; omega
    go_enter Tryz.func250, Tryz.ntmps250
    go_wp2
    go_ret2
    exact ⟨rfl, rfl⟩
set_option maxHeartbeats 400000 in
theorem add_over (x y : Int) (w : World) (hx : in64 x = true) (hy : in64 y = true) (h : in64 (x + y) = false) :
    Calls Tryz.prog 250 #[.int .i64 x, .int .i64 y] w fun e w' => (∃ z, e = .returned (.tuple #[.int .i64 z, .bool false])) ∧ w = w' := by
  obtain ⟨z, hz⟩ : ∃ z, z = IntKind.i64.wrap (x + y) := ⟨_, rfl⟩
  have hz2 := hz
  rw [IntKind.wrap_i64] at hz2
  simp only [in64, decide_eq_true_eq, decide_eq_false_iff_not] at hx hy h
  by_cases h0 : 0 < y
  · have d1 : decide (z > x) = false := by simp; omega
    have d1' : decide (x < z) = false := by simp; omega
    have d2 : decide (y > 0) = true := by simp; omega
    have d2' : decide (0 < y) = true := by simp; omega
    have hw := hz.symm
    clear hz hz2 h
    go_enter Tryz.func250, Tryz.ntmps250
    go_wp2
    go_ret2
    exact ⟨⟨_, rfl⟩, rfl⟩
  · have d1 : decide (z > x) = true := by simp; omega
    have d1' : decide (x < z) = true := by simp; omega
    have d2 : decide (y > 0) = false := by simp; omega
    have d2' : decide (0 < y) = false := by simp; omega
    have hw := hz.symm
    clear hz hz2 h
    go_enter Tryz.func250, Tryz.ntmps250
    go_wp2
    go_ret2
    exact ⟨⟨_, rfl⟩, rfl⟩
def AbsPost (l : List Int) (w : World) (e : Ending) (w' : World) : Prop :=
  Below w.heap.size w w' ∧ ((fitTo l l.length = false ∧ e = .returned (.tuple #[.slice none 0 0, .int .i64 28])) ∨ (fitTo l l.length = true ∧ ∃ v, e = .returned (.tuple #[v, .int .i64 0]) ∧ OwI 2 .i64 w' w.heap.size v (cums l)))
set_option maxHeartbeats 1600000 in
theorem abs_calls (A : Option Addr) (c : Nat) (l : List Int) (w : World) (hr : RdI .i64 w A l) (hm : l.length ≤ 1000000) (h64 : ∀ v ∈ l, -9223372036854775808 ≤ v ∧ v ≤ 9223372036854775807) :
    Calls Tryz.prog 244 #[.slice A l.length c] w (AbsPost l w) := by
  have HR := Lib.hid hr
  have H64 := Lib.hid h64
  have HAD := Lib.hid add_calls
  have HOV := Lib.hid add_over
  clear hr h64
  go_enter Tryz.func244, Tryz.ntmps244
  go_wp2
  go_loopw [4, 5, 6, 8, 11] (fun v a o _ i wr => ∃ (k : Nat) (s : Int), k ≤ l.length ∧ i = .int .i64 k ∧ a = .int .i64 s ∧ o = .bool true ∧ Hid (s = sumAt l k) ∧ Hid (fitTo l k = true) ∧ OwI 2 .i64 wr w.heap.size v (cumsTo l k) ∧ Below w.heap.size w wr) (fun _ _ _ _ i _ => l.length - (intOf i).toNat)
  case atStart => exact ⟨0, 0, by omega, rfl, rfl, rfl, Lib.hid rfl, Lib.hid rfl, OwI.nil _ _ _ _, Below.refl _ _⟩
  case round =>
    obtain ⟨k, s, hk, rfl, rfl, rfl, hs, hf, ho, hb⟩ := hrel
    have HB := Lib.hid hb
    have HO := Lib.hid ho
    have hsz := hb.size
    by_cases hlt : k < l.length
    · obtain ⟨ad, hA, c0⟩ := RdI.at_ (HR.out.below hb) k hlt
      subst hA
      have H1 := Lib.hid (sumAt_succ l k hlt)
      have hv := H64.out _ (List.getElem_mem hlt)
      obtain ⟨y, hy⟩ : ∃ y, y = l[k] := ⟨_, rfl⟩
      rw [← hy] at c0 H1 hv
      have HIS : Hid (in64 s = true) := Lib.hid (by rw [hs.out]; exact fitTo_at hf.out (Nat.le_refl _))
      have HIY : Hid (in64 y = true) := Lib.hid (by unfold in64; simpa using hv)
      have HS1 : Hid (sumAt l (k + 1) = s + y) := Lib.hid (by rw [H1.out, hs.out])
      have hsl : (cumsTo l k).length ≤ 1000000 := by rw [cumsTo_length]; omega
      have HL := Lib.hid hsl
      have HT := Lib.hid (cumsTo_succ l k)
      clear hb ho hy hsl hv
      cases hi : in64 (s + y) with
      | true =>
        have HI := Lib.hid hi
        clear hi
        go_wp2_with (first
          | (go_at_call 250; refine (HAD.out s y _ HIY.out HI.out).mono ?_; rintro e w' ⟨rfl, rfl⟩)
          | (at_builtin; refine append_one (w0 := w) w.heap.size rfl (.tmp 23) (.tmp 25) 98 2 .i64 8 rfl Tryz.underlying98 info64 (by decide) _ (cumsTo l k) _ rfl rfl HO.out HB.out hsz (by have := HL.out; omega) ?_; intro v1 w1 ho1 hb1 _ _; have HO1 := Lib.hid ho1; have HB1 := Lib.hid hb1; clear ho1 hb1))
        go_roundw
        case rel => exact ⟨k + 1, s + y, by omega, by go_num, rfl, rfl, Lib.hid HS1.out.symm, Lib.hid (by rw [fitTo_succ, hf.out, HS1.out, HI.out]; rfl), by rw [HT.out, HS1.out]; exact HO1.out, HB1.out⟩
        case measure => simp [intOf]; omega
      | false =>
        have HI := Lib.hid hi
        have HN : Hid (fitTo l l.length = false) := Lib.hid (fitTo_no (j := k + 1) (by rw [HS1.out]; exact hi) (by omega))
        clear hi
        go_wp2_with (fail)
        refine (HOV.out s y _ HIS.out HIY.out HI.out).mono ?_
        rintro e w' ⟨⟨z, rfl⟩, rfl⟩
        go_wp2
        go_ret2
        exact ⟨HB.out, .inl ⟨HN.out, rfl⟩⟩
    · obtain rfl : k = l.length := by omega
      have HO := Lib.hid ho
      obtain ⟨A1, c1, rfl, -, -⟩ := ho.reads
      clear ho hb
      go_wp2
      go_ret2
      exact ⟨HB.out, .inr ⟨hf.out, _, rfl, HO.out⟩⟩
theorem neg_calls (v : Int) (w : World) :
    Calls Tryz.prog 246 #[.int .i64 v] w fun e w' => e = .returned (.bool (decide (v < 0))) ∧ w = w' := by
  go_enter Tryz.func246, Tryz.ntmps246
  go_wp2
  go_ret
  exact ⟨rfl, rfl⟩
set_option maxHeartbeats 1600000 in
theorem index_calls (A : Option Addr) (c : Nat) (l : List Int) (w : World) (hr : RdI .i64 w A l) (hm : l.length ≤ 1000000) :
    Calls Tryz.prog 251 #[.slice A l.length c, .func (.func 246) #[] #[]] w fun e w' => (∃ r : Int, e = .returned (.int .i64 r) ∧ decide (0 ≤ r) = anyNeg l) ∧ Drawn0 w w' := by
  have HR := Lib.hid hr
  clear hr
  go_enter Tryz.func251, Tryz.ntmps251
  go_wp2
  go_loopw [5, 8] (fun _ i wr => ∃ k : Nat, k ≤ l.length ∧ i = .int .i64 k ∧ Hid (anyNeg (l.take k) = false) ∧ Drawn0 w wr) (fun _ i _ => l.length - (intOf i).toNat)
  case atStart => exact ⟨0, by omega, rfl, Lib.hid rfl, Drawn0.refl _⟩
  case round =>
    obtain ⟨k, hk, rfl, hf, ⟨m, rfl⟩⟩ := hrel
    by_cases hlt : k < l.length
    · obtain ⟨ad, hA, hc⟩ := RdI.at_ (HR.out.drewN m) k hlt
      subst hA
      have HT : Hid (anyNeg (l.take (k + 1)) = decide (l[k] < 0)) := Lib.hid (by
        have := hf.out
        unfold anyNeg at this ⊢
        rw [List.take_succ_eq_append_getElem hlt, List.any_append, this]
        simp)
      have HU : Hid (decide (l[k] < 0) = true → anyNeg l = true) := Lib.hid (fun h => by
        unfold anyNeg
        rw [List.any_eq_true]
        exact ⟨l[k], List.getElem_mem _, h⟩)
      obtain ⟨v, hv⟩ : ∃ v, v = l[k] := ⟨_, rfl⟩
      rw [← hv] at hc HT HU
      have HW := Lib.hid (neg_calls v)
      cases hd : decide (v < 0) with
      | true =>
        rw [hd] at HW
        have HU' := Lib.hid (HU.out hd)
        clear hv hd HU HT hf
        go_wp2_with (go_at_call 246; refine (HW.out _).mono ?_; rintro e w' ⟨rfl, rfl⟩)
        go_ret
        exact ⟨⟨_, rfl, by rw [HU'.out]; exact decide_eq_true (by omega)⟩, ⟨_, rfl⟩⟩
      | false =>
        rw [hd] at HW HT
        clear hv hd HU hf
        go_wp2_with (go_at_call 246; refine (HW.out _).mono ?_; rintro e w' ⟨rfl, rfl⟩)
        go_roundw
        case rel => exact ⟨k + 1, by omega, by go_num, HT, ⟨_, rfl⟩⟩
        case measure => simp [intOf]; omega
    · obtain rfl : k = l.length := by omega
      rw [List.take_length] at hf
      go_wp2
      go_ret
      exact ⟨⟨_, rfl, by rw [hf.out]; rfl⟩, ⟨_, rfl⟩⟩
theorem contains_calls (A : Option Addr) (c : Nat) (l : List Int) (w : World) (hr : RdI .i64 w A l) (hm : l.length ≤ 1000000) :
    Calls Tryz.prog 245 #[.slice A l.length c, .func (.func 246) #[] #[]] w fun e w' => e = .returned (.bool (anyNeg l)) ∧ Drawn0 w w' := by
  have HI := Lib.hid (index_calls A c l w hr hm)
  clear hr
  go_enter Tryz.func245, Tryz.ntmps245
  go_wp2_with (fail)
  refine HI.out.mono ?_
  rintro e w' ⟨⟨r, rfl, hd⟩, ⟨m, rfl⟩⟩
  have HD := Lib.hid hd
  clear hd
  go_wp2
  go_ret
  exact ⟨by rw [← HD.out]; rfl, ⟨_, rfl⟩⟩
abbrev rPi : Rep.Rep (Int × Int) := Rep.pair (Rep.int .i64) (Rep.int .i64)
theorem infoPi : (Tryz.prog.info? 331).map (fun i => (i.zero, i.size, i.bytes)) = some (some (.agg #[.int .i64 0, .int .i64 0]), rPi.k, 16) := by kernel_rfl
def ZipPost (l : List Sp) (vs : List Int) (w : World) (e : Ending) (w' : World) : Prop :=
  ∃ v, e = .returned (.tuple #[v, .int .i64 0]) ∧ Rep.OwX rPi 331 w' w.heap.size v ((places l).zip vs) ∧ Below w.heap.size w w'
set_option maxRecDepth 100000 in
set_option maxHeartbeats 1600000 in
theorem zip_calls (A B : Option Addr) (c d : Nat) (l : List Sp) (vs : List Int) (w : World) (h1 : Spl w A c l) (h2 : RdI .i64 w B vs) (hok : chk l = 0) (hl : (places l).length = vs.length) :
    Calls Tryz.prog 247 #[.slice A l.length c, .slice B vs.length d] w (ZipPost l vs w) := by
  have HP := Lib.hid (places_calls A c l w h1.rd (by have := h1.len; omega) h1.cap h1.nil)
  have hpl := places_len (SpanQ.right_of hok)
  have HV := Lib.hid h2
  have H0 := Lib.hid hok
  clear h1 h2 hok
  go_enter Tryz.func247, Tryz.ntmps247
  go_wp2_with (fail)
  refine HP.out.mono ?_
  rintro e w1 ⟨hb1, ⟨h0, rfl⟩ | ⟨-, v, rfl, ho⟩⟩
  · exact absurd H0.out h0
  obtain ⟨A1, c1, rfl, hc1, hr1⟩ := ho.reads
  have HP1 := Lib.hid hr1
  have B1 := Lib.hid hb1
  obtain ⟨P, hP⟩ : ∃ P, P = places l := ⟨_, rfl⟩
  have HPP := Lib.hid hP
  simp only [← hP] at HP1 hl hpl hc1 ⊢
  have HL := Lib.hid hl
  have hne : ((P.length : Int) != (vs.length : Int)) = false := by simp; omega
  have hne' : ((P.length : Int) == (vs.length : Int)) = true := by simp; omega
  have hvl : vs.length ≤ 4096 := by omega
  clear hb1 ho hr1 hP hl HP
  go_wp2_with (fail)
  go_loopw [8, 9, 10, 28] (fun v _ _ i wr => ∃ k : Nat, k ≤ P.length ∧ i = .int .i64 k ∧ Rep.OwX rPi 331 wr w1.heap.size v ((P.take k).zip (vs.take k)) ∧ Below w1.heap.size w1 wr) (fun _ _ _ i _ => P.length - (intOf i).toNat)
  case atStart => exact ⟨0, by omega, rfl, Rep.OwX.nil _ _ _ _, Below.refl _ _⟩
  case round =>
    obtain ⟨k, hk, rfl, ho, hb⟩ := hrel
    have HO := Lib.hid ho
    have HB := Lib.hid hb
    have hsz := hb.size
    by_cases hlt : k < P.length
    · have hlt2 : k < vs.length := by have := HL.out; omega
      obtain ⟨ad, hA, hc⟩ := RdI.at_ (HP1.out.below hb) k hlt
      subst hA
      obtain ⟨bd, hB, hd⟩ := RdI.at_ ((HV.out.below B1.out).below hb) k hlt2
      subst hB
      have HT : Hid ((P.take (k + 1)).zip (vs.take (k + 1)) = (P.take k).zip (vs.take k) ++ [(P[k], vs[k])]) := Lib.hid (by
        rw [List.take_succ_eq_append_getElem hlt, List.take_succ_eq_append_getElem hlt2, List.zip_append (by rw [List.length_take, List.length_take]; omega)]
        rfl)
      have hll : ((P.take k).zip (vs.take k)).length ≤ 4096 := by rw [List.length_zip, List.length_take]; omega
      obtain ⟨Z, hZ⟩ : ∃ Z, Z = (P.take k).zip (vs.take k) := ⟨_, rfl⟩
      obtain ⟨p, hp⟩ : ∃ p, p = P[k] := ⟨_, rfl⟩
      obtain ⟨q, hq⟩ : ∃ q, q = vs[k] := ⟨_, rfl⟩
      rw [← hZ] at HO HT hll
      rw [← hp] at hc HT
      rw [← hq] at hd HT
      clear ho hb hZ hp hq
      go_wp2_with (at_builtin; refine Rep.append_any (r := rPi) (w0 := w1) w1.heap.size rfl (.tmp 33) (.tmp 40) 307 331 _ 16 rfl Tryz.underlying307 infoPi rfl (by decide) _ Z (p, q) _ rfl rfl wr.heap.size rfl rfl HO.out HB.out hsz (by omega) (by omega) ?_; intro v1 w2 ho2 hb2 _; have HO2 := Lib.hid ho2; have HB2 := Lib.hid hb2; clear ho2 hb2)
      go_roundw
      case rel => exact ⟨k + 1, by omega, by go_num, by rw [HT.out]; exact HO2.out, HB2.out⟩
      case measure => simp [intOf]; omega
    · obtain rfl : k = P.length := by omega
      rw [List.take_length, HL.out, List.take_length] at HO
      have HO3 := Lib.hid (HO.out.lower B1.out.size)
      have HB3 := Lib.hid (below_then B1.out B1.out.size HB.out)
      obtain ⟨x, rfl, -, -⟩ := ho.reads
      clear ho hb
      go_wp2
      go_ret2
      exact ⟨.slice x.at_ x.l.length x.cap, rfl, by rw [← HPP.out]; exact HO3.out, HB3.out⟩
def SidePost (l : List Sp) (d : List Int) (w : World) (e : Ending) (w' : World) : Prop :=
  Below w.heap.size w w' ∧ ((sideI l d ≠ 0 ∧ e = .returned (.tuple #[.slice none 0 0, .int .i64 (sideI l d)])) ∨
    (sideI l d = 0 ∧ ∃ v, e = .returned (.tuple #[v, .int .i64 0]) ∧ Rep.OwX rPi 331 w' w.heap.size v ((places l).zip (cums d))))
theorem side_err {l : List Sp} {d : List Int} {k : Nat} (he : sideI l d = k) (hk : k ≠ 0) {w w' : World} (hb : Below w.heap.size w w') : SidePost l d w (.returned (.tuple #[.slice none 0 0, .int .i64 k])) w' :=
  ⟨hb, .inl ⟨by rw [he]; exact hk, by rw [he]⟩⟩
theorem side_ok {l : List Sp} {d : List Int} (he : sideI l d = 0) {w w' : World} (hb : Below w.heap.size w w') {v : Value} (h : Rep.OwX rPi 331 w' w.heap.size v ((places l).zip (cums d))) : SidePost l d w (.returned (.tuple #[v, .int .i64 0])) w' :=
  ⟨hb, .inr ⟨he, v, rfl, h⟩⟩
set_option maxHeartbeats 1600000 in
theorem side_calls (A B : Option Addr) (c d : Nat) (l : List Sp) (vs : List Int) (w : World) (h1 : Spl w A c l) (h2 : Inl w B d vs) (h64 : ∀ v ∈ vs, -9223372036854775808 ≤ v ∧ v ≤ 9223372036854775807) :
    Calls Tryz.prog 237 #[.slice A l.length c, .slice B vs.length d] w (SidePost l vs w) := by
  have HC := Lib.hid (SpanA.check_calls A c l w h1.rd (by have := h1.len; omega))
  have HCT := Lib.hid (fun W (hb : Below w.heap.size w W) => SpanQ.count_calls A c l W (h1.below hb).rd (by have := h1.len; omega))
  have HAB := Lib.hid (fun W (hb : Below w.heap.size w W) => abs_calls B d vs W (h2.below hb).rd h2.len h64)
  have HSI : sideI l vs = if chk l ≠ 0 then chk l else if (places l).length ≠ vs.length then 23 else if fitTo vs vs.length = false then 28 else if anyNeg (cums vs) then 22 else 0 := rfl
  have HE := Lib.hid (fun k (he : sideI l vs = k) (hk : k ≠ 0) W (hb : Below w.heap.size w W) => side_err he hk hb)
  have H1 := Lib.hid (fun W (hb : Below w.heap.size w W) => h1.below hb)
  have hvl := h2.len
  obtain ⟨ck, hck⟩ : ∃ k, k = chk l := ⟨_, rfl⟩
  rw [← hck] at HC HSI
  have HCK := Lib.hid hck
  clear h1 h2 hck h64
  go_enter Tryz.func237, Tryz.ntmps237
  go_wp2_with (fail)
  refine HC.out.mono ?_
  rintro e w1 ⟨rfl, hb⟩
  have B1 := Lib.hid hb
  clear hb HC
  by_cases h0 : ck ≠ 0
  · have HS := Lib.hid (HSI.trans (if_pos h0))
    have e1 : ((ck : Int) != 0) = true := by simp; exact h0
    have H0 := Lib.hid h0
    clear HSI h0
    go_wp2
    go_ret2
    exact HE.out ck HS.out H0.out _ B1.out
  have h0 := Decidable.not_not.1 h0
  subst h0
  rw [if_neg (by decide)] at HSI
  rw [if_pos HCK.out.symm] at HCT
  obtain ⟨n, hn⟩ : ∃ n, n = (places l).length := ⟨_, rfl⟩
  rw [← hn] at HCT HSI
  have HN := Lib.hid hn
  clear hn
  go_wp2_with (fail)
  refine (HCT.out _ B1.out).mono ?_
  rintro e w2 ⟨rfl, hb⟩
  have B2 := Lib.hid (below_then B1.out B1.out.size hb)
  clear hb HCT
  by_cases h1 : n ≠ vs.length
  · have HS := Lib.hid (HSI.trans (if_pos h1))
    have e1 : ((n : Int) != (vs.length : Int)) = true := by simp; omega
    clear HSI h1
    go_wp2
    go_ret2
    exact HE.out 23 HS.out (by decide) _ B2.out
  have h1 := Decidable.not_not.1 h1
  rw [if_neg (by omega)] at HSI
  have e1 : ((n : Int) != (vs.length : Int)) = false := by simp; omega
  have HNL := Lib.hid h1
  clear h1
  go_wp2_with (fail)
  refine (HAB.out _ B2.out).mono ?_
  rintro e w3 ⟨hb, ⟨hf, rfl⟩ | ⟨hf, v, rfl, ho⟩⟩
  · have HS := Lib.hid (HSI.trans (if_pos hf))
    have B3 := Lib.hid (below_then B2.out B2.out.size hb)
    clear HSI hb hf
    go_wp2
    go_ret2
    exact HE.out 28 HS.out (by decide) _ B3.out
  have B3 := Lib.hid (below_then B2.out B2.out.size hb)
  rw [if_neg (by rw [hf]; decide)] at HSI
  obtain ⟨C, cc, rfl, hcc, hrc⟩ := ho.reads
  rw [cums_length] at hcc ⊢
  have HCC := Lib.hid (contains_calls C cc (cums vs) w3 hrc (by rw [cums_length]; exact hvl))
  have HZ := Lib.hid (fun W (hb : Below w3.heap.size w3 W) => zip_calls A C c cc l (cums vs) W (H1.out W (below_then B3.out B3.out.size hb)) (RdI.below hrc hb) HCK.out.symm (by rw [cums_length, ← HN.out]; exact HNL.out))
  rw [cums_length] at HCC HZ
  cases hi : anyNeg (cums vs) with
  | true =>
    rw [hi] at HCC
    have HS := Lib.hid (HSI.trans (if_pos hi))
    clear HSI hi hb hf ho hcc hrc
    go_wp2_with (fail)
    refine HCC.out.mono ?_
    rintro e w4 ⟨rfl, ⟨m, rfl⟩⟩
    go_wp2
    go_ret2
    exact HE.out 22 HS.out (by decide) _ (pw_below_drewN B3.out m)
  | false =>
    rw [hi] at HCC
    have HS := Lib.hid (HSI.trans (if_neg (by rw [hi]; decide)))
    clear HSI hi hb hf ho hcc hrc
    go_wp2_with (fail)
    refine HCC.out.mono ?_
    rintro e w4 ⟨rfl, ⟨m, rfl⟩⟩
    have B4 := Lib.hid (pw_below_drewN (Below.refl w3.heap.size w3) m)
    go_wp2_with (fail)
    refine (HZ.out _ B4.out).mono ?_
    rintro e w5 ⟨v, rfl, ho, hb⟩
    have B5 := Lib.hid (below_then B3.out B3.out.size (below_then B4.out B4.out.size hb))
    have HO := Lib.hid (ho.lower (Nat.le_trans B3.out.size B4.out.size))
    obtain ⟨x5, rfl, -, -⟩ := ho.reads
    clear ho hb
    go_wp2
    go_ret2
    exact side_ok HS.out B5.out HO.out
end Go.Proofs.YtjfekjbmgckkcaaGreatDoor.HistA
namespace Go.Proofs.YtjfekjbmgckkcaaGreatDoor.HistB
open Go.RowKit Go.Proofs.YtjfekjbmgckkcaaGreatDoorW.PrintWords
open Go.Proofs.YtjfekjbmgckkcaaGreatDoor.Bits Go.Proofs.YtjfekjbmgckkcaaGreatDoor.Base Go.Proofs.YtjfekjbmgckkcaaGreatDoor.StreamA Go.Proofs.YtjfekjbmgckkcaaGreatDoor.SpanPure Go.Proofs.YtjfekjbmgckkcaaGreatDoor.SpanBase Go.Proofs.YtjfekjbmgckkcaaGreatDoor.HeadA Go.Proofs.YtjfekjbmgckkcaaGreatDoor.HeadB Go.Proofs.YtjfekjbmgckkcaaGreatDoor.SpanD Go.Proofs.YtjfekjbmgckkcaaGreatDoor.ThrPure Go.Proofs.YtjfekjbmgckkcaaGreatDoor.CkPure Go.Proofs.YtjfekjbmgckkcaaGreatDoor.CkObj Go.Proofs.YtjfekjbmgckkcaaGreatDoor.HistA
theorem add64_0 (x y : Int) (hx : 0 ≤ x) (hy : 0 ≤ y) (w : World) : (callFunc 248 #[.int .u64 x, .int .u64 y, .int .u64 0]).run Tryz.prog w = .ok (.value (.tuple #[.int .u64 ((x + y) % 18446744073709551616), .int .u64 ((x + y) / 18446744073709551616)])) w := by
  rw [run_callFunc_extern Tryz.func248 (by kernel_rfl) (by kernel_rfl) (by kernel_rfl) (e := add64Entry) (by kernel_rfl), run_add64 x y 0 hx hy (by decide) (by decide), Int.add_zero]
  rfl
abbrev RowP := Option Addr × Nat × List (Int × Int)
def sumV (l : List (Int × Int)) : Int := (l.map (·.2)).sum
theorem sumV_take (l : List (Int × Int)) (k : Nat) (h : k < l.length) : sumV (l.take (k + 1)) = sumV (l.take k) + l[k].2 := by
  unfold sumV
  rw [List.take_succ_eq_append_getElem h, List.map_append, List.sum_append]
  simp
theorem sumV_nonneg : ∀ (l : List (Int × Int)), (∀ p ∈ l, 0 ≤ p.2) → 0 ≤ sumV l
  | [], _ => Int.le_refl _
  | p :: l, h => by
    have h1 := h p (List.mem_cons_self ..)
    have h2 := sumV_nonneg l fun q hq => h q (List.mem_cons_of_mem _ hq)
    unfold sumV at h2 ⊢
    rw [List.map_cons, List.sum_cons]
    omega
theorem sumV_drop (l : List (Int × Int)) (k : Nat) : sumV l = sumV (l.take k) + sumV (l.drop k) := by
  conv => lhs; rw [← List.take_append_drop k l]
  unfold sumV
  rw [List.map_append, List.sum_append]
theorem sumV_zip : ∀ (a b : List Int), a.length = b.length → sumV (a.zip b) = b.sum
  | [], [], _ => rfl
  | x :: a, y :: b, h => by
    have := sumV_zip a b (by simpa using h)
    unfold sumV at this ⊢
    rw [List.zip_cons_cons, List.map_cons, List.sum_cons, List.sum_cons, this]
def sumR (L : List RowP) : Int := (L.map fun r => sumV r.2.2).sum
theorem sumR_take (L : List RowP) (k : Nat) (h : k < L.length) : sumR (L.take (k + 1)) = sumR (L.take k) + sumV L[k].2.2 := by
  unfold sumR
  rw [List.take_succ_eq_append_getElem h, List.map_append, List.sum_append]
  simp
theorem sumR_nonneg : ∀ (L : List RowP), (∀ r ∈ L, ∀ p ∈ r.2.2, 0 ≤ p.2) → 0 ≤ sumR L
  | [], _ => Int.le_refl _
  | r :: L, h => by
    have h1 := sumV_nonneg r.2.2 (h r (List.mem_cons_self ..))
    have h2 := sumR_nonneg L fun q hq => h q (List.mem_cons_of_mem _ hq)
    unfold sumR at h2 ⊢
    rw [List.map_cons, List.sum_cons]
    omega
theorem sumR_drop (L : List RowP) (k : Nat) : sumR L = sumR (L.take k) + sumR (L.drop k) := by
  conv => lhs; rw [← List.take_append_drop k L]
  unfold sumR
  rw [List.map_append, List.sum_append]
def TotPost (t : Int) (w : World) (e : Ending) (w' : World) : Prop :=
  Below w.heap.size w w' ∧ ((t < 18446744073709551616 ∧ e = .returned (.tuple #[.int .u64 t, .bool true])) ∨ (18446744073709551616 ≤ t ∧ e = .returned (.tuple #[.int .u64 0, .bool false])))
theorem tot_no {t : Int} {w w' : World} (h : 18446744073709551616 ≤ t) (hb : Below w.heap.size w w') : TotPost t w (.returned (.tuple #[.int .u64 0, .bool false])) w' := ⟨hb, .inr ⟨h, rfl⟩⟩
theorem tot_ok {t : Int} {w w' : World} (h : t < 18446744073709551616) (hb : Below w.heap.size w w') : TotPost t w (.returned (.tuple #[.int .u64 t, .bool true])) w' := ⟨hb, .inl ⟨h, rfl⟩⟩
set_option maxHeartbeats 3200000 in
theorem total_calls (h cap : Nat) (L : List RowP) (sc : Int) (z zc cn su : Nat) (A B C D : Option Addr) (n5 c n6 d n7 cc n8 dd : Nat) (w : World) (hc : ∀ (k : Nat) (hk : k < L.length), w.cell? ⟨h, k, none⟩ = some (.slice L[k].1 L[k].2.2.length L[k].2.1) ∧ RdSp w L[k].1 L[k].2.2)
    (hL : 0 < L.length) (hL2 : L.length ≤ 10) (hcap : L.length ≤ cap) (hm : ∀ r ∈ L, r.2.2.length ≤ 1000000) (hn : ∀ r ∈ L, ∀ p ∈ r.2.2, 0 ≤ p.2 ∧ p.2 ≤ 9223372036854775807) (hz : zc < 18446744073709551616) :
    Calls Tryz.prog 238 #[.agg #[.int .i64 sc, .int .u64 z, .int .u64 zc, .int .u64 cn, .int .u64 su, .slice A n5 c, .slice B n6 d, .slice C n7 cc, .slice D n8 dd], .slice (some ⟨h, 0, none⟩) L.length cap] w (TotPost (zc + sumR L) w) := by
  have hlt : h < w.heap.size := World.block_lt_of_cell? w _ (hc 0 hL).1
  have HC := Lib.hid hc
  have HM := Lib.hid hm
  have HN := Lib.hid hn
  have HP := Lib.hid (fun r hr p hp => (hn r hr p hp).1)
  have HA := Lib.hid add64_0
  clear hc hm hn
  go_enter Tryz.func238, Tryz.ntmps238
  go_wp2
  go_loopw [6, 7, 9, 11, 16] (fun n o _ _ i wr => ∃ (j : Nat) (N : Int), j ≤ L.length ∧ i = .int .i64 j ∧ n = .int .u64 N ∧ o = .int .u64 0 ∧ Hid (N = zc + sumR (L.take j)) ∧ 0 ≤ N ∧ N < 18446744073709551616 ∧ Below w.heap.size w wr) (fun _ _ _ _ i _ => L.length - (intOf i).toNat)
  case atStart => exact ⟨0, zc, by omega, rfl, rfl, rfl, Lib.hid (by simp [sumR]), by omega, by omega, below_alloc (Below.refl _ _) _⟩
  case round =>
    obtain ⟨j, N, hj, rfl, rfl, rfl, HS, h0, h1, hb⟩ := hrel
    by_cases hlt2 : j < L.length
    · have c1 := (HC.out j hlt2).1
      have HR := Lib.hid (HC.out j hlt2).2
      have HMj := Lib.hid (HM.out _ (List.getElem_mem hlt2))
      have HNj := Lib.hid (HN.out _ (List.getElem_mem hlt2))
      have HT := Lib.hid (show zc + sumR (L.take (j + 1)) = N + sumV L[j].2.2 from by rw [sumR_take L j hlt2, HS.out]; omega)
      have HTT : Hid (zc + sumR L = N + sumV L[j].2.2 + sumR (L.drop (j + 1)) ∧ 0 ≤ sumR (L.drop (j + 1))) := Lib.hid ⟨by rw [sumR_drop L (j + 1), ← HT.out]; omega, sumR_nonneg _ fun r hr => HP.out r (List.mem_of_mem_drop hr)⟩
      obtain ⟨r, hr⟩ : ∃ r, r = L[j] := ⟨_, rfl⟩
      rw [← hr] at c1 HR HMj HNj HT HTT
      obtain ⟨A1, C1, l⟩ := r
      simp only at c1 HR HMj HNj HT HTT
      have c1' : wr.cell? ⟨h, j, none⟩ = some (.slice A1 l.length C1) := (hb.cell (p := ⟨h, j, none⟩) hlt).trans c1
      have hjc : j < cap := by omega
      have hml := HMj.out
      have HB := Lib.hid hb
      obtain ⟨wo, rfl⟩ : ∃ wo : World, wo = wr := ⟨_, rfl⟩
      clear hb hr c1
      go_wp2
      go_loopw [6, 7, 11, 22] (fun n o _ i wr => ∃ (k : Nat) (M : Int), k ≤ l.length ∧ i = .int .i64 k ∧ n = .int .u64 M ∧ o = .int .u64 0 ∧ Hid (M = N + sumV (l.take k)) ∧ 0 ≤ M ∧ M < 18446744073709551616 ∧ Below w.heap.size w wr) (fun _ _ _ i _ => l.length - (intOf i).toNat)
      case atStart => exact ⟨0, N, by omega, rfl, rfl, rfl, Lib.hid (by simp [sumV]), h0, h1, HB.out⟩
      case round =>
        clear h0 h1 c1' HB
        obtain ⟨k, M, hk, rfl, rfl, rfl, HM1, h2, h3, hb⟩ := hrel
        by_cases hlt3 : k < l.length
        · obtain ⟨ad, hA, c0, c2⟩ := (RdSp.below HR.out hb).at_ k hlt3
          subst hA
          have hv := HNj.out _ (List.getElem_mem hlt3)
          have HT2 := Lib.hid (show N + sumV (l.take (k + 1)) = M + l[k].2 from by rw [sumV_take l k hlt3, HM1.out]; omega)
          have HD := Lib.hid (show N + sumV l = M + l[k].2 + sumV (l.drop (k + 1)) ∧ 0 ≤ sumV (l.drop (k + 1)) from ⟨by rw [sumV_drop l (k + 1), ← HT2.out]; omega, sumV_nonneg _ fun p hp => (HNj.out p (List.mem_of_mem_drop hp)).1⟩)
          obtain ⟨p, hp⟩ : ∃ p, p = l[k] := ⟨_, rfl⟩
          rw [← hp] at c0 c2 hv HT2 HD
          obtain ⟨pl, v⟩ := p
          simp only at c0 c2 hv HT2 HD
          obtain ⟨hv0, hv1⟩ := hv
          have hwv : IntKind.u64.wrap v = v := by rw [IntKind.wrap_u64]; omega
          have HB := Lib.hid hb
          have hsz := hb.size
          clear hb hp
          by_cases ho : M + v < 18446744073709551616
          · have hrun : ∀ W, (callFunc 248 #[.int .u64 M, .int .u64 v, .int .u64 0]).run Tryz.prog W = .ok (.value (.tuple #[.int .u64 (M + v), .int .u64 0])) W := fun W => by
              rw [HA.out M v h2 hv0 W, show (M + v) % 18446744073709551616 = M + v from by omega, show (M + v) / 18446744073709551616 = 0 from by omega]
            go_wp2_with (simp only [hrun])
            go_roundw
            case rel => exact ⟨k + 1, M + v, by omega, by go_num, rfl, rfl, Lib.hid HT2.out.symm, by omega, ho, HB.out.alloc hsz _⟩
            case measure => simp [intOf]; omega
          · obtain ⟨y, hy⟩ : ∃ y, y = (M + v) % 18446744073709551616 := ⟨_, rfl⟩
            have hrun : ∀ W, (callFunc 248 #[.int .u64 M, .int .u64 v, .int .u64 0]).run Tryz.prog W = .ok (.value (.tuple #[.int .u64 y, .int .u64 1])) W := fun W => by
              rw [HA.out M v h2 hv0 W, ← hy, show (M + v) / 18446744073709551616 = 1 from by omega]
            have HBIG : Hid (18446744073709551616 ≤ zc + sumR L) := Lib.hid (by
              have a1 := HTT.out.1
              have a2 := HTT.out.2
              have a3 := HD.out.1
              have a4 := HD.out.2
              omega)
            clear hy
            go_wp2_with (simp only [hrun])
            go_ret2
            exact tot_no HBIG.out (HB.out.alloc hsz _)
        · obtain rfl : k = l.length := by omega
          rw [List.take_length] at HM1
          have HB := Lib.hid hb
          clear hb
          go_wp2
          go_roundw
          case rel => exact ⟨j + 1, M, by omega, by go_num, rfl, rfl, Lib.hid (by rw [HT.out]; exact HM1.out), h2, h3, HB.out⟩
          case measure => simp [intOf]; omega
    · obtain rfl : j = L.length := by omega
      rw [List.take_length] at HS
      have HB := Lib.hid hb
      have HFIN : Hid (∀ w', Below w.heap.size w w' → TotPost (zc + sumR L) w (.returned (.tuple #[.int .u64 N, .bool true])) w') := Lib.hid (fun w' h => by rw [← HS.out]; exact tot_ok h1 h)
      clear hb
      go_wp2
      go_ret2
      exact HFIN.out _ HB.out
set_option maxHeartbeats 400000 in
theorem nan_calls (v : Nat) (w : World) (hv : v < 18446744073709551616) :
    Calls Tryz.prog 239 #[.int .u64 v] w fun e w' => e = .returned (.bool (nan v)) ∧ w = w' := by
  have hm : Go.bits .andNot .u64 (v : Int) 9223372036854775808 = ((v % 9223372036854775808 : Nat) : Int) := by
    have := u64_andNot_nat v 9223372036854775808 hv (by decide)
    rw [show (18446744073709551615 - 9223372036854775808 : Nat) = 2 ^ 63 - 1 from by decide, Nat.and_two_pow_sub_one_eq_mod] at this
    exact this
  have hn : nan v = decide (inf < v % 9223372036854775808) := rfl
  obtain ⟨y, hy⟩ : ∃ y, y = v % 9223372036854775808 := ⟨_, rfl⟩
  rw [← hy] at hm hn
  rw [hn]
  unfold inf
  obtain ⟨b, hb⟩ : ∃ b, b = decide (9218868437227405312 < y) := ⟨_, rfl⟩
  rw [← hb]
  have d1 : decide ((y : Int) > 9218868437227405312) = b := by rw [hb, decide_eq_decide]; omega
  have d2 : decide ((9218868437227405312 : Int) < (y : Int)) = b := by rw [hb, decide_eq_decide]; omega
  clear hy hn hv hb
  go_enter Tryz.func239, Tryz.ntmps239
  go_wp2
  go_ret
  exact ⟨rfl, rfl⟩
def OpenPost (h : IH) (w : World) (e : Ending) (w' : World) : Prop :=
  Below w.heap.size w w' ∧ ((errI h ≠ 0 ∧ e = .returned (.tuple #[.slice none 0 0, .slice none 0 0, .int .i64 (errI h)])) ∨
    (errI h = 0 ∧ ∃ v1 v2, e = .returned (.tuple #[v1, v2, .int .i64 0]) ∧ Rep.OwX rPi 331 w' w.heap.size v1 ((places h.pos).zip (cums h.pd)) ∧ Rep.OwX rPi 331 w' w.heap.size v2 ((places h.neg).zip (cums h.nd))))
theorem open_err {h : IH} {k : Nat} (he : errI h = k) (hk : k ≠ 0) {w w' : World} (hb : Below w.heap.size w w') : OpenPost h w (.returned (.tuple #[.slice none 0 0, .slice none 0 0, .int .i64 k])) w' :=
  ⟨hb, .inl ⟨by rw [he]; exact hk, by rw [he]⟩⟩
theorem all_pair (l : List (Int × Int)) : Rep.all rPi l = spc l := by
  induction l with
  | nil => rfl
  | cons p l ih => rw [spc_cons, ← ih]; rfl
theorem vals_in {l : List Sp} {d : List Int} (h : sideI l d = 0) : ∀ p ∈ (places l).zip (cums d), 0 ≤ p.2 ∧ p.2 ≤ 9223372036854775807 := by
  obtain ⟨-, -, h3, h4⟩ := sideI_zero h
  intro p hp
  have hm := (List.of_mem_zip (a := p.1) (b := p.2) hp).2
  have h5 : in64 p.2 = true := by
    unfold fitTo at h3
    rw [List.all_eq_true] at h3
    exact h3 _ hm
  have h6 : ¬ p.2 < 0 := fun hlt => by
    have : anyNeg (cums d) = true := by
      unfold anyNeg
      rw [List.any_eq_true]
      exact ⟨_, hm, by simpa using hlt⟩
    rw [this] at h4
    cases h4
  unfold in64 at h5
  simp only [decide_eq_true_eq] at h5
  omega
set_option maxRecDepth 100000 in
set_option maxHeartbeats 6400000 in
theorem open_calls (h : IH) (p : Lh) (w : World) (hh : IhIn w h p) :
    Calls Tryz.prog 225 #[.agg (ics h p).toArray] w (OpenPost h w) := by
  obtain ⟨sc, z, zc, cn, su, pos, neg, pd, nd⟩ := h
  obtain ⟨A, c, B, d, C, cc, D, dd⟩ := p
  obtain ⟨hp, hn, hpd, hnd, h64⟩ := hh
  simp only at hp hn hpd hnd
  have hcn := h64.cnt
  have hzc := h64.zc
  have hsu := h64.sum
  simp only at hcn hzc hsu
  show Calls Tryz.prog 225 #[.agg #[.int .i64 sc, .int .u64 z, .int .u64 zc, .int .u64 cn, .int .u64 su, .slice A pos.length c, .slice B neg.length d, .slice C pd.length cc, .slice D nd.length dd]] w _
  obtain ⟨W0, hW0, hbk, hal⟩ : ∃ W : World, W = w.alloc (.cells #[.int .i64 sc, .int .u64 z, .int .u64 zc, .int .u64 cn, .int .u64 su, .slice A pos.length c, .slice B neg.length d, .slice C pd.length cc, .slice D nd.length dd] 100) ∧ W.heap[w.heap.size]? = some (.cells #[.int .i64 sc, .int .u64 z, .int .u64 zc, .int .u64 cn, .int .u64 su, .slice A pos.length c, .slice B neg.length d, .slice C pd.length cc, .slice D nd.length dd] 100 (0, 0)) ∧ Below w.heap.size w W := ⟨_, rfl, blk_last w _, below_alloc (Below.refl _ _) _⟩
  have HCEL : Hid (∀ W, Below W0.heap.size W0 W → (W.cell? ⟨w.heap.size, 0, none⟩ = some (.int .i64 sc) ∧ W.cell? ⟨w.heap.size, 1, none⟩ = some (.int .u64 z) ∧ W.cell? ⟨w.heap.size, 2, none⟩ = some (.int .u64 zc) ∧ W.cell? ⟨w.heap.size, 3, none⟩ = some (.int .u64 cn) ∧ W.cell? ⟨w.heap.size, 4, none⟩ = some (.int .u64 su) ∧ W.cell? ⟨w.heap.size, 5, none⟩ = some (.slice A pos.length c) ∧ W.cell? ⟨w.heap.size, 6, none⟩ = some (.slice B neg.length d) ∧ W.cell? ⟨w.heap.size, 7, none⟩ = some (.slice C pd.length cc) ∧ W.cell? ⟨w.heap.size, 8, none⟩ = some (.slice D nd.length dd))) := Lib.hid (fun W h => by
    have hb := (Ch.of_below (S := fun _ => False) h).blk hbk (fun x => x)
    exact ⟨obj_cell hb rfl, obj_cell hb rfl, obj_cell hb rfl, obj_cell hb rfl, obj_cell hb rfl, obj_cell hb rfl, obj_cell hb rfl, obj_cell hb rfl, obj_cell hb rfl⟩)
  have HSP := Lib.hid (fun W (h : Below W0.heap.size W0 W) => side_calls A C c cc pos pd W ((hp.below hal).below h) ((hpd.below hal).below h) h64.pd)
  have HSN := Lib.hid (fun W (h : Below W0.heap.size W0 W) => side_calls B D d dd neg nd W ((hn.below hal).below h) ((hnd.below hal).below h) h64.nd)
  have HTH := Lib.hid (fun W => ThrA.thr_calls z W)
  have HNAN := Lib.hid (fun W => nan_calls su W hsu)
  have HTO := Lib.hid (fun hb L W a1 a2 a3 a4 a5 a6 => total_calls hb 2 L sc z zc cn su A B C D pos.length c neg.length d pd.length cc nd.length dd W a1 a2 a3 a4 a5 a6 hzc)
  have hpl := hpd.len
  have hnl := hnd.len
  have HW0 := Lib.hid hW0
  have HEND := Lib.hid (fun W (hb : Below W0.heap.size W0 W) => below_then hal hal.size hb)
  have HOE := Lib.hid (fun k (he : errI ⟨sc, z, zc, cn, su, pos, neg, pd, nd⟩ = k) (hk : k ≠ 0) W (hb : Below W0.heap.size W0 W) => open_err he hk (below_then hal hal.size hb))
  have hEF : errI ⟨sc, z, zc, cn, su, pos, neg, pd, nd⟩ = if sc < -4 ∨ 8 < sc then 21 else if inf ≤ z then 11 else if sideI pos pd ≠ 0 then sideI pos pd else if sideI neg nd ≠ 0 then sideI neg nd else fitsI ⟨sc, z, zc, cn, su, pos, neg, pd, nd⟩ := rfl
  have hFI : fitsI ⟨sc, z, zc, cn, su, pos, neg, pd, nd⟩ = if (cn : Int) < zc + (cums pd).sum + (cums nd).sum then 22 else if zc + (cums pd).sum + (cums nd).sum < cn ∧ nan su = false then 22 else 0 := rfl
  have HFI := Lib.hid hFI
  have H64C := Lib.hid hcn
  have HLB := Lib.hid (Nat.lt_of_lt_of_le (by simp : w.heap.size < w.heap.size + 1) (show w.heap.size + 1 ≤ W0.heap.size from by rw [hW0]; simp))
  have B0 := Below.refl W0.heap.size W0
  have HWS := Lib.hid hal.size
  obtain ⟨k0, k1, k2, k3, k4, k5, k6, k7, k8⟩ := HCEL.out _ B0
  clear hp hn hpd hnd hbk hW0 hal h64 hFI hcn hzc hsu
  go_enter Tryz.func225, Tryz.ntmps225
  by_cases h1 : sc < -4
  · have HE := Lib.hid (hEF.trans (if_pos (.inl h1)))
    have d1 : decide (sc < -4) = true := by simpa using h1
    clear hEF
    go_wp2_with (fail)
    rw [← HW0.out]
    go_wp2
    go_ret3
    exact HOE.out 21 HE.out (by decide) _ B0
  have d1 : decide (sc < -4) = false := by simpa using h1
  by_cases h2 : 8 < sc
  · have HE := Lib.hid (hEF.trans (if_pos (.inr h2)))
    have d2 : decide (8 < sc) = true := by simpa using h2
    have d2' : decide (sc > 8) = true := by simpa using h2
    clear hEF
    go_wp2_with (fail)
    rw [← HW0.out]
    go_wp2
    go_ret3
    exact HOE.out 21 HE.out (by decide) _ B0
  have d2 : decide (8 < sc) = false := by simpa using h2
  have d2' : decide (sc > 8) = false := by simpa using h2
  rw [if_neg (show ¬ (sc < -4 ∨ 8 < sc) by omega)] at hEF
  clear h1 h2
  by_cases h3 : inf ≤ z
  · have HE := Lib.hid (hEF.trans (if_pos h3))
    have ht : thrOk z = false := by unfold thrOk; unfold inf at h3; simp; omega
    rw [ht] at HTH
    clear hEF ht h3
    go_wp2_with (fail)
    rw [← HW0.out]
    go_wp2_with (go_at_call 143; refine (HTH.out _).mono ?_; rintro e w' ⟨rfl, rfl⟩)
    go_ret3
    exact HOE.out 11 HE.out (by decide) _ B0
  have ht : thrOk z = true := by unfold thrOk; unfold inf at h3; simp; omega
  rw [ht] at HTH
  rw [if_neg h3] at hEF
  clear h3 ht
  go_wp2_with (fail)
  rw [← HW0.out]
  go_wp2_with (go_at_call 143; refine (HTH.out _).mono ?_; rintro e w' ⟨rfl, rfl⟩)
  refine (HSP.out _ B0).mono ?_
  rintro e w1 ⟨hb, ⟨h0, rfl⟩ | ⟨h0, v1, rfl, ho⟩⟩
  · have HE := Lib.hid (hEF.trans (if_pos h0))
    obtain ⟨q, hq⟩ : ∃ q, q = sideI pos pd := ⟨_, rfl⟩
    rw [← hq] at h0 HE ⊢
    have e1 : ((q : Int) != 0) = true := by simp; exact h0
    have B1 := Lib.hid hb
    have H0 := Lib.hid h0
    clear hb hEF h0 hq k0 k1 k2 k3 k4 k5 k6 k7 k8
    go_wp2
    go_ret3
    exact HOE.out q HE.out H0.out _ B1.out
  rw [if_neg (by omega)] at hEF
  have B1 := Lib.hid hb
  have O1 := Lib.hid ho
  have H1 := Lib.hid h0
  obtain ⟨x1, rfl, hx1, hr1⟩ := ho.reads
  have R1 := Lib.hid hr1.rd
  have HX1 := Lib.hid hx1
  obtain ⟨k0, k1, k2, k3, k4, k5, k6, k7, k8⟩ := HCEL.out _ hb
  clear hb ho h0 hx1 hr1
  go_wp2_with (fail)
  refine (HSN.out _ B1.out).mono ?_
  rintro e w2 ⟨hb, ⟨h0, rfl⟩ | ⟨h0, v2, rfl, ho⟩⟩
  · have HE := Lib.hid (hEF.trans (if_pos h0))
    obtain ⟨q, hq⟩ : ∃ q, q = sideI neg nd := ⟨_, rfl⟩
    rw [← hq] at h0 HE ⊢
    have e1 : ((q : Int) != 0) = true := by simp; exact h0
    have B2 := Lib.hid (below_then B1.out B1.out.size hb)
    have H0 := Lib.hid h0
    clear hb hEF h0 hq k0 k1 k2 k3 k4 k5 k6 k7 k8
    go_wp2
    go_ret3
    exact HOE.out q HE.out H0.out _ B2.out
  rw [if_neg (by omega)] at hEF
  have HEF := Lib.hid hEF
  have B12 := Lib.hid hb
  have B2 := Lib.hid (below_then B1.out B1.out.size hb)
  have O2 := Lib.hid ho
  have H2 := Lib.hid h0
  obtain ⟨x2, rfl, hx2, hr2⟩ := ho.reads
  have R2 := Lib.hid hr2.rd
  have HX2 := Lib.hid hx2
  obtain ⟨k0, k1, k2, k3, k4, k5, k6, k7, k8⟩ := HCEL.out _ B2.out
  obtain ⟨A1, c1, l1⟩ := x1
  obtain ⟨A2, c2, l2⟩ := x2
  simp only at R1 R2 HX1 HX2 O1 O2 ⊢
  obtain ⟨W3, hW3, hb3, hbk3⟩ : ∃ W : World, W = w2.alloc (.cells #[.slice A1 l1.length c1, .slice A2 l2.length c2] 307) ∧ Below w2.heap.size w2 W ∧ W.heap[w2.heap.size]? = some (.cells #[.slice A1 l1.length c1, .slice A2 l2.length c2] 307 (0, 0)) := ⟨_, rfl, below_alloc (Below.refl _ _) _, blk_last w2 _⟩
  have HT3 := Lib.hid (HTO.out w2.heap.size [(A1, c1, l1), (A2, c2, l2)] W3 (by
    intro k hk
    rcases k with _ | _ | k
    · exact ⟨obj_cell hbk3 rfl, by
        have h := RdC.below (RdC.below R1.out B12.out) hb3
        rw [all_pair] at h
        exact h⟩
    · exact ⟨obj_cell hbk3 rfl, by
        have h := RdC.below R2.out hb3
        rw [all_pair] at h
        exact h⟩
    · exact absurd hk (by simp only [List.length_cons, List.length_nil]; omega)) (by simp) (by simp) (by simp) (by
      intro r hr
      simp only [List.mem_cons, List.not_mem_nil, or_false] at hr
      rcases hr with rfl | rfl
      · show l1.length ≤ _
        rw [HX1.out, List.length_zip, cums_length]; omega
      · show l2.length ≤ _
        rw [HX2.out, List.length_zip, cums_length]; omega) (by
      intro r hr
      simp only [List.mem_cons, List.not_mem_nil, or_false] at hr
      rcases hr with rfl | rfl
      · show ∀ p ∈ l1, _
        rw [HX1.out]; exact vals_in H1.out
      · show ∀ p ∈ l2, _
        rw [HX2.out]; exact vals_in H2.out))
  have hsum : (zc : Int) + sumR [(A1, c1, l1), (A2, c2, l2)] = zc + (cums pd).sum + (cums nd).sum := by
    show (zc : Int) + (sumV l1 + (sumV l2 + 0)) = _
    rw [HX1.out, HX2.out, sumV_zip _ _ (by rw [cums_length]; exact (sideI_zero H1.out).2.1), sumV_zip _ _ (by rw [cums_length]; exact (sideI_zero H2.out).2.1)]
    omega
  rw [hsum] at HT3
  obtain ⟨t, ht⟩ : ∃ t : Int, t = zc + (cums pd).sum + (cums nd).sum := ⟨_, rfl⟩
  rw [← ht] at HT3 HFI
  have HW3 := Lib.hid hW3
  have B3 := Lib.hid (below_then B2.out B2.out.size hb3)
  have HB3 := Lib.hid hb3
  clear hb ho h0 hx2 hr2 hEF hW3 hb3 hbk3 hsum ht k5 k6 k7 k8
  obtain ⟨k0, k1, k2, k3, k4, k5, k6, k7, k8⟩ := HCEL.out _ B2.out
  go_wp2_with (fail)
  rw [← HW3.out]
  simp only [List.length_cons, List.length_nil] at HT3
  refine HT3.out.mono ?_
  rintro e w4 ⟨hb, hcase⟩
  have B4 := Lib.hid (below_then B3.out B3.out.size hb)
  have HB4 := Lib.hid hb
  clear k0 k1 k2 k3 k4 k5 k6 k7 k8
  obtain ⟨k0, k1, k2, k3, k4, k5, k6, k7, k8⟩ := HCEL.out _ B4.out
  clear hb HT3
  rcases hcase with ⟨ht1, rfl⟩ | ⟨ht1, rfl⟩
  · by_cases hg : (cn : Int) < t
    · have HE := Lib.hid (HEF.out.trans (HFI.out.trans (if_pos hg)))
      have e1 : decide (t > (cn : Int)) = true := by simpa using hg
      have e1' : decide ((cn : Int) < t) = true := by simpa using hg
      clear ht1 hg
      go_wp2
      go_ret3
      exact HOE.out 22 HE.out (by decide) _ B4.out
    · have e1 : decide (t > (cn : Int)) = false := by simpa using hg
      have e1' : decide ((cn : Int) < t) = false := by simpa using hg
      by_cases hl : t < (cn : Int)
      · have e2 : decide (t < (cn : Int)) = true := by simpa using hl
        cases hn : nan su with
        | false =>
          rw [hn] at HNAN
          have HE := Lib.hid (HEF.out.trans (HFI.out.trans ((if_neg hg).trans (if_pos ⟨hl, hn⟩))))
          clear ht1 hg hl hn
          go_wp2_with (go_at_call 239; refine (HNAN.out _).mono ?_; rintro e w' ⟨rfl, rfl⟩)
          go_ret3
          exact HOE.out 22 HE.out (by decide) _ B4.out
        | true =>
          rw [hn] at HNAN
          have HE := Lib.hid (HEF.out.trans (HFI.out.trans ((if_neg hg).trans (if_neg (fun h => by rw [hn] at h; exact absurd h.2 (by decide))))))
          clear ht1 hg hl hn
          go_wp2_with (go_at_call 239; refine (HNAN.out _).mono ?_; rintro e w' ⟨rfl, rfl⟩)
          go_ret3
          exact ⟨HEND.out _ B4.out, .inr ⟨HE.out, .slice A1 l1.length c1, .slice A2 l2.length c2, rfl, (((O1.out.below B12.out).below (below_then HB3.out HB3.out.size HB4.out)).lower HWS.out), ((O2.out.below (below_then HB3.out HB3.out.size HB4.out)).lower (Nat.le_trans HWS.out B1.out.size))⟩⟩
      · have e2 : decide (t < (cn : Int)) = false := by simpa using hl
        have HE := Lib.hid (HEF.out.trans (HFI.out.trans ((if_neg hg).trans (if_neg (fun h => hl h.1)))))
        clear ht1 hg hl
        go_wp2
        go_ret3
        exact ⟨HEND.out _ B4.out, .inr ⟨HE.out, .slice A1 l1.length c1, .slice A2 l2.length c2, rfl, (((O1.out.below B12.out).below (below_then HB3.out HB3.out.size HB4.out)).lower HWS.out), ((O2.out.below (below_then HB3.out HB3.out.size HB4.out)).lower (Nat.le_trans HWS.out B1.out.size))⟩⟩
  · have HE := Lib.hid (HEF.out.trans (HFI.out.trans (if_pos (by have := H64C.out; omega))))
    clear ht1
    go_wp2
    go_ret3
    exact HOE.out 22 HE.out (by decide) _ B4.out
set_option maxRecDepth 100000 in
set_option maxHeartbeats 1600000 in
theorem check_calls (h : IH) (p : Lh) (w : World) (hh : IhIn w h p) :
    Calls Tryz.prog 191 #[.agg (ics h p).toArray] w fun e w' => e = .returned (.int .i64 (errI h)) ∧ Below w.heap.size w w' := by
  have hal := below_alloc (Below.refl w.heap.size w) (.cells (ics h p).toArray 100)
  have HOP := Lib.hid (open_calls h p _ (hh.below hal))
  have HB0 := Lib.hid hal
  obtain ⟨sc, z, zc, cn, su, pos, neg, pd, nd⟩ := h
  obtain ⟨A, c, B, d, C, cc, D, dd⟩ := p
  simp only [ics, List.toArray] at HOP HB0 ⊢
  clear hal hh
  go_enter Tryz.func191, Tryz.ntmps191
  go_wp2_with (fail)
  refine HOP.out.mono ?_
  rintro e w1 ⟨hb1, hc⟩
  have B1 := Lib.hid (below_then HB0.out HB0.out.size hb1)
  rcases hc with ⟨-, rfl⟩ | ⟨h0, v1, v2, rfl, ho1, ho2⟩
  · obtain ⟨k, hk⟩ : ∃ k, k = errI ⟨sc, z, zc, cn, su, pos, neg, pd, nd⟩ := ⟨_, rfl⟩
    rw [← hk]
    have HK := Lib.hid hk
    clear hb1 hk HOP
    go_wp2
    go_ret
    exact ⟨by rw [← HK.out]; rfl, B1.out⟩
  · obtain ⟨x1, rfl, -, -⟩ := ho1.reads
    obtain ⟨x2, rfl, -, -⟩ := ho2.reads
    have HE := Lib.hid h0
    clear hb1 ho1 ho2 h0 HOP
    go_wp2
    go_ret
    exact ⟨by rw [HE.out]; rfl, B1.out⟩
end Go.Proofs.YtjfekjbmgckkcaaGreatDoor.HistB
namespace Go.Proofs.YtjfekjbmgckkcaaGreatDoor.CkA
open Go.RowKit Go.Proofs.YtjfekjbmgckkcaaGreatDoorW.PrintWords
open Go.Proofs.YtjfekjbmgckkcaaGreatDoor.Bits Go.Proofs.YtjfekjbmgckkcaaGreatDoor.Base Go.Proofs.YtjfekjbmgckkcaaGreatDoor.VarPure Go.Proofs.YtjfekjbmgckkcaaGreatDoor.StreamA Go.Proofs.YtjfekjbmgckkcaaGreatDoor.TimesPure Go.Proofs.YtjfekjbmgckkcaaGreatDoor.TimesA Go.Proofs.YtjfekjbmgckkcaaGreatDoor.Ref12 Go.Proofs.YtjfekjbmgckkcaaGreatDoor.SpanPure Go.Proofs.YtjfekjbmgckkcaaGreatDoor.SpanBase Go.Proofs.YtjfekjbmgckkcaaGreatDoor.FailAs Go.Proofs.YtjfekjbmgckkcaaGreatDoor.FailB Go.Proofs.YtjfekjbmgckkcaaGreatDoor.FailC Go.Proofs.YtjfekjbmgckkcaaGreatDoor.HeadA Go.Proofs.YtjfekjbmgckkcaaGreatDoor.HeadB Go.Proofs.YtjfekjbmgckkcaaGreatDoor.HeadPure Go.Proofs.YtjfekjbmgckkcaaGreatDoor.XorPure Go.Proofs.YtjfekjbmgckkcaaGreatDoor.XorB Go.Proofs.YtjfekjbmgckkcaaGreatDoor.CkPure Go.Proofs.YtjfekjbmgckkcaaGreatDoor.CkObj
theorem at_calls (c : Int) (nm : ByteArray) (n : Int) (w : World) (hg : GlE w) :
    Calls Tryz.prog 125 #[.int .i64 c, .string nm, .int .i64 n] w fun e w' => ∃ v, e = .returned v ∧ Err w' v (plc c nm n) .nilIface ∧ Below w.heap.size w w' := by
  by_cases hc : c = 0
  · subst hc
    have HG := Lib.hid hg
    clear hg
    go_enter Tryz.func125, Tryz.ntmps125
    go_wp2_with (first
      | (go_at_call 163; refine (new_zero _).mono ?_; rintro e w' ⟨rfl, rfl⟩)
      | (go_at_call 162; refine (wrap_nil _ _ _).mono ?_; rintro e w' ⟨rfl, rfl⟩))
    go_ret
    exact ⟨_, rfl, Err.nil HG.out, Below.refl _ _⟩
  · have HN := Lib.hid (new_code c w hg hc)
    have HP : Hid (plc c nm n = [⟨c, nm, n⟩, ⟨c, ⟨#[]⟩, 0⟩]) := Lib.hid (if_neg hc)
    clear hc hg
    go_enter Tryz.func125, Tryz.ntmps125
    go_wp2_with (fail)
    refine HN.out.mono ?_
    rintro e w1 ⟨v1, rfl, he, hb⟩
    have HW := Lib.hid (wrap_calls nm n he (.inl (by simp)))
    have B1 := Lib.hid hb
    clear he hb HN
    go_wp2_with (fail)
    refine HW.out.mono ?_
    rintro e w2 ⟨v2, rfl, he, hb⟩
    have E2 := Lib.hid he
    have B2 := Lib.hid (below_then B1.out B1.out.size hb)
    clear he hb HW
    go_wp2
    go_ret
    exact ⟨_, rfl, by rw [HP.out]; exact E2.out, B2.out⟩
theorem spl_own' {w : World} {base : Nat} {e : Nat} {A : Option Addr} {n c : Nat} {l : List Sp} (h : OwSp e w base (.slice A n c) l) (hl : l.length ≤ 1000000) : Spl w A c l := by
  obtain ⟨A', c', he, h1, h2, h3⟩ := h.reads
  injection he with e1 e2 e3
  subst e1 e3
  exact ⟨h3, hl, h1, h2⟩
theorem own_on {w : World} {base : Nat} {e : Nat} {A : Option Addr} {n c : Nat} {l : List Sp} (h : OwSp e w base (.slice A n c) l) : On (fun k => base ≤ k) A l.length := by
  intro ad hA hp
  obtain ⟨g, c', he, h1, -, -⟩ := h.form hp
  injection he with e1 e2 e3
  rw [hA] at e1
  injection e1 with e1
  subst e1
  exact h1
theorem sps_any {S : Nat → Prop} {e base : Nat} {w w1 : World} {v : Value} {l : List Sp} (h : OwSp e w base v l) (hc : Ch S w w1) (hS : ∀ k, S k → k < base) : OwSp e w1 base v l :=
  h.move fun g hg => hc.block g (h.lt_ g hg) fun hs => Nat.lt_irrefl _ (Nat.lt_of_lt_of_le (hS g hs) (h.base_ g hg))
theorem own_end {w W1 : World} {B : Nat} {e : Nat} {v1 v2 : Value} {l1 l2 : List Sp} (h1 : OwSp e W1 B v1 l1) (h2 : OwSp e W1 B v2 l2) (h3 : Below w.heap.size w W1) (hB : w.heap.size + 1 < B) (u0 u1 u2 u3 u4 u5 : Value) :
    OwSp e (HeadL.six W1 (w.heap.size + 1) u0 u1 u2 u3 u4 u5) B v1 l1 ∧ OwSp e (HeadL.six W1 (w.heap.size + 1) u0 u1 u2 u3 u4 u5) B v2 l2 ∧ Below w.heap.size w (HeadL.six W1 (w.heap.size + 1) u0 u1 u2 u3 u4 u5) := by
  have hc := HeadL.six_ch W1 (w.heap.size + 1) u0 u1 u2 u3 u4 u5
  exact ⟨sps_any h1 hc fun k hk => by omega, sps_any h2 hc fun k hk => by omega, h3.trans (hc.below_of h3.size fun k hk => by omega)⟩
set_option maxRecDepth 100000 in
set_option maxHeartbeats 3200000 in
theorem own_calls (q : Hd) (p : Lc) (w : World) (hh : HdIn w q p) :
    Calls Tryz.prog 126 #[.agg (hcs q p).toArray] w fun e w' => ∃ r : Lc, e = .returned (.agg (hcs q r).toArray) ∧ HdIn w' q r ∧ On (fun k => w.heap.size ≤ k) r.A q.pos.length ∧ On (fun k => w.heap.size ≤ k) r.B q.neg.length ∧ Below w.heap.size w w' := by
  obtain ⟨vr, hint, schema, zt, pos, neg⟩ := q
  obtain ⟨A, c, B, d⟩ := p
  obtain ⟨hp, hn, hz⟩ := hh
  simp only at hp hn hz
  show Calls Tryz.prog 126 #[.agg #[.int .i64 vr, .int .i64 hint, .int .i64 schema, .int .u64 zt, .slice A pos.length c, .slice B neg.length d]] w _
  obtain ⟨W0, hW0, hg1, hg2, hal⟩ : ∃ W0 : World, W0 = (w.alloc (.cells #[.int .i64 vr, .int .i64 hint, .int .i64 schema, .int .u64 zt, .slice A pos.length c, .slice B neg.length d] 25)).alloc (.cells #[.int .i64 0, .int .i64 0, .int .i64 0, .int .u64 0, .slice none 0 0, .slice none 0 0] 25) ∧ W0.heap[w.heap.size]? = some (.cells #[.int .i64 vr, .int .i64 hint, .int .i64 schema, .int .u64 zt, .slice A pos.length c, .slice B neg.length d] 25 (0, 0)) ∧ W0.heap[w.heap.size + 1]? = some (.cells #[.int .i64 0, .int .i64 0, .int .i64 0, .int .u64 0, .slice none 0 0, .slice none 0 0] 25 (0, 0)) ∧ Below w.heap.size w W0 :=
    ⟨_, rfl, (Below.heap_alloc _ _ w.heap.size (blk_lt (blk_last w _))).trans (blk_last w _), by
      have := blk_last (w.alloc (.cells #[.int .i64 vr, .int .i64 hint, .int .i64 schema, .int .u64 zt, .slice A pos.length c, .slice B neg.length d] 25)) (.cells #[.int .i64 0, .int .i64 0, .int .i64 0, .int .u64 0, .slice none 0 0, .slice none 0 0] 25)
      rwa [show (w.alloc (.cells #[.int .i64 vr, .int .i64 hint, .int .i64 schema, .int .u64 zt, .slice A pos.length c, .slice B neg.length d] 25)).heap.size = w.heap.size + 1 from by simp] at this, below_alloc (below_alloc (Below.refl _ _) _) _⟩
  have hlt1 := blk_lt hg1
  have hlt2 := blk_lt hg2
  have HK1 := Lib.hid (fun W (h : Below W0.heap.size W0 W) => (h.block _ hlt1).trans hg1)
  have HK2 := Lib.hid (fun W (h : Below W0.heap.size W0 W) => (h.block _ hlt2).trans hg2)
  have hc4 := fun W (h : Below W0.heap.size W0 W) => (obj_cell (HK1.out W h) rfl : W.cell? ⟨w.heap.size, 4, none⟩ = some (.slice A pos.length c))
  have hc5 := fun W (h : Below W0.heap.size W0 W) => (obj_cell (HK1.out W h) rfl : W.cell? ⟨w.heap.size, 5, none⟩ = some (.slice B neg.length d))
  have hf4 := fun W (h : Below W0.heap.size W0 W) => (obj_free (HK1.out W h) : W.frozen? ⟨w.heap.size, 4, none⟩ = false)
  have hf5 := fun W (h : Below W0.heap.size W0 W) => (obj_free (HK1.out W h) : W.frozen? ⟨w.heap.size, 5, none⟩ = false)
  have HPN : Hid (∀ (A' : Option Addr) (c' : Nat) (l : List Sp) W, Below W0.heap.size W0 W → Spl w A' c' l → Calls Tryz.prog 137 #[.slice A' l.length c'] W fun e w' =>
      ∃ A2 c2, e = .returned (.slice A2 l.length c2) ∧ OwSp 119 w' W0.heap.size (.slice A2 l.length c2) l ∧ Below W.heap.size W w' ∧ Below W0.heap.size W0 w') := Lib.hid (by
    intro A' c' l W hb hl
    refine (SpanC.clone_calls A' c' l W ((hl.below hal).below hb).rd (by have := hl.len; omega) hl.cap hl.nil).mono ?_
    rintro e w' ⟨v, rfl, ho, hb'⟩
    obtain ⟨A2, c2, rfl, -, -, -⟩ := ho.reads
    exact ⟨A2, c2, rfl, ho.lower hb.size, hb', below_then hb hb.size hb'⟩)
  have HEND : Hid (∀ (w2 w3 : World) (A1 : Option Addr) (c1 : Nat) (A2 : Option Addr) (c2 : Nat), OwSp 119 w2 W0.heap.size (.slice A1 pos.length c1) pos → OwSp 119 w3 W0.heap.size (.slice A2 neg.length c2) neg → Below w2.heap.size w2 w3 → Below W0.heap.size W0 w3 →
      ((w3.setCell ⟨w.heap.size, 4, none⟩ (.slice A1 pos.length c1)).setCell ⟨w.heap.size, 5, none⟩ (.slice A2 neg.length c2)).heap[w.heap.size]? = some (.cells #[.int .i64 vr, .int .i64 hint, .int .i64 schema, .int .u64 zt, .slice A1 pos.length c1, .slice A2 neg.length c2] 25 (0, 0)) ∧
      ((w3.setCell ⟨w.heap.size, 4, none⟩ (.slice A1 pos.length c1)).setCell ⟨w.heap.size, 5, none⟩ (.slice A2 neg.length c2)).heap[w.heap.size + 1]? = some (.cells #[.int .i64 0, .int .i64 0, .int .i64 0, .int .u64 0, .slice none 0 0, .slice none 0 0] 25 (0, 0)) ∧
      OwSp 119 ((w3.setCell ⟨w.heap.size, 4, none⟩ (.slice A1 pos.length c1)).setCell ⟨w.heap.size, 5, none⟩ (.slice A2 neg.length c2)) W0.heap.size (.slice A1 pos.length c1) pos ∧
      OwSp 119 ((w3.setCell ⟨w.heap.size, 4, none⟩ (.slice A1 pos.length c1)).setCell ⟨w.heap.size, 5, none⟩ (.slice A2 neg.length c2)) W0.heap.size (.slice A2 neg.length c2) neg ∧
      Below w.heap.size w ((w3.setCell ⟨w.heap.size, 4, none⟩ (.slice A1 pos.length c1)).setCell ⟨w.heap.size, 5, none⟩ (.slice A2 neg.length c2))) := Lib.hid (by
    intro w2 w3 A1 c1 A2 c2 o1 o2 b23 b03
    have hc : Ch (fun k => k = w.heap.size) w3 ((w3.setCell ⟨w.heap.size, 4, none⟩ (.slice A1 pos.length c1)).setCell ⟨w.heap.size, 5, none⟩ (.slice A2 neg.length c2)) := ((Ch.refl (fun k => k = w.heap.size) w3).setCell (p := ⟨w.heap.size, 4, none⟩) (.inl rfl) _).setCell (p := ⟨w.heap.size, 5, none⟩) (.inl rfl) _
    have hb3 := below_then hal hal.size b03
    exact ⟨blk_set (blk_set (HK1.out _ b03) 4 _) 5 _, hc.blk (HK2.out _ b03) (by omega), sps_any (o1.below b23) hc fun k hk => by omega, sps_any o2 hc fun k hk => by omega, hb3.trans (hc.below_of hb3.size fun k hk => by omega)⟩)
  have HSZ := Lib.hid hlt2
  have HW0 := Lib.hid hW0
  have HB0 := Lib.hid hal
  have HZ := Lib.hid hz
  have HPS := Lib.hid hp
  have HNS := Lib.hid hn
  have hb0 := Below.refl W0.heap.size W0
  clear hp hn hz hW0 hal hg1 hg2 hlt1 hlt2
  go_enter Tryz.func126, Tryz.ntmps126
  go_wp2_with (fail)
  rw [← HW0.out]
  go_region_with (first
    | (go_at_call 137; (with_reducible show Calls _ _ #[Value.slice A pos.length c] _ _); refine (HPN.out _ _ _ _ ?_ HPS.out).mono ?_; (first | exact hb0 | exact below_drew hb0 | assumption); rintro e w2 ⟨A1, c1, rfl, ho1, hx1, hb1⟩)
    | (go_at_call 137; refine (HPN.out _ _ _ _ ?_ HNS.out).mono ?_; (first | exact hb0 | exact below_drew hb0 | assumption); rintro e w3 ⟨A2, c2, rfl, ho2, hx2, hb2⟩))
  all_goals (
    have hw3 := hb2
    obtain ⟨q1, q2, q3, q4, q5⟩ := HEND.out w2 w3 A1 c1 A2 c2 ho1 ho2 hx2 hb2
    obtain ⟨W1, hW1⟩ : ∃ W : World, W = (w3.setCell ⟨w.heap.size, 4, none⟩ (.slice A1 pos.length c1)).setCell ⟨w.heap.size, 5, none⟩ (.slice A2 neg.length c2) := ⟨_, rfl⟩
    rw [← hW1] at q1 q2 q3 q4 q5 ⊢
    clear hW1 ho1 ho2 hx1 hx2 hb1 hb2 hw3 hc4 hc5 hf4 hf5 hb0
    have k0 : W1.cell? ⟨w.heap.size, 0, none⟩ = some (.int .i64 vr) := obj_cell q1 rfl
    have k1 : W1.cell? ⟨w.heap.size, 1, none⟩ = some (.int .i64 hint) := obj_cell q1 rfl
    have k2 : W1.cell? ⟨w.heap.size, 2, none⟩ = some (.int .i64 schema) := obj_cell q1 rfl
    have k3 : W1.cell? ⟨w.heap.size, 3, none⟩ = some (.int .u64 zt) := obj_cell q1 rfl
    have k4 : W1.cell? ⟨w.heap.size, 4, none⟩ = some (.slice A1 pos.length c1) := obj_cell q1 rfl
    have k5 : W1.cell? ⟨w.heap.size, 5, none⟩ = some (.slice A2 neg.length c2) := obj_cell q1 rfl
    have z0 : W1.cell? ⟨w.heap.size + 1, 0, none⟩ = some (.int .i64 0) := obj_cell q2 rfl
    have z1 : W1.cell? ⟨w.heap.size + 1, 1, none⟩ = some (.int .i64 0) := obj_cell q2 rfl
    have z2 : W1.cell? ⟨w.heap.size + 1, 2, none⟩ = some (.int .i64 0) := obj_cell q2 rfl
    have z3 : W1.cell? ⟨w.heap.size + 1, 3, none⟩ = some (.int .u64 0) := obj_cell q2 rfl
    have z4 : W1.cell? ⟨w.heap.size + 1, 4, none⟩ = some (.slice none 0 0) := obj_cell q2 rfl
    have z5 : W1.cell? ⟨w.heap.size + 1, 5, none⟩ = some (.slice none 0 0) := obj_cell q2 rfl
    have f0 : W1.frozen? ⟨w.heap.size + 1, 0, none⟩ = false := obj_free q2
    have f1 : W1.frozen? ⟨w.heap.size + 1, 1, none⟩ = false := obj_free q2
    have f2 : W1.frozen? ⟨w.heap.size + 1, 2, none⟩ = false := obj_free q2
    have f3 : W1.frozen? ⟨w.heap.size + 1, 3, none⟩ = false := obj_free q2
    have f4 : W1.frozen? ⟨w.heap.size + 1, 4, none⟩ = false := obj_free q2
    have f5 : W1.frozen? ⟨w.heap.size + 1, 5, none⟩ = false := obj_free q2
    have H6 := Lib.hid (own_end q3 q4 q5 HSZ.out (.int .i64 vr) (.int .i64 hint) (.int .i64 schema) (.int .u64 zt) (.slice A1 pos.length c1) (.slice A2 neg.length c2))
    clear q1 q2 q3 q4 q5
    go_wp2
    refine bodyPost_ret (v := .agg #[.int .i64 vr, .int .i64 hint, .int .i64 schema, .int .u64 zt, .slice A1 pos.length c1, .slice A2 neg.length c2]) (by rw [results_cell1 rfl]; go_simp) rfl ?_
    obtain ⟨r1, r2, r3⟩ := H6.out
    exact ⟨⟨A1, c1, A2, c2⟩, rfl, ⟨spl_own' r1 HPS.out.len, spl_own' r2 HNS.out.len, HZ.out⟩, own_on (r1.lower HB0.out.size), own_on (r2.lower HB0.out.size), r3⟩)
end Go.Proofs.YtjfekjbmgckkcaaGreatDoor.CkA
namespace Go.Proofs.YtjfekjbmgckkcaaGreatDoor.CkB
open Go.RowKit Go.Proofs.YtjfekjbmgckkcaaGreatDoorW.PrintWords
open Go.Proofs.YtjfekjbmgckkcaaGreatDoor.Bits Go.Proofs.YtjfekjbmgckkcaaGreatDoor.Base Go.Proofs.YtjfekjbmgckkcaaGreatDoor.VarPure Go.Proofs.YtjfekjbmgckkcaaGreatDoor.StreamA Go.Proofs.YtjfekjbmgckkcaaGreatDoor.TimesPure Go.Proofs.YtjfekjbmgckkcaaGreatDoor.TimesA Go.Proofs.YtjfekjbmgckkcaaGreatDoor.Ref12 Go.Proofs.YtjfekjbmgckkcaaGreatDoor.SpanPure Go.Proofs.YtjfekjbmgckkcaaGreatDoor.SpanBase Go.Proofs.YtjfekjbmgckkcaaGreatDoor.HeadA Go.Proofs.YtjfekjbmgckkcaaGreatDoor.HeadB Go.Proofs.YtjfekjbmgckkcaaGreatDoor.HeadPure Go.Proofs.YtjfekjbmgckkcaaGreatDoor.XorPure Go.Proofs.YtjfekjbmgckkcaaGreatDoor.XorB Go.Proofs.YtjfekjbmgckkcaaGreatDoor.CkPure Go.Proofs.YtjfekjbmgckkcaaGreatDoor.CkObj Go.Proofs.YtjfekjbmgckkcaaGreatDoor.CkA Go.Proofs.YtjfekjbmgckkcaaGreatDoor.Cat
abbrev ten (w : World) (b : Nat) (v0 v1 v2 v3 v4 v5 v6 v7 v8 v9 : Value) : World := (((((((((w.setCell ⟨b, 0, none⟩ v0).setCell ⟨b, 1, none⟩ v1).setCell ⟨b, 2, none⟩ v2).setCell ⟨b, 3, none⟩ v3).setCell ⟨b, 4, none⟩ v4).setCell ⟨b, 5, none⟩ v5).setCell ⟨b, 6, none⟩ v6).setCell ⟨b, 7, none⟩ v7).setCell ⟨b, 8, none⟩ v8).setCell ⟨b, 9, none⟩ v9
theorem ten_ch (w : World) (b : Nat) (v0 v1 v2 v3 v4 v5 v6 v7 v8 v9 : Value) : Ch (fun k => k = b) w (ten w b v0 v1 v2 v3 v4 v5 v6 v7 v8 v9) :=
  (((((((((((Ch.refl (fun k => k = b) w).setCell (p := ⟨b, 0, none⟩) (.inl rfl) v0).setCell (p := ⟨b, 1, none⟩) (.inl rfl) v1).setCell (p := ⟨b, 2, none⟩) (.inl rfl) v2).setCell (p := ⟨b, 3, none⟩) (.inl rfl) v3).setCell (p := ⟨b, 4, none⟩) (.inl rfl) v4).setCell (p := ⟨b, 5, none⟩) (.inl rfl) v5).setCell (p := ⟨b, 6, none⟩) (.inl rfl) v6).setCell (p := ⟨b, 7, none⟩) (.inl rfl) v7).setCell (p := ⟨b, 8, none⟩) (.inl rfl) v8).setCell (p := ⟨b, 9, none⟩) (.inl rfl) v9)
theorem inl_own {w : World} {base : Nat} {e : Nat} {A : Option Addr} {n c : Nat} {l : List Int} (h : OwI e .i64 w base (.slice A n c) l) (hl : l.length ≤ 1000000) : Inl w A c l := by
  obtain ⟨A', c', he, h1, h2⟩ := h.reads
  injection he with e1 e2 e3
  subst e1 e3
  exact ⟨h2, hl, h1, OwI.nilcap h⟩
theorem inl_on {w : World} {base : Nat} {e : Nat} {A : Option Addr} {n c : Nat} {l : List Int} (h : OwI e .i64 w base (.slice A n c) l) : On (fun k => base ≤ k) A l.length := by
  intro ad hA hp
  obtain ⟨g, c', he, h1, -, -⟩ := OwI.form h hp
  injection he with e1 e2 e3
  rw [hA] at e1
  injection e1 with e1
  subst e1
  exact h1
theorem on_end {w W1 : World} {B : Nat} {e e2 : Nat} {v1 v2 x1 x2 : Value} {l1 l2 : List Sp} {n1 n2 : List Int} (h1 : OwSp e W1 B v1 l1) (h2 : OwSp e W1 B v2 l2) (g1 : OwI e2 .i64 W1 B x1 n1) (g2 : OwI e2 .i64 W1 B x2 n2) (h3 : Below w.heap.size w W1) (hB : w.heap.size + 1 < B) (u0 u1 u2 u3 u4 u5 u6 u7 u8 u9 : Value) :
    OwSp e (ten W1 (w.heap.size + 1) u0 u1 u2 u3 u4 u5 u6 u7 u8 u9) B v1 l1 ∧ OwSp e (ten W1 (w.heap.size + 1) u0 u1 u2 u3 u4 u5 u6 u7 u8 u9) B v2 l2 ∧ OwI e2 .i64 (ten W1 (w.heap.size + 1) u0 u1 u2 u3 u4 u5 u6 u7 u8 u9) B x1 n1 ∧ OwI e2 .i64 (ten W1 (w.heap.size + 1) u0 u1 u2 u3 u4 u5 u6 u7 u8 u9) B x2 n2 ∧ Below w.heap.size w (ten W1 (w.heap.size + 1) u0 u1 u2 u3 u4 u5 u6 u7 u8 u9) := by
  have hc := ten_ch W1 (w.heap.size + 1) u0 u1 u2 u3 u4 u5 u6 u7 u8 u9
  exact ⟨sps_any h1 hc fun k hk => by omega, sps_any h2 hc fun k hk => by omega, OwI.ch g1 hc fun g hg he => by have := OwI.base_ g1 g hg; omega, OwI.ch g2 hc fun g hg he => by have := OwI.base_ g2 g hg; omega, h3.trans (hc.below_of h3.size fun k hk => by omega)⟩
set_option maxRecDepth 100000 in
set_option maxHeartbeats 1600000 in
theorem deltas_calls (s : IS) (p : Lh) (w : World) (hh : IhIn w s.h p) (hm1 : s.h.pd.length ≤ 4096) (hm2 : s.h.nd.length ≤ 4096) :
    Calls Tryz.prog 193 #[.agg (isc s p).toArray] w fun e w' => ∃ v, e = .returned v ∧ OwI 2 .i64 w' w.heap.size v (s.h.pd ++ s.h.nd) ∧ Below w.heap.size w w' := by
  obtain ⟨t, sc, z, zc, cn, su, pos, neg, pd, nd⟩ := s
  obtain ⟨A, c, B, d, C, cc, D, dd⟩ := p
  obtain ⟨-, -, hpd, hnd, -⟩ := hh
  simp only at hpd hnd hm1 hm2
  show Calls Tryz.prog 193 #[.agg #[.int .i64 t, .int .i64 sc, .int .u64 z, .int .u64 zc, .int .u64 cn, .int .u64 su, .slice A pos.length c, .slice B neg.length d, .slice C pd.length cc, .slice D nd.length dd]] w _
  obtain ⟨W1, hW1, hb1, hsz1⟩ : ∃ W1 : World, W1 = w.alloc (.cells #[.int .i64 t, .int .i64 sc, .int .u64 z, .int .u64 zc, .int .u64 cn, .int .u64 su, .slice A pos.length c, .slice B neg.length d, .slice C pd.length cc, .slice D nd.length dd] 102) ∧ Below w.heap.size w W1 ∧ W1.heap.size = w.heap.size + 1 := ⟨_, rfl, below_alloc (Below.refl _ _) _, by simp⟩
  obtain ⟨W3, hW3, hb3, hbk3⟩ : ∃ W3 : World, W3 = W1.alloc (.cells #[.slice C pd.length cc, .slice D nd.length dd] 98) ∧ Below w.heap.size w W3 ∧ W3.heap[w.heap.size + 1]? = some (.cells #[.slice C pd.length cc, .slice D nd.length dd] 98 (0, 0)) := ⟨_, rfl, below_alloc hb1 _, by
    have := blk_last W1 (.cells #[.slice C pd.length cc, .slice D nd.length dd] 98)
    rwa [hsz1] at this⟩
  have HCA := Lib.hid (concati64_calls (w.heap.size + 1) [(C, cc, pd), (D, dd, nd)] W3 (by
    intro k hk
    rcases k with _ | _ | k
    · exact ⟨(obj_cell hbk3 rfl : W3.cell? ⟨w.heap.size + 1, 0, none⟩ = some (.slice C pd.length cc)), (hpd.below hb3).rd⟩
    · exact ⟨(obj_cell hbk3 rfl : W3.cell? ⟨w.heap.size + 1, 1, none⟩ = some (.slice D nd.length dd)), (hnd.below hb3).rd⟩
    · exact absurd hk (by simp only [List.length_cons, List.length_nil]; omega)) (by simp [cat]; omega) (by simp) (by simp))
  have HCAT : Hid (cat [(C, cc, pd), (D, dd, nd)] = pd ++ nd) := Lib.hid (by simp [cat])
  rw [HCAT.out] at HCA
  obtain ⟨vs, hvs⟩ : ∃ vs, vs = pd ++ nd := ⟨_, rfl⟩
  rw [← hvs] at HCA ⊢
  clear hvs
  have H1 := Lib.hid hW1
  have H3 := Lib.hid hW3
  have HB3 := Lib.hid hb3
  clear hpd hnd hW1 hW3 hb1 hb3 hbk3 HCAT
  go_enter Tryz.func193, Tryz.ntmps193
  go_wp2_with (fail)
  rw [← H1.out]
  rw [← H3.out]
  refine HCA.out.mono ?_
  rintro e w4 ⟨v, rfl, ho, hb⟩
  have HO := Lib.hid (OwI.lower ho HB3.out.size)
  have HB := Lib.hid (below_then HB3.out HB3.out.size hb)
  obtain ⟨A4, c4, rfl, -, -⟩ := ho.reads
  clear ho hb HCA
  go_wp2
  go_ret
  exact ⟨.slice A4 vs.length c4, rfl, HO.out, HB.out⟩
def wp_cut12Post (a0 : Act) (F : World → Prop) : Exit → Act → World → Prop
  | .normal, a, w' => ∃ u3 u4 u5 u6 u7 u8 u9 u10 u11 u12 u13 u14, a = ((((((((((((a0.put (some 3) u3).put (some 4) u4).put (some 5) u5).put (some 6) u6).put (some 7) u7).put (some 8) u8).put (some 9) u9).put (some 10) u10).put (some 11) u11).put (some 12) u12).put (some 13) u13).put (some 14) u14) ∧ F w'
  | _, _, _ => False
theorem wp_cut12 {P : Program} {c : Code} {K : Exit → Act → World → Prop} {a0 : Act} {w0 : World} (F : World → Prop)
    (h : Code.wp P c (wp_cut12Post a0 F) a0 w0)
    (k : ∀ u3 u4 u5 u6 u7 u8 u9 u10 u11 u12 u13 u14 w', F w' → K Exit.normal ((((((((((((a0.put (some 3) u3).put (some 4) u4).put (some 5) u5).put (some 6) u6).put (some 7) u7).put (some 8) u8).put (some 9) u9).put (some 10) u10).put (some 11) u11).put (some 12) u12).put (some 13) u13).put (some 14) u14) w') : Code.wp P c K a0 w0 :=
  Code.wp_mono (fun e a w' hp => by
    cases e with
    | normal =>
      obtain ⟨u3, u4, u5, u6, u7, u8, u9, u10, u11, u12, u13, u14, ha, hf⟩ := hp
      subst ha
      exact k u3 u4 u5 u6 u7 u8 u9 u10 u11 u12 u13 u14 w' hf
    | _ => exact (hp : False).elim) h
set_option maxRecDepth 100000 in
set_option maxHeartbeats 6400000 in
theorem copied_calls (s : IS) (p : Lh) (w : World) (hh : IhIn w s.h p) :
    Calls Tryz.prog 136 #[.agg (isc s p).toArray] w fun e w' =>
      ∃ r : Lh, e = .returned (.agg (isc s r).toArray) ∧ IhIn w' s.h r ∧ OnH (fun k => w.heap.size ≤ k) s.h r ∧ Below w.heap.size w w' := by
  obtain ⟨t, sc, z, zc, cn, su, pos, neg, pd, nd⟩ := s
  obtain ⟨A, c, B, d, C, cc, D, dd⟩ := p
  obtain ⟨hp2, hn2, hpd, hnd, h64⟩ := hh
  simp only at hp2 hn2 hpd hnd h64
  show Calls Tryz.prog 136 #[.agg #[.int .i64 t, .int .i64 sc, .int .u64 z, .int .u64 zc, .int .u64 cn, .int .u64 su, .slice A pos.length c, .slice B neg.length d, .slice C pd.length cc, .slice D nd.length dd]] w _
  obtain ⟨W0, hW0, hg1, hg2, hal⟩ : ∃ W0 : World, W0 = (w.alloc (.cells #[.int .i64 t, .int .i64 sc, .int .u64 z, .int .u64 zc, .int .u64 cn, .int .u64 su, .slice A pos.length c, .slice B neg.length d, .slice C pd.length cc, .slice D nd.length dd] 102)).alloc (.cells #[.int .i64 0, .int .i64 0, .int .u64 0, .int .u64 0, .int .u64 0, .int .u64 0, .slice none 0 0, .slice none 0 0, .slice none 0 0, .slice none 0 0] 102) ∧ W0.heap[w.heap.size]? = some (.cells #[.int .i64 t, .int .i64 sc, .int .u64 z, .int .u64 zc, .int .u64 cn, .int .u64 su, .slice A pos.length c, .slice B neg.length d, .slice C pd.length cc, .slice D nd.length dd] 102 (0, 0)) ∧ W0.heap[w.heap.size + 1]? = some (.cells #[.int .i64 0, .int .i64 0, .int .u64 0, .int .u64 0, .int .u64 0, .int .u64 0, .slice none 0 0, .slice none 0 0, .slice none 0 0, .slice none 0 0] 102 (0, 0)) ∧ Below w.heap.size w W0 :=
    ⟨_, rfl, (Below.heap_alloc _ _ w.heap.size (blk_lt (blk_last w _))).trans (blk_last w _), by
      have := blk_last (w.alloc (.cells #[.int .i64 t, .int .i64 sc, .int .u64 z, .int .u64 zc, .int .u64 cn, .int .u64 su, .slice A pos.length c, .slice B neg.length d, .slice C pd.length cc, .slice D nd.length dd] 102)) (.cells #[.int .i64 0, .int .i64 0, .int .u64 0, .int .u64 0, .int .u64 0, .int .u64 0, .slice none 0 0, .slice none 0 0, .slice none 0 0, .slice none 0 0] 102)
      rwa [show (w.alloc (.cells #[.int .i64 t, .int .i64 sc, .int .u64 z, .int .u64 zc, .int .u64 cn, .int .u64 su, .slice A pos.length c, .slice B neg.length d, .slice C pd.length cc, .slice D nd.length dd] 102)).heap.size = w.heap.size + 1 from by simp] at this, below_alloc (below_alloc (Below.refl _ _) _) _⟩
  have hlt1 := blk_lt hg1
  have hlt2 := blk_lt hg2
  have HCL : Hid (∀ (A' : Option Addr) (c' : Nat) (l : List Sp) W, Below W0.heap.size W0 W → Spl w A' c' l → Calls Tryz.prog 137 #[.slice A' l.length c'] W fun e w' =>
      ∃ A2 c2, e = .returned (.slice A2 l.length c2) ∧ OwSp 119 w' W0.heap.size (.slice A2 l.length c2) l ∧ Below W.heap.size W w' ∧ Below W0.heap.size W0 w') := Lib.hid (by
    intro A' c' l W hb hl
    refine (SpanC.clone_calls A' c' l W ((hl.below hal).below hb).rd (by have := hl.len; omega) hl.cap hl.nil).mono ?_
    rintro e w' ⟨v, rfl, ho, hb'⟩
    obtain ⟨A2, c2, rfl, -, -, -⟩ := ho.reads
    exact ⟨A2, c2, rfl, ho.lower hb.size, hb', below_then hb hb.size hb'⟩)
  have HCN : Hid (∀ (A' : Option Addr) (c' : Nat) (l : List Int) W, Below w.heap.size w W → W0.heap.size ≤ W.heap.size → Inl w A' c' l → Calls Tryz.prog 195 #[.slice A' l.length c'] W fun e w' =>
      ∃ A2 c2, e = .returned (.slice A2 l.length c2) ∧ OwI 2 .i64 w' W0.heap.size (.slice A2 l.length c2) l ∧ Below W.heap.size W w') := Lib.hid (by
    intro A' c' l W hb hsz hl
    refine (clonei64_calls A' c' l W (hl.below hb).rd (by have := hl.len; omega) hl.cap hl.nil).mono ?_
    rintro e w' ⟨v, rfl, ho, hb'⟩
    obtain ⟨A2, c2, rfl, -, -⟩ := ho.reads
    exact ⟨A2, c2, rfl, OwI.lower ho hsz, hb'⟩)
  have HS1 := Lib.hid (hp2)
  have HS2 := Lib.hid (hn2)
  have HS3 := Lib.hid hpd
  have HS4 := Lib.hid hnd
  have HW0 := Lib.hid hW0
  have HB0 := Lib.hid hal
  have H64 := Lib.hid h64
  have HG1 := Lib.hid (fun W (h : Below W0.heap.size W0 W) => (h.block _ hlt1).trans hg1)
  have HG2 := Lib.hid (fun W (h : Below W0.heap.size W0 W) => (h.block _ hlt2).trans hg2)
  have HSZ := Lib.hid hlt2
  have HEND1 : Hid (∀ (w2 w3 : World) (A1 : Option Addr) (c1 : Nat) (A2 : Option Addr) (c2 : Nat), OwSp 119 w2 W0.heap.size (.slice A1 pos.length c1) pos → OwSp 119 w3 W0.heap.size (.slice A2 neg.length c2) neg → Below w2.heap.size w2 w3 → Below W0.heap.size W0 w3 → (fun W => ∃ A1 c1 A2 c2, W.heap[w.heap.size]? = some (.cells #[.int .i64 t, .int .i64 sc, .int .u64 z, .int .u64 zc, .int .u64 cn, .int .u64 su, .slice A1 pos.length c1, .slice A2 neg.length c2, .slice C pd.length cc, .slice D nd.length dd] 102 (0, 0)) ∧ W.heap[w.heap.size + 1]? = some (.cells #[.int .i64 0, .int .i64 0, .int .u64 0, .int .u64 0, .int .u64 0, .int .u64 0, .slice none 0 0, .slice none 0 0, .slice none 0 0, .slice none 0 0] 102 (0, 0)) ∧ OwSp 119 W W0.heap.size (.slice A1 pos.length c1) pos ∧ OwSp 119 W W0.heap.size (.slice A2 neg.length c2) neg ∧ Below w.heap.size w W ∧ W0.heap.size ≤ W.heap.size) ((w3.setCell ⟨w.heap.size, 6, none⟩ (.slice A1 pos.length c1)).setCell ⟨w.heap.size, 7, none⟩ (.slice A2 neg.length c2))) := Lib.hid (by
    intro w2 w3 A1 c1 A2 c2 o1 o2 b23 b03
    have q1 := HG1.out _ b03
    have hc : Ch (fun k => k = w.heap.size) w3 ((w3.setCell ⟨w.heap.size, 6, none⟩ (.slice A1 pos.length c1)).setCell ⟨w.heap.size, 7, none⟩ (.slice A2 neg.length c2)) := ((Ch.refl (fun k => k = w.heap.size) w3).setCell (p := ⟨w.heap.size, 6, none⟩) (.inl rfl) _).setCell (p := ⟨w.heap.size, 7, none⟩) (.inl rfl) _
    have hb3 := below_then HB0.out HB0.out.size b03
    have hlt := HSZ.out
    exact ⟨A1, c1, A2, c2, blk_set (blk_set q1 6 _) 7 _, hc.blk (HG2.out _ b03) (by omega), sps_any (o1.below b23) hc fun k hk => by omega, sps_any o2 hc fun k hk => by omega, hb3.trans (hc.below_of hb3.size fun k hk => by omega), Nat.le_trans b03.size hc.size⟩)
  clear hp2 hn2 hpd hnd hW0 hal h64 hg1 hg2 hlt1 hlt2
  go_enter Tryz.func136, Tryz.ntmps136
  go_wp2_with (fail)
  rw [← HW0.out]
  have hc6 := fun W (h : Below W0.heap.size W0 W) => (obj_cell (HG1.out W h) rfl : W.cell? ⟨w.heap.size, 6, none⟩ = some (.slice A pos.length c))
  have hc7 := fun W (h : Below W0.heap.size W0 W) => (obj_cell (HG1.out W h) rfl : W.cell? ⟨w.heap.size, 7, none⟩ = some (.slice B neg.length d))
  have hf6 := fun W (h : Below W0.heap.size W0 W) => (obj_free (HG1.out W h) : W.frozen? ⟨w.heap.size, 6, none⟩ = false)
  have hf7 := fun W (h : Below W0.heap.size W0 W) => (obj_free (HG1.out W h) : W.frozen? ⟨w.heap.size, 7, none⟩ = false)
  have hb00 := Below.refl W0.heap.size W0
  refine wp_cut12 (fun W => ∃ A1 c1 A2 c2, W.heap[w.heap.size]? = some (.cells #[.int .i64 t, .int .i64 sc, .int .u64 z, .int .u64 zc, .int .u64 cn, .int .u64 su, .slice A1 pos.length c1, .slice A2 neg.length c2, .slice C pd.length cc, .slice D nd.length dd] 102 (0, 0)) ∧ W.heap[w.heap.size + 1]? = some (.cells #[.int .i64 0, .int .i64 0, .int .u64 0, .int .u64 0, .int .u64 0, .int .u64 0, .slice none 0 0, .slice none 0 0, .slice none 0 0, .slice none 0 0] 102 (0, 0)) ∧ OwSp 119 W W0.heap.size (.slice A1 pos.length c1) pos ∧ OwSp 119 W W0.heap.size (.slice A2 neg.length c2) neg ∧ Below w.heap.size w W ∧ W0.heap.size ≤ W.heap.size) ?reg1 ?more1
  case reg1 =>
    go_region_with (first
      | (go_at_call 137; (with_reducible show Calls _ _ #[Value.slice A pos.length c] _ _); refine (HCL.out _ _ _ _ ?_ HS1.out).mono ?_; (first | exact hb00 | exact below_drew hb00 | assumption); rintro e w2 ⟨A1, c1, rfl, ho1, hx1, hb1⟩)
      | (go_at_call 137; refine (HCL.out _ _ _ _ ?_ HS2.out).mono ?_; (first | exact hb00 | exact below_drew hb00 | assumption); rintro e w3 ⟨A2, c2, rfl, ho2, hx2, hb2⟩))
    all_goals
      have hend := HEND1.out w2 w3 A1 c1 A2 c2 ho1 ho2 hx2 hb2
      simp only [wp_cut12Post, Act.put, List.setIfInBounds_toArray, List.set_cons_zero, List.set_cons_succ]
      exact ⟨_, _, _, _, _, _, _, _, _, _, _, _, rfl, hend⟩
  rintro u3 u4 u5 u6 u7 u8 u9 u10 u11 u12 u13 u14 W4 ⟨A1, c1, A2, c2, g1, g2, o1, o2, b4, hsz4⟩
  simp only [Act.put, List.setIfInBounds_toArray, List.set_cons_zero, List.set_cons_succ]
  clear hc6 hc7 hf6 hf7 hb00
  have O1 := Lib.hid o1
  have O2 := Lib.hid o2
  have B4 := Lib.hid b4
  have HZ4 := Lib.hid hsz4
  have HK1 := Lib.hid (fun W (h : Below W4.heap.size W4 W) => (h.block _ (blk_lt g1)).trans g1)
  have HK2 := Lib.hid (fun W (h : Below W4.heap.size W4 W) => (h.block _ (blk_lt g2)).trans g2)
  have hc8 := fun W (h : Below W4.heap.size W4 W) => (obj_cell (HK1.out W h) rfl : W.cell? ⟨w.heap.size, 8, none⟩ = some (.slice C pd.length cc))
  have hc9 := fun W (h : Below W4.heap.size W4 W) => (obj_cell (HK1.out W h) rfl : W.cell? ⟨w.heap.size, 9, none⟩ = some (.slice D nd.length dd))
  have hf8 := fun W (h : Below W4.heap.size W4 W) => (obj_free (HK1.out W h) : W.frozen? ⟨w.heap.size, 8, none⟩ = false)
  have hf9 := fun W (h : Below W4.heap.size W4 W) => (obj_free (HK1.out W h) : W.frozen? ⟨w.heap.size, 9, none⟩ = false)
  have HCN : Hid (∀ (A' : Option Addr) (c' : Nat) (l : List Int) W, Below W4.heap.size W4 W → Inl w A' c' l → Calls Tryz.prog 195 #[.slice A' l.length c'] W fun e w' =>
      ∃ A2 c2, e = .returned (.slice A2 l.length c2) ∧ OwI 2 .i64 w' W0.heap.size (.slice A2 l.length c2) l ∧ Below W.heap.size W w' ∧ Below W4.heap.size W4 w') := Lib.hid (by
    intro A' c' l W hb hl
    refine (HCN.out A' c' l W (below_then B4.out B4.out.size hb) (Nat.le_trans HZ4.out hb.size) hl).mono ?_
    rintro e w' ⟨A2, c2, h1, h2, h3⟩
    exact ⟨A2, c2, h1, h2, h3, below_then hb hb.size h3⟩)
  have HEND : Hid (∀ (w5 w6 : World) (C1 : Option Addr) (cc1 : Nat) (D1 : Option Addr) (dd1 : Nat), OwI 2 .i64 w5 W0.heap.size (.slice C1 pd.length cc1) pd → OwI 2 .i64 w6 W0.heap.size (.slice D1 nd.length dd1) nd → Below w5.heap.size w5 w6 → Below W4.heap.size W4 w6 →
      ((w6.setCell ⟨w.heap.size, 8, none⟩ (.slice C1 pd.length cc1)).setCell ⟨w.heap.size, 9, none⟩ (.slice D1 nd.length dd1)).heap[w.heap.size]? = some (.cells #[.int .i64 t, .int .i64 sc, .int .u64 z, .int .u64 zc, .int .u64 cn, .int .u64 su, .slice A1 pos.length c1, .slice A2 neg.length c2, .slice C1 pd.length cc1, .slice D1 nd.length dd1] 102 (0, 0)) ∧
      ((w6.setCell ⟨w.heap.size, 8, none⟩ (.slice C1 pd.length cc1)).setCell ⟨w.heap.size, 9, none⟩ (.slice D1 nd.length dd1)).heap[w.heap.size + 1]? = some (.cells #[.int .i64 0, .int .i64 0, .int .u64 0, .int .u64 0, .int .u64 0, .int .u64 0, .slice none 0 0, .slice none 0 0, .slice none 0 0, .slice none 0 0] 102 (0, 0)) ∧
      OwSp 119 ((w6.setCell ⟨w.heap.size, 8, none⟩ (.slice C1 pd.length cc1)).setCell ⟨w.heap.size, 9, none⟩ (.slice D1 nd.length dd1)) W0.heap.size (.slice A1 pos.length c1) pos ∧
      OwSp 119 ((w6.setCell ⟨w.heap.size, 8, none⟩ (.slice C1 pd.length cc1)).setCell ⟨w.heap.size, 9, none⟩ (.slice D1 nd.length dd1)) W0.heap.size (.slice A2 neg.length c2) neg ∧
      OwI 2 .i64 ((w6.setCell ⟨w.heap.size, 8, none⟩ (.slice C1 pd.length cc1)).setCell ⟨w.heap.size, 9, none⟩ (.slice D1 nd.length dd1)) W0.heap.size (.slice C1 pd.length cc1) pd ∧
      OwI 2 .i64 ((w6.setCell ⟨w.heap.size, 8, none⟩ (.slice C1 pd.length cc1)).setCell ⟨w.heap.size, 9, none⟩ (.slice D1 nd.length dd1)) W0.heap.size (.slice D1 nd.length dd1) nd ∧
      Below w.heap.size w ((w6.setCell ⟨w.heap.size, 8, none⟩ (.slice C1 pd.length cc1)).setCell ⟨w.heap.size, 9, none⟩ (.slice D1 nd.length dd1))) := Lib.hid (by
    intro w5 w6 C1 cc1 D1 dd1 o3 o4 b56 b46
    have hc : Ch (fun k => k = w.heap.size) w6 ((w6.setCell ⟨w.heap.size, 8, none⟩ (.slice C1 pd.length cc1)).setCell ⟨w.heap.size, 9, none⟩ (.slice D1 nd.length dd1)) := ((Ch.refl (fun k => k = w.heap.size) w6).setCell (p := ⟨w.heap.size, 8, none⟩) (.inl rfl) _).setCell (p := ⟨w.heap.size, 9, none⟩) (.inl rfl) _
    have hb6 := below_then B4.out B4.out.size b46
    have hsz := HSZ.out
    exact ⟨blk_set (blk_set (HK1.out _ b46) 8 _) 9 _, hc.blk (HK2.out _ b46) (by omega), sps_any (O1.out.below b46) hc fun k hk => by omega, sps_any (O2.out.below b46) hc fun k hk => by omega,
      OwI.ch (OwI.below o3 b56) hc fun g hg he => by have := OwI.base_ o3 g hg; omega, OwI.ch o4 hc fun g hg he => by have := OwI.base_ o4 g hg; omega, hb6.trans (hc.below_of hb6.size fun k hk => by omega)⟩)
  have hb0 := Below.refl W4.heap.size W4
  clear g1 g2 o1 o2 b4 hsz4
  go_wp2_with (fail)
  go_region_with (first
    | (go_at_call 195; (with_reducible show Calls _ _ #[Value.slice C pd.length cc] _ _); refine (HCN.out _ _ _ _ ?_ HS3.out).mono ?_; (first | exact hb0 | exact below_drew hb0 | assumption); rintro e w5 ⟨C1, cc1, rfl, ho3, hx3, hb3⟩)
    | (go_at_call 195; refine (HCN.out _ _ _ _ ?_ HS4.out).mono ?_; (first | exact hb0 | exact below_drew hb0 | assumption); rintro e w6 ⟨D1, dd1, rfl, ho4, hx4, hb4⟩))
  all_goals (
    obtain ⟨q1, q2, q3, q4, q5, q6, q7⟩ := HEND.out w5 w6 C1 cc1 D1 dd1 ho3 ho4 hx4 hb4
    obtain ⟨W5, hW5⟩ : ∃ W : World, W = (w6.setCell ⟨w.heap.size, 8, none⟩ (.slice C1 pd.length cc1)).setCell ⟨w.heap.size, 9, none⟩ (.slice D1 nd.length dd1) := ⟨_, rfl⟩
    rw [← hW5] at q1 q2 q3 q4 q5 q6 q7 ⊢
    clear hW5 ho3 ho4 hx3 hx4 hb3 hb4 hc8 hc9 hf8 hf9 hb0
    have k0 : W5.cell? ⟨w.heap.size, 0, none⟩ = some (.int .i64 t) := obj_cell q1 rfl
    have k1 : W5.cell? ⟨w.heap.size, 1, none⟩ = some (.int .i64 sc) := obj_cell q1 rfl
    have k2 : W5.cell? ⟨w.heap.size, 2, none⟩ = some (.int .u64 z) := obj_cell q1 rfl
    have k3 : W5.cell? ⟨w.heap.size, 3, none⟩ = some (.int .u64 zc) := obj_cell q1 rfl
    have k4 : W5.cell? ⟨w.heap.size, 4, none⟩ = some (.int .u64 cn) := obj_cell q1 rfl
    have k5 : W5.cell? ⟨w.heap.size, 5, none⟩ = some (.int .u64 su) := obj_cell q1 rfl
    have k6 : W5.cell? ⟨w.heap.size, 6, none⟩ = some (.slice A1 pos.length c1) := obj_cell q1 rfl
    have k7 : W5.cell? ⟨w.heap.size, 7, none⟩ = some (.slice A2 neg.length c2) := obj_cell q1 rfl
    have k8 : W5.cell? ⟨w.heap.size, 8, none⟩ = some (.slice C1 pd.length cc1) := obj_cell q1 rfl
    have k9 : W5.cell? ⟨w.heap.size, 9, none⟩ = some (.slice D1 nd.length dd1) := obj_cell q1 rfl
    have z0 : W5.cell? ⟨w.heap.size + 1, 0, none⟩ = some (.int .i64 0) := obj_cell q2 rfl
    have z1 : W5.cell? ⟨w.heap.size + 1, 1, none⟩ = some (.int .i64 0) := obj_cell q2 rfl
    have z2 : W5.cell? ⟨w.heap.size + 1, 2, none⟩ = some (.int .u64 0) := obj_cell q2 rfl
    have z3 : W5.cell? ⟨w.heap.size + 1, 3, none⟩ = some (.int .u64 0) := obj_cell q2 rfl
    have z4 : W5.cell? ⟨w.heap.size + 1, 4, none⟩ = some (.int .u64 0) := obj_cell q2 rfl
    have z5 : W5.cell? ⟨w.heap.size + 1, 5, none⟩ = some (.int .u64 0) := obj_cell q2 rfl
    have z6 : W5.cell? ⟨w.heap.size + 1, 6, none⟩ = some (.slice none 0 0) := obj_cell q2 rfl
    have z7 : W5.cell? ⟨w.heap.size + 1, 7, none⟩ = some (.slice none 0 0) := obj_cell q2 rfl
    have z8 : W5.cell? ⟨w.heap.size + 1, 8, none⟩ = some (.slice none 0 0) := obj_cell q2 rfl
    have z9 : W5.cell? ⟨w.heap.size + 1, 9, none⟩ = some (.slice none 0 0) := obj_cell q2 rfl
    have f0 : W5.frozen? ⟨w.heap.size + 1, 0, none⟩ = false := obj_free q2
    have f1 : W5.frozen? ⟨w.heap.size + 1, 1, none⟩ = false := obj_free q2
    have f2 : W5.frozen? ⟨w.heap.size + 1, 2, none⟩ = false := obj_free q2
    have f3 : W5.frozen? ⟨w.heap.size + 1, 3, none⟩ = false := obj_free q2
    have f4 : W5.frozen? ⟨w.heap.size + 1, 4, none⟩ = false := obj_free q2
    have f5 : W5.frozen? ⟨w.heap.size + 1, 5, none⟩ = false := obj_free q2
    have f6 : W5.frozen? ⟨w.heap.size + 1, 6, none⟩ = false := obj_free q2
    have f7 : W5.frozen? ⟨w.heap.size + 1, 7, none⟩ = false := obj_free q2
    have f8 : W5.frozen? ⟨w.heap.size + 1, 8, none⟩ = false := obj_free q2
    have f9 : W5.frozen? ⟨w.heap.size + 1, 9, none⟩ = false := obj_free q2
    have H10 := Lib.hid (on_end q3 q4 q5 q6 q7 HSZ.out (.int .i64 t) (.int .i64 sc) (.int .u64 z) (.int .u64 zc) (.int .u64 cn) (.int .u64 su) (.slice A1 pos.length c1) (.slice A2 neg.length c2) (.slice C1 pd.length cc1) (.slice D1 nd.length dd1))
    clear q1 q2 q3 q4 q5 q6 q7
    go_wp2
    refine bodyPost_ret (v := .agg #[.int .i64 t, .int .i64 sc, .int .u64 z, .int .u64 zc, .int .u64 cn, .int .u64 su, .slice A1 pos.length c1, .slice A2 neg.length c2, .slice C1 pd.length cc1, .slice D1 nd.length dd1]) (by rw [results_cell1 rfl]; go_simp) rfl ?_
    obtain ⟨r1, r2, r3, r4, r5⟩ := H10.out
    exact ⟨⟨A1, c1, A2, c2, C1, cc1, D1, dd1⟩, rfl, ⟨spl_own' r1 HS1.out.len, spl_own' r2 HS2.out.len, inl_own r3 HS3.out.len, inl_own r4 HS4.out.len, ⟨H64.out.zero, H64.out.zc, H64.out.cnt, H64.out.sum, H64.out.pd, H64.out.nd⟩⟩, ⟨own_on (r1.lower HB0.out.size), own_on (r2.lower HB0.out.size), inl_on (OwI.lower r3 HB0.out.size), inl_on (OwI.lower r4 HB0.out.size)⟩, r5⟩)
end Go.Proofs.YtjfekjbmgckkcaaGreatDoor.CkB
namespace Go.Proofs.YtjfekjbmgckkcaaGreatDoor.CkC
open Go.RowKit Go.Proofs.YtjfekjbmgckkcaaGreatDoorW.PrintWords
open Go.Proofs.YtjfekjbmgckkcaaGreatDoor.Bits Go.Proofs.YtjfekjbmgckkcaaGreatDoor.Base Go.Proofs.YtjfekjbmgckkcaaGreatDoor.VarPure Go.Proofs.YtjfekjbmgckkcaaGreatDoor.StreamA Go.Proofs.YtjfekjbmgckkcaaGreatDoor.TimesPure Go.Proofs.YtjfekjbmgckkcaaGreatDoor.TimesA Go.Proofs.YtjfekjbmgckkcaaGreatDoor.Ref12 Go.Proofs.YtjfekjbmgckkcaaGreatDoor.SpanPure Go.Proofs.YtjfekjbmgckkcaaGreatDoor.SpanBase Go.Proofs.YtjfekjbmgckkcaaGreatDoor.HeadA Go.Proofs.YtjfekjbmgckkcaaGreatDoor.HeadB Go.Proofs.YtjfekjbmgckkcaaGreatDoor.HeadE Go.Proofs.YtjfekjbmgckkcaaGreatDoor.HeadPure Go.Proofs.YtjfekjbmgckkcaaGreatDoor.XorPure Go.Proofs.YtjfekjbmgckkcaaGreatDoor.XorB Go.Proofs.YtjfekjbmgckkcaaGreatDoor.CkPure Go.Proofs.YtjfekjbmgckkcaaGreatDoor.CkObj Go.Proofs.YtjfekjbmgckkcaaGreatDoor.CkA Go.Proofs.YtjfekjbmgckkcaaGreatDoor.CkB Go.Proofs.YtjfekjbmgckkcaaGreatDoor.Cat
theorem sides_chk {l : List Sp} (h : sidesE l = 0) : chk l = 0 := by
  unfold sidesE at h
  split at h
  · rename_i h1; omega
  · rename_i h1; omega
theorem okq_chk {q : Hd} (h : (headErr q).1 = 0) : chk q.pos = 0 ∧ chk q.neg = 0 := by
  obtain ⟨-, -, -, -, -, -, h7, h8⟩ := err_zero h
  exact ⟨sides_chk h7, sides_chk h8⟩
set_option maxRecDepth 100000 in
set_option maxHeartbeats 6400000 in
theorem wrong_calls (g : Nat) (S : Nat → Prop) (q : Hd) (l : List IS) (x : IkL) (s : IS) (p : Lh) (w : World) (hF : Ik w g S q l x) (hs : IhIn w s.h p) (hn : l.length < 1000) :
    Calls Tryz.prog 133 #[.pointer (some ⟨g, 0, none⟩), .agg (isc s p).toArray] w fun e w' => e = .returned (.tuple #[.int .i64 (wrongI q l s).1, .string (wrongI q l s).2]) ∧ Below w.heap.size w w' := by
  obtain ⟨hq1, hq2⟩ := okq_chk hF.okq
  have hWF : wrongI q l s = if errI s.h ≠ 0 then (errI s.h, pHist) else if s.h.schema ≠ q.schema then (21, pSchema) else if s.h.zero ≠ q.zero then (11, pZero) else if places s.h.pos ≠ places q.pos then (23, pPos) else if places s.h.neg ≠ places q.neg then (23, pNeg) else if 0 < l.length ∧ s.t ≤ lastT l then (24, pTime) else (0, ⟨#[]⟩) := rfl
  have hobj := hF.obj
  have hhd := hF.hd
  have hlt := lastS_t q l
  obtain ⟨r, hr⟩ : ∃ r, r = wrongI q l s := ⟨_, rfl⟩
  rw [← hr] at hWF ⊢
  clear hr
  obtain ⟨t, hh⟩ := s
  simp only at hs hWF
  have HCK0 := Lib.hid (fun W (hb : Below w.heap.size w W) => HistB.check_calls hh p W (hs.below hb))
  have HEZ := Lib.hid (fun h => (errI_zero h : -4 ≤ hh.schema ∧ hh.schema ≤ 8 ∧ hh.zero < inf ∧ sideI hh.pos hh.pd = 0 ∧ sideI hh.neg hh.nd = 0 ∧ fitsI hh = 0))
  obtain ⟨k, hk⟩ : ∃ k, k = errI hh := ⟨_, rfl⟩
  rw [← hk] at HCK0 hWF HEZ
  clear hk
  obtain ⟨sc, z, zc, cn, su, pos, neg, pd, nd⟩ := hh
  obtain ⟨A, c, B, d, C, cc, D, dd⟩ := p
  obtain ⟨vr, hint, qs, qz, qp, qn⟩ := q
  obtain ⟨⟨qA, qc, qB, qd⟩, gw, gt, Sw, va, vc, cols, lr, TT⟩ := x
  obtain ⟨hsp, hsn, -, -, -⟩ := hs
  obtain ⟨hqp, hqn, -⟩ := hhd
  simp only at hsp hsn hqp hqn hq1 hq2 hWF HEZ
  simp only [ics] at HCK0
  obtain ⟨n, hnn⟩ : ∃ n, n = l.length := ⟨_, rfl⟩
  obtain ⟨lt, hltt⟩ : ∃ lt, lt = lastT l := ⟨_, rfl⟩
  rw [← hnn] at hn hWF
  rw [← hltt] at hWF hlt
  have hG : ∀ W : World, W.heap[g]? = w.heap[g]? → (W.cell? ⟨g, 0, none⟩ = some (.int .i64 vr) ∧ W.cell? ⟨g, 1, none⟩ = some (.int .i64 hint) ∧ W.cell? ⟨g, 2, none⟩ = some (.int .i64 qs) ∧ W.cell? ⟨g, 3, none⟩ = some (.int .u64 qz) ∧ W.cell? ⟨g, 4, none⟩ = some (.slice qA qp.length qc) ∧ W.cell? ⟨g, 5, none⟩ = some (.slice qB qn.length qd) ∧ W.cell? ⟨g, 7, none⟩ = some (.int .i64 n) ∧ W.cell? ⟨g, 13, none⟩ = some (.int .i64 lt)) := fun W h => by
    have h2 := h.trans hobj
    refine ⟨obj_cell h2 rfl, obj_cell h2 rfl, obj_cell h2 rfl, obj_cell h2 rfl, obj_cell h2 rfl, obj_cell h2 rfl, ?_, ?_⟩
    · rw [hnn]; exact obj_cell h2 rfl
    · rw [← hlt]; exact obj_cell h2 rfl
  have hgl := blk_lt hobj
  show Calls Tryz.prog 133 #[.pointer (some ⟨g, 0, none⟩), .agg #[.int .i64 t, .int .i64 sc, .int .u64 z, .int .u64 zc, .int .u64 cn, .int .u64 su, .slice A pos.length c, .slice B neg.length d, .slice C pd.length cc, .slice D nd.length dd]] w _
  obtain ⟨W0, hW0, hbk, hal⟩ : ∃ W0 : World, W0 = w.alloc (.cells #[.int .i64 t, .int .i64 sc, .int .u64 z, .int .u64 zc, .int .u64 cn, .int .u64 su, .slice A pos.length c, .slice B neg.length d, .slice C pd.length cc, .slice D nd.length dd] 102) ∧ W0.heap[w.heap.size]? = some (.cells #[.int .i64 t, .int .i64 sc, .int .u64 z, .int .u64 zc, .int .u64 cn, .int .u64 su, .slice A pos.length c, .slice B neg.length d, .slice C pd.length cc, .slice D nd.length dd] 102 (0, 0)) ∧ Below w.heap.size w W0 := ⟨_, rfl, blk_last w _, below_alloc (Below.refl _ _) _⟩
  have HCEL : Hid (∀ W : World, Below W0.heap.size W0 W → ((W.cell? ⟨w.heap.size, 0, none⟩ = some (.int .i64 t) ∧ W.cell? ⟨w.heap.size, 1, none⟩ = some (.int .i64 sc) ∧ W.cell? ⟨w.heap.size, 2, none⟩ = some (.int .u64 z) ∧ W.cell? ⟨w.heap.size, 3, none⟩ = some (.int .u64 zc) ∧ W.cell? ⟨w.heap.size, 4, none⟩ = some (.int .u64 cn) ∧ W.cell? ⟨w.heap.size, 5, none⟩ = some (.int .u64 su) ∧ W.cell? ⟨w.heap.size, 6, none⟩ = some (.slice A pos.length c) ∧ W.cell? ⟨w.heap.size, 7, none⟩ = some (.slice B neg.length d) ∧ W.cell? ⟨w.heap.size, 8, none⟩ = some (.slice C pd.length cc) ∧ W.cell? ⟨w.heap.size, 9, none⟩ = some (.slice D nd.length dd)) ∧ (W.cell? ⟨g, 0, none⟩ = some (.int .i64 vr) ∧ W.cell? ⟨g, 1, none⟩ = some (.int .i64 hint) ∧ W.cell? ⟨g, 2, none⟩ = some (.int .i64 qs) ∧ W.cell? ⟨g, 3, none⟩ = some (.int .u64 qz) ∧ W.cell? ⟨g, 4, none⟩ = some (.slice qA qp.length qc) ∧ W.cell? ⟨g, 5, none⟩ = some (.slice qB qn.length qd) ∧ W.cell? ⟨g, 7, none⟩ = some (.int .i64 n) ∧ W.cell? ⟨g, 13, none⟩ = some (.int .i64 lt)))) := Lib.hid (fun W h => by
    have hb := (Ch.of_below (S := fun _ => False) h).blk hbk (fun x => x)
    exact ⟨⟨obj_cell hb rfl, obj_cell hb rfl, obj_cell hb rfl, obj_cell hb rfl, obj_cell hb rfl, obj_cell hb rfl, obj_cell hb rfl, obj_cell hb rfl, obj_cell hb rfl, obj_cell hb rfl⟩, hG W ((below_then hal hal.size h).block g hgl)⟩)
  have HCK := Lib.hid (HCK0.out W0 hal)
  have HEP := Lib.hid (fun W (h : Below W0.heap.size W0 W) => SpanQ.equal_calls A qA c qc pos qp W ((hsp.below hal).below h).rd ((hqp.below hal).below h).rd (by have := hsp.len; omega) (by have := hqp.len; omega) hsp.cap hqp.cap hsp.nil hqp.nil)
  have HEN := Lib.hid (fun W (h : Below W0.heap.size W0 W) => SpanQ.equal_calls B qB d qd neg qn W ((hsn.below hal).below h).rd ((hqn.below hal).below h).rd (by have := hsn.len; omega) (by have := hqn.len; omega) hsn.cap hqn.cap hsn.nil hqn.nil)
  have HW0 := Lib.hid hW0
  have HB0 := Lib.hid hal
  have HEND := Lib.hid (fun W (hb : Below W0.heap.size W0 W) => below_then hal hal.size hb)
  have HNE := Lib.hid (fun W (hb : Below W0.heap.size W0 W) => (by have h1 := blk_lt hbk; have h2 := hb.size; have h3 := hal.size; exact ⟨by omega, by omega⟩ : w.heap.size < W.heap.size ∧ g < W.heap.size))
  clear hsp hsn hqp hqn hbk hW0 hal hobj hF hG hlt hgl hnn hltt HCK0
  by_cases h0 : k ≠ 0
  · have HR := Lib.hid (hWF.trans (if_pos h0))
    have e1 : ((k : Int) != 0) = true := by simp; exact h0
    clear hWF h0 HEZ
    go_enter Tryz.func133, Tryz.ntmps133
    go_wp2_with (fail)
    rw [← HW0.out]
    refine HCK.out.mono ?_
    rintro e w1 ⟨rfl, hb1⟩
    have B1 := Lib.hid hb1
    obtain ⟨⟨k0, k1, k2, k3, k4, k5, k6, k7, k8, k9⟩, ⟨g0, g1, g2, g3, g4, g5, g7, g10⟩⟩ := HCEL.out _ hb1
    obtain ⟨n1, n2⟩ := HNE.out _ hb1
    clear hb1 HCK
    go_wp2
    go_ret2
    exact ⟨by rw [HR.out]; rfl, (HEND.out _ B1.out).alloc (HEND.out _ B1.out).size _⟩
  have h0 := Decidable.not_not.1 h0
  subst h0
  obtain ⟨-, -, -, hs1, hs2, -⟩ := HEZ.out rfl
  have hc1 := (sideI_zero hs1).1
  have hc2 := (sideI_zero hs2).1
  rw [if_neg (by omega)] at hWF
  clear HEZ hs1 hs2
  have HP : ∀ b : Bool, decide (places pos = places qp) = b → Hid (∀ W, Below W0.heap.size W0 W → Calls Tryz.prog 170 #[.slice A pos.length c, .slice qA qp.length qc] W fun e w' => e = .returned (.bool b) ∧ Below W.heap.size W w') := fun b hb => Lib.hid (fun W h => by
    have := HEP.out W h
    rwa [show decide (chk pos = 0 ∧ chk qp = 0 ∧ places pos = places qp) = b from by rw [← hb]; simp [hc1, hq1]] at this)
  have HN : ∀ b : Bool, decide (places neg = places qn) = b → Hid (∀ W, Below W0.heap.size W0 W → Calls Tryz.prog 170 #[.slice B neg.length d, .slice qB qn.length qd] W fun e w' => e = .returned (.bool b) ∧ Below W.heap.size W w') := fun b hb => Lib.hid (fun W h => by
    have := HEN.out W h
    rwa [show decide (chk neg = 0 ∧ chk qn = 0 ∧ places neg = places qn) = b from by rw [← hb]; simp [hc2, hq2]] at this)
  clear HEP HEN hc1 hc2 hq1 hq2
  by_cases h1 : sc ≠ qs
  · have HR := Lib.hid (hWF.trans (if_pos h1))
    have e1 : (sc != qs) = true := by simpa using h1
    clear hWF h1 HP HN
    go_enter Tryz.func133, Tryz.ntmps133
    go_wp2_with (fail)
    rw [← HW0.out]
    refine HCK.out.mono ?_
    rintro e w1 ⟨rfl, hb1⟩
    have B1 := Lib.hid hb1
    obtain ⟨⟨k0, k1, k2, k3, k4, k5, k6, k7, k8, k9⟩, ⟨g0, g1, g2, g3, g4, g5, g7, g10⟩⟩ := HCEL.out _ hb1
    obtain ⟨n1, n2⟩ := HNE.out _ hb1
    clear hb1 HCK
    go_wp2
    go_ret2
    exact ⟨by rw [HR.out]; rfl, (HEND.out _ B1.out).alloc (HEND.out _ B1.out).size _⟩
  have h1 := Decidable.not_not.1 h1
  subst h1
  rw [if_neg (by simp)] at hWF
  by_cases h2 : z ≠ qz
  · have HR := Lib.hid (hWF.trans (if_pos h2))
    have e1 : ((z : Int) != (qz : Int)) = true := by simp; omega
    clear hWF h2 HP HN
    go_enter Tryz.func133, Tryz.ntmps133
    go_wp2_with (fail)
    rw [← HW0.out]
    refine HCK.out.mono ?_
    rintro e w1 ⟨rfl, hb1⟩
    have B1 := Lib.hid hb1
    obtain ⟨⟨k0, k1, k2, k3, k4, k5, k6, k7, k8, k9⟩, ⟨g0, g1, g2, g3, g4, g5, g7, g10⟩⟩ := HCEL.out _ hb1
    obtain ⟨n1, n2⟩ := HNE.out _ hb1
    clear hb1 HCK
    go_wp2
    go_ret2
    exact ⟨by rw [HR.out]; rfl, (HEND.out _ B1.out).alloc (HEND.out _ B1.out).size _⟩
  have h2 := Decidable.not_not.1 h2
  subst h2
  rw [if_neg (by simp)] at hWF
  have e0 : ((z : Int) != (z : Int)) = false := by simp
  have e00 : (sc != sc) = false := by simp
  by_cases h3 : places pos ≠ places qp
  · have HR := Lib.hid (hWF.trans (if_pos h3))
    have HP := HP false (decide_eq_false h3)
    clear hWF h3 HN
    go_enter Tryz.func133, Tryz.ntmps133
    go_wp2_with (fail)
    rw [← HW0.out]
    refine HCK.out.mono ?_
    rintro e w1 ⟨rfl, hb1⟩
    have B1 := Lib.hid hb1
    obtain ⟨⟨k0, k1, k2, k3, k4, k5, k6, k7, k8, k9⟩, ⟨g0, g1, g2, g3, g4, g5, g7, g10⟩⟩ := HCEL.out _ hb1
    obtain ⟨n1, n2⟩ := HNE.out _ hb1
    clear hb1 HCK
    obtain ⟨W2, hW2, hbk2, hb2⟩ : ∃ W : World, W = w1.alloc (.cells #[.int .i64 vr, .int .i64 hint, .int .i64 sc, .int .u64 z, .slice qA qp.length qc, .slice qB qn.length qd] 25) ∧ W.heap[w1.heap.size]? = some (.cells #[.int .i64 vr, .int .i64 hint, .int .i64 sc, .int .u64 z, .slice qA qp.length qc, .slice qB qn.length qd] 25 (0, 0)) ∧ Below W0.heap.size W0 W := ⟨_, rfl, blk_last w1 _, B1.out.alloc B1.out.size _⟩
    have HH := Lib.hid (fun W (h : Below W2.heap.size W2 W) => (⟨below_then hb2 hb2.size h, (by have hx := (Ch.of_below (S := fun _ => False) h).blk hbk2 (fun x => x); exact ⟨obj_cell hx rfl, obj_cell hx rfl, obj_cell hx rfl, obj_cell hx rfl, obj_cell hx rfl, obj_cell hx rfl⟩)⟩ : Below W0.heap.size W0 W ∧ (W.cell? ⟨w1.heap.size, 0, none⟩ = some (.int .i64 vr) ∧ W.cell? ⟨w1.heap.size, 1, none⟩ = some (.int .i64 hint) ∧ W.cell? ⟨w1.heap.size, 2, none⟩ = some (.int .i64 sc) ∧ W.cell? ⟨w1.heap.size, 3, none⟩ = some (.int .u64 z) ∧ W.cell? ⟨w1.heap.size, 4, none⟩ = some (.slice qA qp.length qc) ∧ W.cell? ⟨w1.heap.size, 5, none⟩ = some (.slice qB qn.length qd))))
    have HW2 := Lib.hid hW2
    have B2 := Lib.hid hb2
    clear hW2 hbk2 hb2
    go_wp2_with (fail)
    rw [← HW2.out]
    clear n1 n2 k0 k1 k2 k3 k4 k5 k6 k7 k8 k9 g0 g1 g2 g3 g4 g5 g7 g10
    refine (HP.out _ B2.out).mono ?_
    rintro e w3 ⟨rfl, hb⟩
    obtain ⟨hbq, m0, m1, m2, m3, m4, m5⟩ := HH.out _ hb
    have B3 := Lib.hid hbq
    have C3 := Lib.hid hb
    obtain ⟨⟨k0, k1, k2, k3, k4, k5, k6, k7, k8, k9⟩, ⟨g0, g1, g2, g3, g4, g5, g7, g10⟩⟩ := HCEL.out _ hbq
    clear hb hbq
    go_wp2
    go_ret2
    exact ⟨by rw [HR.out]; rfl, HEND.out _ B3.out⟩
  have HP := HP true (decide_eq_true (Decidable.not_not.1 h3))
  rw [if_neg h3] at hWF
  clear h3
  by_cases h4 : places neg ≠ places qn
  · have HR := Lib.hid (hWF.trans (if_pos h4))
    have HN := HN false (decide_eq_false h4)
    clear hWF h4
    go_enter Tryz.func133, Tryz.ntmps133
    go_wp2_with (fail)
    rw [← HW0.out]
    refine HCK.out.mono ?_
    rintro e w1 ⟨rfl, hb1⟩
    have B1 := Lib.hid hb1
    obtain ⟨⟨k0, k1, k2, k3, k4, k5, k6, k7, k8, k9⟩, ⟨g0, g1, g2, g3, g4, g5, g7, g10⟩⟩ := HCEL.out _ hb1
    obtain ⟨n1, n2⟩ := HNE.out _ hb1
    clear hb1 HCK
    obtain ⟨W2, hW2, hbk2, hb2⟩ : ∃ W : World, W = w1.alloc (.cells #[.int .i64 vr, .int .i64 hint, .int .i64 sc, .int .u64 z, .slice qA qp.length qc, .slice qB qn.length qd] 25) ∧ W.heap[w1.heap.size]? = some (.cells #[.int .i64 vr, .int .i64 hint, .int .i64 sc, .int .u64 z, .slice qA qp.length qc, .slice qB qn.length qd] 25 (0, 0)) ∧ Below W0.heap.size W0 W := ⟨_, rfl, blk_last w1 _, B1.out.alloc B1.out.size _⟩
    have HH := Lib.hid (fun W (h : Below W2.heap.size W2 W) => (⟨below_then hb2 hb2.size h, (by have hx := (Ch.of_below (S := fun _ => False) h).blk hbk2 (fun x => x); exact ⟨obj_cell hx rfl, obj_cell hx rfl, obj_cell hx rfl, obj_cell hx rfl, obj_cell hx rfl, obj_cell hx rfl⟩)⟩ : Below W0.heap.size W0 W ∧ (W.cell? ⟨w1.heap.size, 0, none⟩ = some (.int .i64 vr) ∧ W.cell? ⟨w1.heap.size, 1, none⟩ = some (.int .i64 hint) ∧ W.cell? ⟨w1.heap.size, 2, none⟩ = some (.int .i64 sc) ∧ W.cell? ⟨w1.heap.size, 3, none⟩ = some (.int .u64 z) ∧ W.cell? ⟨w1.heap.size, 4, none⟩ = some (.slice qA qp.length qc) ∧ W.cell? ⟨w1.heap.size, 5, none⟩ = some (.slice qB qn.length qd))))
    have HW2 := Lib.hid hW2
    have B2 := Lib.hid hb2
    clear hW2 hbk2 hb2
    go_wp2_with (fail)
    rw [← HW2.out]
    clear n1 n2 k0 k1 k2 k3 k4 k5 k6 k7 k8 k9 g0 g1 g2 g3 g4 g5 g7 g10
    refine (HP.out _ B2.out).mono ?_
    rintro e w3 ⟨rfl, hb⟩
    obtain ⟨hbq, m0, m1, m2, m3, m4, m5⟩ := HH.out _ hb
    have B3 := Lib.hid hbq
    have C3 := Lib.hid hb
    obtain ⟨⟨k0, k1, k2, k3, k4, k5, k6, k7, k8, k9⟩, ⟨g0, g1, g2, g3, g4, g5, g7, g10⟩⟩ := HCEL.out _ hbq
    clear hb hbq
    go_wp2_with (fail)
    refine (HN.out _ B3.out).mono ?_
    rintro e w4 ⟨rfl, hb⟩
    obtain ⟨hbq, m0, m1, m2, m3, m4, m5⟩ := HH.out _ (below_then C3.out C3.out.size hb)
    have B4 := Lib.hid hbq
    obtain ⟨⟨k0, k1, k2, k3, k4, k5, k6, k7, k8, k9⟩, ⟨g0, g1, g2, g3, g4, g5, g7, g10⟩⟩ := HCEL.out _ hbq
    clear hb hbq
    go_wp2
    go_ret2
    exact ⟨by rw [HR.out]; rfl, HEND.out _ B4.out⟩
  have HN := HN true (decide_eq_true (Decidable.not_not.1 h4))
  rw [if_neg h4] at hWF
  clear h4
  rcases Nat.eq_zero_or_pos n with h5 | h5
  · have HR := Lib.hid (hWF.trans (if_neg (by omega)))
    have e1 : decide ((n : Int) > 0) = false := by simp; omega
    have e1' : decide (0 < (n : Int)) = false := by simp; omega
    have e1n : decide (0 < n) = false := by simp; omega
    have e2 : decide ((n : Int) ≥ 1024) = false := by simp; omega
    have e2e : ((n : Int) == 1024) = false := by simp; omega
    have e2f : (n == 1024) = false := by simp; omega
    have e2' : decide (1024 ≤ (n : Int)) = false := by simp; omega
    have e2n : decide (1024 ≤ n) = false := by simp; omega
    clear hWF h5
    go_enter Tryz.func133, Tryz.ntmps133
    go_wp2_with (fail)
    rw [← HW0.out]
    refine HCK.out.mono ?_
    rintro e w1 ⟨rfl, hb1⟩
    have B1 := Lib.hid hb1
    obtain ⟨⟨k0, k1, k2, k3, k4, k5, k6, k7, k8, k9⟩, ⟨g0, g1, g2, g3, g4, g5, g7, g10⟩⟩ := HCEL.out _ hb1
    obtain ⟨n1, n2⟩ := HNE.out _ hb1
    clear hb1 HCK
    obtain ⟨W2, hW2, hbk2, hb2⟩ : ∃ W : World, W = w1.alloc (.cells #[.int .i64 vr, .int .i64 hint, .int .i64 sc, .int .u64 z, .slice qA qp.length qc, .slice qB qn.length qd] 25) ∧ W.heap[w1.heap.size]? = some (.cells #[.int .i64 vr, .int .i64 hint, .int .i64 sc, .int .u64 z, .slice qA qp.length qc, .slice qB qn.length qd] 25 (0, 0)) ∧ Below W0.heap.size W0 W := ⟨_, rfl, blk_last w1 _, B1.out.alloc B1.out.size _⟩
    have HH := Lib.hid (fun W (h : Below W2.heap.size W2 W) => (⟨below_then hb2 hb2.size h, (by have hx := (Ch.of_below (S := fun _ => False) h).blk hbk2 (fun x => x); exact ⟨obj_cell hx rfl, obj_cell hx rfl, obj_cell hx rfl, obj_cell hx rfl, obj_cell hx rfl, obj_cell hx rfl⟩)⟩ : Below W0.heap.size W0 W ∧ (W.cell? ⟨w1.heap.size, 0, none⟩ = some (.int .i64 vr) ∧ W.cell? ⟨w1.heap.size, 1, none⟩ = some (.int .i64 hint) ∧ W.cell? ⟨w1.heap.size, 2, none⟩ = some (.int .i64 sc) ∧ W.cell? ⟨w1.heap.size, 3, none⟩ = some (.int .u64 z) ∧ W.cell? ⟨w1.heap.size, 4, none⟩ = some (.slice qA qp.length qc) ∧ W.cell? ⟨w1.heap.size, 5, none⟩ = some (.slice qB qn.length qd))))
    have HW2 := Lib.hid hW2
    have B2 := Lib.hid hb2
    clear hW2 hbk2 hb2
    go_wp2_with (fail)
    rw [← HW2.out]
    clear n1 n2 k0 k1 k2 k3 k4 k5 k6 k7 k8 k9 g0 g1 g2 g3 g4 g5 g7 g10
    refine (HP.out _ B2.out).mono ?_
    rintro e w3 ⟨rfl, hb⟩
    obtain ⟨hbq, m0, m1, m2, m3, m4, m5⟩ := HH.out _ hb
    have B3 := Lib.hid hbq
    have C3 := Lib.hid hb
    obtain ⟨⟨k0, k1, k2, k3, k4, k5, k6, k7, k8, k9⟩, ⟨g0, g1, g2, g3, g4, g5, g7, g10⟩⟩ := HCEL.out _ hbq
    clear hb hbq
    go_wp2_with (fail)
    refine (HN.out _ B3.out).mono ?_
    rintro e w4 ⟨rfl, hb⟩
    obtain ⟨hbq, m0, m1, m2, m3, m4, m5⟩ := HH.out _ (below_then C3.out C3.out.size hb)
    have B4 := Lib.hid hbq
    obtain ⟨⟨k0, k1, k2, k3, k4, k5, k6, k7, k8, k9⟩, ⟨g0, g1, g2, g3, g4, g5, g7, g10⟩⟩ := HCEL.out _ hbq
    clear hb hbq
    go_wp2
    go_quiet (fail)
    go_wp2
    go_ret2
    exact ⟨by rw [HR.out]; rfl, pw_below_drewN (HEND.out _ B4.out) _⟩
  have e1 : decide ((n : Int) > 0) = true := by simp; omega
  have e1' : decide (0 < (n : Int)) = true := by simp; omega
  have e1n : decide (0 < n) = true := by simp; omega
  by_cases h6 : t ≤ lt
  · have HR := Lib.hid (hWF.trans (if_pos ⟨h5, h6⟩))
    have e3 : decide (t ≤ lt) = true := by simpa using h6
    clear hWF h5 h6
    go_enter Tryz.func133, Tryz.ntmps133
    go_wp2_with (fail)
    rw [← HW0.out]
    refine HCK.out.mono ?_
    rintro e w1 ⟨rfl, hb1⟩
    have B1 := Lib.hid hb1
    obtain ⟨⟨k0, k1, k2, k3, k4, k5, k6, k7, k8, k9⟩, ⟨g0, g1, g2, g3, g4, g5, g7, g10⟩⟩ := HCEL.out _ hb1
    obtain ⟨n1, n2⟩ := HNE.out _ hb1
    clear hb1 HCK
    obtain ⟨W2, hW2, hbk2, hb2⟩ : ∃ W : World, W = w1.alloc (.cells #[.int .i64 vr, .int .i64 hint, .int .i64 sc, .int .u64 z, .slice qA qp.length qc, .slice qB qn.length qd] 25) ∧ W.heap[w1.heap.size]? = some (.cells #[.int .i64 vr, .int .i64 hint, .int .i64 sc, .int .u64 z, .slice qA qp.length qc, .slice qB qn.length qd] 25 (0, 0)) ∧ Below W0.heap.size W0 W := ⟨_, rfl, blk_last w1 _, B1.out.alloc B1.out.size _⟩
    have HH := Lib.hid (fun W (h : Below W2.heap.size W2 W) => (⟨below_then hb2 hb2.size h, (by have hx := (Ch.of_below (S := fun _ => False) h).blk hbk2 (fun x => x); exact ⟨obj_cell hx rfl, obj_cell hx rfl, obj_cell hx rfl, obj_cell hx rfl, obj_cell hx rfl, obj_cell hx rfl⟩)⟩ : Below W0.heap.size W0 W ∧ (W.cell? ⟨w1.heap.size, 0, none⟩ = some (.int .i64 vr) ∧ W.cell? ⟨w1.heap.size, 1, none⟩ = some (.int .i64 hint) ∧ W.cell? ⟨w1.heap.size, 2, none⟩ = some (.int .i64 sc) ∧ W.cell? ⟨w1.heap.size, 3, none⟩ = some (.int .u64 z) ∧ W.cell? ⟨w1.heap.size, 4, none⟩ = some (.slice qA qp.length qc) ∧ W.cell? ⟨w1.heap.size, 5, none⟩ = some (.slice qB qn.length qd))))
    have HW2 := Lib.hid hW2
    have B2 := Lib.hid hb2
    clear hW2 hbk2 hb2
    go_wp2_with (fail)
    rw [← HW2.out]
    clear n1 n2 k0 k1 k2 k3 k4 k5 k6 k7 k8 k9 g0 g1 g2 g3 g4 g5 g7 g10
    refine (HP.out _ B2.out).mono ?_
    rintro e w3 ⟨rfl, hb⟩
    obtain ⟨hbq, m0, m1, m2, m3, m4, m5⟩ := HH.out _ hb
    have B3 := Lib.hid hbq
    have C3 := Lib.hid hb
    obtain ⟨⟨k0, k1, k2, k3, k4, k5, k6, k7, k8, k9⟩, ⟨g0, g1, g2, g3, g4, g5, g7, g10⟩⟩ := HCEL.out _ hbq
    clear hb hbq
    go_wp2_with (fail)
    refine (HN.out _ B3.out).mono ?_
    rintro e w4 ⟨rfl, hb⟩
    obtain ⟨hbq, m0, m1, m2, m3, m4, m5⟩ := HH.out _ (below_then C3.out C3.out.size hb)
    have B4 := Lib.hid hbq
    obtain ⟨⟨k0, k1, k2, k3, k4, k5, k6, k7, k8, k9⟩, ⟨g0, g1, g2, g3, g4, g5, g7, g10⟩⟩ := HCEL.out _ hbq
    clear hb hbq
    go_wp2
    go_quiet (fail)
    go_wp2
    go_ret2
    exact ⟨by rw [HR.out]; rfl, pw_below_drewN (HEND.out _ B4.out) _⟩
  have HR := Lib.hid (hWF.trans (if_neg (by omega)))
  have e3 : decide (t ≤ lt) = false := by simpa using h6
  have e2 : decide ((n : Int) ≥ 1024) = false := by simp; omega
  have e2e : ((n : Int) == 1024) = false := by simp; omega
  have e2f : (n == 1024) = false := by simp; omega
  have e2' : decide (1024 ≤ (n : Int)) = false := by simp; omega
  have e2n : decide (1024 ≤ n) = false := by simp; omega
  clear hWF h5 h6
  go_enter Tryz.func133, Tryz.ntmps133
  go_wp2_with (fail)
  rw [← HW0.out]
  refine HCK.out.mono ?_
  rintro e w1 ⟨rfl, hb1⟩
  have B1 := Lib.hid hb1
  obtain ⟨⟨k0, k1, k2, k3, k4, k5, k6, k7, k8, k9⟩, ⟨g0, g1, g2, g3, g4, g5, g7, g10⟩⟩ := HCEL.out _ hb1
  obtain ⟨n1, n2⟩ := HNE.out _ hb1
  clear hb1 HCK
  obtain ⟨W2, hW2, hbk2, hb2⟩ : ∃ W : World, W = w1.alloc (.cells #[.int .i64 vr, .int .i64 hint, .int .i64 sc, .int .u64 z, .slice qA qp.length qc, .slice qB qn.length qd] 25) ∧ W.heap[w1.heap.size]? = some (.cells #[.int .i64 vr, .int .i64 hint, .int .i64 sc, .int .u64 z, .slice qA qp.length qc, .slice qB qn.length qd] 25 (0, 0)) ∧ Below W0.heap.size W0 W := ⟨_, rfl, blk_last w1 _, B1.out.alloc B1.out.size _⟩
  have HH := Lib.hid (fun W (h : Below W2.heap.size W2 W) => (⟨below_then hb2 hb2.size h, (by have hx := (Ch.of_below (S := fun _ => False) h).blk hbk2 (fun x => x); exact ⟨obj_cell hx rfl, obj_cell hx rfl, obj_cell hx rfl, obj_cell hx rfl, obj_cell hx rfl, obj_cell hx rfl⟩)⟩ : Below W0.heap.size W0 W ∧ (W.cell? ⟨w1.heap.size, 0, none⟩ = some (.int .i64 vr) ∧ W.cell? ⟨w1.heap.size, 1, none⟩ = some (.int .i64 hint) ∧ W.cell? ⟨w1.heap.size, 2, none⟩ = some (.int .i64 sc) ∧ W.cell? ⟨w1.heap.size, 3, none⟩ = some (.int .u64 z) ∧ W.cell? ⟨w1.heap.size, 4, none⟩ = some (.slice qA qp.length qc) ∧ W.cell? ⟨w1.heap.size, 5, none⟩ = some (.slice qB qn.length qd))))
  have HW2 := Lib.hid hW2
  have B2 := Lib.hid hb2
  clear hW2 hbk2 hb2
  go_wp2_with (fail)
  rw [← HW2.out]
  clear n1 n2 k0 k1 k2 k3 k4 k5 k6 k7 k8 k9 g0 g1 g2 g3 g4 g5 g7 g10
  refine (HP.out _ B2.out).mono ?_
  rintro e w3 ⟨rfl, hb⟩
  obtain ⟨hbq, m0, m1, m2, m3, m4, m5⟩ := HH.out _ hb
  have B3 := Lib.hid hbq
  have C3 := Lib.hid hb
  obtain ⟨⟨k0, k1, k2, k3, k4, k5, k6, k7, k8, k9⟩, ⟨g0, g1, g2, g3, g4, g5, g7, g10⟩⟩ := HCEL.out _ hbq
  clear hb hbq
  go_wp2_with (fail)
  refine (HN.out _ B3.out).mono ?_
  rintro e w4 ⟨rfl, hb⟩
  obtain ⟨hbq, m0, m1, m2, m3, m4, m5⟩ := HH.out _ (below_then C3.out C3.out.size hb)
  have B4 := Lib.hid hbq
  obtain ⟨⟨k0, k1, k2, k3, k4, k5, k6, k7, k8, k9⟩, ⟨g0, g1, g2, g3, g4, g5, g7, g10⟩⟩ := HCEL.out _ hbq
  clear hb hbq
  go_wp2
  go_quiet (fail)
  go_wp2
  go_ret2
  exact ⟨by rw [HR.out]; rfl, pw_below_drewN (HEND.out _ B4.out) _⟩
end Go.Proofs.YtjfekjbmgckkcaaGreatDoor.CkC
