/- the reference of layer 8: values at some places, at all of them; the law's numbers. -/
import Derived.Test.YtaenincbmlcjiaaLayG
namespace Go.Proofs.Ytaenincbmlcjiaa.LayH
open Go.RowKit Go.Proofs.YtaenincbmlcjiaaW.PrintWords
open Go.Proofs.Ytaenincbmlcjiaa.Base Go.Proofs.Ytaenincbmlcjiaa.SpanPure Go.Proofs.Ytaenincbmlcjiaa.SpanPure2 Go.Proofs.Ytaenincbmlcjiaa.LayPure Go.Proofs.Ytaenincbmlcjiaa.LayPure2 Go.Proofs.Ytaenincbmlcjiaa.SpanBase Go.Proofs.Ytaenincbmlcjiaa.LayA Go.Proofs.Ytaenincbmlcjiaa.LayB Go.Proofs.Ytaenincbmlcjiaa.LayD Go.Proofs.Ytaenincbmlcjiaa.LayF Go.Proofs.Ytaenincbmlcjiaa.LayG Go.Proofs.Ytaenincbmlcjiaa.Ref06

def lookN (x v : List Int) (p : Int) (j : Nat) : Int := ((x.zip v).take j).foldl (fun a s => if s.1 = p then s.2 else a) 0
theorem lookN_succ (x v : List Int) (p : Int) (j : Nat) (h : j < x.length) (h' : j < v.length) : lookN x v p (j + 1) = if x[j] = p then v[j] else lookN x v p j := by
  have hz : j < (x.zip v).length := by rw [List.length_zip]; omega
  unfold lookN
  rw [List.take_succ_eq_append_getElem hz, List.foldl_append]
  simp
theorem lookN_all (x v : List Int) (p : Int) (h : v.length = x.length) : lookN x v p x.length = LayPure3.look x v 0 p := by
  unfold lookN LayPure3.look
  rw [List.take_of_length_le (by rw [List.length_zip]; omega)]
set_option maxRecDepth 100000 in
set_option maxHeartbeats 3200000 in
theorem refexp_calls (A B C : Option Addr) (c d e : Nat) (v x all : List Int) (w : World) (hv : RdI .i64 w A v) (hx : RdI .i64 w B x) (ha : RdI .i64 w C all) (hl : v.length = x.length) (hm : x.length ≤ 1000000) (hm2 : all.length ≤ 1000000) :
    Calls Try.prog 40 #[.slice A v.length c, .slice B x.length d, .slice C all.length e] w fun e w' => ∃ u, e = .returned u ∧ OwI 2 .i64 w' w.heap.size u (all.map (LayPure3.look x v 0)) ∧ Below w.heap.size w w' := by
  have HV := Lib.hid hv
  have HX := Lib.hid hx
  have HA := Lib.hid ha
  have HS := Lib.hid (fun p j h h' => lookN_succ x v p j h h')
  have HLA := Lib.hid (fun p => lookN_all x v p hl)
  have HL := Lib.hid hl
  rw [hl]
  clear hv hx ha hl
  go_enter Try.func40, Try.ntmps40
  go_wp2
  go_loopw [7, 8] (fun u i wr => ∃ (k : Nat), k ≤ all.length ∧ i = .int .i64 k ∧ OwI 2 .i64 wr w.heap.size u ((all.take k).map (LayPure3.look x v 0)) ∧ Below w.heap.size w wr) (fun _ i _ => all.length - (intOf i).toNat)
  case atStart => exact ⟨0, by omega, rfl, OwI.nil _ _ _ _, Below.refl _ _⟩
  case round =>
    obtain ⟨k, hk, rfl, ho, hb⟩ := hrel
    have HB := Lib.hid hb
    have HO := Lib.hid ho
    by_cases hlt : k < all.length
    · obtain ⟨ad, hA, c0⟩ := (HA.out.below hb).at_ k hlt
      subst hA
      obtain ⟨p, hp⟩ : ∃ p, p = all[k] := ⟨_, rfl⟩
      rw [← hp] at c0
      have HT : Hid ((all.take (k + 1)).map (LayPure3.look x v 0) = (all.take k).map (LayPure3.look x v 0) ++ [lookN x v p x.length]) := Lib.hid (by rw [List.take_succ_eq_append_getElem hlt, List.map_append, HLA.out, hp]; rfl)
      have HLK : Hid (((all.take k).map (LayPure3.look x v 0)).length ≤ 1000000) := Lib.hid (by rw [List.length_map, List.length_take]; omega)
      have hsz := hb.size
      have b2 : (0 : Int) ≤ (k : Int) := by omega
      have b3 : (k : Int) < (all.length : Int) := by omega
      clear hb ho hp
      obtain ⟨wo, rfl⟩ : ∃ wo : World, wo = wr := ⟨_, rfl⟩
      go_wp2
      go_loopw [9, 10] (fun a i wr => ∃ (j m : Nat), j ≤ x.length ∧ i = .int .i64 j ∧ a = .int .i64 (lookN x v p j) ∧ wr = wo.drewN m) (fun _ i _ => x.length - (intOf i).toNat)
      case atStart => exact ⟨0, 0, by omega, rfl, rfl, rfl⟩
      case round =>
        obtain ⟨j, m, hj, rfl, rfl, rfl⟩ := hrel
        by_cases hjl : j < x.length
        · have hjv : j < v.length := by have := HL.out; omega
          obtain ⟨ax, hAx, c1⟩ := (HX.out.below HB.out).at_ j hjl
          obtain ⟨av, hAv, c2⟩ := (HV.out.below HB.out).at_ j hjv
          subst hAx hAv
          have b0 : (0 : Int) ≤ (j : Int) := by omega
          have b1 : (j : Int) < (x.length : Int) := by omega
          have b1' : (j : Int) < (v.length : Int) := by omega
          have HSJ := Lib.hid (HS.out p j hjl hjv)
          by_cases he : x[j] = p
          · rw [if_pos he] at HSJ
            rw [he] at c1
            obtain ⟨q, hq⟩ : ∃ q, q = v[j] := ⟨_, rfl⟩
            rw [← hq] at c2 HSJ
            obtain ⟨r, hr⟩ : ∃ r, r = lookN x v p j := ⟨_, rfl⟩
            rw [← hr]
            clear he hq hr HS HLA
            go_wp2_with (fail)
            go_quiet (fail)
            go_wp2
            go_roundw
            case rel => exact ⟨j + 1, m + nq, by omega, by go_num, by rw [HSJ.out], by first | rfl | rw [World.drewN_drewN]⟩
            case measure => simp [intOf]; omega
          · rw [if_neg he] at HSJ
            have ne : (x[j] == p) = false := by simpa using he
            obtain ⟨y, hy⟩ : ∃ y, y = x[j] := ⟨_, rfl⟩
            rw [← hy] at c1 ne
            obtain ⟨r, hr⟩ : ∃ r, r = lookN x v p j := ⟨_, rfl⟩
            rw [← hr] at HSJ
            rw [← hr]
            clear he hy hr HS HLA c2
            go_wp2_with (fail)
            go_quiet (fail)
            go_wp2
            go_roundw
            case rel => exact ⟨j + 1, m + nq, by omega, by go_num, by rw [HSJ.out], by first | rfl | rw [World.drewN_drewN]⟩
            case measure => simp [intOf]; omega
        · obtain rfl : j = x.length := by omega
          obtain ⟨r, hr⟩ : ∃ r, r = lookN x v p x.length := ⟨_, rfl⟩
          rw [← hr] at HT
          rw [← hr]
          have HB1 := Lib.hid (pw_below_drewN HB.out m)
          have HO1 := Lib.hid (HO.out.drewN m)
          have hsz1 : w.heap.size ≤ (wo.drewN m).heap.size := hsz
          generalize wo.drewN m = w5 at *
          clear hr HS HLA
          go_wp2_with (at_builtin; refine append_one (w0 := w) w.heap.size rfl (.tmp 36) (.tmp 38) 47 2 .i64 8 rfl Try.underlying47 info64 (by decide) _ ((all.take k).map (LayPure3.look x v 0)) _ rfl rfl HO1.out HB1.out hsz1 (by have := HLK.out; omega) ?_; intro v1 w6 ho1 hb1 _ _; have HO6 := Lib.hid ho1; have HB6 := Lib.hid hb1; clear ho1 hb1)
          go_roundw
          case rel => exact ⟨k + 1, by omega, by go_num, by rw [HT.out]; exact HO6.out, HB6.out⟩
          case measure => simp [intOf]; omega
    · obtain rfl : k = all.length := by omega
      rw [List.take_length] at ho
      have HF := Lib.hid ho
      obtain ⟨A1, c1, rfl, -, -⟩ := ho.reads
      clear ho hb HO
      go_wp2
      go_ret
      exact ⟨_, rfl, HF.out, HB.out⟩
/-- the law's numbers. -/
def num (b : Int) (i : Nat) : Int := w64 (w64 (b * ((i : Int) + 1)) + (i : Int) * (i : Int))
def nums8 (n : Nat) (b : Int) : List Int := (List.range n).map (num b)
theorem nums8_len (n : Nat) (b : Int) : (nums8 n b).length = n := by simp [nums8]
set_option maxRecDepth 100000 in
set_option maxHeartbeats 1600000 in
theorem numbers_calls (n : Nat) (b : Int) (w : World) (hn : n ≤ 10000) :
    Calls Try.prog 38 #[.int .i64 n, .int .i64 b] w fun e w' => ∃ u, e = .returned u ∧ OwI 2 .i64 w' w.heap.size u (nums8 n b) ∧ Below w.heap.size w w' := by
  go_enter Try.func38, Try.ntmps38
  go_wp2
  go_loopw [5, 8] (fun u i wr => ∃ (k : Nat), k ≤ n ∧ i = .int .i64 k ∧ OwI 2 .i64 wr w.heap.size u (nums8 k b) ∧ Below w.heap.size w wr) (fun _ i _ => n - (intOf i).toNat)
  case atStart => exact ⟨0, by omega, rfl, OwI.nil _ _ _ _, Below.refl _ _⟩
  case round =>
    obtain ⟨k, hk, rfl, ho, hb⟩ := hrel
    have HB := Lib.hid hb
    have HO := Lib.hid ho
    have hsz := hb.size
    by_cases hlt : k < n
    · have HN : Hid (nums8 (k + 1) b = nums8 k b ++ [num b k]) := Lib.hid (by simp [nums8, List.range_succ])
      have HLK := Lib.hid (nums8_len k b)
      have hkk : (k : Int) * (k : Int) ≤ 100000000 := by
        have : (k : Int) * (k : Int) ≤ 10000 * 10000 := Int.mul_le_mul (by omega) (by omega) (by omega) (by omega)
        omega
      have hk0 : (0 : Int) ≤ (k : Int) * (k : Int) := Int.mul_nonneg (by omega) (by omega)
      clear ho hb
      go_wp2_with (at_builtin; refine append_one (w0 := w) w.heap.size rfl (.tmp 11) (.tmp 20) 47 2 .i64 8 rfl Try.underlying47 info64 (by decide) _ (nums8 k b) _ rfl rfl HO.out HB.out hsz (by have := HLK.out; omega) ?_; intro v1 w6 ho1 hb1 _ _; have HO6 := Lib.hid ho1; have HB6 := Lib.hid hb1; clear ho1 hb1)
      go_roundw
      case rel => exact ⟨k + 1, by omega, by go_num, by rw [HN.out]; have h9 := HO6.out; rw [wrap64_eq, wrap64_eq] at h9; exact h9, HB6.out⟩
      case measure => simp [intOf]; omega
    · obtain rfl : k = n := by omega
      obtain ⟨A1, c1, rfl, -, -⟩ := ho.reads
      clear ho hb
      go_wp2
      go_ret
      exact ⟨_, rfl, HO.out, HB.out⟩
end Go.Proofs.Ytaenincbmlcjiaa.LayH
