/- the reference of layer 23: turn, Sum. -/
import Derived.Test.YtdcaoinhhdccoaaDoorRef01
import Derived.Test.YtdcaoinhhdccoaaDoorCrcPure
namespace Go.Proofs.YtdcaoinhhdccoaaDoor.CrcRef
open Go.RowKit Go.Proofs.YtdcaoinhhdccoaaDoorW.PrintWords
open Go.Proofs.YtdcaoinhhdccoaaDoor.Bits Go.Proofs.YtdcaoinhhdccoaaDoor.Base Go.Proofs.YtdcaoinhhdccoaaDoor.Ref01 Go.Proofs.YtdcaoinhhdccoaaDoor.CrcPure

/-- a register as bits. -/
def rb (r : BitVec 32) : List Bool := nb r.toNat 32
theorem rb_length (r : BitVec 32) : (rb r).length = 32 := nb_length _ _
theorem rb_get (r : BitVec 32) (i : Nat) (h : i < 32) : (rb r)[i]? = some (r.getLsbD (31 - i)) := by
  rw [rb, nb_get _ _ _ h]; rfl
theorem rb_at (r : BitVec 32) (i : Nat) (h : i < 32) (h' : i < (rb r).length) : (rb r)[i]'h' = r.getLsbD (31 - i) := by
  have := rb_get r i h
  rw [List.getElem?_eq_getElem h'] at this
  exact Option.some.inj this
theorem rb_ext {l : List Bool} {r : BitVec 32} (hl : l.length = 32) (h : ∀ i (hi : i < 32), l[i]'(by omega) = r.getLsbD (31 - i)) : l = rb r := by
  apply List.ext_getElem
  · rw [hl, rb_length]
  · intro i h1 h2
    rw [h i (by omega), rb_at r i (by omega)]
/-- the shifted register. -/
theorem rb_shift (r : BitVec 32) : (rb r).drop 1 ++ [false] = rb (r <<< 1) := by
  refine rb_ext (by simp [rb_length]) ?_
  intro i hi
  rcases Nat.lt_or_ge i 31 with h | h
  · rw [List.getElem_append_left (by simp [rb_length]; omega), List.getElem_drop, rb_at r (1 + i) (by omega)]
    simp
    rw [show 31 - (1 + i) = 31 - i - 1 from by omega]
    simp [show 31 - i < 32 from by omega, show ¬ (31 - i < 1) from by omega]
    intro _
    omega
  · have : i = 31 := by omega
    subst this
    rw [List.getElem_append_right (by simp [rb_length])]
    simp [rb_length]
/-- the divisor. -/
def dvs : List Bool := nb 79764919 32
theorem dvs_rb : dvs = rb poly := rfl
theorem rb_xor (a b : BitVec 32) (i : Nat) (h : i < 32) : ((rb a)[i]'(by rw [rb_length]; exact h) ^^ (rb b)[i]'(by rw [rb_length]; exact h)) = (rb (a ^^^ b))[i]'(by rw [rb_length]; exact h) := by
  rw [rb_at _ _ h, rb_at _ _ h, rb_at _ _ h]; simp

set_option maxHeartbeats 400000 in
theorem turn_calls (b : Bool) (w : World) :
    Calls Tryd.prog 21 #[.int .u8 (sg b)] w fun e w' => e = .returned (.int .u8 (sg (!b))) ∧ w = w' := by
  cases b with
  | false =>
    have h : (sg false == 48) = true := rfl
    go_enter Tryd.func21, Tryd.ntmps21
    go_wp2
    go_ret
    exact ⟨rfl, rfl⟩
  | true =>
    have h : (sg true == 48) = false := rfl
    go_enter Tryd.func21, Tryd.ntmps21
    go_wp2
    go_ret
    exact ⟨rfl, rfl⟩

theorem one_txt (b : Bool) (w : World) : (convert 22 9 (.slice (some ⟨w.heap.size, 0, none⟩) 1 1)).run Tryd.prog (w.alloc (.cells #[.int .u8 (sg b)] 5)) = .ok (.string (txt [b])) (w.alloc (.cells #[.int .u8 (sg b)] 5)) :=
  string_one (P := Tryd.prog) (sg b) (sign b) rfl Tryd.underlying22 Tryd.underlying5 Tryd.underlying9 w

theorem msb_at (r : BitVec 32) : (rb r)[0]'(by rw [rb_length]; decide) = r.msb := by
  rw [rb_at r 0 (by decide), BitVec.msb_eq_getLsbD_last]
theorem step_false {F0 : List Bool → List Bool} (hF : F0 = fun m => rb (feed (~~~ 0#32) m)) {l R N : List Bool} {k : Nat} (hR : R = F0 (l.take k)) (hN : N = R.drop 1 ++ [false]) (_ : Nat) (h : k < l.length)
    {hr : 0 < R.length} (hc : (l[k] ^^ R[0]) = false) : F0 (l.take (k + 1)) = N := by
  subst hF
  subst hR
  rw [hN, rb_shift, List.take_succ_eq_append_getElem h]
  show rb (feed _ (l.take k ++ [l[k]])) = _
  rw [feed_append]
  congr 1
  show F _ _ = _
  rw [msb_at] at hc
  rw [F, Bool.xor_comm, hc]
  simp
theorem step_true {F0 : List Bool → List Bool} (hF : F0 = fun m => rb (feed (~~~ 0#32) m)) {l R N : List Bool} {k : Nat} (hR : R = F0 (l.take k)) (hN : N = R.drop 1 ++ [false]) (_ : Nat) (h : k < l.length)
    {hr : 0 < R.length} (hc : (l[k] ^^ R[0]) = true) : List.zipWith xor N dvs = F0 (l.take (k + 1)) := by
  subst hF
  subst hR
  rw [hN, rb_shift, List.take_succ_eq_append_getElem h]
  show _ = rb (feed _ (l.take k ++ [l[k]]))
  rw [feed_append]
  rw [msb_at] at hc
  show _ = rb (F _ _)
  rw [F, Bool.xor_comm, hc, if_pos rfl, dvs_rb]
  apply List.ext_getElem
  · simp [rb_length]
  · intro i h1 h2
    rw [List.getElem_zipWith]
    exact rb_xor _ _ i (by rw [rb_length] at h2; exact h2)
theorem val_not (r : BitVec 32) : val ((rb r).map not) = (~~~ r).toNat := by
  have : (rb r).map not = rb (~~~ r) := by
    refine rb_ext (by simp [rb_length]) ?_
    intro i hi
    rw [List.getElem_map, rb_at r i hi]
    simp
    omega
  rw [this, rb, val_nb]
  exact Nat.mod_eq_of_lt (~~~ r).isLt

set_option maxHeartbeats 3200000 in
theorem sum_calls (s : ByteArray) (w : World) (hm : s.size ≤ 1000000) :
    Calls Tryd.prog 12 #[.string s] w fun e w' => e = .returned (.int .u32 ((sum s.data.toList).toNat : Int)) ∧ Below w.heap.size w w' := by
  have hlen : (bts s.data.toList).length = 8 * s.size := by rw [bts_length, data_size]
  have ht := text_calls s (8 * s.size) w (Nat.le_refl _) (by omega)
  rw [List.take_of_length_le (by omega)] at ht
  obtain ⟨l, hl⟩ : ∃ l, l = bts s.data.toList := ⟨_, rfl⟩
  rw [← hl] at ht hlen
  have h8 : ((8 * s.size : Nat) : Int) = 8 * (s.size : Int) := by omega
  rw [h8] at ht
  have HT := Lib.hid ht
  have HL := Lib.hid hl
  have HLEN := Lib.hid hlen
  have hll : l.length ≤ 8000000 := by omega
  clear ht hl hlen h8
  go_enter Tryd.func12, Tryd.ntmps12
  go_wp2_with (go_at_call 20; refine HT.out.mono ?_; rintro e w' ⟨rfl, rfl⟩)
  obtain ⟨F0, hF0⟩ : ∃ F0 : List Bool → List Bool, F0 = fun m => rb (feed (~~~ 0#32) m) := ⟨_, rfl⟩
  have hF1 : txt (F0 []) = ⟨#[49, 49, 49, 49, 49, 49, 49, 49, 49, 49, 49, 49, 49, 49, 49, 49, 49, 49, 49, 49, 49, 49, 49, 49, 49, 49, 49, 49, 49, 49, 49, 49]⟩ := by
    rw [hF0]
    have : rb (feed (~~~ 0#32) []) = List.replicate 32 true := by decide
    show txt (rb (feed (~~~ 0#32) [])) = _
    rw [this]
    rfl
  have HF0 := Lib.hid hF0
  have HF1 := Lib.hid hF1
  clear hF0 hF1
  go_loopw [4, 5] (fun x i wr => ∃ k : Nat, k ≤ l.length ∧ i = .int .i64 k ∧ x = .string (txt (F0 (l.take k))) ∧ Below w.heap.size w wr) (fun _ i _ => l.length - (intOf i).toNat)
  case atStart => exact ⟨0, by omega, rfl, by rw [List.take_zero, HF1.out], Below.refl _ _⟩
  case round =>
    obtain ⟨k, hk, rfl, rfl, hb⟩ := hrel
    have HB := Lib.hid hb
    have hb0 := hb.size
    clear hb
    have hsz := txt_size l
    by_cases hlt : k < l.length
    · obtain ⟨R, hR⟩ : ∃ R, R = F0 (l.take k) := ⟨_, rfl⟩
      have hrl : R.length = 32 := by rw [hR, HF0.out]; exact rb_length _
      rw [← hR]
      have HR := Lib.hid hR
      clear hR
      have hx1 := fun w => index_txt (P := Tryd.prog) 9 Tryd.underlying9 l k hlt w
      have hx2 : ∀ w, (Instr.index 9 (.string (txt R)) (.int .i64 0)).run Tryd.prog w = .ok (.int .u8 (sg R[0])) w := fun w => index_txt 9 Tryd.underlying9 R 0 (by omega) w
      obtain ⟨T, hT⟩ : ∃ T, T = txt (R.drop 1) := ⟨_, rfl⟩
      have hx3 : (txt R).extract 1 (txt R).size = T := by
        rw [extract_txt, txt_size, hrl, hT]
        congr 1
        apply List.take_of_length_le
        rw [List.length_drop, hrl]
        decide
      have hrs : (txt R).size = 32 := by rw [txt_size, hrl]
      rw [hrs] at hx3
      have hTs : T.size = 31 := by rw [hT, txt_size, List.length_drop, hrl]
      obtain ⟨N, hN⟩ : ∃ N, N = R.drop 1 ++ [false] := ⟨_, rfl⟩
      have hx4 : T ++ ⟨#[48]⟩ = txt N := by rw [hN, hT, txt_append]; rfl
      have hNl : N.length = 32 := by rw [hN, List.length_append, List.length_drop, hrl]; rfl
      have HN := Lib.hid hN
      clear hT hN
      cases hc : (l[k] ^^ R[0]) with
      | false =>
        have hne : (sg l[k] != sg R[0]) = false := by rw [sg_ne, hc]
        have HC := Lib.hid hc
        clear hc
        go_wp2
        go_quiet (fail)
        go_wp2
        go_roundw
        case rel => exact ⟨k + 1, by omega, by go_num, by rw [step_false HF0.out HR.out HN.out k hlt HC.out], pw_below_drewN HB.out _⟩
        case measure => simp [intOf]; omega
      | true =>
        have hne : (sg l[k] != sg R[0]) = true := by rw [sg_ne, hc]
        have HC := Lib.hid hc
        clear hc
        go_wp2
        go_quiet (fail)
        go_wp2
        go_loopw [7, 8] (fun x i w2 => ∃ j : Nat, j ≤ 32 ∧ i = .int .i64 j ∧ x = .string (txt ((List.zipWith xor N dvs).take j)) ∧ Below w.heap.size w w2) (fun _ i _ => 32 - (intOf i).toNat)
        case atStart => exact ⟨0, by omega, rfl, rfl, pw_below_drewN HB.out _⟩
        case round =>
          obtain ⟨j, hj, rfl, rfl, hb⟩ := hrel
          have HB2 := Lib.hid hb
          have hb2 := hb.size
          clear hb
          by_cases hj32 : j < 32
          · have hy1 := fun w => index_txt (P := Tryd.prog) 9 Tryd.underlying9 N j (by omega) w
            have hy2 : ∀ w, (Instr.index 9 (.string ⟨#[48, 48, 48, 48, 48, 49, 48, 48, 49, 49, 48, 48, 48, 48, 48, 49, 48, 48, 48, 49, 49, 49, 48, 49, 49, 48, 49, 49, 48, 49, 49, 49]⟩) (.int .i64 (j : Int))).run Tryd.prog w = .ok (.int .u8 (sg (dvs[j]'(by show j < 32; omega)))) w := fun w => by
              have := index_txt (P := Tryd.prog) 9 Tryd.underlying9 dvs j (by show j < 32; omega) w
              rw [← this]
              rfl
            have hdj : dvs.length = 32 := rfl
            have hzl : (List.zipWith xor N dvs).length = 32 := by rw [List.length_zipWith, hNl, hdj]; rfl
            have HZ := Lib.hid (take_bit (l := List.zipWith xor N dvs) (k := j) (b := (N[j] ^^ dvs[j]'(by rw [hdj]; exact hj32))) (by rw [List.getElem?_eq_getElem (by rw [hzl]; exact hj32), List.getElem_zipWith]))
            have hts : (txt ((List.zipWith xor N dvs).take j)).size ≤ 32 := by rw [txt_size, List.length_take, hzl]; omega
            have hone := fun b => one_txt b wr
            have hos : ∀ b, (txt [b]).size = 1 := fun b => txt_size [b]
            obtain ⟨D, hD⟩ : ∃ D, D = dvs[j]'(by rw [hdj]; exact hj32) := ⟨_, rfl⟩
            rw [← hD] at hy2 HZ
            have hd9 := sg_eq49 D
            clear hD hdj hzl
            cases D with
            | false =>
              go_wp2
              go_roundw
              case rel => exact ⟨j + 1, by omega, by go_num, by rw [HZ.out, txt_append, Bool.xor_false], below_alloc HB2.out _⟩
              case measure => simp [intOf]; omega
            | true =>
              go_wp2_with (go_at_call 21; refine (turn_calls _ _).mono ?_; rintro e w' ⟨rfl, rfl⟩)
              go_roundw
              case rel => exact ⟨j + 1, by omega, by go_num, by rw [HZ.out, txt_append, Bool.xor_true], below_alloc HB2.out _⟩
              case measure => simp [intOf]; omega
          · obtain rfl : j = 32 := by omega
            have hzf : (List.zipWith xor N dvs).take 32 = F0 (l.take (k + 1)) := by
              rw [List.take_of_length_le (by rw [List.length_zipWith, hNl]; decide)]
              exact step_true HF0.out HR.out HN.out k hlt HC.out
            rw [hzf]
            go_wp2
            go_roundw
            case rel => exact ⟨k + 1, by omega, by go_num, rfl, HB2.out⟩
            case measure => simp [intOf]; omega
    · have hfull : F0 (l.take k) = rb (feed (~~~ 0#32) l) := by rw [List.take_of_length_le (by omega), HF0.out]
      rw [hfull]
      obtain ⟨R, hR⟩ : ∃ R, R = rb (feed (~~~ 0#32) l) := ⟨_, rfl⟩
      have hrl : R.length = 32 := by rw [hR]; exact rb_length _
      rw [← hR]
      have HR := Lib.hid hR
      clear hR hfull
      go_wp2
      go_loopw [10, 11] (fun x i w2 => ∃ j : Nat, j ≤ 32 ∧ i = .int .i64 j ∧ x = .string (txt ((R.map not).take j)) ∧ Below w.heap.size w w2) (fun _ i _ => 32 - (intOf i).toNat)
      case atStart => exact ⟨0, by omega, rfl, rfl, HB.out⟩
      case round =>
        obtain ⟨j, hj, rfl, rfl, hb⟩ := hrel
        have HB2 := Lib.hid hb
        have hb2 := hb.size
        clear hb
        by_cases hj32 : j < 32
        · have hy1 := fun w => index_txt (P := Tryd.prog) 9 Tryd.underlying9 R j (by omega) w
          have HZ := Lib.hid (take_bit (l := R.map not) (k := j) (b := !R[j]) (by rw [List.getElem?_map, List.getElem?_eq_getElem (by omega)]; rfl))
          have hts : (txt ((R.map not).take j)).size ≤ 32 := by rw [txt_size, List.length_take, List.length_map]; omega
          have hone := fun b => one_txt b wr
          have hos : ∀ b, (txt [b]).size = 1 := fun b => txt_size [b]
          go_wp2_with (go_at_call 21; refine (turn_calls _ _).mono ?_; rintro e w' ⟨rfl, rfl⟩)
          go_roundw
          case rel => exact ⟨j + 1, by omega, by go_num, by rw [HZ.out, txt_append], below_alloc HB2.out _⟩
          case measure => simp [intOf]; omega
        · obtain rfl : j = 32 := by omega
          have hnl : (R.map not).length = 32 := by rw [List.length_map, hrl]
          rw [List.take_of_length_le (by omega)]
          have hv : val (R.map not) = (sum s.data.toList).toNat := by
            rw [HR.out, val_not, sum, go, HL.out]
          have hlt32 := (sum s.data.toList).isLt
          have hval := value_calls (R.map not) wr (by omega)
          rw [hv] at hval
          have HVAL := Lib.hid hval
          obtain ⟨q, hq⟩ : ∃ q, q = (sum s.data.toList).toNat := ⟨_, rfl⟩
          rw [← hq] at HVAL hlt32
          have HQ := Lib.hid hq
          have hlt33 : q ≤ 4294967295 := by omega
          clear hval hv hq hlt32
          go_wp2_with (go_at_call 22; refine HVAL.out.mono ?_; rintro e w' ⟨rfl, rfl⟩)
          go_ret
          exact ⟨by rw [← HQ.out]; rfl, HB2.out⟩
end Go.Proofs.YtdcaoinhhdccoaaDoor.CrcRef
