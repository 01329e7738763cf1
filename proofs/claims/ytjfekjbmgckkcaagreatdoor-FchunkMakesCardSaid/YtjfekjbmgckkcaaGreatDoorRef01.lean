/- the reference of layer 1: texts of bits. -/
import Derived.Test.YtjfekjbmgckkcaaGreatDoorProg
import Derived.Test.YtjfekjbmgckkcaaGreatDoorBase
import Derived.WalkSpells
import Derived.Deep.QuietTactic
import Derived.BigQuiet
namespace Go.Proofs.YtjfekjbmgckkcaaGreatDoor.Ref01
open Go.RowKit Go.Proofs.YtjfekjbmgckkcaaGreatDoorW.PrintWords
open Go.Proofs.YtjfekjbmgckkcaaGreatDoor.Bits Go.Proofs.YtjfekjbmgckkcaaGreatDoor.Base

/-- a byte's bit, as the walk has it. -/
theorem bit_u8 (c : UInt8) (j : Nat) : (Go.bits .and .u8 ((c.toNat : Int) / 2 ^ j) 1 == 1) = c.toNat.testBit j := by
  have h1 : (c.toNat : Int) / 2 ^ j = ((c.toNat / 2 ^ j : Nat) : Int) := by simp
  have h2 : c.toNat / 2 ^ j < 256 := Nat.lt_of_le_of_lt (Nat.div_le_self _ _) c.toNat_lt
  have h3 : Go.bits .and .u8 ((c.toNat / 2 ^ j : Nat) : Int) ((1 : Nat) : Int) = ((c.toNat / 2 ^ j &&& 1 : Nat) : Int) := u8_and_nat _ _ h2 (by decide)
  rw [h1, show (1 : Int) = ((1 : Nat) : Int) from rfl, h3, Nat.and_one_is_mod, Nat.testBit_eq_decide_div_mod_eq]
  generalize c.toNat / 2 ^ j % 2 = y
  rw [Bool.eq_iff_iff, beq_iff_eq, decide_eq_true_iff]
  omega
theorem bts_at (s : ByteArray) (k : Nat) (h : k < 8 * s.size) (h' : k / 8 < s.size) : (bts s.data.toList)[k]? = some ((s[k / 8]'h').toNat.testBit (7 - k % 8)) := by
  rw [bts_get _ _ (by rw [data_size]; exact h), List.getD_eq_getElem?_getD, List.getElem?_eq_getElem (by rw [data_size]; exact h')]
  rfl
theorem take_bit {l : List Bool} {k : Nat} {b : Bool} (h : l[k]? = some b) : l.take (k + 1) = l.take k ++ [b] := by
  obtain ⟨hl, rfl⟩ := List.getElem?_eq_some_iff.1 h
  exact List.take_succ_eq_append_getElem hl

set_option maxHeartbeats 800000 in
theorem text_calls (s : ByteArray) (n : Nat) (w : World) (hn : n ≤ 8 * s.size) (hm : s.size ≤ 1000000000) :
    Calls Tryz.prog 32 #[.string s, .int .i64 n] w fun e w' => e = .returned (.string (txt ((bts s.data.toList).take n))) ∧ w = w' := by
  have hn' : (n : Int) ≤ 8 * (s.size : Int) := by omega
  go_enter Tryz.func32, Tryz.ntmps32
  go_wp2
  go_loop [5, 6] (fun x i => ∃ k : Nat, k ≤ n ∧ i = .int .i64 k ∧ x = .string (txt ((bts s.data.toList).take k))) (fun _ i => n - (intOf i).toNat)
  case atStart => exact ⟨0, by omega, rfl, rfl⟩
  case round =>
    obtain ⟨k, hk, rfl, rfl⟩ := hrel
    by_cases hlt : k < n
    · have h1 : k / 8 < s.size := by omega
      have hb := bts_at s k (by omega) h1
      have hu := bit_u8 (s[k / 8]'h1) (7 - k % 8)
      have hl : (txt ((bts s.data.toList).take k)).size ≤ k := by rw [txt_size, List.length_take]; omega
      cases hv : (s[k / 8]'h1).toNat.testBit (7 - k % 8) with
      | true =>
        rw [hv] at hb hu
        have HT := Lib.hid (take_bit hb)
        clear hb hv
        go_wp2
        go_round
        case rel => exact ⟨k + 1, by omega, by go_num, by rw [HT.out, txt_append]; rfl⟩
        case measure => simp [intOf]; omega
      | false =>
        rw [hv] at hb hu
        have HT := Lib.hid (take_bit hb)
        clear hb hv
        go_wp2
        go_round
        case rel => exact ⟨k + 1, by omega, by go_num, by rw [HT.out, txt_append]; rfl⟩
        case measure => simp [intOf]; omega
    · obtain rfl : k = n := by omega
      go_wp2
      go_ret
      exact ⟨rfl, rfl⟩

set_option maxHeartbeats 800000 in
theorem number_calls (v n : Nat) (w : World) (hv : v < 18446744073709551616) (hn : n ≤ 1000000000) :
    Calls Tryz.prog 80 #[.int .u64 v, .int .i64 n] w fun e w' => e = .returned (.string (txt (nb v n))) ∧ w = w' := by
  have HV := Lib.hid hv
  clear hv
  go_enter Tryz.func80, Tryz.ntmps80
  go_wp2
  go_loop [0, 5, 6] (fun y x i => ∃ k : Nat, k ≤ n ∧ i = .int .i64 k ∧ y = .int .u64 ((v / 2 ^ k : Nat) : Int) ∧ x = .string (txt (nb v k))) (fun _ _ i => n - (intOf i).toNat)
  case atStart => exact ⟨0, by omega, rfl, by simp, rfl⟩
  case round =>
    obtain ⟨k, hk, rfl, rfl, rfl⟩ := hrel
    by_cases hlt : k < n
    · obtain ⟨q, hq⟩ : ∃ q, q = v / 2 ^ k := ⟨_, rfl⟩
      have hq2 : v / 2 ^ (k + 1) = q / 2 := by rw [hq, Nat.pow_succ, Nat.div_div_eq_div_mul]
      have hw : IntKind.u64.wrap ((q : Int) / 2) = ((q / 2 : Nat) : Int) := wrap_u64n (n := q / 2) (by have := HV.out; have : q ≤ v := by rw [hq]; exact Nat.div_le_self _ _
                                                                                                       omega)
      have HW := Lib.hid hw
      have hl : (txt (nb v k)).size ≤ k := by rw [txt_size, nb_length]; omega
      have hb : v.testBit k = decide (q % 2 = 1) := by rw [hq, Nat.testBit_eq_decide_div_mod_eq]
      have HN := Lib.hid (nb_succ v k)
      rw [← hq]
      have HQ2 := Lib.hid hq2
      clear hq hq2 hw
      by_cases h : q % 2 = 1
      · have h1 : ((q : Int) % 2 == 1) = true := by rw [beq_iff_eq]; omega
        rw [decide_eq_true h] at hb
        have HB := Lib.hid hb
        clear h hb
        go_wp2
        go_round
        case rel => exact ⟨k + 1, by omega, by go_num, by rw [HQ2.out, HW.out], by rw [HN.out, HB.out, txt_cons]; rfl⟩
        case measure => simp [intOf]; omega
      · have h1 : ((q : Int) % 2 == 1) = false := by rw [beq_eq_false_iff_ne]; omega
        rw [decide_eq_false h] at hb
        have HB := Lib.hid hb
        clear h hb
        go_wp2
        go_round
        case rel => exact ⟨k + 1, by omega, by go_num, by rw [HQ2.out, HW.out], by rw [HN.out, HB.out, txt_cons]; rfl⟩
        case measure => simp [intOf]; omega
    · obtain rfl : k = n := by omega
      go_wp2
      go_ret
      exact ⟨rfl, rfl⟩

theorem txt_at (l : List Bool) (k : Nat) (h : k < l.length) (h' : k < (txt l).size) : ((txt l)[k]'h').toNat = (sign l[k]).toNat := by
  have : (txt l)[k]'h' = (l.map sign)[k]'(by simpa using h) := rfl
  rw [this, List.getElem_map]
theorem val_step (l : List Bool) (k : Nat) (h : k < l.length) : val (l.take (k + 1)) = 2 * val (l.take k) + l[k].toNat := by
  rw [List.take_succ_eq_append_getElem h, val_snoc]

set_option maxHeartbeats 800000 in
theorem value_calls (l : List Bool) (w : World) (hn : l.length ≤ 64) :
    Calls Tryz.prog 90 #[.string (txt l)] w fun e w' => e = .returned (.int .u64 (val l)) ∧ w = w' := by
  have hs := txt_size l
  obtain ⟨s, hS⟩ : ∃ s, s = txt l := ⟨_, rfl⟩
  have hat := fun (k : Nat) (h : k < l.length) (h' : k < s.size) => show (s[k]'h').toNat = (sign l[k]).toNat by subst hS; exact txt_at l k h h'
  rw [← hS] at hs ⊢
  clear hS
  have HS := Lib.hid hs
  have hsl : s.size ≤ 64 := by omega
  have HAT := Lib.hid hat
  clear hs hat
  go_enter Tryz.func90, Tryz.ntmps90
  go_wp2
  go_loop [3, 4] (fun x i => ∃ k : Nat, k ≤ s.size ∧ i = .int .i64 k ∧ x = .int .u64 (val (l.take k))) (fun _ i => s.size - (intOf i).toNat)
  case atStart => exact ⟨0, by omega, rfl, rfl⟩
  case round =>
    obtain ⟨k, hk, rfl, rfl⟩ := hrel
    by_cases hlt : k < s.size
    · have hkl : k < l.length := by have := HS.out; omega
      have h1 := HAT.out k hkl hlt
      have h2 := val_step l k hkl
      have h3 := val_lt (l.take (k + 1))
      have h4 : (2 : Nat) ^ (l.take (k + 1)).length ≤ 2 ^ 64 := Nat.pow_le_pow_right (by decide) (by rw [List.length_take]; omega)
      obtain ⟨q, hq⟩ : ∃ q, q = val (l.take k) := ⟨_, rfl⟩
      rw [← hq] at h2 ⊢
      have hw : IntKind.u64.wrap (2 * (q : Int)) = 2 * (q : Int) := by rw [IntKind.wrap_u64]; omega
      have hw1 : IntKind.u64.wrap (2 * (q : Int) + 1) = 2 * (q : Int) + 1 ∨ l[k] = false := by
        cases hv : l[k] with
        | true => rw [hv] at h2; simp at h2; left; rw [IntKind.wrap_u64]; omega
        | false => right; rfl
      have H2 := Lib.hid h2
      clear h2 h3 h4 hq
      cases hv : l[k] with
      | true =>
        rw [hv] at h1 H2 hw1
        have hw2 : IntKind.u64.wrap (2 * (q : Int) + 1) = 2 * (q : Int) + 1 := by simpa using hw1
        have h5 : (((s[k]'hlt).toNat : Int) == 49) = true := by rw [h1]; rfl
        have HW := Lib.hid hw
        have HW2 := Lib.hid hw2
        clear h1 hw1 hw hw2
        go_wp2
        go_round
        case rel => exact ⟨k + 1, by omega, by go_num, by rw [HW.out, HW2.out, H2.out]; rfl⟩
        case measure => simp [intOf]; omega
      | false =>
        rw [hv] at h1 H2
        have h5 : (((s[k]'hlt).toNat : Int) == 49) = false := by rw [h1]; rfl
        have HW := Lib.hid hw
        clear h1 hw1 hw
        go_wp2
        go_round
        case rel => exact ⟨k + 1, by omega, by go_num, by rw [HW.out, H2.out]; rfl⟩
        case measure => simp [intOf]; omega
    · have : k = l.length := by have := HS.out; omega
      rw [this, List.take_length]
      go_wp2
      go_ret
      exact ⟨rfl, rfl⟩

theorem take_byte {l : List UInt8} {k : Nat} {b : UInt8} (h : l[k]? = some b) : l.take (k + 1) = l.take k ++ [b] := by
  obtain ⟨hl, rfl⟩ := List.getElem?_eq_some_iff.1 h
  exact List.take_succ_eq_append_getElem hl
/-- the j-th byte's bits. -/
def eight (l : List Bool) (j : Nat) : List Bool := l.drop (8 * j) ++ List.replicate 8 false
theorem eight_in (l : List Bool) (j k : Nat) (h : 8 * j + k < l.length) : (eight l j)[k]? = some (l[8 * j + k]) := by
  rw [eight, List.getElem?_append_left (by rw [List.length_drop]; omega), List.getElem?_drop, List.getElem?_eq_getElem h]
theorem eight_out (l : List Bool) (j k : Nat) (h : l.length ≤ 8 * j + k) (h0 : 8 * j ≤ l.length) (hk : k < 8) : (eight l j)[k]? = some false := by
  rw [eight, List.getElem?_append_right (by rw [List.length_drop]; omega), List.length_drop, List.getElem?_replicate]
  rw [if_pos (by omega)]
theorem eight_take (l : List Bool) (j k : Nat) {b : Bool} (h : (eight l j)[k]? = some b) : val ((eight l j).take (k + 1)) = 2 * val ((eight l j).take k) + b.toNat := by
  rw [take_bit h, val_snoc]
theorem eight_lt (l : List Bool) (j k : Nat) (hk : k ≤ 8) : val ((eight l j).take k) < 256 := by
  have h1 := val_lt ((eight l j).take k)
  have h2 : (2 : Nat) ^ ((eight l j).take k).length ≤ 2 ^ 8 := Nat.pow_le_pow_right (by decide) (by rw [List.length_take]; omega)
  omega
end Go.Proofs.YtjfekjbmgckkcaaGreatDoor.Ref01
