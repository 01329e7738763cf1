/- the reference of layer 1: texts of bits. -/
import Derived.Test.YtjfekjbmgckkcaaDoorProg
import Derived.Test.YtjfekjbmgckkcaaDoorBase
import Derived.WalkSpells
import Derived.Deep.QuietTactic
import Derived.BigQuiet
namespace Go.Proofs.YtjfekjbmgckkcaaDoor.Ref01
open Go.RowKit Go.Proofs.YtjfekjbmgckkcaaDoorW.PrintWords
open Go.Proofs.YtjfekjbmgckkcaaDoor.Bits Go.Proofs.YtjfekjbmgckkcaaDoor.Base

/-- a byte's bit, as the walk has it. -/
theorem bit_u8 (c : UInt8) (j : Nat) : (Go.bits .and .u8 ((c.toNat : Int) / 2 ^ j) 1 == 1) = c.toNat.testBit j := by
  have h1 : (c.toNat : Int) / 2 ^ j = ((c.toNat / 2 ^ j : Nat) : Int) := by simp
  have h2 : c.toNat / 2 ^ j < 256 := Nat.lt_of_le_of_lt (Nat.div_le_self _ _) c.toNat_lt
  have h3 : Go.bits .and .u8 ((c.toNat / 2 ^ j : Nat) : Int) ((1 : Nat) : Int) = ((c.toNat / 2 ^ j &&& 1 : Nat) : Int) := u8_and_nat _ _ h2 (by decide)
  rw [h1, show (1 : Int) = ((1 : Nat) : Int) from rfl, h3, Nat.and_one_is_mod, Nat.testBit_eq_decide_div_mod_eq]
  generalize c.toNat / 2 ^ j % 2 = y
  rw [Bool.eq_iff_iff, beq_iff_eq, decide_eq_true_iff]
  omega
theorem bts_at (s : ByteArray) (k : Nat) (h : k < 8 * s.size) (h' : k / 8 < s.size) : (bts s.data.toList)[k]? = some ((s[k / 8]'h').toNat.testBit (7 - k % 8)) := by
  rw [bts_get _ _ (by rw [data_size]; exact h), List.getD_eq_getElem?_getD, List.getElem?_eq_getElem (by rw [data_size]; exact h')]
  rfl
theorem take_bit {l : List Bool} {k : Nat} {b : Bool} (h : l[k]? = some b) : l.take (k + 1) = l.take k ++ [b] := by
  obtain ⟨hl, rfl⟩ := List.getElem?_eq_some_iff.1 h
  exact List.take_succ_eq_append_getElem hl

set_option maxHeartbeats 800000 in
theorem text_calls (s : ByteArray) (n : Nat) (w : World) (hn : n ≤ 8 * s.size) (hm : s.size ≤ 1000000000) :
    Calls Tryd.prog 14 #[.string s, .int .i64 n] w fun e w' => e = .returned (.string (txt ((bts s.data.toList).take n))) ∧ w = w' := by
  have hn' : (n : Int) ≤ 8 * (s.size : Int) := by omega
  go_enter Tryd.func14, Tryd.ntmps14
  go_wp2
  go_loop [5, 6] (fun x i => ∃ k : Nat, k ≤ n ∧ i = .int .i64 k ∧ x = .string (txt ((bts s.data.toList).take k))) (fun _ i => n - (intOf i).toNat)
  case atStart => exact ⟨0, by omega, rfl, rfl⟩
  case round =>
    obtain ⟨k, hk, rfl, rfl⟩ := hrel
    by_cases hlt : k < n
    · have h1 : k / 8 < s.size := by omega
      have hb := bts_at s k (by omega) h1
      have hu := bit_u8 (s[k / 8]'h1) (7 - k % 8)
      have hl : (txt ((bts s.data.toList).take k)).size ≤ k := by rw [txt_size, List.length_take]; omega
      cases hv : (s[k / 8]'h1).toNat.testBit (7 - k % 8) with
      | true =>
        rw [hv] at hb hu
        have HT := Lib.hid (take_bit hb)
        clear hb hv
        go_wp2
        go_round
        case rel => exact ⟨k + 1, by omega, by go_num, by rw [HT.out, txt_append]; rfl⟩
        case measure => simp [intOf]; omega
      | false =>
        rw [hv] at hb hu
        have HT := Lib.hid (take_bit hb)
        clear hb hv
        go_wp2
        go_round
        case rel => exact ⟨k + 1, by omega, by go_num, by rw [HT.out, txt_append]; rfl⟩
        case measure => simp [intOf]; omega
    · obtain rfl : k = n := by omega
      go_wp2
      go_ret
      exact ⟨rfl, rfl⟩

theorem txt_at (l : List Bool) (k : Nat) (h : k < l.length) (h' : k < (txt l).size) : ((txt l)[k]'h').toNat = (sign l[k]).toNat := by
  have : (txt l)[k]'h' = (l.map sign)[k]'(by simpa using h) := rfl
  rw [this, List.getElem_map]
theorem val_step (l : List Bool) (k : Nat) (h : k < l.length) : val (l.take (k + 1)) = 2 * val (l.take k) + l[k].toNat := by
  rw [List.take_succ_eq_append_getElem h, val_snoc]

theorem take_byte {l : List UInt8} {k : Nat} {b : UInt8} (h : l[k]? = some b) : l.take (k + 1) = l.take k ++ [b] := by
  obtain ⟨hl, rfl⟩ := List.getElem?_eq_some_iff.1 h
  exact List.take_succ_eq_append_getElem hl
/-- the j-th byte's bits. -/
def eight (l : List Bool) (j : Nat) : List Bool := l.drop (8 * j) ++ List.replicate 8 false
theorem eight_in (l : List Bool) (j k : Nat) (h : 8 * j + k < l.length) : (eight l j)[k]? = some (l[8 * j + k]) := by
  rw [eight, List.getElem?_append_left (by rw [List.length_drop]; omega), List.getElem?_drop, List.getElem?_eq_getElem h]
theorem eight_out (l : List Bool) (j k : Nat) (h : l.length ≤ 8 * j + k) (h0 : 8 * j ≤ l.length) (hk : k < 8) : (eight l j)[k]? = some false := by
  rw [eight, List.getElem?_append_right (by rw [List.length_drop]; omega), List.length_drop, List.getElem?_replicate]
  rw [if_pos (by omega)]
theorem eight_take (l : List Bool) (j k : Nat) {b : Bool} (h : (eight l j)[k]? = some b) : val ((eight l j).take (k + 1)) = 2 * val ((eight l j).take k) + b.toNat := by
  rw [take_bit h, val_snoc]
theorem eight_lt (l : List Bool) (j k : Nat) (hk : k ≤ 8) : val ((eight l j).take k) < 256 := by
  have h1 := val_lt ((eight l j).take k)
  have h2 : (2 : Nat) ^ ((eight l j).take k).length ≤ 2 ^ 8 := Nat.pow_le_pow_right (by decide) (by rw [List.length_take]; omega)
  omega
end Go.Proofs.YtjfekjbmgckkcaaDoor.Ref01
