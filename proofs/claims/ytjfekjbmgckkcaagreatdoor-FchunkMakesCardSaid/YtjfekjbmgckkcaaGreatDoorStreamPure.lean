/- bits in bytes: one more bit; the first bits of bytes. No program in sight. -/
import Derived.Test.YtjfekjbmgckkcaaGreatDoorBits
import Derived.Laws.BitsAllLaws
namespace Go.Proofs.YtjfekjbmgckkcaaGreatDoor.StreamPure
open Go.Proofs.YtjfekjbmgckkcaaGreatDoor.Bits

theorem bts_pack8 (l : List Bool) (h : l.length % 8 = 0) : bts (pack l) = l := by
  rw [bts_pack _ _ rfl, show (8 - l.length % 8) % 8 = 0 from by omega]
  simp
theorem pack_append8 (l t : List Bool) (h : l.length % 8 = 0) : pack (l ++ t) = pack l ++ pack t := by
  have := pack_bts_append (pack l) t
  rwa [bts_pack8 l h] at this
theorem pack_short (t : List Bool) (h0 : 0 < t.length) (h : t.length ≤ 8) : pack t = [byte (t ++ List.replicate (8 - t.length) false)] := by
  rw [pack_eq t (by rintro rfl; simp at h0), List.drop_of_length_le h, List.take_append, List.take_of_length_le h, List.take_replicate, Nat.min_eq_left (by omega)]
  rfl
/-- the bytes that are full, and what is behind them. -/
theorem split8 (l : List Bool) : l = l.take (8 * (l.length / 8)) ++ l.drop (8 * (l.length / 8)) ∧ (l.take (8 * (l.length / 8))).length = 8 * (l.length / 8) ∧ (l.drop (8 * (l.length / 8))).length = l.length % 8 := by
  refine ⟨(List.take_append_drop _ _).symm, ?_, ?_⟩
  · rw [List.length_take]; omega
  · rw [List.length_drop]; omega
/-- one more bit, at the beginning of a byte. -/
theorem pack_new (l : List Bool) (b : Bool) (h : l.length % 8 = 0) : pack (l ++ [b]) = pack l ++ [if b then 128 else 0] := by
  rw [pack_append8 l [b] h]
  cases b <;> rfl
/-- one more bit, within a byte. -/
theorem pack_more (l : List Bool) (b : Bool) (h : l.length % 8 ≠ 0) :
    ∃ c : UInt8, (pack l)[(pack l).length - 1]? = some c ∧ pack (l ++ [b]) = (pack l).set ((pack l).length - 1) (UInt8.ofNat (c.toNat ||| (if b then 2 ^ (7 - l.length % 8) else 0))) ∧ 0 < (pack l).length := by
  obtain ⟨h1, h2, h3⟩ := split8 l
  generalize l.take (8 * (l.length / 8)) = p at h1 h2
  generalize l.drop (8 * (l.length / 8)) = t at h1 h3
  have hp : p.length % 8 = 0 := by rw [h2]; omega
  have ht0 : 0 < t.length := by omega
  have ht8 : t.length < 8 := by omega
  have e1 : pack l = pack p ++ [byte (t ++ List.replicate (8 - t.length) false)] := by
    rw [h1, pack_append8 p t hp, pack_short t ht0 (by omega)]
  have e2 : pack (l ++ [b]) = pack p ++ [byte (t ++ [b] ++ List.replicate (7 - t.length) false)] := by
    rw [h1, List.append_assoc, pack_append8 p _ hp, pack_short (t ++ [b]) (by simp) (by simp; omega)]
    rw [List.length_append, List.length_singleton, show 8 - (t.length + 1) = 7 - t.length from by omega]
  have hl : (pack l).length - 1 = (pack p).length := by rw [e1]; simp
  refine ⟨byte (t ++ List.replicate (8 - t.length) false), ?_, ?_, ?_⟩
  · rw [hl, e1]; simp
  · rw [hl, e2, e1, List.set_append_right _ _ (Nat.le_refl _), Nat.sub_self, List.set_cons_zero]
    congr 2
    rw [← h3]
    have hv := val_lt t
    have ea : val (t ++ List.replicate (8 - t.length) false) = val t * 2 ^ (8 - t.length) := by rw [val_append, val_replicate]; simp
    have eb : val (t ++ [b] ++ List.replicate (7 - t.length) false) = val t * 2 ^ (8 - t.length) + (if b then 2 ^ (7 - t.length) else 0) := by
      rw [val_append, val_snoc, val_replicate, List.length_replicate, Nat.add_zero, Nat.add_mul, show 8 - t.length = (7 - t.length) + 1 from by omega, Nat.pow_succ]
      rw [Nat.mul_comm 2 (val t), Nat.mul_assoc, Nat.mul_comm 2 (2 ^ (7 - t.length))]
      cases b <;> simp
    have hlt : val t * 2 ^ (8 - t.length) < 256 := by
      have h5 : val t * 2 ^ (8 - t.length) < 2 ^ t.length * 2 ^ (8 - t.length) := Nat.mul_lt_mul_of_pos_right hv (Nat.two_pow_pos _)
      rw [← Nat.pow_add, show t.length + (8 - t.length) = 8 from by omega] at h5
      exact h5
    have hy : (if b then 2 ^ (7 - t.length) else 0) < 2 ^ (8 - t.length) := by
      cases b with
      | false => simp; exact Nat.two_pow_pos _
      | true => simp; exact Nat.pow_lt_pow_right (by decide) (by omega)
    have hx : (byte (t ++ List.replicate (8 - t.length) false)).toNat = val t * 2 ^ (8 - t.length) := by
      rw [byte, UInt8.toNat_ofNat', ea]; exact Nat.mod_eq_of_lt hlt
    rw [hx, nat_join (8 - t.length) _ _ (Nat.mul_mod_left _ _) hy, ← eb]
    rfl
  · rw [e1]; simp

/-! the first bits of bytes -/
theorem byte_mask : ∀ r, r < 8 → 0 < r → ∀ c : Fin 256, byte ((nb c.val 8).take r ++ List.replicate (8 - r) false) = UInt8.ofNat (c.val &&& (255 * 2 ^ (8 - r) % 256)) := by decide +kernel
theorem bts_take (l : List UInt8) (q : Nat) : (bts l).take (8 * q) = bts (l.take q) := by
  rcases Nat.lt_or_ge l.length q with h | h
  · rw [List.take_of_length_le (by rw [bts_length]; omega), List.take_of_length_le (by omega)]
  · conv => lhs; rw [← List.take_append_drop q l, bts_append]
    rw [List.take_append_of_le_length (by rw [bts_length, List.length_take]; omega), List.take_of_length_le (by rw [bts_length, List.length_take]; omega)]
theorem pack_take8 (l : List UInt8) (q : Nat) : pack ((bts l).take (8 * q)) = l.take q := by rw [bts_take, pack_bts]
theorem pack_take (l : List UInt8) (q r : Nat) (hr : r < 8) (h0 : 0 < r) (h : q < l.length) :
    pack ((bts l).take (8 * q + r)) = (l.take (q + 1)).set q (UInt8.ofNat (l[q].toNat &&& (255 * 2 ^ (8 - r) % 256))) := by
  have e : (bts l).take (8 * q + r) = bts (l.take q) ++ (bb l[q]).take r := by
    have h1 : l = l.take q ++ (l[q] :: l.drop (q + 1)) := by rw [← List.drop_eq_getElem_cons h, List.take_append_drop]
    have hl : (l.take q).length = q := by rw [List.length_take]; omega
    have h2 : bts l = bts (l.take q) ++ (bb l[q] ++ bts (l.drop (q + 1))) := by
      conv => lhs; rw [h1, bts_append, bts_cons]
    rw [h2, List.take_append, List.take_of_length_le (by rw [bts_length, hl]; omega), bts_length, hl]
    rw [show 8 * q + r - 8 * q = r from by omega, List.take_append_of_le_length (by rw [bb_length]; omega)]
  have hbl : ((bb l[q]).take r).length = r := by rw [List.length_take, bb_length]; omega
  rw [e, pack_bts_append, pack_short _ (by omega) (by omega), hbl]
  have := byte_mask r hr h0 ⟨l[q].toNat, l[q].toNat_lt⟩
  simp only at this
  rw [bb, this, List.take_succ_eq_append_getElem h, List.set_append_right _ _ (by rw [List.length_take]; omega), List.length_take]
  rw [show q - min q l.length = 0 from by omega, List.set_cons_zero]

/-! reading -/
theorem val_take_succ (l : List Bool) (k : Nat) (h : k < l.length) : val (l.take (k + 1)) = 2 * val (l.take k) + l[k].toNat := by
  rw [List.take_succ_eq_append_getElem h, val_snoc]
end Go.Proofs.YtjfekjbmgckkcaaGreatDoor.StreamPure
