/- The plain laws of the sums: linear; a burst is told; sealed bytes have one sum. No program in sight. -/
import Derived.Test.YtdcaoinhhdccoaaDoorCrcTurn
namespace Go.Proofs.YtdcaoinhhdccoaaDoor.CrcLaws
open Go.Proofs.YtdcaoinhhdccoaaDoor.Bits Go.Proofs.YtdcaoinhhdccoaaDoor.CrcPure Go.Proofs.YtdcaoinhhdccoaaDoor.CrcTurn

/-! ### bits ahead of a register -/
def pad : List Bool → BitVec 32
  | [] => 0#32
  | b :: l => (if b then 0x80000000#32 else 0#32) ^^^ (pad l >>> 1)
theorem top_bit (b : Bool) (i : Nat) (h : i < 32) : (if b then 0x80000000#32 else 0#32).getLsbD i = (b && decide (i = 31)) := by
  cases b with
  | false => simp
  | true =>
    have : ∀ j : Fin 32, (0x80000000#32).getLsbD j.val = decide (j.val = 31) := by decide
    simpa using this ⟨i, h⟩
theorem pad_get (l : List Bool) : ∀ i, i < 32 → (pad l).getLsbD i = l.getD (31 - i) false := by
  induction l with
  | nil => intro i _; simp [pad]
  | cons b l ih =>
    intro i hi
    rw [pad, BitVec.getLsbD_xor, top_bit b i hi, BitVec.getLsbD_ushiftRight]
    rcases Nat.lt_or_ge i 31 with h | h
    · rw [ih (1 + i) (by omega)]
      have e : 31 - i = (31 - (1 + i)) + 1 := by omega
      rw [e, List.getD_cons_succ]
      have : decide (i = 31) = false := by simp; omega
      simp [this]
    · have : i = 31 := by omega
      subst this
      rw [show 31 - 31 = 0 from rfl, List.getD_cons_zero]
      simp
theorem F_shr (x : BitVec 32) (h : x.getLsbD 0 = false) : F (x >>> 1) false = x := by
  have hm : (x >>> 1).msb = false := by
    rw [BitVec.msb_eq_getLsbD_last, BitVec.getLsbD_ushiftRight]
    simp
  unfold F
  rw [hm]
  simp
  apply BitVec.eq_of_getLsbD_eq
  intro i hi
  rw [BitVec.getLsbD_shiftLeft, BitVec.getLsbD_ushiftRight]
  rcases Nat.eq_zero_or_pos i with h0 | h0
  · subst h0; simp; exact h.symm ▸ rfl
  · simp [hi, show ¬ i < 1 by omega, show 1 + (i - 1) = i by omega]
theorem feed_zero (l : List Bool) (h : l.length ≤ 32) : feed 0#32 l = zeros l.length (pad l) := by
  induction l with
  | nil => rfl
  | cons b l ih =>
    have hl : l.length ≤ 31 := by simp at h; omega
    have hF : F 0#32 b = F (if b then 0x80000000#32 else 0#32) false := by cases b <;> decide
    have h0 : (pad l).getLsbD 0 = false := by
      rw [pad_get l 0 (by decide), List.getD_eq_getElem?_getD, List.getElem?_eq_none (by omega)]
      rfl
    rw [feed_cons, List.length_cons, zeros_succ, pad]
    have hx : F ((if b then 0x80000000#32 else 0#32) ^^^ (pad l >>> 1)) (false ^^ false) = F (if b then 0x80000000#32 else 0#32) false ^^^ F (pad l >>> 1) false := F_xor _ _ _ _
    rw [show (false ^^ false) = false from rfl] at hx
    rw [hx, F_shr _ h0, zeros_xor, ← ih (by omega), hF]
    have := feed_xor (List.replicate l.length false) l (by simp) (F (if b then 0x80000000#32 else 0#32) false) 0#32
    rw [BitVec.xor_zero] at this
    have hz : List.zipWith xor (List.replicate l.length false) l = l := by
      apply List.ext_getElem
      · simp
      · intro i h1 h2
        rw [List.getElem_zipWith, List.getElem_replicate, Bool.false_xor]
    rw [hz] at this
    exact this
def rbits (r : BitVec 32) : List Bool := nb r.toNat 32
theorem rbits_length (r : BitVec 32) : (rbits r).length = 32 := nb_length _ _
theorem rbits_get (r : BitVec 32) (i : Nat) (h : i < 32) : (rbits r)[i]? = some (r.getLsbD (31 - i)) := by rw [rbits, nb_get _ _ _ h]; rfl
theorem pad_rbits (r : BitVec 32) : pad (rbits r) = r := by
  apply BitVec.eq_of_getLsbD_eq
  intro i hi
  rw [pad_get _ i hi, List.getD_eq_getElem?_getD, rbits_get r (31 - i) (by omega)]
  simp [show 31 - (31 - i) = i by omega]
theorem feed_rbits (r v : BitVec 32) : feed r (rbits v) = zeros 32 (r ^^^ v) := by
  have h := feed_xor (List.replicate 32 false) (rbits v) (by simp [rbits_length]) r 0#32
  have hz : List.zipWith xor (List.replicate 32 false) (rbits v) = rbits v := by
    apply List.ext_getElem
    · simp [rbits_length]
    · intro i h1 h2
      rw [List.getElem_zipWith, List.getElem_replicate, Bool.false_xor]
  rw [hz, BitVec.xor_zero] at h
  rw [h, feed_zero _ (by rw [rbits_length]; decide), rbits_length, pad_rbits, zeros_xor]
  rfl

/-! ### a sum's bytes -/
def four (r : BitVec 32) : List UInt8 := [UInt8.ofNat (r.toNat / 16777216), UInt8.ofNat (r.toNat / 65536), UInt8.ofNat (r.toNat / 256), UInt8.ofNat r.toNat]
theorem nb_append (v a b : Nat) : nb v (a + b) = nb (v / 2 ^ b) a ++ nb v b := by
  apply List.ext_getElem?
  intro i
  rcases Nat.lt_or_ge i (a + b) with h | h
  · rw [nb_get _ _ _ h]
    rcases Nat.lt_or_ge i a with ha | ha
    · rw [List.getElem?_append_left (by rw [nb_length]; exact ha), nb_get _ _ _ ha, Nat.testBit_div_two_pow]
      rw [show a + b - 1 - i = (a - 1 - i) + b from by omega]
    · rw [List.getElem?_append_right (by rw [nb_length]; exact ha), nb_length, nb_get _ _ _ (by omega)]
      rw [show a + b - 1 - i = b - 1 - (i - a) from by omega]
  · rw [List.getElem?_eq_none (by rw [nb_length]; exact h), List.getElem?_eq_none (by rw [List.length_append, nb_length, nb_length]; exact h)]
theorem bb_ofNat (n : Nat) : bb (UInt8.ofNat n) = nb n 8 := by
  rw [bb, UInt8.toNat_ofNat', ← nb_mod n 8]
theorem bts_four (r : BitVec 32) : bts (four r) = rbits r := by
  have e : rbits r = nb (r.toNat / 16777216) 8 ++ (nb (r.toNat / 65536) 8 ++ (nb (r.toNat / 256) 8 ++ nb r.toNat 8)) := by
    have h1 := nb_append r.toNat 8 24
    have h2 := nb_append r.toNat 8 16
    have h3 := nb_append r.toNat 8 8
    rw [rbits, h1, h2, h3]
  rw [e]
  simp only [four, bts_cons, bts_nil, bb_ofNat, List.append_nil]
theorem four_pack (r : BitVec 32) : pack (nb r.toNat 32) = four r := by
  have : nb r.toNat 32 = bts (four r) := (bts_four r).symm
  rw [this, pack_bts]
theorem four_length (r : BitVec 32) : (four r).length = 4 := rfl
theorem four_inj {r q : BitVec 32} (h : four r = four q) : r = q := by
  have h1 : rbits r = rbits q := by rw [← bts_four, ← bts_four, h]
  rw [← pad_rbits r, ← pad_rbits q, h1]
def sealed (l : List UInt8) : List UInt8 := l ++ four (sum l)

/-! ### sealed bytes have one sum -/
theorem sum_sealed (l : List UInt8) : sum (sealed l) = sum [0, 0, 0, 0] := by
  have h0 : ∀ m : List UInt8, sum m = ~~~ feed (~~~ 0#32) (bts m) := fun _ => rfl
  have hz : sum [0, 0, 0, 0] = ~~~ zeros 32 (~~~ 0#32) := rfl
  rw [hz, h0 (sealed l), sealed, bts_append, feed_append, bts_four, feed_rbits, h0 l]
  congr 2
  generalize feed (~~~ 0#32) (bts l) = r
  apply BitVec.eq_of_getLsbD_eq
  intro i hi
  rw [BitVec.getLsbD_xor, BitVec.getLsbD_not, BitVec.getLsbD_not]
  cases r.getLsbD i <;> simp [hi]

/-! ### three texts at once -/
def xor3 (a b c : List UInt8) : List UInt8 := (List.range a.length).map fun i => a.getD i 0 ^^^ b.getD i 0 ^^^ c.getD i 0
theorem bts_zip (a b : List UInt8) (h : a.length = b.length) : bts (List.zipWith (· ^^^ ·) a b) = List.zipWith xor (bts a) (bts b) := by
  induction a generalizing b with
  | nil => rfl
  | cons x a ih =>
    cases b with
    | nil => simp at h
    | cons y b =>
      rw [List.zipWith_cons_cons, bts_cons, bts_cons, bts_cons, ih b (by simpa using h), List.zipWith_append (by rw [bb_length, bb_length])]
      congr 1
      apply List.ext_getElem?
      intro i
      rcases Nat.lt_or_ge i 8 with hi | hi
      · rw [List.getElem?_zipWith, bb, nb_get _ _ _ hi, bb, nb_get _ _ _ hi, bb, nb_get _ _ _ hi]
        simp [UInt8.toNat_xor, Nat.testBit_xor]
      · rw [List.getElem?_eq_none (by rw [bb_length]; exact hi), List.getElem?_eq_none (by rw [List.length_zipWith, bb_length, bb_length]; exact hi)]
theorem xor3_zip (a b c : List UInt8) (hb : b.length = a.length) (hc : c.length = a.length) : xor3 a b c = List.zipWith (· ^^^ ·) (List.zipWith (· ^^^ ·) a b) c := by
  apply List.ext_getElem
  · simp [xor3, hb, hc]
  · intro i h1 h2
    have hi : i < a.length := by simpa [xor3] using h1
    simp [xor3, hi, hb, hc]
theorem sum_xor3 (a b c : List UInt8) (hb : b.length = a.length) (hc : c.length = a.length) : sum (xor3 a b c) = sum a ^^^ sum b ^^^ sum c := by
  have h0 : ∀ m : List UInt8, sum m = ~~~ feed (~~~ 0#32) (bts m) := fun _ => rfl
  rw [xor3_zip a b c hb hc, h0, bts_zip _ _ (by simp [hb, hc]), bts_zip _ _ hb.symm, h0 a, h0 b, h0 c]
  have e : (~~~ 0#32 : BitVec 32) = (~~~ 0#32 ^^^ ~~~ 0#32) ^^^ ~~~ 0#32 := by decide
  have h1 := feed_xor (List.zipWith xor (bts a) (bts b)) (bts c) (by simp [bts_length, hb, hc]) (~~~ 0#32 ^^^ ~~~ 0#32) (~~~ 0#32)
  have h2 := feed_xor (bts a) (bts b) (by simp [bts_length, hb]) (~~~ 0#32) (~~~ 0#32)
  rw [h2] at h1
  conv => lhs; rw [e, h1]
  generalize feed (~~~ 0#32) (bts a) = x
  generalize feed (~~~ 0#32) (bts b) = y
  generalize feed (~~~ 0#32) (bts c) = z
  apply BitVec.eq_of_getLsbD_eq
  intro i hi
  simp [hi]

/-! ### a burst is told -/
def errs (n p : Nat) (t : BitVec 32) : List Bool := (List.range n).map fun i => decide (p ≤ i) && decide (i < p + 32) && t.getMsbD (i - p)
theorem errs_length (n p : Nat) (t : BitVec 32) : (errs n p t).length = n := by simp [errs]
theorem turned_errs (l : List Bool) (p : Nat) (t : BitVec 32) : turned l p t 32 = List.zipWith xor l (errs l.length p t) := by
  apply List.ext_getElem
  · simp [turned, errs]
  · intro i h1 h2
    have hi : i < l.length := by simpa [turned] using h1
    simp [turned, errs, hi]
/-- are all the bits there that are named? -/
def fits (p n : Nat) (t : BitVec 32) : Prop := ∀ k, k < 32 → t.getMsbD k = true → p + k < n
theorem rbits_msb (t : BitVec 32) (i : Nat) (h : i < 32) : (rbits t)[i]? = some (t.getMsbD i) := by
  rw [rbits_get t i h, BitVec.getMsbD]
  simp [h]
theorem feed_errs_ne (n p : Nat) (t : BitVec 32) (ht : t ≠ 0#32) (hf : fits p n t) : feed 0#32 (errs n p t) ≠ 0#32 := by
  obtain ⟨k0, hk0, hk1⟩ : ∃ k, k < 32 ∧ t.getMsbD k = true := by
    by_cases h : ∃ k, k < 32 ∧ t.getMsbD k = true
    · exact h
    · exfalso
      apply ht
      apply BitVec.eq_of_getMsbD_eq
      intro i hi
      cases hv : t.getMsbD i with
      | true => exact absurd ⟨i, hi, hv⟩ h
      | false => simp
  have hpn : p < n := by have := hf k0 hk0 hk1; omega
  have hsplit : errs n p t = List.replicate p false ++ (errs n p t).drop p := by
    conv => lhs; rw [← List.take_append_drop p (errs n p t)]
    congr 1
    apply List.ext_getElem
    · simp [errs]; omega
    · intro i h1 h2
      have hi : i < p := by simpa using h2
      simp [errs, show ¬ p ≤ i by omega]
  rw [hsplit, feed_append]
  have hz : feed 0#32 (List.replicate p false) = 0#32 := zeros_nil p
  rw [hz]
  have hT : ∀ i, i < n - p → ((errs n p t).drop p)[i]? = some (decide (i < 32) && t.getMsbD i) := by
    intro i hi
    rw [List.getElem?_drop]
    simp only [errs]
    rw [List.getElem?_map, List.getElem?_range (by omega)]
    simp
  have hlen : ((errs n p t).drop p).length = n - p := by rw [List.length_drop, errs_length]
  have hne : zeros 32 t ≠ 0#32 := zeros_ne 32 ht
  have hfr : feed 0#32 (rbits t) = zeros 32 t := by rw [feed_rbits]; simp
  rcases Nat.lt_or_ge (n - p) 32 with h | h
  · have hr : rbits t = (errs n p t).drop p ++ List.replicate (32 - (n - p)) false := by
      apply List.ext_getElem?
      intro i
      rcases Nat.lt_or_ge i 32 with hi | hi
      · rw [rbits_msb t i hi]
        rcases Nat.lt_or_ge i (n - p) with h2 | h2
        · rw [List.getElem?_append_left (by omega), hT i h2]
          simp [hi]
        · rw [List.getElem?_append_right (by omega), hlen, List.getElem?_replicate, if_pos (by omega)]
          cases hv : t.getMsbD i with
          | true => have := hf i hi hv; omega
          | false => rfl
      · rw [List.getElem?_eq_none (by rw [rbits_length]; exact hi), List.getElem?_eq_none (by rw [List.length_append, hlen, List.length_replicate]; omega)]
    intro h0
    apply hne
    rw [← hfr, hr, feed_append, h0]
    exact zeros_nil _
  · have hr : (errs n p t).drop p = rbits t ++ List.replicate (n - p - 32) false := by
      apply List.ext_getElem?
      intro i
      rcases Nat.lt_or_ge i (n - p) with hi | hi
      · rw [hT i hi]
        rcases Nat.lt_or_ge i 32 with h2 | h2
        · rw [List.getElem?_append_left (by rw [rbits_length]; exact h2), rbits_msb t i h2]
          simp [h2]
        · rw [List.getElem?_append_right (by rw [rbits_length]; exact h2), rbits_length, List.getElem?_replicate, if_pos (by omega)]
          simp [show ¬ i < 32 by omega]
      · rw [List.getElem?_eq_none (by rw [hlen]; exact hi), List.getElem?_eq_none (by rw [List.length_append, rbits_length, List.length_replicate]; omega)]
    rw [hr, feed_append, hfr]
    exact zeros_ne _ hne
theorem sum_burst (l : List UInt8) (p : Nat) (t : BitVec 32) (ht : t ≠ 0#32) (hf : fits p (8 * l.length) t) : sum (burst l p t) ≠ sum l := by
  have h0 : ∀ m : List UInt8, sum m = ~~~ feed (~~~ 0#32) (bts m) := fun _ => rfl
  intro h
  rw [h0, h0, bts_burst, turned_errs, bts_length] at h
  have h1 := feed_xor (bts l) (errs (8 * l.length) p t) (by rw [bts_length, errs_length]) (~~~ 0#32) 0#32
  rw [BitVec.xor_zero] at h1
  rw [h1] at h
  have hn := feed_errs_ne (8 * l.length) p t ht hf
  apply hn
  generalize feed (~~~ 0#32) (bts l) = x at h
  generalize feed 0#32 (errs (8 * l.length) p t) = y at h
  have h2 : x ^^^ y = x := by
    have := congrArg (fun z => ~~~ z) h
    simpa using this
  have h3 : x ^^^ (x ^^^ y) = x ^^^ x := by rw [h2]
  rw [xss] at h3
  rw [h3, BitVec.xor_self]
/-- sealed bytes in which a burst turns anything are opened never. -/
theorem spoiled (l : List UInt8) (p : Nat) (t : BitVec 32) (ht : t ≠ 0#32) (hf : fits p (8 * (sealed l).length) t) :
    four (sum ((burst (sealed l) p t).take l.length)) ≠ (burst (sealed l) p t).drop l.length := by
  intro h
  have hs : burst (sealed l) p t = sealed ((burst (sealed l) p t).take l.length) := by
    conv => lhs; rw [← List.take_append_drop l.length (burst (sealed l) p t)]
    rw [← h]
    rfl
  have h1 := sum_burst (sealed l) p t ht hf
  apply h1
  rw [hs, sum_sealed, sum_sealed]
end Go.Proofs.YtdcaoinhhdccoaaDoor.CrcLaws
