/- Plain lists of bts: numbers as bts, bytes as bts, texts of 0 and 1. No program in sight. -/
namespace Go.Proofs.YtjfekjbmgckkcaaGreatDoor.Bits

theorem snoc_ind {α : Type} {p : List α → Prop} (h0 : p []) (h1 : ∀ l x, p l → p (l ++ [x])) : ∀ l, p l := by
  intro l
  rw [← List.reverse_reverse l]
  induction l.reverse with
  | nil => exact h0
  | cons x l ih => rw [List.reverse_cons]; exact h1 _ _ ih

/-- the lowest n bts of a number, the highest first. -/
def nb (v n : Nat) : List Bool := (List.range n).map fun i => v.testBit (n - 1 - i)
theorem nb_length (v n : Nat) : (nb v n).length = n := by simp [nb]
theorem nb_get (v n i : Nat) (h : i < n) : (nb v n)[i]? = some (v.testBit (n - 1 - i)) := by
  simp [nb, h]
theorem nb_zero (v : Nat) : nb v 0 = [] := rfl
theorem nb_succ (v n : Nat) : nb v (n + 1) = v.testBit n :: nb v n := by
  apply List.ext_getElem
  · simp [nb]
  · intro i h1 h2
    cases i with
    | zero => simp [nb]
    | succ i => simp [nb]; congr 1; omega
theorem nb_snoc (v n : Nat) : nb v (n + 1) = nb (v / 2) n ++ [decide (v % 2 = 1)] := by
  apply List.ext_getElem
  · simp [nb]
  · intro i h1 h2
    simp [nb] at h1
    rcases Nat.lt_or_ge i n with h | h
    · rw [List.getElem_append_left (by simp [nb]; exact h)]
      simp only [nb, List.getElem_map, List.getElem_range]
      rw [show n + 1 - 1 - i = (n - 1 - i) + 1 from by omega, Nat.testBit_succ]
    · have : i = n := by omega
      subst this
      rw [List.getElem_append_right (by simp [nb])]
      simp [nb, Nat.testBit_zero]
theorem nb_mod (v n : Nat) : nb (v % 2 ^ n) n = nb v n := by
  apply List.ext_getElem
  · simp [nb]
  · intro i h1 h2
    simp [nb] at h1
    simp [nb, Nat.testBit_mod_two_pow]
    intro; omega

/-- bts as a number. -/
def val (l : List Bool) : Nat := l.foldl (fun v b => 2 * v + b.toNat) 0
theorem val_nil : val [] = 0 := rfl
theorem val_snoc (l : List Bool) (b : Bool) : val (l ++ [b]) = 2 * val l + b.toNat := by simp [val]
theorem val_lt (l : List Bool) : val l < 2 ^ l.length := by
  induction l using snoc_ind with
  | h0 => simp [val]
  | h1 l b ih =>
    rw [val_snoc, List.length_append, List.length_singleton, Nat.pow_succ]
    cases b <;> simp <;> omega
theorem val_nb (v n : Nat) : val (nb v n) = v % 2 ^ n := by
  induction n generalizing v with
  | zero => simp [nb_zero, val_nil, Nat.mod_one]
  | succ n ih =>
    rw [nb_snoc, val_snoc, ih, Nat.pow_succ, Nat.mul_comm (2 ^ n) 2, Nat.mod_mul]
    rcases Nat.mod_two_eq_zero_or_one v with h | h <;> simp [h] <;> omega
theorem nb_val (l : List Bool) : nb (val l) l.length = l := by
  induction l using snoc_ind with
  | h0 => rfl
  | h1 l b ih =>
    rw [val_snoc, List.length_append, List.length_singleton, nb_snoc]
    have h1 : (2 * val l + b.toNat) / 2 = val l := by cases b <;> simp <;> omega
    have h2 : decide ((2 * val l + b.toNat) % 2 = 1) = b := by cases b <;> simp <;> omega
    rw [h1, h2, ih]
theorem val_append (a b : List Bool) : val (a ++ b) = val a * 2 ^ b.length + val b := by
  induction b using snoc_ind with
  | h0 => simp [val_nil]
  | h1 l c ih =>
    rw [← List.append_assoc, val_snoc, val_snoc, ih, List.length_append, List.length_singleton, Nat.pow_succ, Nat.mul_add, ← Nat.mul_assoc (val a), Nat.mul_comm 2 (val a * 2 ^ l.length)]
    omega
theorem val_inj {a b : List Bool} (hl : a.length = b.length) (h : val a = val b) : a = b := by
  rw [← nb_val a, ← nb_val b, hl, h]
theorem val_replicate (n : Nat) : val (List.replicate n false) = 0 := by
  induction n with
  | zero => rfl
  | succ n ih => rw [List.replicate_succ', val_snoc, ih]; rfl

/-! bytes -/
def bb (c : UInt8) : List Bool := nb c.toNat 8
theorem bb_length (c : UInt8) : (bb c).length = 8 := nb_length _ _
def bts (l : List UInt8) : List Bool := l.flatMap bb
theorem bts_nil : bts [] = [] := rfl
theorem bts_cons (c : UInt8) (l : List UInt8) : bts (c :: l) = bb c ++ bts l := rfl
theorem bts_append (a b : List UInt8) : bts (a ++ b) = bts a ++ bts b := by simp [bts]
theorem bts_length (l : List UInt8) : (bts l).length = 8 * l.length := by
  induction l with
  | nil => rfl
  | cons c l ih => rw [bts_cons, List.length_append, ih, bb_length, List.length_cons]; omega
/-- the bit at a place. -/
theorem bts_get (l : List UInt8) (i : Nat) (h : i < 8 * l.length) : (bts l)[i]? = some ((l.getD (i / 8) 0).toNat.testBit (7 - i % 8)) := by
  induction l generalizing i with
  | nil => simp at h
  | cons c l ih =>
    rw [bts_cons]
    rcases Nat.lt_or_ge i 8 with h8 | h8
    · rw [List.getElem?_append_left (by rw [bb_length]; exact h8), bb, nb_get _ _ _ h8]
      have h1 : i / 8 = 0 := by omega
      have h2 : i % 8 = i := by omega
      simp [h1, h2]
    · rw [List.getElem?_append_right (by rw [bb_length]; exact h8), bb_length, ih _ (by simp at h; omega)]
      have h1 : i / 8 = (i - 8) / 8 + 1 := by omega
      have h2 : (i - 8) % 8 = i % 8 := by omega
      simp [h1, h2]
def byte (l : List Bool) : UInt8 := UInt8.ofNat (val l)
theorem byte_bb (c : UInt8) : byte (bb c) = c := by
  have h := c.toNat_lt
  apply UInt8.toNat.inj
  rw [byte, bb, val_nb, UInt8.toNat_ofNat']
  omega
theorem bb_byte {l : List Bool} (h : l.length = 8) : bb (byte l) = l := by
  have h1 := val_lt l
  rw [h] at h1
  rw [bb, byte, UInt8.toNat_ofNat', Nat.mod_eq_of_lt (by simpa using h1)]
  have := nb_val l
  rwa [h] at this

/-- bts, with noughts behind, as bytes. -/
def pack : List Bool → List UInt8
  | [] => []
  | b0 :: b1 :: b2 :: b3 :: b4 :: b5 :: b6 :: b7 :: l => byte [b0, b1, b2, b3, b4, b5, b6, b7] :: pack l
  | l => [byte (l ++ List.replicate (8 - l.length) false)]
theorem pack_eq (l : List Bool) (h : l ≠ []) : pack l = byte ((l ++ List.replicate 8 false).take 8) :: pack (l.drop 8) := by
  match l with
  | [] => exact absurd rfl h
  | [b0] => simp [pack]
  | [b0, b1] => simp [pack]
  | [b0, b1, b2] => simp [pack]
  | [b0, b1, b2, b3] => simp [pack]
  | [b0, b1, b2, b3, b4] => simp [pack]
  | [b0, b1, b2, b3, b4, b5] => simp [pack]
  | [b0, b1, b2, b3, b4, b5, b6] => simp [pack]
  | b0 :: b1 :: b2 :: b3 :: b4 :: b5 :: b6 :: b7 :: l => simp [pack]
theorem pack_len (n : Nat) : ∀ l : List Bool, l.length = n → (pack l).length = (n + 7) / 8 := by
  induction n using Nat.strongRecOn with
  | _ n ih =>
    intro l hl
    by_cases h : l = []
    · subst h; simp at hl; subst hl; rfl
    · have hp : 0 < l.length := List.length_pos_iff.2 h
      rw [pack_eq l h, List.length_cons, ih (n - 8) (by omega) (l.drop 8) (by rw [List.length_drop, hl])]
      omega
theorem pack_length (l : List Bool) : (pack l).length = (l.length + 7) / 8 := pack_len _ l rfl
theorem pack_byte_append (a : List Bool) (ha : a.length = 8) (l : List Bool) : pack (a ++ l) = byte a :: pack l := by
  rw [pack_eq _ (by intro h; simp at h; simp [h.1] at ha)]
  rw [List.append_assoc, List.take_append_of_le_length (by omega), List.take_of_length_le (by omega), List.drop_append_of_le_length (by omega), List.drop_of_length_le (by omega)]
  rfl
theorem pack_bts (l : List UInt8) : pack (bts l) = l := by
  induction l with
  | nil => rfl
  | cons c l ih => rw [bts_cons, pack_byte_append _ (bb_length c), ih, byte_bb]
theorem pack_bts_append (l : List UInt8) (t : List Bool) : pack (bts l ++ t) = l ++ pack t := by
  induction l with
  | nil => rfl
  | cons c l ih => rw [bts_cons, List.append_assoc, pack_byte_append _ (bb_length c), ih, byte_bb, List.cons_append]
/-- what is packed has the bts, and noughts behind. -/
theorem bts_pack (n : Nat) : ∀ l : List Bool, l.length = n → bts (pack l) = l ++ List.replicate ((8 - l.length % 8) % 8) false := by
  induction n using Nat.strongRecOn with
  | _ n ih =>
    intro l hl
    by_cases h : l = []
    · subst h; rfl
    · have hp : 0 < l.length := List.length_pos_iff.2 h
      rw [pack_eq l h, bts_cons, ih (n - 8) (by omega) (l.drop 8) (by rw [List.length_drop, hl]), bb_byte (by simp)]
      rcases Nat.lt_or_ge l.length 8 with h8 | h8
      · rw [List.drop_of_length_le (by omega), List.take_append, List.take_of_length_le (by omega), List.take_replicate]
        rw [show (8 - l.length % 8) % 8 = 8 - l.length from by omega, show min (8 - l.length) 8 = 8 - l.length from by omega]
        simp
      · rw [List.take_append_of_le_length h8, List.length_drop, show (l.length - 8) % 8 = l.length % 8 from by omega, ← List.append_assoc, List.take_append_drop]

theorem pack_get (j : Nat) : ∀ l : List Bool, 8 * j < l.length → (pack l)[j]? = some (byte ((l.drop (8 * j) ++ List.replicate 8 false).take 8)) := by
  induction j with
  | zero =>
    intro l h
    rw [pack_eq l (by intro h0; subst h0; simp at h)]
    simp
  | succ j ih =>
    intro l h
    rw [pack_eq l (by intro h0; subst h0; simp at h), List.getElem?_cons_succ, ih (l.drop 8) (by rw [List.length_drop]; omega), List.drop_drop]
    rw [show 8 + 8 * j = 8 * (j + 1) from by omega]

/-! texts of 0 and 1 -/
def sign (b : Bool) : UInt8 := if b then 49 else 48
def txt (l : List Bool) : ByteArray := ⟨(l.map sign).toArray⟩
theorem sign_inj {a b : Bool} (h : sign a = sign b) : a = b := by cases a <;> cases b <;> simp [sign] at h <;> rfl
/-- a text of bytes. -/
def str (l : List UInt8) : ByteArray := ⟨l.toArray⟩
theorem str_size (l : List UInt8) : (str l).size = l.length := by simp [str, ByteArray.size]
theorem str_of (s : ByteArray) : str s.data.toList = s := by simp [str]
theorem str_inj {a b : List UInt8} (h : str a = str b) : a = b := by
  have := congrArg (fun s : ByteArray => s.data.toList) h
  simpa [str] using this
theorem str_append (a b : List UInt8) : str (a ++ b) = str a ++ str b := by
  apply ByteArray.ext
  simp [str]
theorem str_get (l : List UInt8) (i : Nat) (_ : i < l.length) (h' : i < (str l).size) : (str l)[i]'h' = l[i] := rfl
theorem data_size (s : ByteArray) : s.data.toList.length = s.size := by rw [Array.length_toList]; rfl
theorem txt_str (l : List Bool) : txt l = str (l.map sign) := rfl
theorem txt_size (l : List Bool) : (txt l).size = l.length := by simp [txt, ByteArray.size]
theorem txt_inj {a b : List Bool} (h : txt a = txt b) : a = b := by
  have h1 : a.map sign = b.map sign := by
    have := congrArg (fun s : ByteArray => s.data.toList) h
    simpa [txt] using this
  induction a generalizing b with
  | nil => cases b with | nil => rfl | cons => simp at h1
  | cons x a ih =>
    cases b with
    | nil => simp at h1
    | cons y b =>
      simp at h1
      rw [sign_inj h1.1, ih (b := b) (by simp [txt, h1.2]) h1.2]
theorem txt_append (a b : List Bool) : txt (a ++ b) = txt a ++ txt b := by
  apply ByteArray.ext
  simp [txt]
theorem txt_cons (b : Bool) (l : List Bool) : txt (b :: l) = ⟨#[sign b]⟩ ++ txt l := by
  apply ByteArray.ext
  simp [txt]
theorem txt_snoc (l : List Bool) (b : Bool) : txt (l ++ [b]) = txt l ++ ⟨#[sign b]⟩ := txt_append l [b]
theorem txt_one (b : Bool) : txt [b] = ⟨#[sign b]⟩ := rfl
end Go.Proofs.YtjfekjbmgckkcaaGreatDoor.Bits
