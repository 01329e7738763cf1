/- what HeadPuts stands on, part 1: Bits, Base, SpanPure, SpanBase, Rep, StreamPure. -/
import Derived.Test.YtjfekjbmgckkcaaGreatDoorWWords
import Derived.Lib.Hide
import Derived.Lib.SlBytesConst
import Derived.Laws.IdiomStrings
import Derived.Lib.Strings
import Derived.Laws.BitsAllLaws
import Derived.Laws.CopyOwn
import Derived.Deep.Slices
import Derived.Deep.Fields
import Derived.ChangeSame

/- Plain lists of bts: numbers as bts, bytes as bts, texts of 0 and 1. No program in sight. -/
namespace Go.Proofs.YtjfekjbmgckkcaaGreatDoor.Bits

theorem snoc_ind {α : Type} {p : List α → Prop} (h0 : p []) (h1 : ∀ l x, p l → p (l ++ [x])) : ∀ l, p l := by
  intro l
  rw [← List.reverse_reverse l]
  induction l.reverse with
  | nil => exact h0
  | cons x l ih => rw [List.reverse_cons]; exact h1 _ _ ih

/-- the lowest n bts of a number, the highest first. -/
def nb (v n : Nat) : List Bool := (List.range n).map fun i => v.testBit (n - 1 - i)
theorem nb_length (v n : Nat) : (nb v n).length = n := by simp [nb]
theorem nb_get (v n i : Nat) (h : i < n) : (nb v n)[i]? = some (v.testBit (n - 1 - i)) := by
  simp [nb, h]
theorem nb_zero (v : Nat) : nb v 0 = [] := rfl
theorem nb_succ (v n : Nat) : nb v (n + 1) = v.testBit n :: nb v n := by
  apply List.ext_getElem
  · simp [nb]
  · intro i h1 h2
    cases i with
    | zero => simp [nb]
    | succ i => simp [nb]; congr 1; omega
theorem nb_snoc (v n : Nat) : nb v (n + 1) = nb (v / 2) n ++ [decide (v % 2 = 1)] := by
  apply List.ext_getElem
  · simp [nb]
  · intro i h1 h2
    simp [nb] at h1
    rcases Nat.lt_or_ge i n with h | h
    · rw [List.getElem_append_left (by simp [nb]; exact h)]
      simp only [nb, List.getElem_map, List.getElem_range]
      rw [show n + 1 - 1 - i = (n - 1 - i) + 1 from by omega, Nat.testBit_succ]
    · have : i = n := by omega
      subst this
      rw [List.getElem_append_right (by simp [nb])]
      simp [nb, Nat.testBit_zero]
theorem nb_mod (v n : Nat) : nb (v % 2 ^ n) n = nb v n := by
  apply List.ext_getElem
  · simp [nb]
  · intro i h1 h2
    simp [nb] at h1
    simp [nb, Nat.testBit_mod_two_pow]
    intro; omega

/-- bts as a number. -/
def val (l : List Bool) : Nat := l.foldl (fun v b => 2 * v + b.toNat) 0
theorem val_nil : val [] = 0 := rfl
theorem val_snoc (l : List Bool) (b : Bool) : val (l ++ [b]) = 2 * val l + b.toNat := by simp [val]
theorem val_lt (l : List Bool) : val l < 2 ^ l.length := by
  induction l using snoc_ind with
  | h0 => simp [val]
  | h1 l b ih =>
    rw [val_snoc, List.length_append, List.length_singleton, Nat.pow_succ]
    cases b <;> simp <;> omega
theorem val_nb (v n : Nat) : val (nb v n) = v % 2 ^ n := by
  induction n generalizing v with
  | zero => simp [nb_zero, val_nil, Nat.mod_one]
  | succ n ih =>
    rw [nb_snoc, val_snoc, ih, Nat.pow_succ, Nat.mul_comm (2 ^ n) 2, Nat.mod_mul]
    rcases Nat.mod_two_eq_zero_or_one v with h | h <;> simp [h] <;> omega
theorem nb_val (l : List Bool) : nb (val l) l.length = l := by
  induction l using snoc_ind with
  | h0 => rfl
  | h1 l b ih =>
    rw [val_snoc, List.length_append, List.length_singleton, nb_snoc]
    have h1 : (2 * val l + b.toNat) / 2 = val l := by cases b <;> simp <;> omega
    have h2 : decide ((2 * val l + b.toNat) % 2 = 1) = b := by cases b <;> simp <;> omega
    rw [h1, h2, ih]
theorem val_append (a b : List Bool) : val (a ++ b) = val a * 2 ^ b.length + val b := by
  induction b using snoc_ind with
  | h0 => simp [val_nil]
  | h1 l c ih =>
    rw [← List.append_assoc, val_snoc, val_snoc, ih, List.length_append, List.length_singleton, Nat.pow_succ, Nat.mul_add, ← Nat.mul_assoc (val a), Nat.mul_comm 2 (val a * 2 ^ l.length)]
    omega
theorem val_inj {a b : List Bool} (hl : a.length = b.length) (h : val a = val b) : a = b := by
  rw [← nb_val a, ← nb_val b, hl, h]
theorem val_replicate (n : Nat) : val (List.replicate n false) = 0 := by
  induction n with
  | zero => rfl
  | succ n ih => rw [List.replicate_succ', val_snoc, ih]; rfl

/-! bytes -/
def bb (c : UInt8) : List Bool := nb c.toNat 8
theorem bb_length (c : UInt8) : (bb c).length = 8 := nb_length _ _
def bts (l : List UInt8) : List Bool := l.flatMap bb
theorem bts_nil : bts [] = [] := rfl
theorem bts_cons (c : UInt8) (l : List UInt8) : bts (c :: l) = bb c ++ bts l := rfl
theorem bts_append (a b : List UInt8) : bts (a ++ b) = bts a ++ bts b := by simp [bts]
theorem bts_length (l : List UInt8) : (bts l).length = 8 * l.length := by
  induction l with
  | nil => rfl
  | cons c l ih => rw [bts_cons, List.length_append, ih, bb_length, List.length_cons]; omega
/-- the bit at a place. -/
theorem bts_get (l : List UInt8) (i : Nat) (h : i < 8 * l.length) : (bts l)[i]? = some ((l.getD (i / 8) 0).toNat.testBit (7 - i % 8)) := by
  induction l generalizing i with
  | nil => simp at h
  | cons c l ih =>
    rw [bts_cons]
    rcases Nat.lt_or_ge i 8 with h8 | h8
    · rw [List.getElem?_append_left (by rw [bb_length]; exact h8), bb, nb_get _ _ _ h8]
      have h1 : i / 8 = 0 := by omega
      have h2 : i % 8 = i := by omega
      simp [h1, h2]
    · rw [List.getElem?_append_right (by rw [bb_length]; exact h8), bb_length, ih _ (by simp at h; omega)]
      have h1 : i / 8 = (i - 8) / 8 + 1 := by omega
      have h2 : (i - 8) % 8 = i % 8 := by omega
      simp [h1, h2]
def byte (l : List Bool) : UInt8 := UInt8.ofNat (val l)
theorem byte_bb (c : UInt8) : byte (bb c) = c := by
  have h := c.toNat_lt
  apply UInt8.toNat.inj
  rw [byte, bb, val_nb, UInt8.toNat_ofNat']
  omega
theorem bb_byte {l : List Bool} (h : l.length = 8) : bb (byte l) = l := by
  have h1 := val_lt l
  rw [h] at h1
  rw [bb, byte, UInt8.toNat_ofNat', Nat.mod_eq_of_lt (by simpa using h1)]
  have := nb_val l
  rwa [h] at this

/-- bts, with noughts behind, as bytes. -/
def pack : List Bool → List UInt8
  | [] => []
  | b0 :: b1 :: b2 :: b3 :: b4 :: b5 :: b6 :: b7 :: l => byte [b0, b1, b2, b3, b4, b5, b6, b7] :: pack l
  | l => [byte (l ++ List.replicate (8 - l.length) false)]
theorem pack_eq (l : List Bool) (h : l ≠ []) : pack l = byte ((l ++ List.replicate 8 false).take 8) :: pack (l.drop 8) := by
  match l with
  | [] => exact absurd rfl h
  | [b0] => simp [pack]
  | [b0, b1] => simp [pack]
  | [b0, b1, b2] => simp [pack]
  | [b0, b1, b2, b3] => simp [pack]
  | [b0, b1, b2, b3, b4] => simp [pack]
  | [b0, b1, b2, b3, b4, b5] => simp [pack]
  | [b0, b1, b2, b3, b4, b5, b6] => simp [pack]
  | b0 :: b1 :: b2 :: b3 :: b4 :: b5 :: b6 :: b7 :: l => simp [pack]
theorem pack_len (n : Nat) : ∀ l : List Bool, l.length = n → (pack l).length = (n + 7) / 8 := by
  induction n using Nat.strongRecOn with
  | _ n ih =>
    intro l hl
    by_cases h : l = []
    · subst h; simp at hl; subst hl; rfl
    · have hp : 0 < l.length := List.length_pos_iff.2 h
      rw [pack_eq l h, List.length_cons, ih (n - 8) (by omega) (l.drop 8) (by rw [List.length_drop, hl])]
      omega
theorem pack_length (l : List Bool) : (pack l).length = (l.length + 7) / 8 := pack_len _ l rfl
theorem pack_byte_append (a : List Bool) (ha : a.length = 8) (l : List Bool) : pack (a ++ l) = byte a :: pack l := by
  rw [pack_eq _ (by intro h; simp at h; simp [h.1] at ha)]
  rw [List.append_assoc, List.take_append_of_le_length (by omega), List.take_of_length_le (by omega), List.drop_append_of_le_length (by omega), List.drop_of_length_le (by omega)]
  rfl
theorem pack_bts (l : List UInt8) : pack (bts l) = l := by
  induction l with
  | nil => rfl
  | cons c l ih => rw [bts_cons, pack_byte_append _ (bb_length c), ih, byte_bb]
theorem pack_bts_append (l : List UInt8) (t : List Bool) : pack (bts l ++ t) = l ++ pack t := by
  induction l with
  | nil => rfl
  | cons c l ih => rw [bts_cons, List.append_assoc, pack_byte_append _ (bb_length c), ih, byte_bb, List.cons_append]
/-- what is packed has the bts, and noughts behind. -/
theorem bts_pack (n : Nat) : ∀ l : List Bool, l.length = n → bts (pack l) = l ++ List.replicate ((8 - l.length % 8) % 8) false := by
  induction n using Nat.strongRecOn with
  | _ n ih =>
    intro l hl
    by_cases h : l = []
    · subst h; rfl
    · have hp : 0 < l.length := List.length_pos_iff.2 h
      rw [pack_eq l h, bts_cons, ih (n - 8) (by omega) (l.drop 8) (by rw [List.length_drop, hl]), bb_byte (by simp)]
      rcases Nat.lt_or_ge l.length 8 with h8 | h8
      · rw [List.drop_of_length_le (by omega), List.take_append, List.take_of_length_le (by omega), List.take_replicate]
        rw [show (8 - l.length % 8) % 8 = 8 - l.length from by omega, show min (8 - l.length) 8 = 8 - l.length from by omega]
        simp
      · rw [List.take_append_of_le_length h8, List.length_drop, show (l.length - 8) % 8 = l.length % 8 from by omega, ← List.append_assoc, List.take_append_drop]

theorem pack_get (j : Nat) : ∀ l : List Bool, 8 * j < l.length → (pack l)[j]? = some (byte ((l.drop (8 * j) ++ List.replicate 8 false).take 8)) := by
  induction j with
  | zero =>
    intro l h
    rw [pack_eq l (by intro h0; subst h0; simp at h)]
    simp
  | succ j ih =>
    intro l h
    rw [pack_eq l (by intro h0; subst h0; simp at h), List.getElem?_cons_succ, ih (l.drop 8) (by rw [List.length_drop]; omega), List.drop_drop]
    rw [show 8 + 8 * j = 8 * (j + 1) from by omega]

/-! texts of 0 and 1 -/
def sign (b : Bool) : UInt8 := if b then 49 else 48
def txt (l : List Bool) : ByteArray := ⟨(l.map sign).toArray⟩
theorem sign_inj {a b : Bool} (h : sign a = sign b) : a = b := by cases a <;> cases b <;> simp [sign] at h <;> rfl
/-- a text of bytes. -/
def str (l : List UInt8) : ByteArray := ⟨l.toArray⟩
theorem str_size (l : List UInt8) : (str l).size = l.length := by simp [str, ByteArray.size]
theorem str_of (s : ByteArray) : str s.data.toList = s := by simp [str]
theorem str_inj {a b : List UInt8} (h : str a = str b) : a = b := by
  have := congrArg (fun s : ByteArray => s.data.toList) h
  simpa [str] using this
theorem str_append (a b : List UInt8) : str (a ++ b) = str a ++ str b := by
  apply ByteArray.ext
  simp [str]
theorem str_get (l : List UInt8) (i : Nat) (_ : i < l.length) (h' : i < (str l).size) : (str l)[i]'h' = l[i] := rfl
theorem data_size (s : ByteArray) : s.data.toList.length = s.size := by rw [Array.length_toList]; rfl
theorem txt_str (l : List Bool) : txt l = str (l.map sign) := rfl
theorem txt_size (l : List Bool) : (txt l).size = l.length := by simp [txt, ByteArray.size]
theorem txt_inj {a b : List Bool} (h : txt a = txt b) : a = b := by
  have h1 : a.map sign = b.map sign := by
    have := congrArg (fun s : ByteArray => s.data.toList) h
    simpa [txt] using this
  induction a generalizing b with
  | nil => cases b with | nil => rfl | cons => simp at h1
  | cons x a ih =>
    cases b with
    | nil => simp at h1
    | cons y b =>
      simp at h1
      rw [sign_inj h1.1, ih (b := b) (by simp [txt, h1.2]) h1.2]
theorem txt_append (a b : List Bool) : txt (a ++ b) = txt a ++ txt b := by
  apply ByteArray.ext
  simp [txt]
theorem txt_cons (b : Bool) (l : List Bool) : txt (b :: l) = ⟨#[sign b]⟩ ++ txt l := by
  apply ByteArray.ext
  simp [txt]
theorem txt_snoc (l : List Bool) (b : Bool) : txt (l ++ [b]) = txt l ++ ⟨#[sign b]⟩ := txt_append l [b]
theorem txt_one (b : Bool) : txt [b] = ⟨#[sign b]⟩ := rfl
end Go.Proofs.YtjfekjbmgckkcaaGreatDoor.Bits

/- Lists of whole numbers in memory: read, owned; what a call has turned. -/
namespace Go.Proofs.YtjfekjbmgckkcaaGreatDoor.Base
open Go.RowKit Go.Proofs.YtjfekjbmgckkcaaGreatDoorW.PrintWords
open Go.Proofs.YtjfekjbmgckkcaaGreatDoor.Bits

/-- bytes as numbers. -/
def ints (l : List UInt8) : List Int := l.map fun c => (c.toNat : Int)
theorem ints_length (l : List UInt8) : (ints l).length = l.length := by simp [ints]
theorem ints_append (a b : List UInt8) : ints (a ++ b) = ints a ++ ints b := by simp [ints]
theorem ints_take (l : List UInt8) (k : Nat) : ints (l.take k) = (ints l).take k := by simp [ints]
theorem ints_drop (l : List UInt8) (k : Nat) : ints (l.drop k) = (ints l).drop k := by simp [ints]
theorem ints_inj {a b : List UInt8} (h : ints a = ints b) : a = b := by
  induction a generalizing b with
  | nil => cases b with | nil => rfl | cons => simp [ints] at h
  | cons x a ih =>
    cases b with
    | nil => simp [ints] at h
    | cons y b =>
      simp only [ints, List.map_cons, List.cons.injEq] at h
      rw [ih (b := b) h.2, UInt8.toNat.inj (show x.toNat = y.toNat by omega)]
theorem ints_getD (l : List UInt8) (k : Nat) : (ints l).getD k 0 = ((l.getD k 0).toNat : Int) := by
  rcases Nat.lt_or_ge k l.length with h | h
  · simp [ints, List.getD_eq_getElem?_getD, h]
  · simp [ints, List.getD_eq_getElem?_getD, List.getElem?_eq_none h]
theorem ints_set (l : List UInt8) (k : Nat) (c : UInt8) : ints (l.set k c) = (ints l).set k (c.toNat : Int) := by simp [ints, List.map_set]
theorem ints_replicate (n : Nat) : ints (List.replicate n 0) = List.replicate n 0 := by simp [ints]
/-- numbers that are in range are bytes. -/
theorem ints_of (xs : List Int) (h : ∀ x ∈ xs, 0 ≤ x ∧ x ≤ 255) : ∃ l, xs = ints l := by
  induction xs with
  | nil => exact ⟨[], rfl⟩
  | cons x xs ih =>
    obtain ⟨l, rfl⟩ := ih fun y hy => h y (List.mem_cons_of_mem _ hy)
    have hx := h x List.mem_cons_self
    refine ⟨UInt8.ofNat x.toNat :: l, ?_⟩
    simp only [ints, List.map_cons, UInt8.toNat_ofNat']
    congr 1
    omega

theorem wrap_u64n {n : Nat} (h : n < 18446744073709551616) : IntKind.u64.wrap (n : Int) = n := by rw [IntKind.wrap_u64]; omega
theorem wrap_u32n {n : Nat} (h : n < 4294967296) : IntKind.u32.wrap (n : Int) = n := by rw [IntKind.wrap_u32]; omega

/-! ### read, owned -/
/-- numbers of kind k that are read at A. -/
def RdI (k : IntKind) (w : World) (A : Option Addr) (xs : List Int) : Prop := ReadsInt w k A xs.length xs
/-- numbers of kind k in a row (elements of type e) of the call's own. -/
def OwI (e : Nat) (k : IntKind) (w : World) (base : Nat) (v : Value) (xs : List Int) : Prop := w.ownsRow base e 1 v xs.length (nums k xs)
section
variable {k : IntKind} {e : Nat} {w w1 : World} {A : Option Addr} {xs : List Int} {base : Nat} {v : Value}
theorem RdI.max (h : RdI k w A xs) : xs.length ≤ 9223372036854775807 := h.2.1
theorem RdI.at_ (h : RdI k w A xs) (j : Nat) (hj : j < xs.length) : ∃ ad, A = some ad ∧ w.cell? (ad.add j) = some (.int k xs[j]) := by
  obtain ⟨ad, he, hc⟩ := h.2.2 (by omega)
  refine ⟨ad, he, ?_⟩
  rw [hc j hj]
  simp [List.getD_eq_getElem?_getD, hj]
theorem RdI.at_some {ad : Addr} (h : RdI k w (some ad) xs) (j : Nat) (hj : j < xs.length) : w.cell? (ad.add j) = some (.int k xs[j]) := by
  obtain ⟨ad', he, hc⟩ := h.at_ j hj
  cases he
  exact hc
theorem RdI.some_ (h : RdI k w A xs) (hp : 0 < xs.length) : ∃ ad, A = some ad := by
  obtain ⟨ad, he, _⟩ := h.2.2 hp
  exact ⟨ad, he⟩
theorem RdI.below (h : RdI k w A xs) (hb : Below w.heap.size w w1) : RdI k w1 A xs := ReadsInt.below h hb
theorem RdI.drew (h : RdI k w A xs) : RdI k w.drew A xs := h
theorem RdI.drewN (h : RdI k w A xs) (n : Nat) : RdI k (w.drewN n) A xs := h
theorem RdI.alloc (h : RdI k w A xs) (o : Obj) : RdI k (w.alloc o) A xs := h.below (below_alloc (Below.refl _ _) o)
theorem RdI.nil (k : IntKind) (w : World) (A : Option Addr) : RdI k w A [] := ⟨rfl, by simp, fun h => absurd h (by simp)⟩
theorem RdI.take (h : RdI k w A xs) (i : Nat) : RdI k w A (xs.take i) := by
  rcases Nat.lt_or_ge xs.length i with hi | hi
  · rw [List.take_of_length_le (by omega)]; exact h
  · have := ReadsInt.take_ h i hi
    unfold RdI
    rw [List.length_take, Nat.min_eq_left hi]
    exact this
theorem RdI.drop (h : RdI k w A xs) (i c : Nat) (hi : i ≤ xs.length) (hc : xs.length ≤ c) : RdI k w (if c = i then A else A.map (·.add i)) (xs.drop i) := by
  have := ReadsInt.drop_ h i hi hc
  unfold RdI
  rw [List.length_drop]
  exact this
/-- what is read stays where its block stays. -/
theorem RdI.stay (h : RdI k w A xs) (hb : ∀ ad, A = some ad → 0 < xs.length → w1.heap[ad.block]? = w.heap[ad.block]?) : RdI k w1 A xs := by
  refine ⟨h.1, h.2.1, fun hp => ?_⟩
  obtain ⟨ad, he, hc⟩ := h.2.2 hp
  refine ⟨ad, he, fun j hj => ?_⟩
  rw [← hc j hj]
  refine World.cell?_of_block ?_
  have hbk : (ad.add j).block = ad.block := by unfold Addr.add; split <;> rfl
  rw [hbk]
  exact hb ad he hp
theorem OwI.reads (h : OwI e k w base v xs) : ∃ A c, v = .slice A xs.length c ∧ xs.length ≤ c ∧ RdI k w A xs := by
  obtain ⟨A, c, rfl, hr⟩ := own_reads h
  exact ⟨A, c, rfl, own_le h, hr⟩
theorem OwI.below (h : OwI e k w base v xs) (hb : Below w.heap.size w w1) : OwI e k w1 base v xs := pw_own_below h hb
theorem OwI.lower {base' : Nat} (h : OwI e k w base v xs) (hb : base' ≤ base) : OwI e k w base' v xs := own_weaken h hb
theorem OwI.move (h : OwI e k w base v xs) (hm : ∀ g, v.ownBlock = some g → w1.heap[g]? = w.heap[g]?) : OwI e k w1 base v xs := own_move h hm
theorem OwI.nil (e : Nat) (k : IntKind) (w : World) (base : Nat) : OwI e k w base (.slice none 0 0) [] := own_nil _ _ _ _
theorem OwI.max (h : OwI e k w base v xs) : xs.length ≤ 9223372036854775807 := by
  obtain ⟨A, c, _, _, hr⟩ := h.reads
  exact hr.max
theorem OwI.base_ (h : OwI e k w base v xs) (g : Nat) (hg : v.ownBlock = some g) : base ≤ g := own_base h g hg
theorem OwI.lt_ (h : OwI e k w base v xs) (g : Nat) (hg : v.ownBlock = some g) : g < w.heap.size := own_lt h g hg
theorem OwI.lit (W : World) (base : Nat) (e : Nat) (k : IntKind) (xs : List Int) (hb : base ≤ W.heap.size) (hm : xs.length ≤ 9223372036854775807) :
    OwI e k (W.alloc (.cells (nums k xs).toArray e)) base (.slice (some ⟨W.heap.size, 0, none⟩) xs.length xs.length) xs := own_lit W base e k xs hb hm
end
theorem OwI.len {k : IntKind} {e : Nat} {w : World} {base n c : Nat} {A : Option Addr} {xs : List Int} (h : OwI e k w base (.slice A n c) xs) : xs.length = n := by
  obtain ⟨_, _, he, _⟩ := h.reads
  injection he with _ he _
  exact he.symm
theorem OwI.at_ {k : IntKind} {e : Nat} {w : World} {base g n c : Nat} {xs : List Int} (h : OwI e k w base (.slice (some ⟨g, 0, none⟩) n c) xs) (j : Nat) (hj : j < xs.length) :
    w.cell? ⟨g, j, none⟩ = some (.int k xs[j]) ∧ w.frozen? ⟨g, j, none⟩ = false := by
  have hl := h.len
  subst hl
  obtain ⟨h1, h2⟩ := own_at (i := (j : Int)) h (by omega) (by omega)
  simp only [Int.toNat_natCast, rd] at h1 h2
  refine ⟨?_, h2⟩
  rw [h1]
  simp [List.getD_eq_getElem?_getD, hj]
theorem OwI.set {k : IntKind} {e : Nat} {w : World} {base g n c : Nat} {xs : List Int} (h : OwI e k w base (.slice (some ⟨g, 0, none⟩) n c) xs) (j : Nat) (x : Int) :
    OwI e k (w.setCell ⟨g, j, none⟩ (.int k x)) base (.slice (some ⟨g, 0, none⟩) n c) (xs.set j x) := by
  have hl := h.len
  subst hl
  have := (own_store (i := (j : Int)) h x).1
  simp only [Int.toNat_natCast] at this
  unfold OwI
  rw [List.length_set]
  exact this
theorem OwI.form {k : IntKind} {e : Nat} {w : World} {base : Nat} {v : Value} {xs : List Int} (h : OwI e k w base v xs) (hp : 0 < xs.length) : ∃ g c, v = .slice (some ⟨g, 0, none⟩) xs.length c ∧ base ≤ g ∧ g < w.heap.size ∧ xs.length ≤ c := by
  obtain ⟨g, c, rfl, h1, h2⟩ := World.ownsRow.form h hp
  exact ⟨g, c, rfl, h1, h2, own_le h⟩
theorem OwI.far {k : IntKind} {e : Nat} {w : World} {base : Nat} {v : Value} {xs : List Int} (h : OwI e k w base v xs) {p : Addr} (hne : v.ownBlock ≠ some p.block) (u : Value) : OwI e k (w.setCell p u) base v xs :=
  h.move fun g hg => Below.heap_setCell w p u g (by rintro rfl; exact hne hg)
theorem OwI.drew {k : IntKind} {e : Nat} {w : World} {base : Nat} {v : Value} {xs : List Int} (h : OwI e k w base v xs) : OwI e k w.drew base v xs := h
theorem OwI.drewN {k : IntKind} {e : Nat} {w : World} {base : Nat} {v : Value} {xs : List Int} (h : OwI e k w base v xs) (n : Nat) : OwI e k (w.drewN n) base v xs := h
/-- bytes. -/
abbrev RdB (w : World) (A : Option Addr) (l : List UInt8) : Prop := RdI .u8 w A (ints l)
abbrev OwB (e : Nat) (w : World) (base : Nat) (v : Value) (l : List UInt8) : Prop := OwI e .u8 w base v (ints l)
theorem RdB.at_ {w : World} {A : Option Addr} {l : List UInt8} (h : RdB w A l) (j : Nat) (hj : j < l.length) : ∃ ad, A = some ad ∧ w.cell? (ad.add j) = some (.int .u8 (l[j].toNat : Int)) := by
  obtain ⟨ad, he, hc⟩ := RdI.at_ h j (by rw [ints_length]; exact hj)
  exact ⟨ad, he, by simpa [ints] using hc⟩
theorem RdB.rd {w : World} {A : Option Addr} {l : List UInt8} (h : RdB w A l) : ReadsInt w .u8 A l.length (ints l) := by
  unfold RdB RdI at h
  rw [ints_length] at h
  exact h
theorem OwB.reads {e : Nat} {w : World} {base : Nat} {v : Value} {l : List UInt8} (h : OwB e w base v l) : ∃ A c, v = .slice A l.length c ∧ l.length ≤ c ∧ RdB w A l := by
  obtain ⟨A, c, rfl, hc, hr⟩ := OwI.reads h
  rw [ints_length] at hc
  exact ⟨A, c, by rw [ints_length], hc, hr⟩

theorem OwB.len {e : Nat} {w : World} {base n c : Nat} {A : Option Addr} {l : List UInt8} (h : OwB e w base (.slice A n c) l) : l.length = n := by
  have := OwI.len h
  rwa [ints_length] at this
theorem OwB.at_ {e : Nat} {w : World} {base g n c : Nat} {l : List UInt8} (h : OwB e w base (.slice (some ⟨g, 0, none⟩) n c) l) (j : Nat) (hj : j < l.length) :
    w.cell? ⟨g, j, none⟩ = some (.int .u8 (l[j].toNat : Int)) ∧ w.frozen? ⟨g, j, none⟩ = false := by
  obtain ⟨h1, h2⟩ := OwI.at_ h j (by rw [ints_length]; exact hj)
  exact ⟨by simpa [ints] using h1, h2⟩
theorem OwB.set {e : Nat} {w : World} {base g n c : Nat} {l : List UInt8} (h : OwB e w base (.slice (some ⟨g, 0, none⟩) n c) l) (j : Nat) (x : UInt8) :
    OwB e (w.setCell ⟨g, j, none⟩ (.int .u8 (x.toNat : Int))) base (.slice (some ⟨g, 0, none⟩) n c) (l.set j x) := by
  have := OwI.set h j (x.toNat : Int)
  rwa [← ints_set] at this

theorem OwI.nilcap {k : IntKind} {e : Nat} {w : World} {base n c : Nat} {A : Option Addr} {xs : List Int} (h : OwI e k w base (.slice A n c) xs) : A = none → c = 0 := by
  rintro rfl
  rcases h.2 with ⟨he, _⟩ | ⟨_, _, _, he, _⟩
  · injection he
  · injection he with he; cases he
theorem strOf_ints (l : List UInt8) : strOfNums (ints l) = str l := by
  apply ByteArray.ext
  have : (ints l).map (fun n => UInt8.ofNat n.toNat) = l := by
    unfold ints
    rw [List.map_map]
    conv => rhs; rw [← List.map_id l]
    apply List.map_congr_left
    intro c _
    simp
  simp only [strOfNums, this, str]
/-- string(b). -/
theorem RdB.string {P : Program} {w : World} {src dst e : TypeId} {A : Option Addr} {n c : Nat} {l : List UInt8} (h : RdB w A l) (hn : l.length = n) (hs : P.underlying src = some (.slice e)) (he : P.underlying e = some (.int .u8)) (hd : P.underlying dst = some .string) :
    (convert src dst (.slice A n c)).run P w = .ok (.string (str l)) w := by
  subst hn
  have h1 := h.rd
  rw [string_of_reads hs he hd h1, strOf_ints]
/-- string([]byte{c}). -/
theorem string_one {P : Program} {src dst e : TypeId} (q : Int) (c : UInt8) (hq : q = (c.toNat : Int)) (hs : P.underlying src = some (.slice e)) (he : P.underlying e = some (.int .u8)) (hd : P.underlying dst = some .string) (w : World) :
    (convert src dst (.slice (some ⟨w.heap.size, 0, none⟩) 1 1)).run P (w.alloc (.cells #[.int .u8 q] e)) = .ok (.string (str [c])) (w.alloc (.cells #[.int .u8 q] e)) := by
  subst hq
  have h := OwI.lit w w.heap.size e .u8 (ints [c]) (Nat.le_refl _) (by simp [ints])
  obtain ⟨A, cc, he2, _, hr⟩ := OwB.reads (l := [c]) h
  injection he2 with he2 he3
  subst he2
  exact RdB.string (l := [c]) hr rfl hs he hd

/-- a literal's row, whatever its marks. -/
theorem RdI.lit (k : IntKind) (W : World) (e : Nat) (fr : Nat × Nat) (xs : List Int) (hm : xs.length ≤ 9223372036854775807) : RdI k (W.alloc (.cells (nums k xs).toArray e fr)) (some ⟨W.heap.size, 0, none⟩) xs := by
  refine ⟨rfl, hm, fun _ => ⟨_, rfl, fun j hj => ?_⟩⟩
  rw [add_plain, World.cell?_alloc_mark]
  simp [nums, hj, List.getD_eq_getElem?_getD]

/-! ### what a call has turned: of the elder blocks those of S alone -/
structure Ch (S : Nat → Prop) (w w' : World) : Prop where
  os : w'.os = w.os
  tape : w'.tape = w.tape
  output : w'.output = w.output
  size : w.heap.size ≤ w'.heap.size
  block : ∀ k, k < w.heap.size → ¬ S k → w'.heap[k]? = w.heap[k]?
theorem Ch.refl (S : Nat → Prop) (w : World) : Ch S w w := ⟨rfl, rfl, rfl, Nat.le_refl _, fun _ _ _ => rfl⟩
theorem Ch.of_below {S : Nat → Prop} {w w' : World} (h : Below w.heap.size w w') : Ch S w w' := ⟨h.os, h.tape, h.output, h.size, fun k hk _ => h.block k hk⟩
theorem Ch.below {w w' : World} (h : Ch (fun _ => False) w w') : Below w.heap.size w w' := ⟨h.os, h.tape, h.output, h.size, fun k hk => h.block k hk id⟩
theorem Ch.below_of {S : Nat → Prop} {B : Nat} {w w' : World} (h : Ch S w w') (hB : B ≤ w.heap.size) (hS : ∀ k, S k → B ≤ k) : Below B w w' :=
  ⟨h.os, h.tape, h.output, h.size, fun k hk => h.block k (by omega) fun hs => by have := hS k hs; omega⟩
theorem Ch.mono {S S' : Nat → Prop} {w w' : World} (h : Ch S w w') (hS : ∀ k, k < w.heap.size → S k → S' k) : Ch S' w w' := ⟨h.os, h.tape, h.output, h.size, fun k hk hs => h.block k hk fun hh => hs (hS k hk hh)⟩
/-- two calls; the second one may turn what the first one has made. -/
theorem Ch.trans {S S' : Nat → Prop} {a b c : World} (h : Ch S a b) (k : Ch S' b c) (hS : ∀ i, i < a.heap.size → S' i → S i) : Ch S a c :=
  ⟨k.os.trans h.os, k.tape.trans h.tape, k.output.trans h.output, Nat.le_trans h.size k.size, fun i hi hs => (k.block i (by have := h.size; omega) fun hh => hs (hS i hi hh)).trans (h.block i hi hs)⟩
theorem Ch.drew {S : Nat → Prop} {a w : World} (h : Ch S a w) : Ch S a w.drew := ⟨h.os, h.tape, h.output, h.size, h.block⟩
theorem Ch.drewN {S : Nat → Prop} {a w : World} (h : Ch S a w) (n : Nat) : Ch S a (w.drewN n) := ⟨h.os, h.tape, h.output, h.size, h.block⟩
theorem Ch.alloc {S : Nat → Prop} {a w : World} (h : Ch S a w) (o : Obj) : Ch S a (w.alloc o) :=
  h.trans (S' := fun _ => False) ⟨rfl, rfl, rfl, by simp, fun k hk _ => Below.heap_alloc _ _ _ hk⟩ (fun _ _ hf => hf.elim)
theorem Ch.setCell {S : Nat → Prop} {a w : World} (h : Ch S a w) {p : Addr} (hp : S p.block ∨ a.heap.size ≤ p.block) (u : Value) : Ch S a (w.setCell p u) :=
  h.trans (S' := fun k => k = p.block) ⟨rfl, rfl, rfl, by simp [World.setCell], fun k _ hs => Below.heap_setCell _ _ _ _ hs⟩ (fun i hi hf => by
    subst hf
    rcases hp with hp | hp
    · exact hp
    · omega)
theorem Ch.grown {S : Nat → Prop} {a w w' : World} {row : Option Nat} (h : Ch S a w) (hg : w.grownBy w' row) (hr : ∀ k, row = some k → S k ∨ a.heap.size ≤ k) : Ch S a w' :=
  h.trans (S' := fun k => row = some k) ⟨hg.os, hg.tape, hg.output, hg.size, fun k hk hs => hg.block k hk fun hh => hs hh.symm⟩ (fun i hi hf => by
    rcases hr i hf with hp | hp
    · exact hp
    · omega)
theorem Ch.then_below {S : Nat → Prop} {a w w' : World} (h : Ch S a w) (hb : Below w.heap.size w w') : Ch S a w' :=
  h.trans (Ch.of_below (S := fun _ => False) hb) (fun _ _ hf => hf.elim)

theorem Ch.blk {S : Nat → Prop} {w w' : World} {g : Nat} {o : Obj} (h : Ch S w w') (hb : w.heap[g]? = some o) (hg : ¬ S g) : w'.heap[g]? = some o := (h.block g (blk_lt hb) hg).trans hb
theorem Ch.cell {S : Nat → Prop} {w w' : World} {a : Addr} {v : Value} (h : Ch S w w') (hc : w.cell? a = some v) (hg : ¬ S a.block) : w'.cell? a = some v :=
  (World.cell?_of_block (h.block a.block (World.block_lt_of_cell? w a hc) hg)).trans hc
theorem OwI.ch {S : Nat → Prop} {k : IntKind} {e : Nat} {w w' : World} {base : Nat} {v : Value} {xs : List Int} (h : OwI e k w base v xs) (hc : Ch S w w') (hs : ∀ g, v.ownBlock = some g → ¬ S g) : OwI e k w' base v xs :=
  h.move fun g hg => hc.block g (h.lt_ g hg) (hs g hg)
theorem RdI.ch {S : Nat → Prop} {k : IntKind} {w w' : World} {A : Option Addr} {xs : List Int} (h : RdI k w A xs) (hc : Ch S w w') (hs : ∀ ad, A = some ad → ¬ S ad.block) : RdI k w' A xs :=
  h.stay fun ad he hp => by
    obtain ⟨ad', he', hc0⟩ := RdI.at_ h 0 hp
    rw [he] at he'
    cases he'
    have hl := World.block_lt_of_cell? w _ hc0
    have hbk : (ad.add 0).block = ad.block := by unfold Addr.add; split <;> rfl
    rw [hbk] at hl
    exact hc.block _ hl (hs ad he)
/-- an object that a call has turned: what it is made of now is of what it was made of, or new; nothing else has turned. -/
def Upd (O : World → (Nat → Prop) → Prop) (S : Nat → Prop) (w w' : World) : Prop := ∃ S', O w' S' ∧ (∀ k, S' k → S k ∨ w.heap.size ≤ k) ∧ Ch S w w'
theorem Upd.imp {O O' : World → (Nat → Prop) → Prop} {S : Nat → Prop} {w w' : World} (h : Upd O S w w') (hO : ∀ S', O w' S' → O' w' S') : Upd O' S w w' := by
  obtain ⟨S', h1, h2, h3⟩ := h
  exact ⟨S', hO S' h1, h2, h3⟩
/-- one turn behind another. -/
theorem Upd.then {O : World → (Nat → Prop) → Prop} {S S1 : Nat → Prop} {w w1 w2 : World} (h1 : ∀ k, S1 k → S k ∨ w.heap.size ≤ k) (hc : Ch S w w1) (h : Upd O S1 w1 w2) : Upd O S w w2 := by
  obtain ⟨S', ho, h2, h3⟩ := h
  refine ⟨S', ho, fun k hk => ?_, hc.trans h3 fun i hi hs => ?_⟩
  · rcases h2 k hk with h4 | h4
    · exact h1 k h4
    · exact .inr (Nat.le_trans hc.size h4)
  · rcases h1 i hs with h4 | h4
    · exact h4
    · omega

/-! ### laws for the walk -/
section
variable {P : Program} {ops : Array Oper} {rest : List Oper} {o : Oper} {a : Act} {Q : Exit → Act → World → Prop}
/-- append(v, x). The goal's world is the one in which x has a box of its own. -/
theorem append_one {w0 W : World} (base : Nat) (hgd : o.guard = none) (s x : Operand) (t e : TypeId) (k : IntKind) (bytes : Nat)
    (ho : o.op = .call { callee := .builtin .append, args := #[s, x], argTypes := #[t, t] })
    (ht : P.underlying t = some (.slice e)) (hinfo : (P.info? e).map (fun i => (i.zero, i.size, i.bytes)) = some (some (.int k 0), 1, bytes)) (hb0 : 0 < bytes)
    (v : Value) (xs : List Int) (y : Int) (hs : a.eval s = v) (hx : a.eval x = .slice (some ⟨W.heap.size, 0, none⟩) 1 1)
    (HO : OwI e k W base v xs) (HB : Below base w0 W) (hbase : base ≤ W.heap.size) (hl : (xs.length + 1) * bytes ≤ 140737488355328)
    (h : ∀ v1 w1, OwI e k w1 base v1 (xs ++ [y]) → Below base w0 w1 → W.grownBy w1 v.ownBlock → (v1.ownBlock = v.ownBlock ∨ ∃ b, v1.ownBlock = some b ∧ W.heap.size ≤ b) → wpList P ops Q rest (a.put o.dst v1) w1) :
    wpList P ops Q (o :: rest) a (W.alloc (.cells #[.int k y] e)) :=
  print_append_num base hgd s x t e k bytes ho ht hinfo hb0 v xs y hs hx HO HB hbase hl h
/-- append(v, x) as one step of a region that draws its order. -/
theorem append_one_step {K : Act → World → Prop} {w0 W : World} (base : Nat) (hgd : o.guard = none) (s x : Operand) (t e : TypeId) (k : IntKind) (bytes : Nat)
    (ho : o.op = .call { callee := .builtin .append, args := #[s, x], argTypes := #[t, t] })
    (ht : P.underlying t = some (.slice e)) (hinfo : (P.info? e).map (fun i => (i.zero, i.size, i.bytes)) = some (some (.int k 0), 1, bytes)) (hb0 : 0 < bytes)
    (v : Value) (xs : List Int) (y : Int) (hs : a.eval s = v) (hx : a.eval x = .slice (some ⟨W.heap.size, 0, none⟩) 1 1)
    (HO : OwI e k W base v xs) (HB : Below base w0 W) (hbase : base ≤ W.heap.size) (hl : (xs.length + 1) * bytes ≤ 140737488355328)
    (h : ∀ v1 w1, OwI e k w1 base v1 (xs ++ [y]) → Below base w0 w1 → W.grownBy w1 v.ownBlock → (v1.ownBlock = v.ownBlock ∨ ∃ b, v1.ownBlock = some b ∧ W.heap.size ≤ b) → K (a.put o.dst v1) w1) :
    if Region.wanted o (yielded ops a.tmps) = true then Oper.wp P o a (W.alloc (.cells #[.int k y] e)) K Q else K (a.put o.dst undef) (W.alloc (.cells #[.int k y] e)) :=
  step_append_cells base (by simp [Region.wanted, hgd]) s x t e (.int k 0) 1 bytes ho ht hinfo rfl (by decide) hb0 v xs.length (nums k xs) [.int k y] hs hx rfl (by simp [Value.oneCell']) HO HB hbase hl
    fun v1 w1 hown hb hg hat => h v1 w1 (by unfold OwI; simpa [nums] using hown) hb hg hat
/-- append(v, ys..). -/
theorem append_row {w0 W : World} (base : Nat) (hgd : o.guard = none) (s x : Operand) (t e : TypeId) (k : IntKind) (bytes : Nat)
    (ho : o.op = .call { callee := .builtin .append, args := #[s, x], argTypes := #[t, t] })
    (ht : P.underlying t = some (.slice e)) (hinfo : (P.info? e).map (fun i => (i.zero, i.size, i.bytes)) = some (some (.int k 0), 1, bytes)) (hb0 : 0 < bytes)
    (v : Value) (xs ys : List Int) (A : Option Addr) (m c : Nat) (hs : a.eval s = v) (hx : a.eval x = .slice A m c) (hm : ys.length = m)
    (HO : OwI e k W base v xs) (HR : RdI k W A ys) (HB : Below base w0 W) (hbase : base ≤ W.heap.size) (hl : (xs.length + m) * bytes ≤ 140737488355328)
    (h : ∀ v1 w1, OwI e k w1 base v1 (xs ++ ys) → Below base w0 w1 → W.grownBy w1 v.ownBlock → (v1.ownBlock = v.ownBlock ∨ ∃ b, v1.ownBlock = some b ∧ W.heap.size ≤ b) → wpList P ops Q rest (a.put o.dst v1) w1) :
    wpList P ops Q (o :: rest) a W := by
  subst hm
  exact print_append_row base hgd s x t e k bytes ho ht hinfo hb0 v xs ys A ys.length c hs hx HO HR HB hbase hl h
/-- make([]T, n). -/
theorem make_row {w0 W : World} (base : Nat) (hgd : o.guard = none) (s x : Operand) (t e : TypeId) (k : IntKind) (bytes : Nat) (ho : o.op = .makeSlice t s x)
    (ht : P.underlying t = some (.slice e)) (hinfo : (P.info? e).map (fun i => (i.zero, i.size, i.bytes)) = some (some (.int k 0), 1, bytes))
    (n : Nat) (hs : a.eval s = .int .i64 n) (hx : a.eval x = .int .i64 n) (hn : bytes * n ≤ 281474976710656) (hn2 : n ≤ 9223372036854775807) (HB : Below base w0 W) (hbase : base ≤ W.heap.size)
    (h : ∀ w1, OwI e k w1 base (.slice (some ⟨W.heap.size, 0, none⟩) n n) (List.replicate n 0) → Below base w0 w1 → W.grownBy w1 none → wpList P ops Q rest (a.put o.dst (.slice (some ⟨W.heap.size, 0, none⟩) n n)) w1) :
    wpList P ops Q (o :: rest) a W := by
  obtain ⟨i0, hi, hz0, hz1, hz2⟩ := info_parts hinfo
  refine wpList_make_full W hgd s x t ho base e i0 (.int k 0) 1 ht hi hz0 hz1 .i64 .i64 n n n hs hx rfl rfl (by rw [hz2]; exact hn) (by simpa [maxLen] using hn2) hbase ?_
  intro w1 ho1 hg
  refine h w1 ?_ (HB.grown hg hbase (by simp)) hg
  have hl : (madeCells (Value.int k 0).cells (n * 1)).toList = nums k (List.replicate n 0) := by
    apply List.ext_getElem
    · simp [nums, madeCells, Value.cells]
    · intro i h1 h2
      simp [nums, madeCells, Value.cells, Nat.mod_one]
  rw [hl] at ho1
  unfold OwI
  rw [List.length_replicate]
  exact ho1
/-- copy(dst, src), dst a whole row of the call's own, src as long. -/
theorem copy_row {w0 W : World} (base : Nat) (hgd : o.guard = none) (d s : Operand) (t t' e : TypeId) (k : IntKind) (bytes : Nat)
    (ho : o.op = .call { callee := .builtin .copy, args := #[d, s], argTypes := #[t, t'] })
    (ht : P.underlying t = some (.slice e)) (hinfo : (P.info? e).map (fun i => (i.zero, i.size, i.bytes)) = some (some (.int k 0), 1, bytes))
    (g n c : Nat) (A : Option Addr) (m c' : Nat) (xs ys : List Int) (hd : a.eval d = .slice (some ⟨g, 0, none⟩) n c) (hs : a.eval s = .slice A m c') (hn : xs.length = n) (hm : ys.length = m) (hnm : m = n)
    (HO : OwI e k W base (.slice (some ⟨g, 0, none⟩) n c) xs) (HR : RdI k W A ys) (HB : Below base w0 W)
    (h : ∀ w1, OwI e k w1 base (.slice (some ⟨g, 0, none⟩) n c) ys → Below base w0 w1 → wpList P ops Q rest (a.put o.dst (.int .i64 n)) w1) :
    wpList P ops Q (o :: rest) a W := by
  obtain ⟨i0, hi, hz0, hz1, hz2⟩ := info_parts hinfo
  subst hnm
  subst hm
  rcases HO.2 with ⟨he, _⟩ | ⟨g', cap, cur, he, hb, hg, hnc, hcm, hsz, htk⟩
  · cases he
  · injection he with he1 he2 he3
    injection he1 with he1
    injection he1 with he1
    subst he1 he3
    have hcs : cur = cur.toList.toArray := by simp
    rw [hcs] at hg
    have hlen : cur.toList.length = c := by simpa using hsz
    refine wpList_copy_splice hgd d s t t' ho e ht (by rw [hi]; simp [hz1]) (some ⟨g, 0, none⟩) A ys.length c ys.length c' hd hs g 0 cur.toList e hg (nums k ys) (by simp [nums]) ?_ ?_ ?_ base w0 HB hb ?_
    · intro hp
      refine ⟨rfl, ?_⟩
      have hp' : 0 < ys.length := by simpa [nums] using hp
      obtain ⟨ad, hA, _⟩ := RdI.at_ HR 0 hp'
      refine ⟨ad, hA, fun j v hj => ?_⟩
      have hjl : j < ys.length := by
        have := (List.getElem?_eq_some_iff.1 hj).1
        simpa [nums] using this
      subst hA
      rw [HR.at_some j hjl]
      simp [nums, hjl] at hj
      rw [hj]
    · rw [nums_length, hlen]; omega
    · intro v hv
      simp only [nums, List.mem_map] at hv
      obtain ⟨y, _, rfl⟩ := hv
      rfl
    · intro w1 hw1 hb1
      have hl : (nums k ys).length = ys.length := nums_length k ys
      have := h w1 ⟨by simp [nums], .inr ⟨g, c, (splice cur.toList 0 (nums k ys)).toArray, rfl, hb, hw1, by omega, hcm, ?_, ?_⟩⟩ hb1
      · rw [nums_length]
        exact this
      · rw [List.size_toArray, length_splice _ _ _ (by rw [hl, hlen]; omega), hlen, Nat.mul_one]
      · simp only [splice, List.take_zero, List.nil_append, Nat.mul_one, hl]
        rw [← hl, List.take_left]
end

/-! ### texts of 0 and 1 in the walk -/
/-- texts are held against each other. -/
theorem beq_str (a b : ByteArray) : (a.toList == b.toList) = decide (a = b) := by
  rw [Bool.eq_iff_iff, beq_iff_eq, decide_eq_true_iff, Lib.toList_data, Lib.toList_data]
  constructor
  · intro h
    apply ByteArray.ext
    exact Array.toList_inj.1 h
  · rintro rfl; rfl
/-- a sign, as a number. -/
def sg (b : Bool) : Int := ((sign b).toNat : Int)
theorem sg_eq49 (b : Bool) : (sg b == 49) = b := by cases b <;> rfl
theorem sg_eq48 (b : Bool) : (sg b == 48) = !b := by cases b <;> rfl
theorem sg_ne (a b : Bool) : (sg a != sg b) = (a ^^ b) := by cases a <;> cases b <;> rfl
theorem sg_sign (b : Bool) : sg b = ((sign b).toNat : Int) := rfl
theorem index_txt {P : Program} (t : TypeId) (ht : P.underlying t = some .string) (l : List Bool) (k : Nat) (h : k < l.length) (w : World) :
    (Instr.index t (.string (txt l)) (.int .i64 k)).run P w = .ok (.int .u8 (sg l[k])) w := by
  have hs := txt_size l
  rw [run_index_string w t (txt l) .i64 k ht, dif_pos ⟨by omega, by omega⟩]
  simp only [Int.toNat_natCast, sg]
  have : (txt l)[k]'(by omega) = sign l[k] := by
    have : (txt l)[k]'(by omega) = (l.map sign)[k]'(by simpa using h) := rfl
    rw [this, List.getElem_map]
  rw [this]
theorem extract_txt (l : List Bool) (a b : Nat) : (txt l).extract a b = txt ((l.drop a).take (b - a)) := by
  apply ByteArray.ext
  apply Array.ext'
  have := Lib.extract_data (txt l) a b
  rw [this]
  simp [txt]
end Go.Proofs.YtjfekjbmgckkcaaGreatDoor.Base

/- spans and places: what is right, all places, the canonical list. No program in sight. -/
namespace Go.Proofs.YtjfekjbmgckkcaaGreatDoor.SpanPure

/-- a span: how far it lies behind the one ahead; how many places it has. -/
abbrev Sp := Int × Int
/-- places one behind the other. -/
def runP (a : Int) (k : Nat) : List Int := (List.range k).map fun (i : Nat) => a + (i : Int)
theorem runP_length (a : Int) (k : Nat) : (runP a k).length = k := by simp [runP]
theorem runP_zero (a : Int) : runP a 0 = [] := rfl
theorem runP_snoc (a : Int) (k : Nat) : runP a (k + 1) = runP a k ++ [a + (k : Int)] := by simp [runP, List.range_succ]
theorem runP_cons (a : Int) (k : Nat) : runP a (k + 1) = a :: runP (a + 1) k := by
  apply List.ext_getElem
  · simp [runP]
  · intro i h1 h2
    cases i with
    | zero => simp [runP]
    | succ i => simp [runP]; omega
theorem runP_get (a : Int) (k i : Nat) (h : i < (runP a k).length) : (runP a k)[i] = a + (i : Int) := by simp [runP]
theorem mem_runP {a x : Int} {k : Nat} : x ∈ runP a k ↔ a ≤ x ∧ x < a + (k : Int) := by
  simp only [runP, List.mem_map, List.mem_range]
  constructor
  · rintro ⟨i, hi, rfl⟩; omega
  · rintro ⟨h1, h2⟩; exact ⟨(x - a).toNat, by omega, by omega⟩

/-- all places of spans. -/
def placesF : Int → List Sp → List Int
  | _, [] => []
  | a, s :: t => runP (a + s.1) s.2.toNat ++ placesF (a + s.1 + s.2) t
/-- behind all of them. -/
def endF : Int → List Sp → Int
  | a, [] => a
  | a, s :: t => endF (a + s.1 + s.2) t
/-- how many. -/
def cntF : Int → List Sp → Int
  | n, [] => n
  | n, s :: t => cntF (n + s.2) t
theorem placesF_append (l m : List Sp) : ∀ a, placesF a (l ++ m) = placesF a l ++ placesF (endF a l) m := by
  induction l with
  | nil => intro a; rfl
  | cons s t ih => intro a; simp only [List.cons_append, placesF, endF, ih, List.append_assoc]
theorem endF_append (l m : List Sp) : ∀ a, endF a (l ++ m) = endF (endF a l) m := by
  induction l with
  | nil => intro a; rfl
  | cons s t ih => intro a; simp only [List.cons_append, endF, ih]
theorem cntF_append (l m : List Sp) : ∀ a, cntF a (l ++ m) = cntF (cntF a l) m := by
  induction l with
  | nil => intro a; rfl
  | cons s t ih => intro a; simp only [List.cons_append, cntF, ih]

/-- may a span stand behind others? f: it is the first one; a: where they end; n: how many places they have. -/
def okS1 (f : Bool) (a n : Int) (s : Sp) : Bool :=
  decide (0 ≤ s.2 ∧ s.2 ≤ 4096 ∧ s.1 ≤ 2097152 ∧ (f = false → 0 ≤ s.1) ∧ -1048576 ≤ a + s.1 ∧ a + s.1 ≤ 1048576 ∧ a + s.1 + s.2 ≤ 1048577 ∧ n + s.2 ≤ 4096)
def rightF : Bool → Int → Int → List Sp → Bool
  | _, _, _, [] => true
  | f, a, n, s :: t => okS1 f a n s && rightF false (a + s.1 + s.2) (n + s.2) t
theorem rightF_append (l m : List Sp) : ∀ f a n, rightF f a n (l ++ m) = (rightF f a n l && rightF (f && l.isEmpty) (endF a l) (cntF n l) m) := by
  induction l with
  | nil => intro f a n; simp [rightF, endF, cntF]
  | cons s t ih => intro f a n; simp [rightF, endF, cntF, ih, Bool.and_assoc]
/-- 0, if a list is right; an error's number. -/
def chk (l : List Sp) : Nat := if 1024 < l.length then 12 else if rightF true 0 0 l then 0 else 20
theorem chk_cases (l : List Sp) : (chk l = 12 ∧ 1024 < l.length) ∨ (chk l = 0 ∧ l.length ≤ 1024 ∧ rightF true 0 0 l = true) ∨ (chk l = 20 ∧ l.length ≤ 1024 ∧ rightF true 0 0 l = false) := by
  unfold chk
  by_cases h : 1024 < l.length
  · exact .inl ⟨if_pos h, h⟩
  · rw [if_neg h]
    cases hr : rightF true 0 0 l with
    | true => exact .inr (.inl ⟨rfl, by omega, rfl⟩)
    | false => exact .inr (.inr ⟨rfl, by omega, rfl⟩)
theorem chk_zero {l : List Sp} : chk l = 0 ↔ l.length ≤ 1024 ∧ rightF true 0 0 l = true := by
  rcases chk_cases l with ⟨h, h1⟩ | ⟨h, h1, h2⟩ | ⟨h, h1, h2⟩
  · rw [h]
    exact ⟨fun h => (by cases h), fun ⟨h2, _⟩ => (by omega)⟩
  · exact ⟨fun _ => ⟨h1, h2⟩, fun _ => h⟩
  · rw [h, h2]
    exact ⟨fun h => (by cases h), fun ⟨_, h3⟩ => (by cases h3)⟩

/-- strictly rising. -/
def Rise (l : List Int) : Prop := l.Pairwise (· < ·)
theorem runP_rise (a : Int) (k : Nat) : Rise (runP a k) := by
  unfold Rise runP
  rw [List.pairwise_map]
  exact List.Pairwise.imp (fun h => by omega) List.pairwise_lt_range
/-- what is right: how the numbers lie. -/
theorem rightF_facts (l : List Sp) : ∀ f a n, rightF f a n l = true → -1048576 ≤ a → a ≤ 1048577 →
    cntF n l = n + (placesF a l).length ∧ (cntF n l ≤ 4096 ∨ l = []) ∧ Rise (placesF a l) ∧ (∀ x ∈ placesF a l, -1048576 ≤ x ∧ x ≤ 1048576) ∧ (f = false → ∀ x ∈ placesF a l, a ≤ x) ∧ (∀ x ∈ placesF a l, x < endF a l) ∧
      -1048576 ≤ endF a l ∧ endF a l ≤ 1048577 ∧ n ≤ cntF n l := by
  induction l with
  | nil =>
    intro f a n _ h1 h2
    refine ⟨by simp [cntF, placesF], .inr rfl, List.Pairwise.nil, by simp [placesF], by simp [placesF], by simp [placesF], h1, h2, Int.le_refl _⟩
  | cons s t ih =>
    intro f a n hr h1 h2
    simp only [rightF, Bool.and_eq_true] at hr
    obtain ⟨ho, hr⟩ := hr
    simp only [okS1, decide_eq_true_eq] at ho
    obtain ⟨o1, o2, o3, o4, o5, o6, o7, o8⟩ := ho
    obtain ⟨i1, i2, i3, i4, i5, i6, i7, i8, i9⟩ := ih false _ (n + s.2) hr (by omega) (by omega)
    have hk : (s.2.toNat : Int) = s.2 := by omega
    have hend : a + s.1 + s.2 ≤ endF (a + s.1 + s.2) t := by
      clear ih i1 i2 i3 i4 i5 i6 i7 i8 i9
      have : ∀ (t : List Sp) (a n : Int), rightF false a n t = true → a ≤ endF a t := by
        intro t
        induction t with
        | nil => intro a n _; exact Int.le_refl _
        | cons u t ih =>
          intro a n h
          simp only [rightF, Bool.and_eq_true] at h
          obtain ⟨ho, h⟩ := h
          simp only [okS1, decide_eq_true_eq] at ho
          obtain ⟨p1, p2, p3, p4, -⟩ := ho
          have := ih _ _ h
          have := p4 (by simp)
          simp only [endF]
          omega
      exact this t _ _ hr
    refine ⟨?_, .inl ?_, ?_, ?_, ?_, ?_, i7, i8, ?_⟩
    · simp only [cntF, placesF, List.length_append, runP_length, i1]; omega
    · simp only [cntF]
      rcases i2 with h | h
      · exact h
      · subst h; simp only [cntF]; exact o8
    · simp only [placesF]
      refine List.pairwise_append.2 ⟨runP_rise _ _, i3, fun x hx y hy => ?_⟩
      have := (mem_runP.1 hx).2
      have := i5 rfl y hy
      omega
    · intro x hx
      rcases List.mem_append.1 hx with h | h
      · have := mem_runP.1 h; omega
      · exact i4 x h
    · intro hf x hx
      have := o4 hf
      rcases List.mem_append.1 hx with h | h
      · have := mem_runP.1 h; omega
      · have := i5 rfl x h; omega
    · intro x hx
      simp only [endF]
      rcases List.mem_append.1 hx with h | h
      · have := mem_runP.1 h; omega
      · exact i6 x h
    · simp only [cntF]; omega
/-- a right list's places. -/
def places (l : List Sp) : List Int := placesF 0 l
theorem places_rise {l : List Sp} (h : rightF true 0 0 l = true) : Rise (places l) := (rightF_facts l true 0 0 h (by decide) (by decide)).2.2.1
theorem places_in {l : List Sp} (h : rightF true 0 0 l = true) : ∀ x ∈ places l, -1048576 ≤ x ∧ x ≤ 1048576 := (rightF_facts l true 0 0 h (by decide) (by decide)).2.2.2.1
theorem places_cnt {l : List Sp} (h : rightF true 0 0 l = true) : cntF 0 l = (places l).length := by
  have := (rightF_facts l true 0 0 h (by decide) (by decide)).1
  rw [Int.zero_add] at this
  exact this
theorem places_len {l : List Sp} (h : rightF true 0 0 l = true) : (places l).length ≤ 4096 := by
  have h1 := places_cnt h
  rcases (rightF_facts l true 0 0 h (by decide) (by decide)).2.1 with h2 | h2
  · omega
  · subst h2; simp [places, placesF]

/-! ### the canonical list -/
/-- has no span without places; none behind another without a gap. -/
def canonF : Bool → List Sp → Bool
  | _, [] => true
  | f, s :: t => decide (s.2 ≠ 0) && (f || decide (s.1 ≠ 0)) && canonF false t
theorem canonF_append (l m : List Sp) : ∀ f, canonF f (l ++ m) = (canonF f l && canonF (f && l.isEmpty) m) := by
  induction l with
  | nil => intro f; simp [canonF]
  | cons s t ih => intro f; simp [canonF, ih, Bool.and_assoc]
def canonical (l : List Sp) : Bool := canonF true l && decide (chk l = 0)
/-- one more place: a new span, or the last one is longer. -/
def addP (out : List Sp) (fin p : Int) : List Sp :=
  if out = [] ∨ fin < p then out ++ [(p - fin, 1)] else out.dropLast ++ [((out.getLast?.getD (0, 0)).1, (out.getLast?.getD (0, 0)).2 + 1)]
/-- places as spans. -/
def buildF : List Sp → Int → List Int → List Sp
  | out, _, [] => out
  | out, fin, p :: ps => buildF (addP out fin p) (p + 1) ps
def fromL (ps : List Int) : List Sp := buildF [] 0 ps
/-- how many runs of places, one behind the other. -/
def runsF : Bool → Int → List Int → Nat
  | _, _, [] => 0
  | f, q, p :: ps => (if f = true ∨ p ≠ q then 1 else 0) + runsF false (p + 1) ps
def runs (ps : List Int) : Nat := runsF true 0 ps
/-- may places come? -/
def risingF : Bool → Int → List Int → Bool
  | _, _, [] => true
  | f, q, p :: ps => decide (-1048576 ≤ p ∧ p ≤ 1048576 ∧ (f = true ∨ q ≤ p)) && risingF false (p + 1) ps
def rising (ps : List Int) : Bool := risingF true 0 ps
theorem risingF_of {ps : List Int} : ∀ {f : Bool} {q : Int}, Rise ps → (∀ x ∈ ps, -1048576 ≤ x ∧ x ≤ 1048576) → (f = false → ∀ x ∈ ps, q ≤ x) → risingF f q ps = true := by
  induction ps with
  | nil => intros; rfl
  | cons p ps ih =>
    intro f q h1 h2 h3
    have h4 := List.pairwise_cons.1 h1
    simp only [risingF, Bool.and_eq_true, decide_eq_true_eq]
    have h5 := h2 p List.mem_cons_self
    refine ⟨⟨h5.1, h5.2, ?_⟩, ih h4.2 (fun x hx => h2 x (List.mem_cons_of_mem _ hx)) fun _ x hx => by have := h4.1 x hx; omega⟩
    cases f with
    | true => exact .inl rfl
    | false => exact .inr (h3 rfl p List.mem_cons_self)
theorem rise_of_risingF {ps : List Int} : ∀ {f : Bool} {q : Int}, risingF f q ps = true → Rise ps ∧ (∀ x ∈ ps, -1048576 ≤ x ∧ x ≤ 1048576) ∧ (f = false → ∀ x ∈ ps, q ≤ x) := by
  induction ps with
  | nil => intro f q _; exact ⟨List.Pairwise.nil, by simp, by simp⟩
  | cons p ps ih =>
    intro f q h
    simp only [risingF, Bool.and_eq_true, decide_eq_true_eq] at h
    obtain ⟨⟨h1, h2, h3⟩, h4⟩ := h
    obtain ⟨i1, i2, i3⟩ := ih h4
    refine ⟨List.pairwise_cons.2 ⟨fun x hx => by have := i3 rfl x hx; omega, i1⟩, ?_, ?_⟩
    · intro x hx
      rcases List.mem_cons.1 hx with rfl | hx
      · exact ⟨h1, h2⟩
      · exact i2 x hx
    · intro hf x hx
      rcases h3 with h3 | h3
      · rw [hf] at h3; cases h3
      · rcases List.mem_cons.1 hx with rfl | hx
        · exact h3
        · have := i3 rfl x hx; omega
theorem runsF_append (l m : List Int) : ∀ f q, runsF f q (l ++ m) = runsF f q l + runsF (f && l.isEmpty) (if l = [] then q else l.getLast?.getD 0 + 1) m := by
  induction l with
  | nil => intro f q; simp [runsF]
  | cons p ps ih =>
    intro f q
    simp only [List.cons_append, runsF, ih, List.isEmpty_cons, Bool.and_false, Bool.false_and]
    rw [Nat.add_assoc]
    congr 2
    cases ps with
    | nil => simp
    | cons x ps => simp
theorem runs_snoc (ps : List Int) (p : Int) : runs (ps ++ [p]) = runs ps + (if ps = [] ∨ p ≠ ps.getLast?.getD 0 + 1 then 1 else 0) := by
  unfold runs
  rw [runsF_append]
  simp only [runsF, Nat.add_zero, Bool.true_and]
  congr 1
  by_cases h : ps = []
  · subst h; simp
  · have : ps.isEmpty = false := by simpa using h
    simp [this, h]
/-- what a list that has been built is. -/
structure Built (out : List Sp) (fin : Int) (ps : List Int) : Prop where
  pl : places out = ps
  fin : endF 0 out = fin
  can : canonF true out = true
  right : (ps.length : Int) ≤ 4096 → rightF true 0 0 out = true
  cnt : cntF 0 out = ps.length
  runs : out = [] ↔ ps = []
  pos : ∀ s ∈ out, 1 ≤ s.2
  len : out.length = SpanPure.runs ps
theorem dropLast_snoc {l : List Sp} (h : l ≠ []) : ∃ i s, l = i ++ [s] ∧ l.dropLast = i ∧ l.getLast?.getD (0, 0) = s := by
  have he := List.dropLast_concat_getLast h
  refine ⟨l.dropLast, l.getLast h, he.symm, rfl, ?_⟩
  rw [List.getLast?_eq_some_getLast h]
  rfl
theorem Built.add {out : List Sp} {fin p : Int} {ps : List Int} (h : Built out fin ps) (h1 : -1048576 ≤ p) (h2 : p ≤ 1048576) (h3 : out = [] → fin = 0) (h4 : out ≠ [] → fin ≤ p) (h5 : -1048576 ≤ fin) (h6 : ps = [] ∨ ps.getLast?.getD 0 + 1 = fin) :
    Built (addP out fin p) (p + 1) (ps ++ [p]) := by
  unfold addP
  by_cases hc : out = [] ∨ fin < p
  · rw [if_pos hc]
    refine ⟨?_, ?_, ?_, ?_, ?_, by simp, ?_, ?_⟩
    · show placesF 0 _ = _
      rw [placesF_append, h.fin, show placesF 0 out = ps from h.pl]
      simp only [placesF, List.append_nil]
      rw [show (1 : Int).toNat = 1 from rfl, show runP (fin + (p - fin)) 1 = [p] from by simp [runP]; omega]
    · rw [endF_append, h.fin]; simp only [endF]; omega
    · rw [canonF_append, h.can]
      simp only [canonF, Bool.true_and, Bool.and_true, Bool.and_eq_true, decide_eq_true_eq]
      refine ⟨by decide, ?_⟩
      rcases hc with hc | hc
      · subst hc; rfl
      · cases out.isEmpty
        · simp; omega
        · rfl
    · intro hl
      rw [List.length_append, List.length_singleton] at hl
      rw [rightF_append, h.right (by omega), h.fin, h.cnt]
      simp only [rightF, Bool.true_and, Bool.and_true, okS1, decide_eq_true_eq]
      refine ⟨by decide, by decide, ?_, ?_, by omega, by omega, by omega, by omega⟩
      · rcases hc with hc | hc
        · have := h3 hc; omega
        · omega
      · intro hf
        rcases hc with hc | hc
        · subst hc; cases hf
        · omega
    · rw [cntF_append, h.cnt, List.length_append]; simp [cntF]
    · intro s hs
      rcases List.mem_append.1 hs with hs | hs
      · exact h.pos s hs
      · rw [List.mem_singleton.1 hs]; simp
    · rw [List.length_append, List.length_singleton, h.len, runs_snoc]
      rcases hc with hc | hc
      · rw [if_pos (.inl (h.runs.1 hc))]
      · rw [if_pos]
        rcases h6 with h6 | h6
        · exact .inl h6
        · right; rw [h6]; omega
  · rw [if_neg hc]
    have hne : out ≠ [] := fun h => hc (.inl h)
    have hfp : fin = p := by have := h4 hne; have : ¬ fin < p := fun h => hc (.inr h); omega
    obtain ⟨i, s, rfl, hd, hl⟩ := dropLast_snoc hne
    rw [hd, hl]
    have hpl := h.pl
    have hfn := h.fin
    have hcn := h.can
    have hct := h.cnt
    have hrt := h.right
    rw [endF_append] at hfn
    simp only [endF] at hfn
    rw [canonF_append] at hcn
    rw [cntF_append] at hct
    simp only [cntF] at hct
    rw [show places (i ++ [s]) = placesF 0 (i ++ [s]) from rfl, placesF_append] at hpl
    simp only [placesF, List.append_nil] at hpl
    simp only [rightF_append, rightF, Bool.and_true] at hrt
    have hs0 := h.pos s (by simp)
    refine ⟨?_, ?_, ?_, ?_, ?_, by simp, ?_, ?_⟩
    · show placesF 0 _ = _
      rw [placesF_append]
      simp only [placesF, List.append_nil]
      rw [show (s.2 + 1).toNat = s.2.toNat + 1 from by omega, runP_snoc, ← List.append_assoc, hpl]
      congr 2
      omega
    · rw [endF_append]; simp only [endF]; omega
    · rw [canonF_append]
      simp only [canonF, Bool.and_true, Bool.and_eq_true, decide_eq_true_eq, Bool.true_and] at hcn ⊢
      exact ⟨hcn.1, by omega, hcn.2.2⟩
    · intro hl2
      rw [List.length_append, List.length_singleton] at hl2
      have hr := hrt (by omega)
      simp only [rightF_append, rightF, Bool.and_true, Bool.and_eq_true] at hr ⊢
      obtain ⟨hr1, hr2⟩ := hr
      have hi := (rightF_facts i true 0 0 hr1 (by decide) (by decide)).2.2.2.2.2.2.2.2
      refine ⟨hr1, ?_⟩
      simp only [okS1, decide_eq_true_eq] at hr2 ⊢
      obtain ⟨o1, o2, o3, o4, o5, o6, o7, o8⟩ := hr2
      exact ⟨by omega, by omega, o3, o4, o5, o6, by omega, by omega⟩
    · rw [cntF_append, List.length_append, List.length_singleton]; simp only [cntF]; omega
    · intro u hu
      rcases List.mem_append.1 hu with hu | hu
      · exact h.pos u (List.mem_append_left _ hu)
      · rw [List.mem_singleton.1 hu]; show 1 ≤ s.2 + 1; omega
    · have hn : ps ≠ [] := fun he => by have := h.runs.2 he; simp at this
      have h7 := h.len
      rw [List.length_append, List.length_singleton] at h7 ⊢
      rw [runs_snoc, if_neg, h7, Nat.add_zero]
      rintro (hx | hx)
      · exact hn hx
      · rcases h6 with h6 | h6
        · exact hn h6
        · omega
theorem Built.nil : Built [] 0 [] := ⟨rfl, rfl, rfl, fun _ => rfl, rfl, by simp, by simp, rfl⟩
theorem built_of : ∀ (ps : List Int) {out : List Sp} {fin : Int} {qs : List Int}, Built out fin qs → (qs = [] → fin = 0) → (qs ≠ [] → fin = qs.getLast?.getD 0 + 1) → risingF qs.isEmpty fin ps = true → -1048576 ≤ fin →
    ∃ f, Built (buildF out fin ps) f (qs ++ ps)
  | [], out, fin, qs, h, _, _, _, _ => ⟨fin, by rw [List.append_nil]; exact h⟩
  | p :: ps, out, fin, qs, h, h1, h2, h3, h4 => by
    simp only [risingF, Bool.and_eq_true, decide_eq_true_eq] at h3
    obtain ⟨⟨a1, a2, a3⟩, a4⟩ := h3
    have hb := h.add a1 a2 (fun he => h1 (h.runs.1 he)) (fun he => by
      rcases a3 with a3 | a3
      · exact absurd (h.runs.2 (List.isEmpty_iff.1 a3)) he
      · exact a3) h4 (by
      by_cases hq : qs = []
      · exact .inl hq
      · exact .inr (by have := h2 hq; omega))
    obtain ⟨f, hf⟩ := built_of ps hb (by simp) (fun _ => by simp) (by rw [show (qs ++ [p]).isEmpty = false from by cases qs <;> rfl]; exact a4) (by omega)
    rw [List.append_assoc] at hf
    exact ⟨f, hf⟩
/-- the canonical list of rising places. -/
theorem fromL_built {ps : List Int} (h : rising ps = true) : ∃ f, Built (fromL ps) f ps := built_of ps Built.nil (fun _ => rfl) (fun h => absurd rfl h) h (by decide)
/-- spans that are canonical are the canonical list of their places. -/
theorem buildF_run (k : Nat) : ∀ (out : List Sp) (o : Int) (a j : Int) (ps : List Int), 0 ≤ j → buildF (out ++ [(o, j)]) a (runP a k ++ ps) = buildF (out ++ [(o, j + k)]) (a + k) ps := by
  induction k with
  | zero => intro out o a j ps _; simp [runP_zero]
  | succ k ih =>
    intro out o a j ps hj
    rw [runP_cons, List.cons_append, buildF]
    have : addP (out ++ [(o, j)]) a a = out ++ [(o, j + 1)] := by
      unfold addP
      rw [if_neg (by simp)]
      simp
    rw [this, ih out o (a + 1) (j + 1) ps (by omega)]
    congr 1
    · rw [show j + 1 + (k : Int) = j + ((k + 1 : Nat) : Int) from by omega]
    · omega
theorem buildF_canon : ∀ (l out : List Sp) (a : Int), canonF out.isEmpty l = true → (∀ s ∈ l, 0 ≤ s.2) → (out.isEmpty = false → ∀ s ∈ l, 0 ≤ s.1) → (∀ s ∈ l.tail, 0 ≤ s.1) → buildF out a (placesF a l) = out ++ l
  | [], out, a, _, _, _, _ => by simp [placesF, buildF]
  | s :: l, out, a, hc, hk, ho, ht => by
    simp only [canonF, Bool.and_eq_true, decide_eq_true_eq, Bool.or_eq_true] at hc
    obtain ⟨⟨c1, c2⟩, c3⟩ := hc
    have k0 := hk s List.mem_cons_self
    obtain ⟨k, hk1⟩ : ∃ k : Nat, s.2.toNat = k + 1 := ⟨s.2.toNat - 1, by omega⟩
    rw [placesF, hk1, runP_cons, List.cons_append, buildF]
    have hadd : addP out a (a + s.1) = out ++ [(s.1, 1)] := by
      unfold addP
      rw [if_pos]
      · rw [show a + s.1 - a = s.1 from by omega]
      · cases he : out.isEmpty with
        | true => exact .inl (List.isEmpty_iff.1 he)
        | false =>
          right
          rw [he] at c2
          have := ho he s List.mem_cons_self
          rcases c2 with c2 | c2
          · cases c2
          · omega
    rw [hadd, buildF_run k out s.1 (a + s.1 + 1) 1 _ (by decide), show a + s.1 + 1 + (k : Int) = a + s.1 + s.2 from by omega, show (1 : Int) + k = s.2 from by omega]
    rw [buildF_canon l (out ++ [(s.1, s.2)]) _ (by rw [show (out ++ [(s.1, s.2)]).isEmpty = false from by cases out <;> rfl]; exact c3) (fun u hu => hk u (List.mem_cons_of_mem _ hu)) (fun _ => ht) (fun u hu => ht u (List.mem_of_mem_tail hu))]
    simp
theorem rightF_pos (l : List Sp) : ∀ {f a n}, rightF f a n l = true → (∀ s ∈ l, 0 ≤ s.2) ∧ (f = false → ∀ s ∈ l, 0 ≤ s.1) ∧ ∀ s ∈ l.tail, 0 ≤ s.1 := by
  induction l with
  | nil => intro f a n _; simp
  | cons s t ih =>
    intro f a n h
    simp only [rightF, Bool.and_eq_true, okS1, decide_eq_true_eq] at h
    obtain ⟨⟨o1, o2, o3, o4, -⟩, h⟩ := h
    obtain ⟨i1, i2, i3⟩ := ih h
    refine ⟨?_, ?_, i2 rfl⟩
    · intro u hu
      rcases List.mem_cons.1 hu with rfl | hu
      · exact o1
      · exact i1 u hu
    · intro hf u hu
      rcases List.mem_cons.1 hu with rfl | hu
      · exact o4 hf
      · exact i2 rfl u hu
theorem fromL_places {l : List Sp} (hr : rightF true 0 0 l = true) (hc : canonF true l = true) : fromL (places l) = l := by
  obtain ⟨h1, -, h3⟩ := rightF_pos l hr
  exact buildF_canon l [] 0 hc h1 (by simp) h3
theorem places_rising {l : List Sp} (h : rightF true 0 0 l = true) : rising (places l) = true := risingF_of (places_rise h) (places_in h) (by simp)
/-- no list has fewer spans than runs. -/
theorem runsF_run (k : Nat) : ∀ (f : Bool) (q a : Int) (ps : List Int), runsF f q (runP a k ++ ps) ≤ 1 + runsF false (if k = 0 then q else a + k) ps ∨ (k = 0 ∧ runsF f q (runP a k ++ ps) = runsF f q ps) := by
  intro f q a ps
  cases k with
  | zero => right; simp [runP_zero]
  | succ k =>
    left
    have hall : ∀ (k : Nat) (a : Int) (ps : List Int), runsF false a (runP a k ++ ps) = runsF false (a + k) ps := by
      intro k
      induction k with
      | zero => intro a ps; simp [runP_zero]
      | succ k ih =>
        intro a ps
        rw [runP_cons, List.cons_append, runsF, if_neg (by simp), ih, Nat.zero_add]
        congr 1
        omega
    rw [runP_cons, List.cons_append, runsF, hall, if_neg (Nat.succ_ne_zero k), show a + 1 + (k : Int) = a + ((k + 1 : Nat) : Int) from by omega]
    split <;> omega
theorem runsF_le (l : List Sp) : ∀ (f : Bool) (q a : Int), runsF f q (placesF a l) ≤ l.length := by
  induction l with
  | nil => intro f q a; exact Nat.le_refl _
  | cons s t ih =>
    intro f q a
    rw [placesF, List.length_cons]
    rcases runsF_run s.2.toNat f q (a + s.1) (placesF (a + s.1 + s.2) t) with h | ⟨_, h⟩
    · have := ih false (if s.2.toNat = 0 then q else a + s.1 + s.2.toNat) (a + s.1 + s.2)
      omega
    · rw [h]
      have := ih f q (a + s.1 + s.2)
      omega
theorem runs_le (l : List Sp) : runs (places l) ≤ l.length := runsF_le l _ _ _

/-- places with their numbers. -/
def idx : Int → List Int → List (Int × Int)
  | _, [] => []
  | n, p :: t => (n, p) :: idx (n + 1) t
theorem idx_append (l m : List Int) : ∀ n, idx n (l ++ m) = idx n l ++ idx (n + l.length) m := by
  induction l with
  | nil => intro n; simp [idx]
  | cons p t ih =>
    intro n
    simp only [List.cons_append, idx, ih, List.length_cons]
    rw [show n + 1 + (t.length : Int) = n + ((t.length + 1 : Nat) : Int) from by omega]
theorem idx_snoc (n : Int) (l : List Int) (p : Int) : idx n (l ++ [p]) = idx n l ++ [(n + l.length, p)] := by rw [idx_append]; rfl
theorem idx_length (l : List Int) : ∀ n, (idx n l).length = l.length := by
  induction l with
  | nil => intro n; rfl
  | cons p t ih => intro n; simp [idx, ih]
theorem idx_snd (l : List Int) : ∀ n, (idx n l).map (·.2) = l := by
  induction l with
  | nil => intro n; rfl
  | cons p t ih => intro n; simp [idx, ih]
theorem idx_get (l : List Int) : ∀ (n : Int) (k : Nat) (h : k < l.length) (h' : k < (idx n l).length), (idx n l)[k] = (n + (k : Int), l[k]) := by
  induction l with
  | nil => intro n k h; simp at h
  | cons p t ih =>
    intro n k h h'
    cases k with
    | zero => simp [idx]
    | succ k =>
      simp only [idx, List.getElem_cons_succ]
      rw [ih (n + 1) k (by simpa using h)]
      simp; omega
theorem placesF_take (l : List Sp) (k : Nat) (h : k < l.length) : placesF 0 (l.take (k + 1)) = placesF 0 (l.take k) ++ runP (endF 0 (l.take k) + l[k].1) l[k].2.toNat := by
  rw [List.take_succ_eq_append_getElem h, placesF_append]; simp [placesF]
theorem endF_take (l : List Sp) (k : Nat) (h : k < l.length) : endF 0 (l.take (k + 1)) = endF 0 (l.take k) + l[k].1 + l[k].2 := by
  rw [List.take_succ_eq_append_getElem h, endF_append]; rfl
theorem places_split (l : List Sp) (k : Nat) (h : k < l.length) : places l = placesF 0 (l.take k) ++ (runP (endF 0 (l.take k) + l[k].1) l[k].2.toNat ++ placesF (endF 0 (l.take (k + 1))) (l.drop (k + 1))) := by
  conv => lhs; rw [← List.take_append_drop k l, List.drop_eq_getElem_cons h]
  rw [places, placesF_append, endF_take l k h]
  rfl
theorem idx_prefix {l m : List Int} (n : Int) (h : l <+: m) : idx n l <+: idx n m := by
  obtain ⟨t, rfl⟩ := h
  rw [idx_append]
  exact ⟨_, rfl⟩
theorem runP_prefix (a : Int) {j k : Nat} (h : j ≤ k) : runP a j <+: runP a k := by
  induction k with
  | zero => obtain rfl : j = 0 := by omega
            exact ⟨[], by simp⟩
  | succ k ih =>
    rcases Nat.lt_or_ge k j with h1 | h1
    · obtain rfl : j = k + 1 := by omega
      exact ⟨[], by simp⟩
    · rw [runP_snoc]
      obtain ⟨t, ht⟩ := ih h1
      exact ⟨t ++ [a + (k : Int)], by rw [← List.append_assoc, ht]⟩
theorem places_prefix (l : List Sp) (k : Nat) (h : k < l.length) (j : Nat) (hj : j ≤ l[k].2.toNat) : placesF 0 (l.take k) ++ runP (endF 0 (l.take k) + l[k].1) j <+: places l := by
  rw [places_split l k h]
  obtain ⟨t, ht⟩ := runP_prefix (endF 0 (l.take k) + l[k].1) hj
  exact ⟨t ++ placesF (endF 0 (l.take (k + 1))) (l.drop (k + 1)), by rw [List.append_assoc, ← List.append_assoc _ t, ht]⟩
/-- a part of what is right is right. -/
theorem right_take {l : List Sp} (h : rightF true 0 0 l = true) (k : Nat) : rightF true 0 0 (l.take k) = true := by
  rw [← List.take_append_drop k l, rightF_append] at h
  exact (Bool.and_eq_true _ _ ▸ h).1
theorem right_at {l : List Sp} (h : rightF true 0 0 l = true) (k : Nat) (hk : k < l.length) :
    0 ≤ l[k].2 ∧ l[k].2 ≤ 4096 ∧ -1048576 ≤ endF 0 (l.take k) + l[k].1 ∧ endF 0 (l.take k) + l[k].1 ≤ 1048576 ∧ -1048576 ≤ endF 0 (l.take k) ∧ endF 0 (l.take k) ≤ 1048577 := by
  have h1 := right_take h k
  have h2 := rightF_facts (l.take k) true 0 0 h1 (by decide) (by decide)
  have h3 := h
  rw [← List.take_append_drop k l, List.drop_eq_getElem_cons hk, rightF_append] at h3
  simp only [rightF, okS1, Bool.and_eq_true, decide_eq_true_eq] at h3
  obtain ⟨-, ⟨o1, o2, o3, o4, o5, o6, o7, o8⟩, -⟩ := h3
  exact ⟨o1, o2, o5, o6, h2.2.2.2.2.2.2.1, h2.2.2.2.2.2.2.2.1⟩
end Go.Proofs.YtjfekjbmgckkcaaGreatDoor.SpanPure

/- Slices of spans in memory: read, owned. -/
namespace Go.Proofs.YtjfekjbmgckkcaaGreatDoor.SpanBase
open Go.RowKit Go.Proofs.YtjfekjbmgckkcaaGreatDoorW.PrintWords
open Go.Proofs.YtjfekjbmgckkcaaGreatDoor.Base Go.Proofs.YtjfekjbmgckkcaaGreatDoor.SpanPure

theorem add_add (a : Addr) (i j : Nat) : (a.add i).add j = a.add (i + j) := by
  unfold Addr.add
  by_cases hi : i = 0 <;> by_cases hj : j = 0 <;> simp [hi, hj, Nat.add_assoc]
theorem add_one (a : Addr) : a.add 1 = ⟨a.block, a.off + 1, none⟩ := rfl
/-- cells that are read at A. -/
def RdC (w : World) (A : Option Addr) (cs : List Value) : Prop := 0 < cs.length → ∃ ad, A = some ad ∧ ∀ j u, cs[j]? = some u → w.cell? (ad.add j) = some u
section
variable {w w1 : World} {A : Option Addr} {cs : List Value}
theorem RdC.nil (w : World) (A : Option Addr) : RdC w A [] := fun h => absurd h (by simp)
theorem RdC.at_ (h : RdC w A cs) (j : Nat) (u : Value) (hj : cs[j]? = some u) : ∃ ad, A = some ad ∧ w.cell? (ad.add j) = some u := by
  obtain ⟨ad, he, hc⟩ := h (by have := (List.getElem?_eq_some_iff.1 hj).1; omega)
  exact ⟨ad, he, hc j u hj⟩
theorem RdC.stay (h : RdC w A cs) (hb : ∀ ad, A = some ad → 0 < cs.length → w1.heap[ad.block]? = w.heap[ad.block]?) : RdC w1 A cs := fun hp => by
  obtain ⟨ad, he, hc⟩ := h hp
  refine ⟨ad, he, fun j u hj => ?_⟩
  rw [← hc j u hj]
  refine World.cell?_of_block ?_
  have hbk : (ad.add j).block = ad.block := by unfold Addr.add; split <;> rfl
  rw [hbk]
  exact hb ad he hp
theorem RdC.lt (h : RdC w A cs) (ad : Addr) (hA : A = some ad) (hp : 0 < cs.length) : ad.block < w.heap.size := by
  obtain ⟨ad', he, hc⟩ := h hp
  rw [hA] at he
  injection he with he
  subst he
  have h0 := hc 0 cs[0] (List.getElem?_eq_getElem hp)
  rcases Nat.lt_or_ge ad.block w.heap.size with hlt | hge
  · exact hlt
  · rw [show ad.add 0 = ad from rfl] at h0
    simp [World.cell?, Array.getElem?_eq_none hge] at h0
theorem RdC.below (h : RdC w A cs) (hb : Below w.heap.size w w1) : RdC w1 A cs := h.stay fun ad hA hp => hb.block _ (h.lt ad hA hp)
theorem RdC.drewN (h : RdC w A cs) (n : Nat) : RdC (w.drewN n) A cs := h
theorem RdC.take (h : RdC w A cs) (i : Nat) : RdC w A (cs.take i) := fun hp => by
  obtain ⟨ad, he, hc⟩ := h (by rw [List.length_take] at hp; omega)
  refine ⟨ad, he, fun j u hj => hc j u ?_⟩
  rw [List.getElem?_take] at hj
  split at hj
  · exact hj
  · cases hj
end

/-! ### spans -/
def spc (l : List Sp) : List Value := l.flatMap fun s => [.int .i64 s.1, .int .i64 s.2]
theorem spc_nil : spc [] = [] := rfl
theorem spc_cons (s : Sp) (l : List Sp) : spc (s :: l) = .int .i64 s.1 :: .int .i64 s.2 :: spc l := rfl
theorem spc_append (l m : List Sp) : spc (l ++ m) = spc l ++ spc m := by simp [spc]
theorem spc_length (l : List Sp) : (spc l).length = l.length * 2 := by
  induction l with
  | nil => rfl
  | cons s l ih => rw [spc_cons, List.length_cons, List.length_cons, ih, List.length_cons]; omega
theorem spc_get (l : List Sp) : ∀ (k : Nat) (h : k < l.length), (spc l)[k * 2]? = some (.int .i64 l[k].1) ∧ (spc l)[k * 2 + 1]? = some (.int .i64 l[k].2) := by
  induction l with
  | nil => intro k h; simp at h
  | cons s l ih =>
    intro k h
    rw [spc_cons]
    cases k with
    | zero => exact ⟨rfl, rfl⟩
    | succ k =>
      obtain ⟨h1, h2⟩ := ih k (by simpa using h)
      rw [show (k + 1) * 2 = k * 2 + 1 + 1 from by omega]
      exact ⟨by simpa using h1, by simpa using h2⟩
theorem spc_take (l : List Sp) (k : Nat) : spc (l.take k) = (spc l).take (k * 2) := by
  induction l generalizing k with
  | nil => simp [spc_nil]
  | cons s l ih =>
    cases k with
    | zero => simp [spc_nil]
    | succ k => rw [List.take_succ_cons, spc_cons, spc_cons, show (k + 1) * 2 = k * 2 + 1 + 1 from by omega, List.take_succ_cons, List.take_succ_cons, ih]
theorem spc_one (l : List Sp) : ∀ u ∈ spc l, u.oneCell' = true := by
  intro u hu
  simp only [spc, List.mem_flatMap, List.mem_cons, List.not_mem_nil, or_false] at hu
  obtain ⟨s, _, h | h⟩ := hu <;> subst h <;> rfl
/-- numbers of 64 bits. -/
def In64 (l : List Sp) : Prop := ∀ s ∈ l, -9223372036854775808 ≤ s.1 ∧ s.1 ≤ 9223372036854775807 ∧ -9223372036854775808 ≤ s.2 ∧ s.2 ≤ 9223372036854775807
/-- spans that are read at A. -/
def RdSp (w : World) (A : Option Addr) (l : List Sp) : Prop := RdC w A (spc l)
theorem RdSp.at_ {w : World} {A : Option Addr} {l : List Sp} (h : RdSp w A l) (k : Nat) (hk : k < l.length) : ∃ ad, A = some ad ∧ w.cell? (ad.add (k * 2)) = some (.int .i64 l[k].1) ∧ w.cell? ⟨(ad.add (k * 2)).block, (ad.add (k * 2)).off + 1, none⟩ = some (.int .i64 l[k].2) := by
  obtain ⟨h1, h2⟩ := spc_get l k hk
  obtain ⟨ad, rfl, c1⟩ := RdC.at_ h _ _ h1
  obtain ⟨ad', he, c2⟩ := RdC.at_ h _ _ h2
  injection he with he
  subst he
  exact ⟨_, rfl, c1, by rw [← add_one, add_add]; exact c2⟩
theorem RdSp.below {w w1 : World} {A : Option Addr} {l : List Sp} (h : RdSp w A l) (hb : Below w.heap.size w w1) : RdSp w1 A l := RdC.below h hb
theorem RdSp.nil (w : World) (A : Option Addr) : RdSp w A [] := RdC.nil w A
theorem RdSp.take {w : World} {A : Option Addr} {l : List Sp} (h : RdSp w A l) (k : Nat) : RdSp w A (l.take k) := by
  unfold RdSp; rw [spc_take]; exact RdC.take h _

/-! ### owned -/
/-- spans in a row (elements of type e) of the call's own. -/
def OwSp (e : Nat) (w : World) (base : Nat) (v : Value) (l : List Sp) : Prop := w.ownsRow base e 2 v l.length (spc l)
section
variable {e : Nat} {w w1 : World} {base : Nat} {v : Value} {l : List Sp}
theorem OwSp.nil (e : Nat) (w : World) (base : Nat) : OwSp e w base (.slice none 0 0) [] := ⟨rfl, .inl ⟨rfl, rfl⟩⟩
theorem OwSp.form (h : OwSp e w base v l) (hp : 0 < l.length) : ∃ g c, v = .slice (some ⟨g, 0, none⟩) l.length c ∧ base ≤ g ∧ g < w.heap.size ∧ l.length ≤ c := by
  obtain ⟨g, c, rfl, h1, h2⟩ := World.ownsRow.form h hp
  refine ⟨g, c, rfl, h1, h2, ?_⟩
  rcases h.2 with ⟨he, _⟩ | ⟨g', cap, cur, he, _, _, hc, _⟩
  · cases he
  · injection he with _ _ he
    omega
theorem OwSp.reads (h : OwSp e w base v l) : ∃ A c, v = .slice A l.length c ∧ l.length ≤ c ∧ (A = none → c = 0) ∧ RdSp w A l := by
  rcases h.2 with ⟨rfl, hn⟩ | ⟨g, cap, cur, rfl, hb, hg, hc, hm, hs, ht⟩
  · have : l = [] := List.length_eq_zero_iff.1 hn
    subst this
    exact ⟨none, 0, rfl, Nat.le_refl _, fun _ => rfl, RdSp.nil _ _⟩
  · refine ⟨_, cap, rfl, hc, (fun h => by cases h), fun _ => ⟨_, rfl, fun j u hj => ?_⟩⟩
    have hlt := (List.getElem?_eq_some_iff.1 hj).1
    rw [spc_length] at hlt
    rw [show (⟨g, 0, none⟩ : Addr).add j = ⟨g, j, none⟩ from by unfold Addr.add; split <;> simp_all]
    rw [World.ownsRow.cellAt (cap := cap) h j hlt]
    exact hj
theorem OwSp.len {A : Option Addr} {n c : Nat} (h : OwSp e w base (.slice A n c) l) : l.length = n := by
  obtain ⟨_, _, he, _⟩ := h.reads
  injection he with _ he _
  exact he.symm
theorem OwSp.lower {base' : Nat} (h : OwSp e w base v l) (hb : base' ≤ base) : OwSp e w base' v l := own_weaken h hb
theorem OwSp.lt_ (h : OwSp e w base v l) (g : Nat) (hg : v.ownBlock = some g) : g < w.heap.size := (World.ownsRow.lt h g hg).2
theorem OwSp.base_ (h : OwSp e w base v l) (g : Nat) (hg : v.ownBlock = some g) : base ≤ g := (World.ownsRow.lt h g hg).1
theorem OwSp.move (h : OwSp e w base v l) (hm : ∀ g, v.ownBlock = some g → w1.heap[g]? = w.heap[g]?) : OwSp e w1 base v l := by
  refine ⟨h.1, ?_⟩
  rcases h.2 with h2 | ⟨g, cap, cur, rfl, hb, hg, r⟩
  · exact .inl h2
  · exact .inr ⟨g, cap, cur, rfl, hb, (hm g rfl).trans hg, r⟩
theorem OwSp.below (h : OwSp e w base v l) (hb : Below w.heap.size w w1) : OwSp e w1 base v l := h.move fun g hg => hb.block g (h.lt_ g hg)
theorem OwSp.drewN (h : OwSp e w base v l) (n : Nat) : OwSp e (w.drewN n) base v l := h
theorem spc_set (l : List Sp) (s : Sp) (y : Int) : (spc (l ++ [s])).set (l.length * 2 + 1) (.int .i64 y) = spc (l ++ [(s.1, y)]) := by
  rw [spc_append, spc_append, List.set_append_right _ _ (by rw [spc_length]; omega), spc_length, Nat.add_sub_cancel_left]
  rfl
/-- the last one's length is another. -/
theorem OwSp.setLast {g c : Nat} {s : Sp} {y : Int} (h : OwSp e w base (.slice (some ⟨g, 0, none⟩) (l.length + 1) c) (l ++ [s])) :
    OwSp e (w.setCell ⟨g, l.length * 2 + 1, none⟩ (.int .i64 y)) base (.slice (some ⟨g, 0, none⟩) (l.length + 1) c) (l ++ [(s.1, y)]) := by
  have h' : w.ownsRow base e 2 (.slice (some ⟨g, 0, none⟩) (l.length + 1) c) (l.length + 1) (spc (l ++ [s])) := by
    have := h
    unfold OwSp at this
    rwa [List.length_append, List.length_singleton] at this
  have := (World.ownsRow.stored h' (l.length * 2 + 1) (.int .i64 y)).1
  rw [spc_set] at this
  unfold OwSp
  rw [List.length_append, List.length_singleton]
  exact this
theorem OwSp.last_ {g c : Nat} {s : Sp} (h : OwSp e w base (.slice (some ⟨g, 0, none⟩) (l.length + 1) c) (l ++ [s])) :
    w.cell? ⟨g, l.length * 2 + 1, none⟩ = some (.int .i64 s.2) ∧ w.frozen? ⟨g, l.length * 2 + 1, none⟩ = false := by
  have h' : w.ownsRow base e 2 (.slice (some ⟨g, 0, none⟩) (l.length + 1) c) (l.length + 1) (spc (l ++ [s])) := by
    have := h
    unfold OwSp at this
    rwa [List.length_append, List.length_singleton] at this
  refine ⟨?_, World.ownsRow.frozenAt h' _⟩
  rw [World.ownsRow.cellAt h' _ (by omega)]
  have := (spc_get (l ++ [s]) l.length (by simp)).2
  simpa using this
end
section
variable {P : Program} {ops : Array Oper} {rest : List Oper} {o : Oper} {a : Act} {Q : Exit → Act → World → Prop}
/-- append(v, Span{..}), where the literal's block is told by its number. -/
theorem append_span_at {w0 W : World} (base : Nat) (hgd : o.guard = none) (s x : Operand) (t e : TypeId) (bytes : Nat)
    (ho : o.op = .call { callee := .builtin .append, args := #[s, x], argTypes := #[t, t] })
    (ht : P.underlying t = some (.slice e)) (hinfo : (P.info? e).map (fun i => (i.zero, i.size, i.bytes)) = some (some (.agg #[.int .i64 0, .int .i64 0]), 2, bytes))
    (v : Value) (l : List Sp) (y z : Int) (hs : a.eval s = v) (H : Nat) (hH : W.heap.size = H) (hx : a.eval x = .slice (some ⟨H, 0, none⟩) 1 1)
    (HO : OwSp e W base v l) (HB : Below base w0 W) (hbase : base ≤ W.heap.size) (hl : (l.length + 1) * bytes ≤ 140737488355328) (hl2 : l.length ≤ 1000000000000)
    (h : ∀ g cap w1, OwSp e w1 base (.slice (some ⟨g, 0, none⟩) (l.length + 1) cap) (l ++ [(y, z)]) → Below base w0 w1 → W.grownBy w1 v.ownBlock → (v.ownBlock = some g ∨ W.heap.size ≤ g) → wpList P ops Q rest (a.put o.dst (.slice (some ⟨g, 0, none⟩) (l.length + 1) cap)) w1) :
    wpList P ops Q (o :: rest) a (W.alloc (.cells #[.int .i64 y, .int .i64 z] e)) := by
  obtain ⟨i0, hi, hz0, hz1, hz2⟩ := info_parts hinfo
  refine wpList_append_lies _ hgd s x t ho base e i0 _ 2 bytes ht hi hz0 hz1 hz2 rfl (by decide) v l.length (spc l) hs (HO.below (below_alloc (Below.refl _ _) _)) ⟨H, 0, none⟩ 1 1 [.int .i64 y, .int .i64 z] hx rfl
    (World.news_of_block (by rw [← hH]; exact heap_alloc_new W _)) (by intro u hu; simp only [List.mem_cons, List.not_mem_nil, or_false] at hu; rcases hu with rfl | rfl <;> rfl) (by decide) (by unfold maxLen; omega) hl (by simp; omega) (W.heap.size + 1) (by simp) ?_
  intro g cap w1 h1 h2 h3 h4
  have hg : W.grownBy w1 v.ownBlock := World.grownBy.trans (World.grownBy_alloc W _ v.ownBlock) h2
  refine h g cap w1 ?_ (HB.grown hg hbase fun k hk => (World.ownsRow.lt HO k hk).1) hg ?_
  · unfold OwSp
    rw [List.length_append, List.length_singleton, spc_append]
    exact h1
  · rcases h3 with h3 | h3
    · exact .inl h3
    · exact .inr (by omega)
/-- append(v, Span{..}). -/
theorem append_span {w0 W : World} (base : Nat) (hgd : o.guard = none) (s x : Operand) (t e : TypeId) (bytes : Nat)
    (ho : o.op = .call { callee := .builtin .append, args := #[s, x], argTypes := #[t, t] })
    (ht : P.underlying t = some (.slice e)) (hinfo : (P.info? e).map (fun i => (i.zero, i.size, i.bytes)) = some (some (.agg #[.int .i64 0, .int .i64 0]), 2, bytes))
    (v : Value) (l : List Sp) (y z : Int) (hs : a.eval s = v) (hx : a.eval x = .slice (some ⟨W.heap.size, 0, none⟩) 1 1)
    (HO : OwSp e W base v l) (HB : Below base w0 W) (hbase : base ≤ W.heap.size) (hl : (l.length + 1) * bytes ≤ 140737488355328) (hl2 : l.length ≤ 1000000000000)
    (h : ∀ g cap w1, OwSp e w1 base (.slice (some ⟨g, 0, none⟩) (l.length + 1) cap) (l ++ [(y, z)]) → Below base w0 w1 → W.grownBy w1 v.ownBlock → (v.ownBlock = some g ∨ W.heap.size ≤ g) → wpList P ops Q rest (a.put o.dst (.slice (some ⟨g, 0, none⟩) (l.length + 1) cap)) w1) :
    wpList P ops Q (o :: rest) a (W.alloc (.cells #[.int .i64 y, .int .i64 z] e)) := by
  exact append_span_at base hgd s x t e bytes ho ht hinfo v l y z hs W.heap.size rfl hx HO HB hbase hl hl2 h
end

/-! ### append(v, ys..): cells that are read, nil let in -/
section
variable {P : Program} (w : World)
theorem run_append_nil (base : Nat) (t ty e : TypeId) (i : TypeInfo) (size : Nat) (ht : P.underlying t = some (.slice e)) (hi : P.info? e = some i)
    (v : Value) (n : Nat) (xs : List Value) (hown : w.ownsRow base e size v n xs) (c : Nat) : (Builtin.append_ #[t, t] ty #[v, .slice none 0 c]).run P w = .ok v w := by
  rcases hown.2 with ⟨rfl, rfl⟩ | ⟨g, cap, cur, rfl, _, _, hnc, _⟩
  · simp [Builtin.append_, run_underlying ht, sizeOf, typeInfo, hi, Builtin.lenOf, Builtin.firstCells]
  · simp [Builtin.append_, run_underlying ht, sizeOf, typeInfo, hi, Builtin.lenOf, Builtin.firstCells, hnc, storeCells]
theorem run_append_cells (base : Nat) (t ty e : TypeId) (i : TypeInfo) (z : Value) (size bytes : Nat) (ht : P.underlying t = some (.slice e)) (hi : P.info? e = some i) (hz : i.zero = some z)
    (hsize : i.size = size) (hby : i.bytes = bytes) (hzs : z.cells.size = size) (hsz : 0 < size)
    (v : Value) (n : Nat) (xs : List Value) (hown : w.ownsRow base e size v n xs)
    (A : Option Addr) (m c : Nat) (news : List Value) (hl : news.length = m * size) (hr : RdC w A news) (h1 : ∀ u ∈ news, u.oneCell' = true)
    (h63 : n + m ≤ maxLen) (hbytes : (n + m) * bytes ≤ 140737488355328) (hbase : base ≤ w.heap.size) :
    ∃ v' w', (Builtin.append_ #[t, t] ty #[v, .slice A m c]).run P w = .ok v' w' ∧ w'.ownsRow base e size v' (n + m) (xs ++ news) ∧ w.grownBy w' v.ownBlock ∧
      (v'.ownBlock = v.ownBlock ∨ v'.ownBlock = some w.heap.size) := by
  have hzero : m = 0 → news = [] := fun h => by subst h; exact List.length_eq_zero_iff.1 (by omega)
  rcases A with _ | ad
  · have hm : m = 0 := by
      rcases Nat.eq_zero_or_pos m with h0 | h0
      · exact h0
      · obtain ⟨ad, h, _⟩ := hr (by rw [hl]; exact Nat.mul_pos h0 hsz)
        cases h
    rw [hzero hm, hm]
    exact ⟨v, w, run_append_nil w base t ty e i size ht hi v n xs hown c, by simpa using hown, World.grownBy.refl w _, .inl rfl⟩
  · have hcells : ∀ j u, news[j]? = some u → w.cell? (ad.add j) = some u := by
      intro j u hu
      obtain ⟨ad', h, hc⟩ := RdC.at_ hr j u hu
      injection h with h
      subst h
      exact hc
    obtain ⟨v', w', hrun, h2, h3, _, h5⟩ := run_append_own_at (P := P) w base t ty e i z size bytes ht hi hz hsize hby hzs hsz v n xs hown ad m c news hl hcells h1 h63 hbytes hbase
    exact ⟨v', w', hrun, h2, h3, h5⟩
theorem wp_append_cells {o : Oper} {a : Act} {K : Act → World → Prop} {Q : Exit → Act → World → Prop} (s x : Operand) (t : TypeId)
    (ho : o.op = .call { callee := .builtin .append, args := #[s, x], argTypes := #[t, t] })
    (base : Nat) (e : TypeId) (i : TypeInfo) (z : Value) (size bytes : Nat) (ht : P.underlying t = some (.slice e)) (hi : P.info? e = some i) (hz : i.zero = some z)
    (hsize : i.size = size) (hby : i.bytes = bytes) (hzs : z.cells.size = size) (hsz : 0 < size)
    (v : Value) (n : Nat) (xs : List Value) (hs : a.eval s = v) (hown : w.ownsRow base e size v n xs)
    (A : Option Addr) (m c : Nat) (news : List Value) (hx : a.eval x = .slice A m c) (hl : news.length = m * size) (hr : RdC w A news) (h1 : ∀ u ∈ news, u.oneCell' = true)
    (h63 : n + m ≤ maxLen) (hbytes : (n + m) * bytes ≤ 140737488355328) (hbase : base ≤ w.heap.size)
    (h : ∀ v' w', w'.ownsRow base e size v' (n + m) (xs ++ news) → w.grownBy w' v.ownBlock → (v'.ownBlock = v.ownBlock ∨ v'.ownBlock = some w.heap.size) → K (a.put o.dst v') w') : o.wp P a w K Q := by
  obtain ⟨v', w', hrun, h2, h3, h4⟩ := run_append_cells (P := P) w base t o.type e i z size bytes ht hi hz hsize hby hzs hsz v n xs hown A m c news hl hr h1 h63 hbytes hbase
  unfold Oper.wp execOp
  simp only [ho, resolve, invoke, builtin, Sem.run_bind, Sem.run_pure, Result.andThen_ok, List.map_toArray, List.map_cons, List.map_nil, hs, hx, hrun]
  exact h v' w' h2 h3 h4
end
section
variable {P : Program} {ops : Array Oper} {rest : List Oper} {o : Oper} {a : Act} {Q : Exit → Act → World → Prop}
/-- append(v, ys..), spans. -/
theorem append_spans {w0 W : World} (base : Nat) (hgd : o.guard = none) (s x : Operand) (t e : TypeId) (bytes : Nat)
    (ho : o.op = .call { callee := .builtin .append, args := #[s, x], argTypes := #[t, t] })
    (ht : P.underlying t = some (.slice e)) (hinfo : (P.info? e).map (fun i => (i.zero, i.size, i.bytes)) = some (some (.agg #[.int .i64 0, .int .i64 0]), 2, bytes))
    (v : Value) (l m : List Sp) (A : Option Addr) (c : Nat) (hs : a.eval s = v) (hx : a.eval x = .slice A m.length c)
    (HO : OwSp e W base v l) (HR : RdSp W A m) (HB : Below base w0 W) (hbase : base ≤ W.heap.size) (hl : (l.length + m.length) * bytes ≤ 140737488355328) (hl2 : l.length + m.length ≤ 1000000000000)
    (h : ∀ v1 w1, OwSp e w1 base v1 (l ++ m) → Below base w0 w1 → W.grownBy w1 v.ownBlock → (v1.ownBlock = v.ownBlock ∨ v1.ownBlock = some W.heap.size) → wpList P ops Q rest (a.put o.dst v1) w1) :
    wpList P ops Q (o :: rest) a W := by
  obtain ⟨i0, hi, hz0, hz1, hz2⟩ := info_parts hinfo
  refine wpList_plain hgd fun _ hK => wp_append_cells W s x t ho base e i0 _ 2 bytes ht hi hz0 hz1 hz2 rfl (by decide) v l.length (spc l) hs HO A m.length c (spc m) hx (spc_length m) HR (spc_one m) (by unfold maxLen; omega) hl hbase ?_
  intro v1 w1 h1 h2 h3
  refine hK _ _ (h v1 w1 ?_ (HB.grown h2 hbase fun k hk => (World.ownsRow.lt HO k hk).1) h2 h3)
  unfold OwSp
  rw [List.length_append, spc_append]
  exact h1
end
/-- a literal's row. -/
theorem OwSp.lit (W : World) (e : Nat) (l : List Sp) (hm : l.length ≤ 1000000000000) : OwSp e (W.alloc (.cells (spc l).toArray e)) W.heap.size (.slice (some ⟨W.heap.size, 0, none⟩) l.length l.length) l := by
  refine ⟨by rw [spc_length], .inr ⟨W.heap.size, l.length, (spc l).toArray, rfl, Nat.le_refl _, heap_alloc_new W _, Nat.le_refl _, by unfold maxLen; omega, by rw [List.size_toArray, spc_length], ?_⟩⟩
  rw [List.take_of_length_le (by rw [spc_length]; exact Nat.le_refl _)]
end Go.Proofs.YtjfekjbmgckkcaaGreatDoor.SpanBase

/- data of any shape in memory: numbers, texts, structs, slices of such; a law's arguments read as such. -/
namespace Go.Proofs.YtjfekjbmgckkcaaGreatDoor.Rep
open Go.RowKit Go.ChangeShapes Go.WideShapes Go.Deep Go.Proofs.YtjfekjbmgckkcaaGreatDoorW.PrintWords
open Go.Proofs.YtjfekjbmgckkcaaGreatDoor.Base Go.Proofs.YtjfekjbmgckkcaaGreatDoor.SpanBase

/-- how data of a type stand in cells. -/
structure Rep (α : Type) where
  k : Nat
  enc : α → List Value
  ok : World → α → Prop
  len : ∀ a, (enc a).length = k
  one : ∀ a, ∀ u ∈ enc a, u.oneCell' = true
  below : ∀ {w w' : World} {a : α}, Below w.heap.size w w' → ok w a → ok w' a
/-- data of a type are such. -/
def Opens {α : Type} (r : Rep α) (P : Program) (t : TypeId) : Prop :=
  P.cellsOf t = r.k ∧ ∀ {H : Type} {enc : TypeId × Value → H} {w : World} {base : Nat} {spare : Nat → Bool} {held : Bool} {fuel : Nat} {cs : List Value} {x : DataW H × List MemPlace},
    DataW.trod enc P w base spare held fuel t cs = some x → ∃ a, cs = r.enc a ∧ r.ok w a
def int (k : IntKind) : Rep Int where
  k := 1
  enc n := [.int k n]
  ok _ n := (Lit.int k n).wf = true
  len _ := rfl
  one n u h := by rw [List.mem_singleton.1 h]; rfl
  below _ h := h
def bool : Rep Bool where
  k := 1
  enc b := [.bool b]
  ok _ _ := True
  len _ := rfl
  one n u h := by rw [List.mem_singleton.1 h]; rfl
  below _ h := h
def text : Rep ByteArray where
  k := 1
  enc s := [.string s]
  ok _ s := s.size ≤ maxLen
  len _ := rfl
  one n u h := by rw [List.mem_singleton.1 h]; rfl
  below _ h := h
def pair {α β : Type} (r : Rep α) (s : Rep β) : Rep (α × β) where
  k := r.k + s.k
  enc x := r.enc x.1 ++ s.enc x.2
  ok w x := r.ok w x.1 ∧ s.ok w x.2
  len x := by rw [List.length_append, r.len, s.len]
  one x u h := (List.mem_append.1 h).elim (r.one x.1 u) (s.one x.2 u)
  below hb h := ⟨r.below hb h.1, s.below hb h.2⟩
/-- a slice: where it lies, its capacity, what it has. -/
structure Sl (α : Type) where
  at_ : Option Addr
  cap : Nat
  l : List α
/-- all of some. -/
def all {α : Type} (r : Rep α) (l : List α) : List Value := l.flatMap r.enc
/-- a slice that is read. -/
structure RdL {α : Type} (r : Rep α) (w : World) (x : Sl α) : Prop where
  rd : RdC w x.at_ (all r x.l)
  le : x.l.length ≤ x.cap
  max : x.cap ≤ maxLen
  nil : x.at_ = none → x.cap = 0
theorem RdL.below {α : Type} {r : Rep α} {w w' : World} {x : Sl α} (h : RdL r w x) (hb : Below w.heap.size w w') : RdL r w' x := ⟨h.rd.below hb, h.le, h.max, h.nil⟩
def slice {α : Type} (r : Rep α) : Rep (Sl α) where
  k := 1
  enc x := [.slice x.at_ x.l.length x.cap]
  ok w x := RdL r w x ∧ ∀ y ∈ x.l, r.ok w y
  len _ := rfl
  one n u h := by rw [List.mem_singleton.1 h]; rfl
  below hb h := ⟨h.1.below hb, fun y hy => r.below hb (h.2 y hy)⟩
section
variable {α β : Type} {r : Rep α} {s : Rep β} {P : Program} {t : TypeId}
theorem all_nil : all r [] = [] := rfl
theorem all_cons (x : α) (l : List α) : all r (x :: l) = r.enc x ++ all r l := rfl
theorem all_append (l m : List α) : all r (l ++ m) = all r l ++ all r m := by simp [all]
theorem all_length (l : List α) : (all r l).length = l.length * r.k := by
  induction l with
  | nil => simp [all]
  | cons x l ih => rw [all_cons, List.length_append, r.len, ih, List.length_cons, Nat.succ_mul, Nat.add_comm]
theorem all_get (l : List α) : ∀ (i j : Nat) (h : i < l.length), j < r.k → (all r l)[i * r.k + j]? = (r.enc l[i])[j]? := by
  induction l with
  | nil => intro i j h; simp at h
  | cons x l ih =>
    intro i j h hj
    rw [all_cons]
    cases i with
    | zero =>
      rw [Nat.zero_mul, Nat.zero_add, List.getElem?_append_left (by rw [r.len]; exact hj)]
      rfl
    | succ i =>
      rw [List.getElem?_append_right (by rw [r.len, Nat.succ_mul]; omega), r.len, show (i + 1) * r.k + j - r.k = i * r.k + j from by rw [Nat.succ_mul]; omega]
      exact ih i j (by simpa using h) hj
theorem all_take (l : List α) (n : Nat) : all r (l.take n) = (all r l).take (n * r.k) := by
  induction l generalizing n with
  | nil => simp [all]
  | cons x l ih =>
    cases n with
    | zero => simp [all]
    | succ n =>
      rw [List.take_succ_cons, all_cons, all_cons, ih, List.take_append, r.len, Nat.succ_mul, Nat.add_sub_cancel, List.take_of_length_le (l := r.enc x) (by rw [r.len]; omega)]
theorem all_one (l : List α) : ∀ u ∈ all r l, u.oneCell' = true := by
  intro u hu
  obtain ⟨x, _, hx⟩ := List.mem_flatMap.1 hu
  exact r.one x u hx
/-- an element's cells. -/
theorem RdC.elem {w : World} {A : Option Addr} {l : List α} (h : RdC w A (all r l)) (i : Nat) (hi : i < l.length) (hk : 0 < r.k) :
    ∃ ad, A = some ad ∧ ∀ j u, (r.enc l[i])[j]? = some u → w.cell? (ad.add (i * r.k + j)) = some u := by
  obtain ⟨ad, he, hc⟩ := h (by rw [all_length]; exact Nat.mul_pos (by omega) hk)
  refine ⟨ad, he, fun j u hu => hc _ u ?_⟩
  have hj : j < r.k := by
    have := (List.getElem?_eq_some_iff.1 hu).1
    rwa [r.len] at this
  rw [all_get l i j hi hj]
  exact hu

/-! ### opening -/
theorem opens_int {k : IntKind} (h : P.underlying t = some (.int k)) (hc : P.cellsOf t = 1) : Opens (int k) P t := ⟨hc, fun hd => by
  obtain ⟨n, h1, -, h2⟩ := DataW.trod_int h hd
  exact ⟨n, h1, h2⟩⟩
theorem opens_bool (h : P.underlying t = some .bool) (hc : P.cellsOf t = 1) : Opens bool P t := ⟨hc, fun hd => by
  obtain ⟨n, h1, -⟩ := DataW.trod_bool h hd
  exact ⟨n, h1, trivial⟩⟩
theorem opens_text (h : P.underlying t = some .string) (hc : P.cellsOf t = 1) : Opens text P t := ⟨hc, fun hd => by
  obtain ⟨n, h1, -, h2⟩ := DataW.trod_string h hd
  exact ⟨n, h1, h2⟩⟩
theorem list_of {α : Type} {Q : Nat → α → Prop} (n : Nat) (h : ∀ i, i < n → ∃ p, Q i p) : ∃ l : List α, l.length = n ∧ ∀ (i : Nat) (hi : i < l.length), Q i l[i] := by
  induction n with
  | zero => exact ⟨[], rfl, fun i hi => absurd hi (by simp)⟩
  | succ n ih =>
    obtain ⟨l, h1, h2⟩ := ih fun i hi => h i (by omega)
    obtain ⟨p, hp⟩ := h n (by omega)
    refine ⟨l ++ [p], by simp [h1], fun i hi => ?_⟩
    rcases Nat.lt_or_ge i l.length with hl | hl
    · rw [List.getElem_append_left hl]; exact h2 i hl
    · have : i = l.length := by simp at hi; omega
      subst this
      rw [List.getElem_append_right (Nat.le_refl _)]
      simp only [Nat.sub_self, List.getElem_cons_zero]
      rw [h1]
      exact hp
theorem opens_slice {e : TypeId} (h : P.underlying t = some (.slice e)) (hc : P.cellsOf t = 1) (hk : 0 < r.k) (he : Opens r P e) : Opens (slice r) P t := ⟨hc, fun {H enc w base spare held fuel cs x} hd => by
  rcases open_slice h hd with ⟨rfl, -⟩ | ⟨a, len, cap, m, n, D, Pl, rfl, hb, hl, hm, hmm, -, hi⟩
  · exact ⟨⟨none, 0, []⟩, rfl, ⟨RdC.nil _ _, Nat.le_refl _, Nat.zero_le _, fun _ => rfl⟩, fun y hy => by cases hy⟩
  · obtain ⟨l, hll, hlc⟩ := list_of (Q := fun i (p : α) => (∀ j, j < r.k → w.cell? (a.add (i * r.k + j)) = (r.enc p)[j]?) ∧ r.ok w p) len fun i hil => by
      have him : i < m := by rw [hmm]; split <;> omega
      obtain ⟨cs', h1, h2⟩ := hi i him
      rw [he.1] at h1
      obtain ⟨p, rfl, hp⟩ := he.2 h2
      obtain ⟨_, _, hat⟩ := World.cells?_some h1
      refine ⟨p, fun j hj => ?_, hp⟩
      rw [← hat j hj, Go.Deep.add_add]
    subst hll
    refine ⟨⟨some a, cap, l⟩, rfl, ⟨fun _ => ⟨a, rfl, fun j u hj => ?_⟩, hl, hm, fun h => by cases h⟩, fun y hy => ?_⟩
    · have hlt := (List.getElem?_eq_some_iff.1 hj).1
      rw [all_length] at hlt
      have hq : j / r.k < l.length := Nat.div_lt_of_lt_mul (by rw [Nat.mul_comm]; exact hlt)
      have hmod : j % r.k < r.k := Nat.mod_lt _ hk
      have hjj : j / r.k * r.k + j % r.k = j := by rw [Nat.mul_comm]; exact Nat.div_add_mod j r.k
      have h1 := (hlc _ hq).1 _ hmod
      have h2 := all_get (r := r) l (j / r.k) (j % r.k) hq hmod
      rw [hjj] at h1 h2
      rw [h1, ← h2]
      exact hj
    · obtain ⟨i, hi2, rfl⟩ := List.mem_iff_getElem.1 hy
      exact (hlc i hi2).2⟩
/-- the fields of a struct, from an offset on. -/
inductive Fields (P : Program) : List Field → Nat → (α : Type) → Rep α → Prop
  | one {f : Field} {off : Nat} {α : Type} {r : Rep α} : f.offset = off → Opens r P f.type → Fields P [f] off α r
  | cons {f : Field} {fs : List Field} {off : Nat} {α β : Type} {r : Rep α} {s : Rep β} : f.offset = off → Opens r P f.type → Fields P fs (off + r.k) β s → Fields P (f :: fs) off (α × β) (pair r s)
theorem Fields.open_ {H : Type} {enc : TypeId × Value → H} {w : World} {base : Nat} {spare : Nat → Bool} {held : Bool} {n : Nat} {cs : List Value} {fs : List Field} {off : Nat} {α : Type} {r : Rep α} (h : Fields P fs off α r) :
    (∀ f ∈ fs, ∃ x, DataW.trod enc P w base spare held n f.type ((cs.drop f.offset).take (P.cellsOf f.type)) = some x) → ∃ a, (cs.drop off).take r.k = r.enc a ∧ r.ok w a := by
  induction h with
  | one ho hr =>
    intro hf
    obtain ⟨x, hx⟩ := hf _ List.mem_cons_self
    rw [ho, hr.1] at hx
    exact hr.2 hx
  | cons ho hr _ ih =>
    rename_i f fs off α β r s _
    intro hf
    obtain ⟨x, hx⟩ := hf _ List.mem_cons_self
    rw [ho, hr.1] at hx
    obtain ⟨a, ha, hoa⟩ := hr.2 hx
    obtain ⟨b, hb, hob⟩ := ih fun f hm => hf f (List.mem_cons_of_mem _ hm)
    refine ⟨(a, b), ?_, hoa, hob⟩
    show List.take (r.k + s.k) (List.drop off cs) = r.enc a ++ s.enc b
    rw [← ha, ← hb, List.take_add, List.drop_drop]
theorem opens_struct {fs : Array Field} (h : P.underlying t = some (.struct fs)) (hf : Fields P fs.toList 0 α r) (hc : P.cellsOf t = r.k) : Opens r P t := ⟨hc, fun {H enc w base spare held fuel cs x} hd => by
  obtain ⟨xs, n, -, -, hl, hxl, hx⟩ := DataW.trod_struct h hd
  obtain ⟨a, ha, hok⟩ := hf.open_ (enc := enc) (w := w) (base := base) (spare := spare) (held := held) (n := n) (cs := cs) fun f hm => by
    obtain ⟨i, hi, rfl⟩ := List.mem_iff_getElem.1 hm
    have hi' : i < xs.length := by rw [hxl]; simpa using hi
    refine ⟨xs[i], ?_⟩
    rw [hx i _ (by simp [Array.getElem?_eq_getElem (show i < fs.size by simpa using hi)]), List.getElem?_eq_getElem hi']
  refine ⟨a, ?_, hok⟩
  rw [List.drop_zero, ← hc, ← hl, List.take_length] at ha
  exact ha⟩

/-! ### a law's arguments -/
theorem arg_slice {H : Type} {enc : TypeId × Value → H} {W : World} {base : Nat} {spare : Nat → Bool} {held : Bool} {e : TypeId} {v : Value} {d : DataW H} {ps : List MemPlace} (ho : Opens (slice r) P t) (h : P.underlying t = some (.slice e))
    (hv : Value.okWide P W .any base t v) (hd : DataW.Trod enc P W 0 spare held t v d ps) : ∃ x : Sl α, v = .slice x.at_ x.l.length x.cap ∧ (slice r).ok W x := by
  obtain ⟨a, len, cap, rfl⟩ := okWide_slice h hv
  obtain ⟨fuel, hf⟩ := hd
  obtain ⟨x, hx, hok⟩ := ho.2 hf
  refine ⟨x, ?_, hok⟩
  simpa [Value.cells, slice] using hx
theorem arg_struct {H : Type} {enc : TypeId × Value → H} {W : World} {base : Nat} {spare : Nat → Bool} {held : Bool} {fs : Array Field} {v : Value} {d : DataW H} {ps : List MemPlace} (ho : Opens r P t) (h : P.underlying t = some (.struct fs))
    (hv : Value.okWide P W .any base t v) (hd : DataW.Trod enc P W 0 spare held t v d ps) : ∃ x : α, v = .agg (r.enc x).toArray ∧ r.ok W x := by
  obtain ⟨cs, rfl, -⟩ := okWide_struct h hv
  obtain ⟨fuel, hf⟩ := hd
  obtain ⟨x, hx, hok⟩ := ho.2 hf
  refine ⟨x, ?_, hok⟩
  have : cs.toList = r.enc x := by simpa [Value.cells] using hx
  rw [← this]
end

/-! ### rows of the call's own -/
/-- a new slice. -/
def OwX {α : Type} (r : Rep α) (e : Nat) (w : World) (base : Nat) (v : Value) (l : List α) : Prop := w.ownsRow base e r.k v l.length (all r l)
section
variable {α : Type} {r : Rep α} {e : Nat} {w w1 : World} {base : Nat} {v : Value} {l : List α}
theorem OwX.nil (r : Rep α) (e : Nat) (w : World) (base : Nat) : OwX r e w base (.slice none 0 0) [] := ⟨by simp [all], .inl ⟨rfl, rfl⟩⟩
theorem OwX.reads (h : OwX r e w base v l) : ∃ x : Sl α, v = .slice x.at_ x.l.length x.cap ∧ x.l = l ∧ RdL r w x := by
  rcases h.2 with ⟨rfl, hn⟩ | ⟨g, cap, cur, rfl, hb, hg, hc, hm, hs, ht⟩
  · have : l = [] := List.length_eq_zero_iff.1 hn
    subst this
    exact ⟨⟨none, 0, []⟩, rfl, rfl, RdC.nil _ _, Nat.le_refl _, Nat.zero_le _, fun _ => rfl⟩
  · refine ⟨⟨some ⟨g, 0, none⟩, cap, l⟩, rfl, rfl, fun _ => ⟨_, rfl, fun j u hj => ?_⟩, hc, hm, fun h => by cases h⟩
    have hlt := (List.getElem?_eq_some_iff.1 hj).1
    rw [all_length] at hlt
    rw [show (⟨g, 0, none⟩ : Addr).add j = ⟨g, j, none⟩ from by unfold Addr.add; split <;> simp_all]
    rw [World.ownsRow.cellAt (cap := cap) h j hlt]
    exact hj
theorem OwX.lower {base' : Nat} (h : OwX r e w base v l) (hb : base' ≤ base) : OwX r e w base' v l := own_weaken h hb
theorem OwX.lt_ (h : OwX r e w base v l) (g : Nat) (hg : v.ownBlock = some g) : g < w.heap.size := (World.ownsRow.lt h g hg).2
theorem OwX.base_ (h : OwX r e w base v l) (g : Nat) (hg : v.ownBlock = some g) : base ≤ g := (World.ownsRow.lt h g hg).1
theorem OwX.move (h : OwX r e w base v l) (hm : ∀ g, v.ownBlock = some g → w1.heap[g]? = w.heap[g]?) : OwX r e w1 base v l := by
  refine ⟨h.1, ?_⟩
  rcases h.2 with h2 | ⟨g, cap, cur, rfl, hb, hg, q⟩
  · exact .inl h2
  · exact .inr ⟨g, cap, cur, rfl, hb, (hm g rfl).trans hg, q⟩
theorem OwX.below (h : OwX r e w base v l) (hb : Below w.heap.size w w1) : OwX r e w1 base v l := h.move fun g hg => hb.block g (h.lt_ g hg)
end
section
variable {α : Type} {r : Rep α} {P : Program} {ops : Array Oper} {rest : List Oper} {o : Oper} {a : Act} {Q : Exit → Act → World → Prop}
/-- append(v, x), x's literal in a block of its own, told by its number. -/
theorem append_any {w0 W : World} (base : Nat) (hgd : o.guard = none) (s x : Operand) (t e : TypeId) (z : Value) (bytes : Nat)
    (ho : o.op = .call { callee := .builtin .append, args := #[s, x], argTypes := #[t, t] })
    (ht : P.underlying t = some (.slice e)) (hinfo : (P.info? e).map (fun i => (i.zero, i.size, i.bytes)) = some (some z, r.k, bytes)) (hzs : z.cells.size = r.k) (hk : 0 < r.k)
    (v : Value) (l : List α) (y : α) (cs : Array Value) (hcs : cs = (r.enc y).toArray) (hs : a.eval s = v) (H : Nat) (hH : W.heap.size = H) (hx : a.eval x = .slice (some ⟨H, 0, none⟩) 1 1)
    (HO : OwX r e W base v l) (HB : Below base w0 W) (hbase : base ≤ W.heap.size) (hl : (l.length + 1) * bytes ≤ 140737488355328) (hl2 : l.length ≤ 1000000000000)
    (h : ∀ v1 w1, OwX r e w1 base v1 (l ++ [y]) → Below base w0 w1 → W.grownBy w1 v.ownBlock → wpList P ops Q rest (a.put o.dst v1) w1) :
    wpList P ops Q (o :: rest) a (W.alloc (.cells cs e)) := by
  subst hcs
  obtain ⟨i0, hi, hz0, hz1, hz2⟩ := info_parts hinfo
  refine wpList_append_lies _ hgd s x t ho base e i0 _ r.k bytes ht hi hz0 hz1 hz2 hzs hk v l.length (all r l) hs (HO.below (below_alloc (Below.refl _ _) _)) ⟨H, 0, none⟩ 1 1 (r.enc y) hx (by rw [r.len]; omega)
    (World.news_of_block (by rw [← hH]; exact heap_alloc_new W _)) (r.one y) (by decide) (by unfold maxLen; omega) hl (by simp; omega) (W.heap.size + 1) (by simp) ?_
  intro g cap w1 h1 h2 h3 h4
  have hg : W.grownBy w1 v.ownBlock := World.grownBy.trans (World.grownBy_alloc W _ v.ownBlock) h2
  refine h _ w1 ?_ (HB.grown hg hbase fun k hk => (World.ownsRow.lt HO k hk).1) hg
  unfold OwX
  rw [List.length_append, List.length_singleton, all_append]
  simpa [all] using h1
end
end Go.Proofs.YtjfekjbmgckkcaaGreatDoor.Rep

/- bits in bytes: one more bit; the first bits of bytes. No program in sight. -/
namespace Go.Proofs.YtjfekjbmgckkcaaGreatDoor.StreamPure
open Go.Proofs.YtjfekjbmgckkcaaGreatDoor.Bits

theorem bts_pack8 (l : List Bool) (h : l.length % 8 = 0) : bts (pack l) = l := by
  rw [bts_pack _ _ rfl, show (8 - l.length % 8) % 8 = 0 from by omega]
  simp
theorem pack_append8 (l t : List Bool) (h : l.length % 8 = 0) : pack (l ++ t) = pack l ++ pack t := by
  have := pack_bts_append (pack l) t
  rwa [bts_pack8 l h] at this
theorem pack_short (t : List Bool) (h0 : 0 < t.length) (h : t.length ≤ 8) : pack t = [byte (t ++ List.replicate (8 - t.length) false)] := by
  rw [pack_eq t (by rintro rfl; simp at h0), List.drop_of_length_le h, List.take_append, List.take_of_length_le h, List.take_replicate, Nat.min_eq_left (by omega)]
  rfl
/-- the bytes that are full, and what is behind them. -/
theorem split8 (l : List Bool) : l = l.take (8 * (l.length / 8)) ++ l.drop (8 * (l.length / 8)) ∧ (l.take (8 * (l.length / 8))).length = 8 * (l.length / 8) ∧ (l.drop (8 * (l.length / 8))).length = l.length % 8 := by
  refine ⟨(List.take_append_drop _ _).symm, ?_, ?_⟩
  · rw [List.length_take]; omega
  · rw [List.length_drop]; omega
/-- one more bit, at the beginning of a byte. -/
theorem pack_new (l : List Bool) (b : Bool) (h : l.length % 8 = 0) : pack (l ++ [b]) = pack l ++ [if b then 128 else 0] := by
  rw [pack_append8 l [b] h]
  cases b <;> rfl
/-- one more bit, within a byte. -/
theorem pack_more (l : List Bool) (b : Bool) (h : l.length % 8 ≠ 0) :
    ∃ c : UInt8, (pack l)[(pack l).length - 1]? = some c ∧ pack (l ++ [b]) = (pack l).set ((pack l).length - 1) (UInt8.ofNat (c.toNat ||| (if b then 2 ^ (7 - l.length % 8) else 0))) ∧ 0 < (pack l).length := by
  obtain ⟨h1, h2, h3⟩ := split8 l
  generalize l.take (8 * (l.length / 8)) = p at h1 h2
  generalize l.drop (8 * (l.length / 8)) = t at h1 h3
  have hp : p.length % 8 = 0 := by rw [h2]; omega
  have ht0 : 0 < t.length := by omega
  have ht8 : t.length < 8 := by omega
  have e1 : pack l = pack p ++ [byte (t ++ List.replicate (8 - t.length) false)] := by
    rw [h1, pack_append8 p t hp, pack_short t ht0 (by omega)]
  have e2 : pack (l ++ [b]) = pack p ++ [byte (t ++ [b] ++ List.replicate (7 - t.length) false)] := by
    rw [h1, List.append_assoc, pack_append8 p _ hp, pack_short (t ++ [b]) (by simp) (by simp; omega)]
    rw [List.length_append, List.length_singleton, show 8 - (t.length + 1) = 7 - t.length from by omega]
  have hl : (pack l).length - 1 = (pack p).length := by rw [e1]; simp
  refine ⟨byte (t ++ List.replicate (8 - t.length) false), ?_, ?_, ?_⟩
  · rw [hl, e1]; simp
  · rw [hl, e2, e1, List.set_append_right _ _ (Nat.le_refl _), Nat.sub_self, List.set_cons_zero]
    congr 2
    rw [← h3]
    have hv := val_lt t
    have ea : val (t ++ List.replicate (8 - t.length) false) = val t * 2 ^ (8 - t.length) := by rw [val_append, val_replicate]; simp
    have eb : val (t ++ [b] ++ List.replicate (7 - t.length) false) = val t * 2 ^ (8 - t.length) + (if b then 2 ^ (7 - t.length) else 0) := by
      rw [val_append, val_snoc, val_replicate, List.length_replicate, Nat.add_zero, Nat.add_mul, show 8 - t.length = (7 - t.length) + 1 from by omega, Nat.pow_succ]
      rw [Nat.mul_comm 2 (val t), Nat.mul_assoc, Nat.mul_comm 2 (2 ^ (7 - t.length))]
      cases b <;> simp
    have hlt : val t * 2 ^ (8 - t.length) < 256 := by
      have h5 : val t * 2 ^ (8 - t.length) < 2 ^ t.length * 2 ^ (8 - t.length) := Nat.mul_lt_mul_of_pos_right hv (Nat.two_pow_pos _)
      rw [← Nat.pow_add, show t.length + (8 - t.length) = 8 from by omega] at h5
      exact h5
    have hy : (if b then 2 ^ (7 - t.length) else 0) < 2 ^ (8 - t.length) := by
      cases b with
      | false => simp; exact Nat.two_pow_pos _
      | true => simp; exact Nat.pow_lt_pow_right (by decide) (by omega)
    have hx : (byte (t ++ List.replicate (8 - t.length) false)).toNat = val t * 2 ^ (8 - t.length) := by
      rw [byte, UInt8.toNat_ofNat', ea]; exact Nat.mod_eq_of_lt hlt
    rw [hx, nat_join (8 - t.length) _ _ (Nat.mul_mod_left _ _) hy, ← eb]
    rfl
  · rw [e1]; simp

/-! the first bits of bytes -/
theorem byte_mask : ∀ r, r < 8 → 0 < r → ∀ c : Fin 256, byte ((nb c.val 8).take r ++ List.replicate (8 - r) false) = UInt8.ofNat (c.val &&& (255 * 2 ^ (8 - r) % 256)) := by decide +kernel
theorem bts_take (l : List UInt8) (q : Nat) : (bts l).take (8 * q) = bts (l.take q) := by
  rcases Nat.lt_or_ge l.length q with h | h
  · rw [List.take_of_length_le (by rw [bts_length]; omega), List.take_of_length_le (by omega)]
  · conv => lhs; rw [← List.take_append_drop q l, bts_append]
    rw [List.take_append_of_le_length (by rw [bts_length, List.length_take]; omega), List.take_of_length_le (by rw [bts_length, List.length_take]; omega)]
theorem pack_take8 (l : List UInt8) (q : Nat) : pack ((bts l).take (8 * q)) = l.take q := by rw [bts_take, pack_bts]
theorem pack_take (l : List UInt8) (q r : Nat) (hr : r < 8) (h0 : 0 < r) (h : q < l.length) :
    pack ((bts l).take (8 * q + r)) = (l.take (q + 1)).set q (UInt8.ofNat (l[q].toNat &&& (255 * 2 ^ (8 - r) % 256))) := by
  have e : (bts l).take (8 * q + r) = bts (l.take q) ++ (bb l[q]).take r := by
    have h1 : l = l.take q ++ (l[q] :: l.drop (q + 1)) := by rw [← List.drop_eq_getElem_cons h, List.take_append_drop]
    have hl : (l.take q).length = q := by rw [List.length_take]; omega
    have h2 : bts l = bts (l.take q) ++ (bb l[q] ++ bts (l.drop (q + 1))) := by
      conv => lhs; rw [h1, bts_append, bts_cons]
    rw [h2, List.take_append, List.take_of_length_le (by rw [bts_length, hl]; omega), bts_length, hl]
    rw [show 8 * q + r - 8 * q = r from by omega, List.take_append_of_le_length (by rw [bb_length]; omega)]
  have hbl : ((bb l[q]).take r).length = r := by rw [List.length_take, bb_length]; omega
  rw [e, pack_bts_append, pack_short _ (by omega) (by omega), hbl]
  have := byte_mask r hr h0 ⟨l[q].toNat, l[q].toNat_lt⟩
  simp only at this
  rw [bb, this, List.take_succ_eq_append_getElem h, List.set_append_right _ _ (by rw [List.length_take]; omega), List.length_take]
  rw [show q - min q l.length = 0 from by omega, List.set_cons_zero]

/-! reading -/
theorem val_take_succ (l : List Bool) (k : Nat) (h : k < l.length) : val (l.take (k + 1)) = 2 * val (l.take k) + l[k].toNat := by
  rw [List.take_succ_eq_append_getElem h, val_snoc]
end Go.Proofs.YtjfekjbmgckkcaaGreatDoor.StreamPure
