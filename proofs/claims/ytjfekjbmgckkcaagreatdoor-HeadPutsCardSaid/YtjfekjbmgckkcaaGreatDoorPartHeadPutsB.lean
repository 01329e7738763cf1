/- what HeadPuts stands on, part 2: StreamA, StreamBit, StreamR, VarPure, LawBase, VarbitA, VarbitB, VarbitC, VarParse. -/
import Derived.Test.YtjfekjbmgckkcaaGreatDoorProg
import Derived.Test.YtjfekjbmgckkcaaGreatDoorPartHeadPutsA
import Derived.WalkSpells
import Derived.Lib.AppendZerosOnto
import Derived.Deep.QuietTactic
import Derived.BigQuiet
import Derived.RegionTactic
import Derived.Deep.RegionHeld3
import Derived.ProofKit
import Derived.LaidMore
import Derived.Lib.LaidTab
import Derived.Test.YtjfekjbmgckkcaaGreatDoorRows

/- stream's walks: right, size, Clone, first, NewWriter, Len, Bytes. -/
namespace Go.Proofs.YtjfekjbmgckkcaaGreatDoor.StreamA
open Go.RowKit Go.Proofs.YtjfekjbmgckkcaaGreatDoorW.PrintWords
open Go.Proofs.YtjfekjbmgckkcaaGreatDoor.Bits Go.Proofs.YtjfekjbmgckkcaaGreatDoor.Base Go.Proofs.YtjfekjbmgckkcaaGreatDoor.StreamPure

theorem info : (Tryz.prog.info? 5).map (fun i => (i.zero, i.size, i.bytes)) = some (some (.int .u8 0), 1, 1) := by kernel_rfl

set_option maxHeartbeats 400000 in
theorem size_calls (n : Nat) (w : World) (hn : n ≤ 4611686018427387904) :
    Calls Tryz.prog 141 #[.int .i64 n] w fun e w' => e = .returned (.int .i64 ((n + 7) / 8 : Nat)) ∧ w = w' := by
  go_enter Tryz.func141, Tryz.ntmps141
  go_wp2
  go_ret
  refine ⟨?_, rfl⟩
  go_num

set_option maxHeartbeats 400000 in
theorem right_calls (A : Option Addr) (n c : Nat) (k : Int) (w : World) (hn : n ≤ 1152921504606846975) :
    Calls Tryz.prog 68 #[.slice A n c, .int .i64 k] w fun e w' => e = .returned (.bool (decide (0 ≤ k ∧ k ≤ 8 * (n : Int)))) ∧ w = w' := by
  by_cases h0 : 0 ≤ k
  · have d1 : decide (k ≥ 0) = true := by simp; omega
    have d1' : decide (0 ≤ k) = true := by simp; omega
    by_cases h1 : k ≤ 8 * (n : Int)
    · have d2 : decide (k ≤ 8 * (n : Int)) = true := by simp; omega
      have hd : decide (0 ≤ k ∧ k ≤ 8 * (n : Int)) = true := by simp; omega
      rw [hd]
      go_enter Tryz.func68, Tryz.ntmps68
      go_wp2
      go_ret
      exact ⟨rfl, rfl⟩
    · have d2 : decide (k ≤ 8 * (n : Int)) = false := by simp; omega
      have hd : decide (0 ≤ k ∧ k ≤ 8 * (n : Int)) = false := by simp; omega
      rw [hd]
      go_enter Tryz.func68, Tryz.ntmps68
      go_wp2
      go_ret
      exact ⟨rfl, rfl⟩
  · have d1 : decide (k ≥ 0) = false := by simp; omega
    have d1' : decide (0 ≤ k) = false := by simp; omega
    have hd : decide (0 ≤ k ∧ k ≤ 8 * (n : Int)) = false := by simp; omega
    rw [hd]
    go_enter Tryz.func68, Tryz.ntmps68
    go_wp2
    go_ret
    exact ⟨rfl, rfl⟩

set_option maxHeartbeats 400000 in
theorem clone_calls (A : Option Addr) (c : Nat) (l : List UInt8) (w : World) (hr : RdB w A l) (hm : l.length ≤ 140737488355328) (hc : l.length ≤ c) (hn : A = none → c = 0) :
    Calls Tryz.prog 84 #[.slice A l.length c] w fun e w' => ∃ v, e = .returned v ∧ OwB 5 w' w.heap.size v l ∧ Below w.heap.size w w' := by
  have HR := Lib.hid hr
  clear hr
  cases A with
  | none =>
    have hc0 := hn rfl
    have hl : l = [] := List.length_eq_zero_iff.1 (by omega)
    subst hl
    subst hc0
    clear hc hn
    have hnil := fun w => Lib.run_eql_slice_nil (P := Tryz.prog) w 51 5 none 0 0 0 0 Tryz.underlying51
    go_enter Tryz.func84, Tryz.ntmps84
    go_wp2
    go_ret
    exact ⟨_, rfl, OwI.nil _ _ _ _, Below.refl _ _⟩
  | some ad =>
    clear hn
    have hnil := fun w => Lib.run_eql_slice_nil (P := Tryz.prog) w 51 5 (some ad) l.length c 0 0 Tryz.underlying51
    go_enter Tryz.func84, Tryz.ntmps84
    go_wp2_with (at_builtin; refine print_append_row (w0 := w) w.heap.size rfl _ _ 51 5 .u8 1 rfl Tryz.underlying51 info (by decide) _ [] (ints l) (some ad) l.length c rfl rfl ?c1 ?c2 ?c3 ?c4 ?c5 ?_)
    case c1 => exact own_lit w w.heap.size 5 .u8 [] (Nat.le_refl _) (by decide)
    case c2 => have := HR.out.alloc (.cells #[] 5); unfold RdI at this; rw [ints_length] at this; exact this
    case c3 => exact below_alloc (Below.refl _ _) _
    case c4 => simp
    case c5 => simp; omega
    intro v1 w1 ho hb _ _
    go_wp2
    go_ret
    exact ⟨_, rfl, by simpa [OwI] using ho, hb⟩

theorem and_mask (x : UInt8) (r : Nat) : Go.bits .and .u8 (x.toNat : Int) (255 * 2 ^ (8 - r) % 256) = ((UInt8.ofNat (x.toNat &&& (255 * 2 ^ (8 - r) % 256))).toNat : Int) := by
  have h1 : (255 * 2 ^ (8 - r) % 256 : Int) = ((255 * 2 ^ (8 - r) % 256 : Nat) : Int) := by simp
  have h2 : 255 * 2 ^ (8 - r) % 256 < 256 := Nat.mod_lt _ (by decide)
  rw [h1, u8_and_nat _ _ x.toNat_lt h2, UInt8.toNat_ofNat', Nat.mod_eq_of_lt (Nat.lt_of_le_of_lt Nat.and_le_left x.toNat_lt)]
/-- what is cut off: so many bytes. -/
theorem cut_take {w : World} {A : Option Addr} {l : List UInt8} (h : RdB w A l) (k : Nat) : RdB w A (l.take k) := by rw [RdB, ints_take]; exact RdI.take h k

set_option maxHeartbeats 800000 in
theorem first_calls (A : Option Addr) (c n : Nat) (l : List UInt8) (w : World) (hr : RdB w A l) (hm : l.length ≤ 140737488355328) (hc : l.length ≤ c) (hA : A = none → c = 0) (hn : n ≤ 8 * l.length) :
    Calls Tryz.prog 69 #[.slice A l.length c, .int .i64 n] w fun e w' => ∃ v, e = .returned v ∧ OwB 5 w' w.heap.size v (pack ((bts l).take n)) ∧ Below w.heap.size w w' := by
  obtain ⟨q, r, hq, hr8⟩ : ∃ q r, n = 8 * q + r ∧ r < 8 := ⟨n / 8, n % 8, by omega, by omega⟩
  rcases Nat.eq_zero_or_pos r with h0 | h0
  · subst h0
    simp only [Nat.add_zero] at hq
    subst hq
    have hl : (l.take q).length = q := by rw [List.length_take]; omega
    have hp := pack_take8 l q
    have h1 := clone_calls A c (l.take q) w (cut_take hr q) (by omega) (by omega) hA
    rw [hl] at h1
    have H1 := Lib.hid h1
    have hs := size_calls (8 * q) w (by omega)
    rw [show (8 * q + 7) / 8 = q from by omega] at hs
    have HS := Lib.hid hs
    have HP := Lib.hid hp
    have hd : decide (((8 * q : Nat) : Int) % 8 > 0) = false := by simp
    have hd' : decide (0 < ((8 * q : Nat) : Int) % 8) = false := by simp
    clear h1 hs hr hA hp hl
    go_enter Tryz.func69, Tryz.ntmps69
    go_wp2_with (fail)
    refine HS.out.mono ?_
    rintro e w' ⟨rfl, rfl⟩
    go_wp2_with (fail)
    refine H1.out.mono ?_
    rintro e w1 ⟨v, rfl, ho, hb⟩
    go_wp2
    go_ret
    exact ⟨v, rfl, by rw [HP.out]; exact ho, hb⟩
  · have hql : q < l.length := by omega
    have hl : (l.take (q + 1)).length = q + 1 := by rw [List.length_take]; omega
    have hp := pack_take l q r hr8 h0 hql
    have h1 := clone_calls A c (l.take (q + 1)) w (cut_take hr (q + 1)) (by omega) (by omega) hA
    rw [hl] at h1
    have H1 := Lib.hid h1
    have hs := size_calls n w (by omega)
    rw [show (n + 7) / 8 = q + 1 from by omega] at hs
    have HS := Lib.hid hs
    have HP := Lib.hid hp
    rw [hq] at HS ⊢
    have hd : decide (((8 * q + r : Nat) : Int) % 8 > 0) = true := by simp; omega
    have hd' : decide (0 < ((8 * q + r : Nat) : Int) % 8) = true := by simp; omega
    have hqc : (q : Int) + 1 ≤ (c : Int) := by omega
    have HL := Lib.hid hl
    clear h1 hs hr hA hp hl
    go_enter Tryz.func69, Tryz.ntmps69
    go_wp2_with (fail)
    refine HS.out.mono ?_
    rintro e w' ⟨rfl, rfl⟩
    go_wp2_with (fail)
    refine H1.out.mono ?_
    rintro e w1 ⟨v, rfl, ho, hb⟩
    obtain ⟨g, cc, rfl, hg, hgs, hcc⟩ := OwI.form ho (by rw [ints_length, HL.out]; omega)
    rw [show (ints (l.take (q + 1))).length = q + 1 from by rw [ints_length, HL.out]] at ho hcc ⊢
    have hat := ho.at_ q (by rw [HL.out]; omega)
    obtain ⟨x, hx⟩ : ∃ x, x = l[q] := ⟨_, rfl⟩
    rw [List.getElem_take, ← hx] at hat
    obtain ⟨hat1, hat2⟩ := hat
    have hx8 := x.toNat_lt
    have HX := Lib.hid hx
    have HO := Lib.hid ho
    have HB := Lib.hid hb
    clear hx hb
    have hmod : (8 * (q : Int) + (r : Int)) % 8 = r := by omega
    have hm8 := and_mask x r
    obtain ⟨y, hy⟩ : ∃ y, y = UInt8.ofNat (x.toNat &&& (255 * 2 ^ (8 - r) % 256)) := ⟨_, rfl⟩
    rw [← hy] at hm8
    have HM := Lib.hid hm8
    have HY := Lib.hid hy
    clear hm8 hy
    go_wp2_with (fail)
    go_region
    rw [HM.out]
    go_wp2
    go_ret
    refine ⟨_, rfl, ?_, below_drew (HB.out.setCell hg _)⟩
    rw [HP.out, ← HX.out, ← HY.out]
    exact HO.out.set q y

theorem blk_last (w : World) (o : Obj) : (w.alloc o).heap[w.heap.size]? = some o := by
  simp [World.alloc, -World.alloc_eq]
/-- where a walk stops. -/
theorem stop_here {p : Prop} (h : Hid p) : p := h.out
/-- a block's cell, by its number. -/
theorem obj_cell {w : World} {g : Nat} {cs : Array Value} {t i : Nat} {v : Value} (h : w.heap[g]? = some (.cells cs t (0, 0))) (hi : cs[i]? = some v) : w.cell? ⟨g, i, none⟩ = some v := by
  simp [World.cell?, h, hi]
theorem obj_free {w : World} {g : Nat} {cs : Array Value} {t i : Nat} (h : w.heap[g]? = some (.cells cs t (0, 0))) : w.frozen? ⟨g, i, none⟩ = false := by
  simp [World.frozen?, h]

/-! ### a writer: its own block, and that of its bytes -/
def Wr (w : World) (g : Nat) (S : Nat → Prop) (l : List Bool) : Prop :=
  ∃ v, w.heap[g]? = some (.cells #[v, .int .i64 l.length] 117 (0, 0)) ∧ OwB 5 w 0 v (pack l) ∧ v.ownBlock ≠ some g ∧ ∀ k, S k ↔ k = g ∨ v.ownBlock = some k
theorem Wr.self {w : World} {g : Nat} {S : Nat → Prop} {l : List Bool} (h : Wr w g S l) : S g := by
  obtain ⟨v, _, _, _, hs⟩ := h
  exact (hs g).2 (.inl rfl)
theorem Wr.old {w : World} {g : Nat} {S : Nat → Prop} {l : List Bool} (h : Wr w g S l) : ∀ k, S k → k < w.heap.size := by
  obtain ⟨v, hg, ho, _, hs⟩ := h
  intro k hk
  rcases (hs k).1 hk with rfl | hk
  · exact blk_lt hg
  · exact ho.lt_ k hk
/-- what turns nothing of it leaves it. -/
theorem Wr.ch {S' : Nat → Prop} {w w' : World} {g : Nat} {S : Nat → Prop} {l : List Bool} (h : Wr w g S l) (hc : Ch S' w w') (hs : ∀ k, S k → ¬ S' k) : Wr w' g S l := by
  obtain ⟨v, hg, ho, hn, hS⟩ := h
  exact ⟨v, hc.blk hg (hs g ((hS g).2 (.inl rfl))), ho.ch hc fun k hk => hs k ((hS k).2 (.inr hk)), hn, hS⟩
theorem Wr.below {w w' : World} {g : Nat} {S : Nat → Prop} {l : List Bool} (h : Wr w g S l) (hb : Below w.heap.size w w') : Wr w' g S l :=
  h.ch (Ch.of_below (S := fun _ => False) hb) fun _ _ hf => hf
theorem Wr.drew {w : World} {g : Nat} {S : Nat → Prop} {l : List Bool} (h : Wr w g S l) : Wr w.drew g S l := h
theorem Wr.max {w : World} {g : Nat} {S : Nat → Prop} {l : List Bool} (h : Wr w g S l) : (pack l).length ≤ 9223372036854775807 := by
  obtain ⟨v, _, ho, _, _⟩ := h
  have := ho.max
  rwa [ints_length] at this

set_option maxHeartbeats 400000 in
theorem len_calls (g : Nat) (S : Nat → Prop) (l : List Bool) (w : World) (h : Wr w g S l) :
    Calls Tryz.prog 21 #[.pointer (some ⟨g, 0, none⟩)] w fun e w' => e = .returned (.int .i64 l.length) ∧ w = w' := by
  obtain ⟨v, hg, -, -, -⟩ := h
  have c1 := obj_cell (i := 1) hg rfl
  go_enter Tryz.func21, Tryz.ntmps21
  go_wp2
  go_ret
  exact ⟨rfl, rfl⟩

set_option maxHeartbeats 400000 in
theorem bytes_calls (g : Nat) (S : Nat → Prop) (l : List Bool) (w : World) (h : Wr w g S l) (hm : l.length ≤ 1000000000000) :
    Calls Tryz.prog 26 #[.pointer (some ⟨g, 0, none⟩)] w fun e w' => ∃ v, e = .returned v ∧ OwB 5 w' w.heap.size v (pack l) ∧ Below w.heap.size w w' := by
  obtain ⟨v, hg, ho, -, -⟩ := h
  obtain ⟨A, c, rfl, hc, hr⟩ := ho.reads
  have c1 := obj_cell (i := 0) hg rfl
  have hA : A = none → c = 0 := by
    rintro rfl
    rcases ho.2 with ⟨he, _⟩ | ⟨_, _, _, he, _⟩
    · injection he
    · injection he with he; cases he
  have H := Lib.hid (clone_calls A c (pack l) w hr (by rw [pack_length]; omega) hc hA)
  clear hr hA ho
  go_enter Tryz.func26, Tryz.ntmps26
  go_wp2_with (fail)
  refine H.out.mono ?_
  rintro e w1 ⟨v, rfl, ho, hb⟩
  go_wp2
  go_ret
  exact ⟨v, rfl, ho, hb⟩

set_option maxHeartbeats 800000 in
theorem newWriter_calls (A : Option Addr) (c n : Nat) (l : List UInt8) (w : World) (hr : RdB w A l) (hm : l.length ≤ 140737488355328) (hc : l.length ≤ c) (hA : A = none → c = 0) (hn : n ≤ 8 * l.length) :
    Calls Tryz.prog 13 #[.slice A l.length c, .int .i64 n] w fun e w' => ∃ g S, e = .returned (.tuple #[.pointer (some ⟨g, 0, none⟩), .int .i64 0]) ∧ Wr w' g S ((bts l).take n) ∧ (∀ k, S k → w.heap.size ≤ k) ∧ Below w.heap.size w w' := by
  have h1 := right_calls A l.length c n w (by omega)
  rw [decide_eq_true (show 0 ≤ (n : Int) ∧ (n : Int) ≤ 8 * (l.length : Int) by omega)] at h1
  have H1 := Lib.hid h1
  have H2 := Lib.hid (first_calls A c n l w hr hm hc hA hn)
  have HL := Lib.hid (show ((bts l).take n).length = n by rw [List.length_take, bts_length]; omega)
  clear h1 hr hA
  go_enter Tryz.func13, Tryz.ntmps13
  go_wp2_with (fail)
  refine H1.out.mono ?_
  rintro e w' ⟨rfl, rfl⟩
  go_wp2_with (fail)
  refine H2.out.mono ?_
  rintro e w1 ⟨v, rfl, ho, hb⟩
  have hsz := hb.size
  obtain ⟨D, d, rfl, -, -⟩ := ho.reads
  have HO := Lib.hid ho
  have HB := Lib.hid hb
  clear ho hb
  go_wp2
  go_ret2
  refine ⟨w1.heap.size, fun k => k = w1.heap.size ∨ (Value.slice D (pack ((bts l).take n)).length d).ownBlock = some k, rfl, ⟨_, by rw [HL.out]; exact blk_last _ _, (HO.out.below (below_alloc (Below.refl _ _) _)).lower (Nat.zero_le _), ?_, fun k => Iff.rfl⟩, ?_, below_alloc HB.out _⟩
  · intro h
    have := HO.out.lt_ _ h
    omega
  · rintro k (rfl | hk)
    · exact hsz
    · exact HO.out.base_ _ hk

set_option maxHeartbeats 800000 in
theorem newWriter_bad (A : Option Addr) (c n : Nat) (k : Int) (w : World) (hm : n ≤ 140737488355328) (hk : k < 0 ∨ 8 * (n : Int) < k) :
    Calls Tryz.prog 13 #[.slice A n c, .int .i64 k] w fun e w' => e = .returned (.tuple #[.pointer none, .int .i64 11]) ∧ w = w' := by
  have h1 := right_calls A n c k w (by omega)
  rw [decide_eq_false (show ¬ (0 ≤ k ∧ k ≤ 8 * (n : Int)) by omega)] at h1
  have H1 := Lib.hid h1
  clear h1 hk
  go_enter Tryz.func13, Tryz.ntmps13
  go_wp2_with (fail)
  refine H1.out.mono ?_
  rintro e w' ⟨rfl, rfl⟩
  go_wp2
  go_ret2
  exact ⟨rfl, rfl⟩

/-- a writer that has grown. -/
theorem Wr.grow {w w2 : World} {g : Nat} {S : Nat → Prop} {l' : List Bool} {v v1 : Value} (hS : ∀ k, S k ↔ k = g ∨ v.ownBlock = some k) (hg : g < w.heap.size)
    (hat : v1.ownBlock = v.ownBlock ∨ ∃ b, v1.ownBlock = some b ∧ w.heap.size ≤ b) (hn : v.ownBlock ≠ some g)
    (hg2 : w2.heap[g]? = some (.cells #[v1, .int .i64 l'.length] 117 (0, 0))) (ho2 : OwB 5 w2 0 v1 (pack l')) (hc : Ch S w w2) :
    Upd (fun w S => Wr w g S l') S w w2 := by
  refine ⟨fun k => k = g ∨ v1.ownBlock = some k, ⟨v1, hg2, ho2, ?_, fun k => Iff.rfl⟩, ?_, hc⟩
  · intro h
    rcases hat with he | ⟨b, hb, hbs⟩
    · exact hn (he ▸ h)
    · rw [hb] at h
      injection h with h
      omega
  · rintro k (rfl | hk)
    · exact .inl ((hS _).2 (.inl rfl))
    · rcases hat with he | ⟨b, hb, hbs⟩
      · exact .inl ((hS _).2 (.inr (he ▸ hk)))
      · rw [hb] at hk
        injection hk with hk
        exact .inr (by omega)

end Go.Proofs.YtjfekjbmgckkcaaGreatDoor.StreamA

/- stream's walks: one more bit. -/
namespace Go.Proofs.YtjfekjbmgckkcaaGreatDoor.StreamBit
open Go.RowKit Go.Proofs.YtjfekjbmgckkcaaGreatDoorW.PrintWords
open Go.Proofs.YtjfekjbmgckkcaaGreatDoor.Bits Go.Proofs.YtjfekjbmgckkcaaGreatDoor.Base Go.Proofs.YtjfekjbmgckkcaaGreatDoor.StreamPure Go.Proofs.YtjfekjbmgckkcaaGreatDoor.StreamA

theorem or_bit (y : UInt8) (r : Nat) (hr : r < 8) : Go.bits .or .u8 (y.toNat : Int) (2 ^ (7 - r) % 256) = ((UInt8.ofNat (y.toNat ||| 2 ^ (7 - r))).toNat : Int) := by
  have hp8 : 2 ^ (7 - r) < 256 := Nat.lt_of_le_of_lt (Nat.pow_le_pow_right (by decide) (show 7 - r ≤ 7 from by omega)) (by decide)
  have h1 : ((2 : Int) ^ (7 - r) % 256) = ((2 ^ (7 - r) : Nat) : Int) := by
    rw [Int.natCast_pow]
    have : ((2 ^ (7 - r) : Nat) : Int) < 256 := by omega
    rw [Int.natCast_pow] at this
    have h0 : (0 : Int) ≤ 2 ^ (7 - r) := Int.pow_nonneg (by decide)
    exact Int.emod_eq_of_lt h0 this
  rw [h1, u8_or_nat _ _ y.toNat_lt hp8, UInt8.toNat_ofNat', Nat.mod_eq_of_lt (Nat.or_lt_two_pow (n := 8) y.toNat_lt hp8)]

set_option maxHeartbeats 800000 in
theorem bit_new (g : Nat) (S : Nat → Prop) (l : List Bool) (b : Bool) (w : World) (h : Wr w g S l) (hm : l.length ≤ 1000000000000) (h8 : l.length % 8 = 0) :
    Calls Tryz.prog 16 #[.pointer (some ⟨g, 0, none⟩), .bool b] w fun e w' => e = .returned (.tuple #[]) ∧ Upd (fun w S => Wr w g S (l ++ [b])) S w w' := by
  have HP := Lib.hid (pack_new l b h8)
  obtain ⟨v, hg, ho, hn, hS⟩ := h
  obtain ⟨A, c, rfl, -, -⟩ := ho.reads
  have hpl : (pack l).length ≤ 1000000000000 := by rw [pack_length]; omega
  have hil := ints_length (pack l)
  obtain ⟨m, hmm⟩ : ∃ m, m = (pack l).length := ⟨_, rfl⟩
  rw [← hmm] at hg ho hn hS hpl hil
  have c0 : w.cell? ⟨g, 0, none⟩ = some (.slice A m c) := obj_cell hg rfl
  have c1 : w.cell? ⟨g, 1, none⟩ = some (.int .i64 l.length) := obj_cell hg rfl
  have f0 : w.frozen? ⟨g, 0, none⟩ = false := obj_free hg
  have f1 : w.frozen? ⟨g, 1, none⟩ = false := obj_free hg
  have hm8 : (l.length : Int) % 8 = 0 := by omega
  have d1 : ((l.length : Int) % 8 == 0) = true := by rw [hm8]; rfl
  have HM := Lib.hid hmm
  have HO := Lib.hid ho
  have HS := Lib.hid hS
  have HN := Lib.hid hn
  have HG := Lib.hid hg
  have HIL := Lib.hid hil
  clear ho hS hn hg hm8 hmm hil
  have HK : ∀ w1 D d, Hid (w.grownBy w1 (Value.slice A m c).ownBlock) → Hid ((Value.slice D (m + 1) d).ownBlock = (Value.slice A m c).ownBlock ∨ ∃ k, (Value.slice D (m + 1) d).ownBlock = some k ∧ w.heap.size ≤ k) → (Value.slice D (m + 1) d).ownBlock ≠ some g := by
    rintro w1 D d - h1 h2
    rcases h1.out with h3 | ⟨k, h3, h4⟩
    · exact HN.out (h3 ▸ h2)
    · rw [h3] at h2
      injection h2 with h2
      have := blk_lt HG.out
      omega
  cases b with
  | false =>
    go_enter Tryz.func16, Tryz.ntmps16
    go_wp2_with (at_builtin; refine append_one (w0 := w) 0 rfl (.tmp 16) (.tmp 17) 51 5 .u8 1 rfl Tryz.underlying51 info (by decide) (.slice A m c) (ints (pack l)) 0 rfl rfl HO.out (Below.refl _ _) (Nat.zero_le _) (by rw [HIL.out]; omega) ?_; intro v1 w1 ho1 hb1 hg1 hat1; refine stop_here ?_)
    refine Lib.hid ?_
    have hG1 := (hg1.block g (blk_lt HG.out) HN.out.symm).trans HG.out
    clear c0 c1 f0 f1
    have c0 : w1.cell? ⟨g, 0, none⟩ = some (.slice A m c) := obj_cell hG1 rfl
    have c1 : w1.cell? ⟨g, 1, none⟩ = some (.int .i64 l.length) := obj_cell hG1 rfl
    have f0 : w1.frozen? ⟨g, 0, none⟩ = false := obj_free hG1
    have f1 : w1.frozen? ⟨g, 1, none⟩ = false := obj_free hG1
    have ho2 : OwB 5 w1 0 v1 (pack l ++ [0]) := by unfold OwB; rw [ints_append]; exact ho1
    obtain ⟨D, d, he, -, -⟩ := ho2.reads
    rw [List.length_append, List.length_singleton, ← HM.out] at he
    subst he
    have hn1 := HK w1 D d (Lib.hid hg1) (Lib.hid hat1)
    have HG1 := Lib.hid hG1
    have HO1 := Lib.hid ho2
    have HGR := Lib.hid hg1
    have HAT := Lib.hid hat1
    have HN1 := Lib.hid hn1
    clear ho1 ho2 hb1 hg1 hat1 hG1 hn1 HK
    go_wp2
    go_end0
    refine ⟨rfl, Wr.grow (v1 := .slice D (m + 1) d) HS.out (blk_lt HG.out) HAT.out HN.out ?_ ?_ ?_⟩
    · rw [blk_set (blk_set HG1.out _ _) _ _, List.length_append]
      rfl
    · rw [HP.out]
      exact OwI.far (OwI.far HO1.out HN1.out _) HN1.out _
    · exact (((Ch.refl S w).grown HGR.out (fun k hk => .inl ((HS.out k).2 (.inr hk)))).setCell (.inl ((HS.out g).2 (.inl rfl))) _).setCell (.inl ((HS.out g).2 (.inl rfl))) _
  | true =>
    go_enter Tryz.func16, Tryz.ntmps16
    go_wp2_with (at_builtin; refine append_one (w0 := w) 0 rfl (.tmp 16) (.tmp 17) 51 5 .u8 1 rfl Tryz.underlying51 info (by decide) (.slice A m c) (ints (pack l)) 0 rfl rfl HO.out (Below.refl _ _) (Nat.zero_le _) (by rw [HIL.out]; omega) ?_; intro v1 w1 ho1 hb1 hg1 hat1; refine stop_here ?_)
    refine Lib.hid ?_
    have hG1 := (hg1.block g (blk_lt HG.out) HN.out.symm).trans HG.out
    clear c0 c1 f0 f1
    have c0 : w1.cell? ⟨g, 0, none⟩ = some (.slice A m c) := obj_cell hG1 rfl
    have c1 : w1.cell? ⟨g, 1, none⟩ = some (.int .i64 l.length) := obj_cell hG1 rfl
    have f0 : w1.frozen? ⟨g, 0, none⟩ = false := obj_free hG1
    have f1 : w1.frozen? ⟨g, 1, none⟩ = false := obj_free hG1
    have ho2 : OwB 5 w1 0 v1 (pack l ++ [0]) := by unfold OwB; rw [ints_append]; exact ho1
    obtain ⟨D, d, he, -, -⟩ := ho2.reads
    rw [List.length_append, List.length_singleton, ← HM.out] at he
    subst he
    have hn1 := HK w1 D d (Lib.hid hg1) (Lib.hid hat1)
    have HG1 := Lib.hid hG1
    have HO1 := Lib.hid ho2
    have HGR := Lib.hid hg1
    have HAT := Lib.hid hat1
    obtain ⟨gb, cb, he, -, hgb, -⟩ := OwI.form ho2 (by simp [ints])
    injection he with he1 he2 he3
    subst he1
    have hne : gb ≠ g := by rintro rfl; exact hn1 rfl
    have ho3 := OwI.far (p := ⟨g, 0, none⟩) ho2 hn1 (.slice (some ⟨gb, 0, none⟩) (m + 1) d)
    obtain ⟨x1, x2⟩ := OwB.at_ ho3 m (by rw [List.length_append, ← HM.out]; simp)
    have hx0 : ((pack l ++ [0])[m]'(by rw [List.length_append, ← HM.out]; simp)) = 0 := by
      simp [HM.out]
    rw [hx0] at x1
    have HN1 := Lib.hid hn1
    have HO3 := Lib.hid ho3
    have r8 : l.length % 8 = 0 := h8
    have HB : Hid (S gb ∨ w.heap.size ≤ gb) := by
      rcases hat1 with h | ⟨k, h, h2⟩
      · exact .inl ((HS.out gb).2 (.inr h.symm))
      · have h3 : some gb = some k := h
        injection h3 with h3
        exact .inr (by omega)
    clear ho1 ho2 hb1 hg1 hat1 hG1 hn1 HK ho3 he2 he3 hx0 r8 h8
    have hm7 : (7 : Int) - (l.length : Int) % 8 = 7 := by have := of_decide_eq_true d1; omega
    have hor : Go.bits .or .u8 0 128 = ((128 : UInt8).toNat : Int) := by decide
    have HOR := Lib.hid hor
    clear hor
    go_wp2
    go_region
    rw [HOR.out]
    go_wp2
    go_end0
    refine ⟨rfl, Wr.grow (v1 := .slice (some ⟨gb, 0, none⟩) (m + 1) d) HS.out (blk_lt HG.out) HAT.out HN.out ?_ ?_ ?_⟩
    · rw [List.length_append]
      refine blk_set (cs := #[.slice (some ⟨gb, 0, none⟩) (m + 1) d, .int .i64 l.length]) ?_ 1 _
      refine (Below.heap_setCell _ _ _ g (fun h => hne h.symm)).trans ?_
      exact blk_set HG1.out 0 _
    · rw [HP.out, if_pos trivial]
      have h5 := OwB.set HO3.out m 128
      rw [List.set_append_right _ _ (by rw [← HM.out]; exact Nat.le_refl _), ← HM.out, Nat.sub_self, List.set_cons_zero] at h5
      exact OwI.drew (OwI.far h5 HN1.out _)
    · exact (((((Ch.refl S w).grown HGR.out (fun k hk => .inl ((HS.out k).2 (.inr hk)))).setCell (.inl ((HS.out g).2 (.inl rfl))) _).setCell (HB.out) _).setCell (.inl ((HS.out g).2 (.inl rfl))) _).drew

set_option maxHeartbeats 800000 in
theorem bit_more (g : Nat) (S : Nat → Prop) (l : List Bool) (b : Bool) (w : World) (h : Wr w g S l) (hm : l.length ≤ 1000000000000) (h8 : l.length % 8 ≠ 0) :
    Calls Tryz.prog 16 #[.pointer (some ⟨g, 0, none⟩), .bool b] w fun e w' => e = .returned (.tuple #[]) ∧ Upd (fun w S => Wr w g S (l ++ [b])) S w w' := by
  obtain ⟨y, hy1, hy2, hp0⟩ := pack_more l b h8
  obtain ⟨v, hg, ho, hn, hS⟩ := h
  obtain ⟨gb, c, rfl, -, -⟩ := OwI.form ho (by rw [ints_length]; exact hp0)
  have hpl : (pack l).length ≤ 1000000000000 := by rw [pack_length]; omega
  have hyy : (pack l)[(pack l).length - 1] = y := (List.getElem?_eq_some_iff.1 hy1).2
  obtain ⟨x1, x2⟩ := OwB.at_ (by rwa [ints_length] at ho) ((pack l).length - 1) (by omega)
  rw [hyy] at x1
  rw [ints_length] at hg ho hn hS
  obtain ⟨m, hmm⟩ : ∃ m, m + 1 = (pack l).length := ⟨(pack l).length - 1, by omega⟩
  rw [← hmm] at hg ho hn hS hpl x1 x2 hy2
  rw [Nat.add_sub_cancel] at x1 x2 hy2
  have hne : gb ≠ g := by rintro rfl; exact hn rfl
  have c0 : w.cell? ⟨g, 0, none⟩ = some (.slice (some ⟨gb, 0, none⟩) (m + 1) c) := obj_cell hg rfl
  have c1 : w.cell? ⟨g, 1, none⟩ = some (.int .i64 l.length) := obj_cell hg rfl
  have f0 : w.frozen? ⟨g, 0, none⟩ = false := obj_free hg
  have f1 : w.frozen? ⟨g, 1, none⟩ = false := obj_free hg
  have d1 : ((l.length : Int) % 8 == 0) = false := by rw [beq_eq_false_iff_ne]; omega
  have hor := or_bit y (l.length % 8) (by omega)
  have hy8 := y.toNat_lt
  have HM := Lib.hid hmm
  have HO := Lib.hid ho
  have HS := Lib.hid hS
  have HN := Lib.hid hn
  have HG := Lib.hid hg
  have HP := Lib.hid hy2
  have HOR := Lib.hid hor
  have HY := Lib.hid (show (pack l).set m y = pack l by
    have hml : m < (pack l).length := by omega
    have : y = (pack l)[m] := by rw [← hyy]; congr 1; omega
    rw [this]
    exact List.set_getElem_self hml)
  clear ho hS hn hg hmm hy1 hy2 hyy hp0 hor
  cases b with
  | false =>
    go_enter Tryz.func16, Tryz.ntmps16
    go_wp2
    go_end0
    have e : UInt8.ofNat (y.toNat ||| (if false = true then 2 ^ (7 - l.length % 8) else 0)) = y := by simp
    refine ⟨rfl, Wr.grow (v1 := .slice (some ⟨gb, 0, none⟩) (m + 1) c) HS.out (blk_lt HG.out) (.inl rfl) HN.out ?_ ?_ ?_⟩
    · rw [blk_set HG.out _ _, List.length_append]
      rfl
    · rw [HP.out, e, HY.out]
      exact OwI.far HO.out HN.out _
    · exact (Ch.refl S w).setCell (.inl ((HS.out g).2 (.inl rfl))) _
  | true =>
    rw [if_pos rfl] at HP
    obtain ⟨z, hz⟩ : ∃ z, z = UInt8.ofNat (y.toNat ||| 2 ^ (7 - l.length % 8)) := ⟨_, rfl⟩
    rw [← hz] at HP HOR
    clear hz
    go_enter Tryz.func16, Tryz.ntmps16
    go_wp2
    go_region
    rw [HOR.out]
    go_wp2
    go_end0
    refine ⟨rfl, Wr.grow (v1 := .slice (some ⟨gb, 0, none⟩) (m + 1) c) HS.out (blk_lt HG.out) (.inl rfl) HN.out ?_ ?_ ?_⟩
    · rw [List.length_append]
      refine blk_set (cs := #[.slice (some ⟨gb, 0, none⟩) (m + 1) c, .int .i64 l.length]) ?_ 1 _
      exact (Below.heap_setCell _ _ _ g (fun h => hne h.symm)).trans HG.out
    · rw [HP.out]
      exact OwI.drew (OwI.far (OwB.set HO.out m _) HN.out _)
    · exact (((Ch.refl S w).setCell (.inl ((HS.out gb).2 (.inr rfl))) _).setCell (.inl ((HS.out g).2 (.inl rfl))) _).drew

theorem bit_calls (g : Nat) (S : Nat → Prop) (l : List Bool) (b : Bool) (w : World) (h : Wr w g S l) (hm : l.length ≤ 1000000000000) :
    Calls Tryz.prog 16 #[.pointer (some ⟨g, 0, none⟩), .bool b] w fun e w' => e = .returned (.tuple #[]) ∧ Upd (fun w S => Wr w g S (l ++ [b])) S w w' := by
  by_cases h8 : l.length % 8 = 0
  · exact bit_new g S l b w h hm h8
  · exact bit_more g S l b w h hm h8

/-- a bit of a number, as the walk has it. -/
theorem bit_u64 (v k : Nat) (hv : v < 18446744073709551616) : (Go.bits .and .u64 ((v : Int) / 2 ^ k) 1 == 1) = v.testBit k := by
  have h1 : (v : Int) / 2 ^ k = ((v / 2 ^ k : Nat) : Int) := by simp
  rw [h1]
  have h2 : v / 2 ^ k < 18446744073709551616 := Nat.lt_of_le_of_lt (Nat.div_le_self _ _) hv
  have h3 : Go.bits .and .u64 ((v / 2 ^ k : Nat) : Int) ((1 : Nat) : Int) = ((v / 2 ^ k &&& 1 : Nat) : Int) := u64_and_nat _ _ h2 (by decide)
  rw [show (1 : Int) = ((1 : Nat) : Int) from rfl, h3, Nat.and_one_is_mod, Nat.testBit_eq_decide_div_mod_eq]
  generalize v / 2 ^ k % 2 = y
  rw [Bool.eq_iff_iff, beq_iff_eq, decide_eq_true_iff]
  omega
theorem nb_take (v n k : Nat) (h : k < n) : (nb v n).take (k + 1) = (nb v n).take k ++ [v.testBit (n - 1 - k)] := by
  have hg := nb_get v n k h
  obtain ⟨hl, he⟩ := List.getElem?_eq_some_iff.1 hg
  rw [List.take_succ_eq_append_getElem hl, he]

set_option maxHeartbeats 800000 in
theorem put_calls (g : Nat) (S : Nat → Prop) (l : List Bool) (v n : Nat) (w : World) (h : Wr w g S l) (hm : l.length ≤ 100000000000) (hn : n ≤ 64) (hv : v < 18446744073709551616) :
    Calls Tryz.prog 72 #[.pointer (some ⟨g, 0, none⟩), .int .u64 v, .int .i64 n] w fun e w' => e = .returned (.tuple #[]) ∧ Upd (fun w S => Wr w g S (l ++ nb v n)) S w w' := by
  have hold := h.old
  have H := Lib.hid h
  have HV := Lib.hid hv
  clear h hv
  by_cases h0 : n = 0
  · subst h0
    go_enter Tryz.func72, Tryz.ntmps72
    go_wp2
    refine bodyPost_ret (results_none rfl _ _ _) rfl ?_
    exact ⟨rfl, S, by rw [nb_zero, List.append_nil]; exact H.out, fun k hk => .inl hk, Ch.refl _ _⟩
  · have d1 : decide ((n : Int) < 1) = false := by simp; omega
    have d2 : decide ((n : Int) > 64) = false := by simp; omega
    have d2' : decide (64 < (n : Int)) = false := by simp; omega
    go_enter Tryz.func72, Tryz.ntmps72
    go_wp2
    go_loopw [6] (fun i wr => ∃ k : Nat, k ≤ n ∧ i = .int .i64 ((n : Int) - 1 - k) ∧ Upd (fun w S => Wr w g S (l ++ (nb v n).take k)) S w wr) (fun i _ => ((intOf i) + 1).toNat)
    case atStart => exact ⟨0, by omega, by simp, S, by simpa using H.out, fun k hk => .inl hk, Ch.refl _ _⟩
    case round =>
      obtain ⟨k, hk, rfl, S1, hw, hs, hc⟩ := hrel
      by_cases hlt : k < n
      · have d3 : decide ((n : Int) - 1 - k ≥ 0) = true := by simp; omega
        have d3' : decide (0 ≤ (n : Int) - 1 - k) = true := by simp; omega
        obtain ⟨j, hj⟩ : ∃ j : Nat, j = n - 1 - k := ⟨_, rfl⟩
        have hj1 : j + k + 1 ≤ n := by omega
        have hj2 : n ≤ j + k + 1 := by omega
        have hji : (n : Int) - 1 - k = (j : Int) := by omega
        have hb := bit_u64 v j HV.out
        have ht := nb_take v n k hlt
        rw [← hj] at ht
        have hl : (l ++ (nb v n).take k).length ≤ 1000000000000 := by rw [List.length_append, List.length_take, nb_length]; omega
        have HC := Lib.hid (bit_calls g S1 _ (v.testBit j) wr hw hl)
        have HT := Lib.hid ht
        have HHS := Lib.hid hs
        have HHC := Lib.hid hc
        rw [hji]
        rw [hji] at d3 d3'
        clear hw hs hc ht hl hold hj hji
        go_wp2_with (fail)
        refine HC.out.mono ?_
        rintro e w2 ⟨rfl, S2, hw2, hs2, hc2⟩
        have HW2 := Lib.hid hw2
        have HS2 := Lib.hid hs2
        have HC2 := Lib.hid hc2
        clear hw2 hs2 hc2
        go_wp2
        go_roundw
        case rel =>
          have hu : Upd (fun w S => Wr w g S (l ++ (nb v n).take k ++ [v.testBit j])) S w w2 := Upd.then HHS.out HHC.out ⟨S2, HW2.out, HS2.out, HC2.out⟩
          rw [List.append_assoc, ← HT.out] at hu
          exact ⟨k + 1, by omega, by congr 1; omega, hu⟩
        case measure => simp [intOf]
      · obtain rfl : k = n := by omega
        have d3 : decide ((k : Int) - 1 - k ≥ 0) = false := by simp; omega
        have d3' : decide (0 ≤ (k : Int) - 1 - k) = false := by simp; omega
        have HHS := Lib.hid hs
        have HHC := Lib.hid hc
        have HHW := Lib.hid hw
        clear hs hc hw hold
        go_wp2
        go_end0
        refine ⟨rfl, S1, ?_, HHS.out, HHC.out⟩
        have := HHW.out
        rwa [List.take_of_length_le (by rw [nb_length]; exact Nat.le_refl _)] at this
end Go.Proofs.YtjfekjbmgckkcaaGreatDoor.StreamBit

/- stream's walks: a reader. -/
namespace Go.Proofs.YtjfekjbmgckkcaaGreatDoor.StreamR
open Go.RowKit Go.Proofs.YtjfekjbmgckkcaaGreatDoorW.PrintWords
open Go.Proofs.YtjfekjbmgckkcaaGreatDoor.Bits Go.Proofs.YtjfekjbmgckkcaaGreatDoor.Base Go.Proofs.YtjfekjbmgckkcaaGreatDoor.StreamPure Go.Proofs.YtjfekjbmgckkcaaGreatDoor.StreamA

/-! ### a reader: its own block, and that of its bytes; how many were read, what is left, was more asked -/
def Rr (w : World) (g : Nat) (S : Nat → Prop) (a : Nat) (q : List Bool) (sh : Bool) : Prop :=
  ∃ v L, w.heap[g]? = some (.cells #[v, .int .i64 a, .int .i64 (a + q.length : Nat), .bool sh] 137 (0, 0)) ∧ OwB 5 w 0 v (pack L) ∧ (L.drop a).take q.length = q ∧ a + q.length ≤ 1000000000000000 ∧
    v.ownBlock ≠ some g ∧ ∀ k, S k ↔ k = g ∨ v.ownBlock = some k
theorem Rr.self {w : World} {g a : Nat} {S : Nat → Prop} {q : List Bool} {sh : Bool} (h : Rr w g S a q sh) : S g := by
  obtain ⟨v, L, _, _, _, _, _, hs⟩ := h
  exact (hs g).2 (.inl rfl)
theorem Rr.old {w : World} {g a : Nat} {S : Nat → Prop} {q : List Bool} {sh : Bool} (h : Rr w g S a q sh) : ∀ k, S k → k < w.heap.size := by
  obtain ⟨v, L, hg, ho, _, _, _, hs⟩ := h
  intro k hk
  rcases (hs k).1 hk with rfl | hk
  · exact blk_lt hg
  · exact ho.lt_ k hk
theorem Rr.ch {S' : Nat → Prop} {w w' : World} {g a : Nat} {S : Nat → Prop} {q : List Bool} {sh : Bool} (h : Rr w g S a q sh) (hc : Ch S' w w') (hs : ∀ k, S k → ¬ S' k) : Rr w' g S a q sh := by
  obtain ⟨v, L, hg, ho, hq, hm, hn, hS⟩ := h
  exact ⟨v, L, hc.blk hg (hs g ((hS g).2 (.inl rfl))), ho.ch hc fun k hk => hs k ((hS k).2 (.inr hk)), hq, hm, hn, hS⟩
theorem Rr.below {w w' : World} {g a : Nat} {S : Nat → Prop} {q : List Bool} {sh : Bool} (h : Rr w g S a q sh) (hb : Below w.heap.size w w') : Rr w' g S a q sh :=
  h.ch (Ch.of_below (S := fun _ => False) hb) fun _ _ hf => hf
theorem Rr.drew {w : World} {g a : Nat} {S : Nat → Prop} {q : List Bool} {sh : Bool} (h : Rr w g S a q sh) : Rr w.drew g S a q sh := h
theorem Rr.max {w : World} {g a : Nat} {S : Nat → Prop} {q : List Bool} {sh : Bool} (h : Rr w g S a q sh) : a + q.length ≤ 1000000000000000 := by
  obtain ⟨v, L, _, _, _, hm, _, _⟩ := h
  exact hm

set_option maxHeartbeats 400000 in
theorem left_calls (g a : Nat) (S : Nat → Prop) (q : List Bool) (sh : Bool) (w : World) (h : Rr w g S a q sh) :
    Calls Tryz.prog 30 #[.pointer (some ⟨g, 0, none⟩)] w fun e w' => e = .returned (.int .i64 q.length) ∧ Drawn0 w w' := by
  obtain ⟨v, L, hg, -, -, hm, -, -⟩ := h
  have c1 : w.cell? ⟨g, 1, none⟩ = some (.int .i64 a) := obj_cell hg rfl
  have c2 : w.cell? ⟨g, 2, none⟩ = some (.int .i64 (a + q.length : Nat)) := obj_cell hg rfl
  clear hg
  go_enter Tryz.func30, Tryz.ntmps30
  go_wp2
  go_quiet (fail)
  go_wp2
  go_ret
  exact ⟨by go_num, by repeat (first | exact Drawn0.refl _ | apply Drawn0.step)⟩

set_option maxHeartbeats 400000 in
theorem short_calls (g a : Nat) (S : Nat → Prop) (q : List Bool) (sh : Bool) (w : World) (h : Rr w g S a q sh) :
    Calls Tryz.prog 157 #[.pointer (some ⟨g, 0, none⟩)] w fun e w' => e = .returned (.bool sh) ∧ w = w' := by
  obtain ⟨v, L, hg, -, -, hm, -, -⟩ := h
  have c1 : w.cell? ⟨g, 3, none⟩ = some (.bool sh) := obj_cell hg rfl
  clear hg
  go_enter Tryz.func157, Tryz.ntmps157
  go_wp2
  go_ret
  exact ⟨rfl, rfl⟩

set_option maxHeartbeats 800000 in
theorem newReader_calls (A : Option Addr) (c n : Nat) (l : List UInt8) (w : World) (hr : RdB w A l) (hm : l.length ≤ 100000000000000) (hc : l.length ≤ c) (hA : A = none → c = 0) (hn : n ≤ 8 * l.length) :
    Calls Tryz.prog 25 #[.slice A l.length c, .int .i64 n] w fun e w' => ∃ g S, e = .returned (.tuple #[.pointer (some ⟨g, 0, none⟩), .int .i64 0]) ∧ Rr w' g S 0 ((bts l).take n) false ∧ (∀ k, S k → w.heap.size ≤ k) ∧ Below w.heap.size w w' := by
  have h1 := right_calls A l.length c n w (by omega)
  rw [decide_eq_true (show 0 ≤ (n : Int) ∧ (n : Int) ≤ 8 * (l.length : Int) by omega)] at h1
  have H1 := Lib.hid h1
  have H2 := Lib.hid (first_calls A c n l w hr (by omega) hc hA hn)
  have HL := Lib.hid (show ((bts l).take n).length = n by rw [List.length_take, bts_length]; omega)
  clear h1 hr hA
  go_enter Tryz.func25, Tryz.ntmps25
  go_wp2_with (fail)
  refine H1.out.mono ?_
  rintro e w' ⟨rfl, rfl⟩
  go_wp2_with (fail)
  refine H2.out.mono ?_
  rintro e w1 ⟨v, rfl, ho, hb⟩
  have hsz := hb.size
  obtain ⟨D, d, rfl, -, -⟩ := ho.reads
  have HO := Lib.hid ho
  have HB := Lib.hid hb
  clear ho hb
  go_wp2
  go_ret2
  refine ⟨w1.heap.size, fun k => k = w1.heap.size ∨ (Value.slice D (pack ((bts l).take n)).length d).ownBlock = some k, rfl, ⟨_, (bts l).take n, by rw [HL.out, Nat.zero_add]; exact blk_last _ _, (HO.out.below (below_alloc (Below.refl _ _) _)).lower (Nat.zero_le _), ?_, ?_, ?_, fun k => Iff.rfl⟩, ?_, below_alloc HB.out _⟩
  · rw [List.drop_zero, List.take_of_length_le (Nat.le_refl _)]
  · rw [HL.out]; omega
  · intro h
    have := HO.out.lt_ _ h
    omega
  · rintro k (rfl | hk)
    · exact hsz
    · exact HO.out.base_ _ hk

/-- the bit of a byte, as a number. -/
theorem and_one (c : UInt8) (j : Nat) : Go.bits .and .u8 ((c.toNat : Int) / 2 ^ j) 1 = ((c.toNat.testBit j).toNat : Int) := by
  have h1 : (c.toNat : Int) / 2 ^ j = ((c.toNat / 2 ^ j : Nat) : Int) := by simp
  have h2 : c.toNat / 2 ^ j < 256 := Nat.lt_of_le_of_lt (Nat.div_le_self _ _) c.toNat_lt
  have h3 : Go.bits .and .u8 ((c.toNat / 2 ^ j : Nat) : Int) ((1 : Nat) : Int) = ((c.toNat / 2 ^ j &&& 1 : Nat) : Int) := u8_and_nat _ _ h2 (by decide)
  rw [h1, show (1 : Int) = ((1 : Nat) : Int) from rfl, h3, Nat.and_one_is_mod, Nat.testBit_eq_decide_div_mod_eq]
  have : c.toNat / 2 ^ j % 2 < 2 := Nat.mod_lt _ (by decide)
  generalize c.toNat / 2 ^ j % 2 = y at *
  have : y = 0 ∨ y = 1 := by omega
  rcases this with rfl | rfl <;> rfl
theorem or_low (q : Nat) (b : Bool) (h : 2 * q + 1 < 18446744073709551616) : Go.bits .or .u64 ((q : Int) * 2) (b.toNat : Int) = ((2 * q + b.toNat : Nat) : Int) := by
  have h1 : ((q : Int) * 2) = ((2 * q : Nat) : Int) := by omega
  have hb : b.toNat < 2 := by cases b <;> decide
  rw [h1, u64_or_nat _ _ (by omega) (by omega)]
  congr 1
  have := nat_join 1 (2 * q) b.toNat (by omega) (by simpa using hb)
  exact this
theorem pack_bit (L : List Bool) (i : Nat) (h : i < L.length) : ∃ h' : i / 8 < (pack L).length, ((pack L)[i / 8]).toNat.testBit (7 - i % 8) = L[i] := by
  have hl : i / 8 < (pack L).length := by rw [pack_length]; omega
  refine ⟨hl, ?_⟩
  have h1 := bts_get (pack L) i (by omega)
  rw [bts_pack _ _ rfl, List.getElem?_append_left h, List.getElem?_eq_getElem h, List.getD_eq_getElem?_getD, List.getElem?_eq_getElem hl] at h1
  injection h1 with h1
  exact h1.symm

set_option maxHeartbeats 800000 in
theorem get_zero (g _ : Nat) (w : World) :
    Calls Tryz.prog 85 #[.pointer (some ⟨g, 0, none⟩), .int .i64 0] w fun e w' => e = .returned (.int .u64 0) ∧ w = w' := by
  go_enter Tryz.func85, Tryz.ntmps85
  go_wp2
  go_ret
  exact ⟨rfl, rfl⟩

set_option maxHeartbeats 800000 in
theorem get_short (g a k : Nat) (S : Nat → Prop) (q : List Bool) (sh : Bool) (w : World) (h : Rr w g S a q sh) (hk0 : 0 < k) (hk : k ≤ 64) (hq : q.length < k) :
    Calls Tryz.prog 85 #[.pointer (some ⟨g, 0, none⟩), .int .i64 k] w fun e w' => e = .returned (.int .u64 0) ∧ Rr w' g S a [] true ∧ Ch S w w' := by
  have HL := Lib.hid (left_calls g a S q sh w h)
  obtain ⟨v, L, hg, ho, hq2, hm, hn, hS⟩ := h
  have c1 : w.cell? ⟨g, 1, none⟩ = some (.int .i64 a) := obj_cell hg rfl
  have c2 : w.cell? ⟨g, 2, none⟩ = some (.int .i64 (a + q.length : Nat)) := obj_cell hg rfl
  have c3 : w.cell? ⟨g, 3, none⟩ = some (.bool sh) := obj_cell hg rfl
  have f2 : w.frozen? ⟨g, 2, none⟩ = false := obj_free hg
  have f3 : w.frozen? ⟨g, 3, none⟩ = false := obj_free hg
  have d1 : decide ((k : Int) < 1) = false := by simp; omega
  have d2 : decide ((k : Int) > 64) = false := by simp; omega
  have d2' : decide (64 < (k : Int)) = false := by simp; omega
  have d3 : decide ((k : Int) > (q.length : Int)) = true := by simp; omega
  have d3' : decide ((q.length : Int) < (k : Int)) = true := by simp; omega
  have d3n : decide (q.length < k) = true := by simp; omega
  have HG := Lib.hid hg
  have HO := Lib.hid ho
  have HN := Lib.hid hn
  have HS := Lib.hid hS
  clear hg ho hq2 hn hS
  go_enter Tryz.func85, Tryz.ntmps85
  go_wp2_with (fail)
  refine HL.out.mono ?_
  rintro e w' ⟨rfl, nd, rfl⟩
  go_wp2_with (fail)
  go_ret
  refine ⟨rfl, ⟨v, L, blk_set (blk_set (cs := #[v, .int .i64 a, .int .i64 (a + q.length : Nat), .bool sh]) HG.out 3 _) 2 _, ?_, by simp, by simpa using Nat.le_trans (Nat.le_add_right _ _) hm, HN.out, HS.out⟩, ?_⟩
  · exact OwI.far (OwI.far (OwI.drewN HO.out nd) HN.out _) HN.out _
  · exact (((Ch.refl S w).drewN nd).setCell (.inl ((HS.out g).2 (.inl rfl))) _).setCell (.inl ((HS.out g).2 (.inl rfl))) _

set_option maxHeartbeats 1600000 in
theorem get_calls (g a k : Nat) (S : Nat → Prop) (q : List Bool) (sh : Bool) (w : World) (h : Rr w g S a q sh) (hk0 : 0 < k) (hk : k ≤ 64) (hq : k ≤ q.length) :
    Calls Tryz.prog 85 #[.pointer (some ⟨g, 0, none⟩), .int .i64 k] w fun e w' => e = .returned (.int .u64 (val (q.take k))) ∧ Rr w' g S (a + k) (q.drop k) sh ∧ Ch S w w' := by
  have HL := Lib.hid (left_calls g a S q sh w h)
  have hm := h.max
  have H := Lib.hid h
  have d1 : decide ((k : Int) < 1) = false := by simp; omega
  have d2 : decide ((k : Int) > 64) = false := by simp; omega
  have d2' : decide (64 < (k : Int)) = false := by simp; omega
  have d3 : decide ((k : Int) > (q.length : Int)) = false := by simp; omega
  have d3' : decide ((q.length : Int) < (k : Int)) = false := by simp; omega
  have d3n : decide (q.length < k) = false := by simp; omega
  clear h
  go_enter Tryz.func85, Tryz.ntmps85
  go_wp2_with (fail)
  refine HL.out.mono ?_
  rintro e w' ⟨rfl, nd, rfl⟩
  go_wp2_with (fail)
  go_loopw [5, 27] (fun x i wr => ∃ j : Nat, j ≤ k ∧ i = .int .i64 j ∧ x = .int .u64 (val (q.take j)) ∧ Rr wr g S (a + j) (q.drop j) sh ∧ Ch S w wr) (fun _ i _ => k - (intOf i).toNat)
  case atStart => exact ⟨0, by omega, rfl, rfl, H.out, (Ch.refl S w).drewN nd⟩
  case round =>
    obtain ⟨j, hj, rfl, rfl, hr, hc⟩ := hrel
    by_cases hlt : j < k
    · obtain ⟨v, L, hg, ho, hq2, hmm, hn, hS⟩ := hr
      have hjq : j < q.length := by omega
      have hdl : (q.drop j).length = q.length - j := List.length_drop
      have hLl : a + j < L.length := by
        have := congrArg List.length hq2
        rw [List.length_take, hdl, List.length_drop] at this
        omega
      obtain ⟨hi8, hbit⟩ := pack_bit L (a + j) hLl
      have hLq : L[a + j] = q[j] := by
        have h1 : (q.drop j)[0]? = some q[j] := by rw [List.getElem?_drop]; simp [hjq]
        rw [← hq2, List.getElem?_take, if_pos (by omega), List.getElem?_drop, Nat.add_zero, List.getElem?_eq_getElem hLl] at h1
        injection h1
      obtain ⟨gb, c, rfl, -, -⟩ := OwI.form ho (by rw [ints_length]; omega)
      obtain ⟨x1, x2⟩ := OwB.at_ (by rwa [ints_length] at ho) ((a + j) / 8) hi8
      obtain ⟨y, hy⟩ : ∃ y, y = (pack L)[(a + j) / 8] := ⟨_, rfl⟩
      rw [← hy] at x1 hbit
      have hao := and_one y (7 - (a + j) % 8)
      rw [hbit, hLq] at hao
      have hvl := val_lt (q.take (j + 1))
      have hvs := val_take_succ q j hjq
      have hpw : (2 : Nat) ^ (q.take (j + 1)).length ≤ 2 ^ 64 := Nat.pow_le_pow_right (by decide) (by rw [List.length_take]; omega)
      obtain ⟨z, hz⟩ : ∃ z, z = val (q.take j) := ⟨_, rfl⟩
      rw [← hz] at hvs ⊢
      have hz2 : 2 * z + 1 < 18446744073709551616 := by
        have hev : val (q.take j) < 2 ^ (q.take j).length := val_lt _
        have hpw2 : (2 : Nat) ^ (q.take j).length ≤ 2 ^ 63 := Nat.pow_le_pow_right (by decide) (by rw [List.length_take]; omega)
        omega
      have hor := or_low z q[j] hz2
      obtain ⟨bt, hbt⟩ : ∃ bt, bt = q[j].toNat := ⟨_, rfl⟩
      rw [← hbt] at hor hao hvs
      have hbt2 : bt < 2 := by rw [hbt]; cases q[j] <;> decide
      obtain ⟨i, hi⟩ : ∃ i, i = a + j := ⟨_, rfl⟩
      rw [← hi] at hg x1 x2 hao hi8 hmm
      rw [ints_length] at hg ho hn hS
      have c0 : wr.cell? ⟨g, 0, none⟩ = some (.slice (some ⟨gb, 0, none⟩) (pack L).length c) := obj_cell hg rfl
      have c1 : wr.cell? ⟨g, 1, none⟩ = some (.int .i64 i) := obj_cell hg rfl
      have f1 : wr.frozen? ⟨g, 1, none⟩ = false := obj_free hg
      have hpl : (pack L).length ≤ 9223372036854775807 := by have := ho.max; rwa [ints_length] at this
      obtain ⟨m, hm2⟩ : ∃ m, m = (pack L).length := ⟨_, rfl⟩
      rw [← hm2] at c0 hi8 hpl
      have hid1 : i ≤ a + j := by omega
      have hid2 : a + j ≤ i := by omega
      have hne : gb ≠ g := by rintro rfl; exact hn rfl
      have HG := Lib.hid hg
      have HO := Lib.hid ho
      have HN := Lib.hid hn
      have HS := Lib.hid hS
      have HC := Lib.hid hc
      have HQ2 := Lib.hid hq2
      have HVS := Lib.hid hvs
      have HM2 := Lib.hid hm2
      have HII := Lib.hid hi
      have HOR := Lib.hid hor
      clear hg ho hn hS hc hq2 hvs hi hbit hLq hy hz hvl hpw hbt hm2 hdl hor
      have hw1 : IntKind.u64.wrap (2 * (z : Int)) = 2 * (z : Int) := by rw [IntKind.wrap_u64]; omega
      have hw2 : IntKind.u64.wrap (bt : Int) = bt := wrap_u64n (by omega)
      have hj1 : (i : Int) / 8 < (m : Int) := by omega
      have hj0 : 0 ≤ (i : Int) / 8 := by omega
      go_wp2_with (fail)
      go_quiet (fail)
      rw [HOR.out]
      go_wp2
      go_roundw
      case rel =>
        refine ⟨j + 1, by omega, by go_num, by rw [HVS.out], ⟨_, L, ?_, OwI.far (OwI.drewN HO.out _) HN.out _, ?_, ?_, HN.out, HS.out⟩, (HC.out.drewN _).setCell (.inl ((HS.out g).2 (.inl rfl))) _⟩
        · have e2 : i + (q.drop j).length = a + (j + 1) + (q.drop (j + 1)).length := by rw [List.length_drop, List.length_drop]; omega
          have e1 : (i : Int) + 1 = ((a + (j + 1) : Nat) : Int) := by omega
          have h5 := HG.out
          rw [e2] at h5
          refine (blk_set h5 1 _).trans ?_
          rw [e1]
          rfl
        · have h5 := congrArg (List.drop 1) HQ2.out
          rw [List.drop_take, List.drop_drop, List.drop_drop, List.length_drop] at h5
          rw [List.length_drop, show q.length - (j + 1) = q.length - j - 1 from by omega, show a + (j + 1) = a + j + 1 from by omega]
          exact h5
        · rw [List.length_drop]; omega
      case measure => simp [intOf]; omega
    · obtain rfl : j = k := by omega
      have HR := Lib.hid hr
      have HC := Lib.hid hc
      clear hr hc
      go_wp2
      go_ret
      exact ⟨rfl, HR.out, HC.out⟩
/-- Bit: the next one. -/
theorem rbit_calls (g a : Nat) (S : Nat → Prop) (b : Bool) (q : List Bool) (sh : Bool) (w : World) (h : Rr w g S a (b :: q) sh) :
    Calls Tryz.prog 27 #[.pointer (some ⟨g, 0, none⟩)] w fun e w' => e = .returned (.bool b) ∧ Rr w' g S (a + 1) q sh ∧ Ch S w w' := by
  have h1 := get_calls g a 1 S (b :: q) sh w h (by decide) (by decide) (by simp)
  have hv : val ((b :: q).take 1) = b.toNat := by cases b <;> rfl
  rw [hv] at h1
  have H1 := Lib.hid h1
  have hb : ((b.toNat : Int) == 1) = b := by cases b <;> rfl
  clear h h1 hv
  go_enter Tryz.func27, Tryz.ntmps27
  go_wp2_with (fail)
  refine H1.out.mono ?_
  rintro e w1 ⟨rfl, hr, hc⟩
  have HR := Lib.hid hr
  have HC := Lib.hid hc
  clear hr hc
  go_wp2
  go_ret
  exact ⟨rfl, HR.out, HC.out⟩
theorem rbit_short (g a : Nat) (S : Nat → Prop) (sh : Bool) (w : World) (h : Rr w g S a [] sh) :
    Calls Tryz.prog 27 #[.pointer (some ⟨g, 0, none⟩)] w fun e w' => e = .returned (.bool false) ∧ Rr w' g S a [] true ∧ Ch S w w' := by
  have H1 := Lib.hid (get_short g a 1 S [] sh w h (by decide) (by decide) (by simp))
  clear h
  go_enter Tryz.func27, Tryz.ntmps27
  go_wp2_with (fail)
  refine H1.out.mono ?_
  rintro e w1 ⟨rfl, hr, hc⟩
  have HR := Lib.hid hr
  have HC := Lib.hid hc
  clear hr hc
  go_wp2
  go_ret
  exact ⟨rfl, HR.out, HC.out⟩
end Go.Proofs.YtjfekjbmgckkcaaGreatDoor.StreamR

/- small numbers by few bits: groups, bits, reading. No program in sight. -/
namespace Go.Proofs.YtjfekjbmgckkcaaGreatDoor.VarPure
open Go.Proofs.YtjfekjbmgckkcaaGreatDoor.Bits

def behind (g : Nat) : Nat := [0, 3, 6, 9, 12, 18, 25, 56, 64].getD g 0
theorem behind_le {g : Nat} : behind g ≤ 64 := by
  rcases Nat.lt_or_ge g 9 with h | h
  · have : ∀ g, g < 9 → behind g ≤ 64 := by decide
    exact this g h
  · rw [behind, List.getD_eq_getElem?_getD, List.getElem?_eq_none (by simpa using h)]; decide
theorem behind_lt {g : Nat} (h : g < 8) : behind g ≤ 56 := by
  have : ∀ g, g < 8 → behind g ≤ 56 := by decide
  exact this g h
theorem behind_mono {a b : Nat} (h : a ≤ b) (hb : b ≤ 8) : behind a ≤ behind b := by
  have : ∀ b, b < 9 → ∀ a, a < 9 → a ≤ b → behind a ≤ behind b := by decide
  exact this b (by omega) a (by omega) h
/-- the first group, of eight, that has it; else the ninth one. -/
def first (p : Nat → Bool) : Nat := (List.range 8).findIdx p
theorem first_le (p : Nat → Bool) : first p ≤ 8 := by
  have := List.findIdx_le_length (xs := List.range 8) (p := p)
  simpa [first] using this
theorem first_lt {p : Nat → Bool} {i : Nat} (h : i < first p) : p i = false := by
  have h8 := first_le p
  have := List.not_of_lt_findIdx (xs := List.range 8) (p := p) h
  simpa using this
theorem first_at {p : Nat → Bool} (h : first p < 8) : p (first p) = true := by
  have := List.findIdx_getElem (xs := List.range 8) (p := p) (w := by simpa [first] using h)
  simpa [first] using this
theorem first_eq {p : Nat → Bool} {g : Nat} (hg : g ≤ 8) (hl : ∀ i, i < g → p i = false) (ha : g < 8 → p g = true) : first p = g := by
  rcases Nat.lt_trichotomy (first p) g with h | h | h
  · have := first_at (p := p) (by omega)
    rw [hl _ h] at this
    cases this
  · exact h
  · have h8 := first_le p
    have := first_lt h
    rw [ha (by omega)] at this
    cases this
theorem first_congr {p q : Nat → Bool} (h : ∀ i, i < 8 → p i = q i) : first p = first q := by
  have h8 := first_le q
  refine first_eq h8 (fun i hi => ?_) fun hi => ?_
  · rw [h i (by omega)]; exact first_lt hi
  · rw [h _ hi]; exact first_at hi
/-- a weaker test is met no later. -/
theorem first_mono {p q : Nat → Bool} (h : ∀ i, i < 8 → p i = true → q i = true) : first q ≤ first p := by
  rcases Nat.lt_or_ge (first p) (first q) with hl | hl
  · have h8 := first_le q
    have h1 := first_at (p := p) (by omega)
    have h2 := h _ (by omega) h1
    rw [first_lt hl] at h2
    cases h2
  · exact hl
/-- may a number with a sign be of a group of n bits? -/
def fits (v : Int) (n : Nat) : Bool :=
  if n = 0 then decide (v = 0) else if n = 64 then true else decide (-(2 ^ (n - 1)) < v ∧ v ≤ 2 ^ (n - 1))
def gS (v : Int) : Nat := first fun g => fits v (behind g)
def gU (x : Nat) : Nat := first fun g => decide (x < 2 ^ behind g)
def ones (g : Nat) : List Bool := List.replicate g true ++ (if g < 8 then [false] else [])
def front (g : Nat) : Nat := if g < 8 then g + 1 else g
theorem ones_length (g : Nat) : (ones g).length = front g := by
  unfold ones front
  split <;> simp
def enc (g x : Nat) : List Bool := ones g ++ nb x (behind g)
theorem enc_length (g x : Nat) : (enc g x).length = front g + behind g := by rw [enc, List.length_append, ones_length, nb_length]
/-- a number with a sign as 64 bits. -/
def u64 (v : Int) : Nat := (v % 18446744073709551616).toNat
theorem u64_lt (v : Int) : u64 v < 18446744073709551616 := by
  unfold u64
  have := Int.emod_lt_of_pos v (show (0 : Int) < 18446744073709551616 by decide)
  have := Int.emod_nonneg v (show (18446744073709551616 : Int) ≠ 0 by decide)
  omega
def encS (v : Int) : List Bool := enc (gS v) (u64 v)
def encU (x : Nat) : List Bool := enc (gU x) x
theorem encS_length (v : Int) : (encS v).length = front (gS v) + behind (gS v) := enc_length _ _
theorem encU_length (x : Nat) : (encU x).length = front (gU x) + behind (gU x) := enc_length _ _
end Go.Proofs.YtjfekjbmgckkcaaGreatDoor.VarPure

/- what a law's arguments are to its walk. -/
namespace Go.Proofs.YtjfekjbmgckkcaaGreatDoor.LawBase
open Go.RowKit Go.Proofs.YtjfekjbmgckkcaaGreatDoorW.PrintWords Go.Proofs.YtjfekjbmgckkcaaGreatDoor.Bits Go.Proofs.YtjfekjbmgckkcaaGreatDoor.Base

/-- a slice of whole numbers that came in: nil, or a row of cap cells. -/
def IsRow (k : IntKind) (w : World) (a : Option Addr) (len cap : Nat) (zs : List Int) : Prop :=
  (a = none ∧ len = 0 ∧ cap = 0 ∧ zs = []) ∨
  ∃ x, a = some x ∧ len ≤ cap ∧ cap ≤ maxLen ∧ zs.length = cap ∧ (∀ i, i < zs.length → w.cell? (x.add i) = some (.int k (zs.getD i 0))) ∧ ∀ n ∈ zs, (Lit.int k n).wf = true

theorem IsRow.reads {k : IntKind} {w : World} {a : Option Addr} {len cap : Nat} {zs : List Int} (h : IsRow k w a len cap zs) :
    RdI k w a (zs.take len) ∧ (zs.take len).length = len ∧ len ≤ cap ∧ (a = none → cap = 0) ∧ (∀ n ∈ zs.take len, (Lit.int k n).wf = true) := by
  rcases h with ⟨rfl, rfl, rfl, rfl⟩ | ⟨x, rfl, h1, h2, h3, h4, h5⟩
  · exact ⟨RdI.nil _ _ _, rfl, Nat.le_refl _, fun _ => rfl, by simp⟩
  · have hl : (zs.take len).length = len := by rw [List.length_take]; omega
    refine ⟨⟨rfl, by unfold maxLen at h2; omega, fun _ => ⟨x, rfl, fun j hj => ?_⟩⟩, hl, h1, (by intro h; cases h), fun n hn => h5 n (List.mem_of_mem_take hn)⟩
    rw [h4 j (by omega)]
    rw [hl] at hj
    simp [List.getD_eq_getElem?_getD, hj]
theorem wf_u8 {n : Int} (h : (Lit.int .u8 n).wf = true) : 0 ≤ n ∧ n ≤ 255 := by
  simp [Lit.wf, IntKind.min, IntKind.max, IntKind.bits, IntKind.signed] at h
  omega
theorem IsRow.bytes {w : World} {a : Option Addr} {len cap : Nat} {zs : List Int} (h : IsRow .u8 w a len cap zs) :
    ∃ l : List UInt8, l.length = len ∧ RdB w a l ∧ len ≤ cap ∧ (a = none → cap = 0) := by
  obtain ⟨h1, h2, h3, h4, h5⟩ := h.reads
  obtain ⟨l, hl⟩ := ints_of (zs.take len) fun x hx => wf_u8 (h5 x hx)
  rw [hl] at h1 h2
  rw [ints_length] at h2
  exact ⟨l, h2, h1, h3, h4⟩
end Go.Proofs.YtjfekjbmgckkcaaGreatDoor.LawBase

/- varbit's walks: the table, groups, sizes. -/
namespace Go.Proofs.YtjfekjbmgckkcaaGreatDoor.VarbitA
open Go.RowKit Go.Proofs.YtjfekjbmgckkcaaGreatDoorW.PrintWords
open Go.Proofs.YtjfekjbmgckkcaaGreatDoor.Bits Go.Proofs.YtjfekjbmgckkcaaGreatDoor.Base Go.Proofs.YtjfekjbmgckkcaaGreatDoor.VarPure

/-- the table of what stands behind each group's ones, as its initialiser lays it. -/
def Tab (w : World) : Prop := ∀ j, j < 9 → w.cell? ⟨1, j, none⟩ = some (.int .i64 (behind j))
theorem Tab.below {w w1 : World} (h : Tab w) (hb : Below w.heap.size w w1) : Tab w1 := fun j hj => pw_cell_below hb (h j hj)
theorem Tab.lt {w : World} (h : Tab w) : 1 < w.heap.size := World.block_lt_of_cell? w _ (h 0 (by decide))
theorem Tab.ch {S : Nat → Prop} {w w1 : World} (h : Tab w) (hc : Ch S w w1) (hs : ¬ S 1) : Tab w1 := fun j hj => hc.cell (h j hj) hs
theorem Tab.drewN {w : World} (h : Tab w) (n : Nat) : Tab (w.drewN n) := h
theorem gTab : Tryz.prog.globalNamed "tidepole/varbit.behinds" = some 1 := by kernel_rfl
theorem tTab : (Tryz.prog.globals[1]?).map (·.type) = some 269 := by kernel_rfl
theorem cTab : Tryz.prog.cellsOf 269 = 9 := by kernel_rfl
theorem cEl : Tryz.prog.cellsOf 3 = 1 := by kernel_rfl
theorem tab_of {w : World} (h : laidMetH Tryz.prog [("tidepole/varbit.behinds", Rows.laid_tidepole_varbit_behinds)] w) : Tab w := by
  rw [MakeChecks.laidMetH_plain _ _ _ (by kernel_rfl)] at h
  have h2 : laidMet Tryz.prog [("tidepole/varbit.behinds", Lib.tabData .i64 ([0, 3, 6, 9, 12, 18, 25, 56, 64].map Int.ofNat))] w := h
  have hv := Lib.tabIs_of_head gTab tTab Tryz.underlying269 Tryz.underlying3 cEl cTab h2
  intro j hj
  have := World.var?_cell gTab hv j
  rw [this]
  have : j = 0 ∨ j = 1 ∨ j = 2 ∨ j = 3 ∨ j = 4 ∨ j = 5 ∨ j = 6 ∨ j = 7 ∨ j = 8 := by omega
  rcases this with rfl | rfl | rfl | rfl | rfl | rfl | rfl | rfl | rfl <;> rfl

set_option maxHeartbeats 400000 in
theorem behind_calls (g : Nat) (w : World) (hT : Tab w) (hg : g < 9) :
    Calls Tryz.prog 200 #[.int .i64 g] w fun e w' => e = .returned (.int .i64 (behind g)) ∧ w = w' := by
  have hc := hT g hg
  obtain ⟨b, hb⟩ : ∃ b, b = behind g := ⟨_, rfl⟩
  rw [← hb] at hc ⊢
  clear hT hb
  go_enter Tryz.func200, Tryz.ntmps200
  go_wp2
  go_ret
  exact ⟨rfl, rfl⟩

set_option maxHeartbeats 400000 in
theorem size_calls (g : Nat) (w : World) (hT : Tab w) (hg : g < 9) :
    Calls Tryz.prog 215 #[.int .i64 g] w fun e w' => e = .returned (.int .i64 (front g + behind g : Nat)) ∧ w = w' := by
  have HB := Lib.hid (behind_calls g w hT hg)
  have h64 := behind_le (g := g)
  obtain ⟨b, hb⟩ : ∃ b, b = behind g := ⟨_, rfl⟩
  rw [← hb] at HB h64 ⊢
  clear hT hb
  go_enter Tryz.func215, Tryz.ntmps215
  go_wp2_with (go_at_call 200; refine HB.out.mono ?_; rintro e w' ⟨rfl, rfl⟩)
  all_goals
    go_ret
    refine ⟨?_, rfl⟩
    unfold front
    split <;> go_num

set_option maxHeartbeats 1600000 in
theorem fits_calls (g : Nat) (v : Int) (w : World) (hg : g < 9) (h1 : -9223372036854775808 ≤ v) (h2 : v ≤ 9223372036854775807) :
    Calls Tryz.prog 201 #[.int .i64 v, .int .i64 (behind g)] w fun e w' => e = .returned (.bool (fits v (behind g))) ∧ w = w' := by
  have : g = 0 ∨ g = 1 ∨ g = 2 ∨ g = 3 ∨ g = 4 ∨ g = 5 ∨ g = 6 ∨ g = 7 ∨ g = 8 := by omega
  rcases this with rfl | rfl | rfl | rfl | rfl | rfl | rfl | rfl | rfl
  · rw [show behind 0 = 0 from rfl, fits, if_pos rfl]
    by_cases h : v = 0
    · subst h
      go_enter Tryz.func201, Tryz.ntmps201
      go_wp2
      go_ret
      exact ⟨rfl, rfl⟩
    · have hd : (v == 0) = false := by simpa using h
      rw [decide_eq_false h]
      go_enter Tryz.func201, Tryz.ntmps201
      go_wp2
      go_ret
      exact ⟨rfl, rfl⟩
  · rw [show behind 1 = 3 from rfl, fits, if_neg (by decide), if_neg (by decide), show ((2 : Int) ^ (3 - 1)) = 4 from rfl]
    by_cases ha : -4 < v
    · have d1 : decide (v > -4) = true := by simp; omega
      have d1' : decide (-4 < v) = true := by simp; omega
      by_cases hb : v ≤ 4
      · have d2 : decide (v ≤ 4) = true := by simp; omega
        rw [decide_eq_true ⟨ha, hb⟩]
        go_enter Tryz.func201, Tryz.ntmps201
        go_wp2
        go_ret
        exact ⟨rfl, rfl⟩
      · have d2 : decide (v ≤ 4) = false := by simp; omega
        rw [decide_eq_false fun h => hb h.2]
        go_enter Tryz.func201, Tryz.ntmps201
        go_wp2
        go_ret
        exact ⟨rfl, rfl⟩
    · have d1 : decide (v > -4) = false := by simp; omega
      have d1' : decide (-4 < v) = false := by simp; omega
      rw [decide_eq_false fun h => ha h.1]
      go_enter Tryz.func201, Tryz.ntmps201
      go_wp2
      go_ret
      exact ⟨rfl, rfl⟩
  · rw [show behind 2 = 6 from rfl, fits, if_neg (by decide), if_neg (by decide), show ((2 : Int) ^ (6 - 1)) = 32 from rfl]
    by_cases ha : -32 < v
    · have d1 : decide (v > -32) = true := by simp; omega
      have d1' : decide (-32 < v) = true := by simp; omega
      by_cases hb : v ≤ 32
      · have d2 : decide (v ≤ 32) = true := by simp; omega
        rw [decide_eq_true ⟨ha, hb⟩]
        go_enter Tryz.func201, Tryz.ntmps201
        go_wp2
        go_ret
        exact ⟨rfl, rfl⟩
      · have d2 : decide (v ≤ 32) = false := by simp; omega
        rw [decide_eq_false fun h => hb h.2]
        go_enter Tryz.func201, Tryz.ntmps201
        go_wp2
        go_ret
        exact ⟨rfl, rfl⟩
    · have d1 : decide (v > -32) = false := by simp; omega
      have d1' : decide (-32 < v) = false := by simp; omega
      rw [decide_eq_false fun h => ha h.1]
      go_enter Tryz.func201, Tryz.ntmps201
      go_wp2
      go_ret
      exact ⟨rfl, rfl⟩
  · rw [show behind 3 = 9 from rfl, fits, if_neg (by decide), if_neg (by decide), show ((2 : Int) ^ (9 - 1)) = 256 from rfl]
    by_cases ha : -256 < v
    · have d1 : decide (v > -256) = true := by simp; omega
      have d1' : decide (-256 < v) = true := by simp; omega
      by_cases hb : v ≤ 256
      · have d2 : decide (v ≤ 256) = true := by simp; omega
        rw [decide_eq_true ⟨ha, hb⟩]
        go_enter Tryz.func201, Tryz.ntmps201
        go_wp2
        go_ret
        exact ⟨rfl, rfl⟩
      · have d2 : decide (v ≤ 256) = false := by simp; omega
        rw [decide_eq_false fun h => hb h.2]
        go_enter Tryz.func201, Tryz.ntmps201
        go_wp2
        go_ret
        exact ⟨rfl, rfl⟩
    · have d1 : decide (v > -256) = false := by simp; omega
      have d1' : decide (-256 < v) = false := by simp; omega
      rw [decide_eq_false fun h => ha h.1]
      go_enter Tryz.func201, Tryz.ntmps201
      go_wp2
      go_ret
      exact ⟨rfl, rfl⟩
  · rw [show behind 4 = 12 from rfl, fits, if_neg (by decide), if_neg (by decide), show ((2 : Int) ^ (12 - 1)) = 2048 from rfl]
    by_cases ha : -2048 < v
    · have d1 : decide (v > -2048) = true := by simp; omega
      have d1' : decide (-2048 < v) = true := by simp; omega
      by_cases hb : v ≤ 2048
      · have d2 : decide (v ≤ 2048) = true := by simp; omega
        rw [decide_eq_true ⟨ha, hb⟩]
        go_enter Tryz.func201, Tryz.ntmps201
        go_wp2
        go_ret
        exact ⟨rfl, rfl⟩
      · have d2 : decide (v ≤ 2048) = false := by simp; omega
        rw [decide_eq_false fun h => hb h.2]
        go_enter Tryz.func201, Tryz.ntmps201
        go_wp2
        go_ret
        exact ⟨rfl, rfl⟩
    · have d1 : decide (v > -2048) = false := by simp; omega
      have d1' : decide (-2048 < v) = false := by simp; omega
      rw [decide_eq_false fun h => ha h.1]
      go_enter Tryz.func201, Tryz.ntmps201
      go_wp2
      go_ret
      exact ⟨rfl, rfl⟩
  · rw [show behind 5 = 18 from rfl, fits, if_neg (by decide), if_neg (by decide), show ((2 : Int) ^ (18 - 1)) = 131072 from rfl]
    by_cases ha : -131072 < v
    · have d1 : decide (v > -131072) = true := by simp; omega
      have d1' : decide (-131072 < v) = true := by simp; omega
      by_cases hb : v ≤ 131072
      · have d2 : decide (v ≤ 131072) = true := by simp; omega
        rw [decide_eq_true ⟨ha, hb⟩]
        go_enter Tryz.func201, Tryz.ntmps201
        go_wp2
        go_ret
        exact ⟨rfl, rfl⟩
      · have d2 : decide (v ≤ 131072) = false := by simp; omega
        rw [decide_eq_false fun h => hb h.2]
        go_enter Tryz.func201, Tryz.ntmps201
        go_wp2
        go_ret
        exact ⟨rfl, rfl⟩
    · have d1 : decide (v > -131072) = false := by simp; omega
      have d1' : decide (-131072 < v) = false := by simp; omega
      rw [decide_eq_false fun h => ha h.1]
      go_enter Tryz.func201, Tryz.ntmps201
      go_wp2
      go_ret
      exact ⟨rfl, rfl⟩
  · rw [show behind 6 = 25 from rfl, fits, if_neg (by decide), if_neg (by decide), show ((2 : Int) ^ (25 - 1)) = 16777216 from rfl]
    by_cases ha : -16777216 < v
    · have d1 : decide (v > -16777216) = true := by simp; omega
      have d1' : decide (-16777216 < v) = true := by simp; omega
      by_cases hb : v ≤ 16777216
      · have d2 : decide (v ≤ 16777216) = true := by simp; omega
        rw [decide_eq_true ⟨ha, hb⟩]
        go_enter Tryz.func201, Tryz.ntmps201
        go_wp2
        go_ret
        exact ⟨rfl, rfl⟩
      · have d2 : decide (v ≤ 16777216) = false := by simp; omega
        rw [decide_eq_false fun h => hb h.2]
        go_enter Tryz.func201, Tryz.ntmps201
        go_wp2
        go_ret
        exact ⟨rfl, rfl⟩
    · have d1 : decide (v > -16777216) = false := by simp; omega
      have d1' : decide (-16777216 < v) = false := by simp; omega
      rw [decide_eq_false fun h => ha h.1]
      go_enter Tryz.func201, Tryz.ntmps201
      go_wp2
      go_ret
      exact ⟨rfl, rfl⟩
  · rw [show behind 7 = 56 from rfl, fits, if_neg (by decide), if_neg (by decide), show ((2 : Int) ^ (56 - 1)) = 36028797018963968 from rfl]
    by_cases ha : -36028797018963968 < v
    · have d1 : decide (v > -36028797018963968) = true := by simp; omega
      have d1' : decide (-36028797018963968 < v) = true := by simp; omega
      by_cases hb : v ≤ 36028797018963968
      · have d2 : decide (v ≤ 36028797018963968) = true := by simp; omega
        rw [decide_eq_true ⟨ha, hb⟩]
        go_enter Tryz.func201, Tryz.ntmps201
        go_wp2
        go_ret
        exact ⟨rfl, rfl⟩
      · have d2 : decide (v ≤ 36028797018963968) = false := by simp; omega
        rw [decide_eq_false fun h => hb h.2]
        go_enter Tryz.func201, Tryz.ntmps201
        go_wp2
        go_ret
        exact ⟨rfl, rfl⟩
    · have d1 : decide (v > -36028797018963968) = false := by simp; omega
      have d1' : decide (-36028797018963968 < v) = false := by simp; omega
      rw [decide_eq_false fun h => ha h.1]
      go_enter Tryz.func201, Tryz.ntmps201
      go_wp2
      go_ret
      exact ⟨rfl, rfl⟩
  · rw [show behind 8 = 64 from rfl, fits, if_neg (by decide), if_pos rfl]
    go_enter Tryz.func201, Tryz.ntmps201
    go_wp2
    go_ret
    exact ⟨rfl, rfl⟩

theorem groupS_calls (v : Int) (w : World) (hT : Tab w) (h1 : -9223372036854775808 ≤ v) (h2 : v ≤ 9223372036854775807) :
    Calls Tryz.prog 148 #[.int .i64 v] w fun e w' => e = .returned (.int .i64 (gS v)) ∧ w = w' := by
  have H8 := Lib.hid (first_le fun g => fits v (behind g))
  have HLT := Lib.hid (fun i (h : i < gS v) => first_lt (p := fun g => fits v (behind g)) h)
  have HAT := Lib.hid (fun (h : gS v < 8) => first_at (p := fun g => fits v (behind g)) h)
  have HB := Lib.hid (fun g (hg : g < 9) => behind_calls g w hT hg)
  have HF := Lib.hid (fun g (hg : g < 9) => fits_calls g v w hg h1 h2)
  clear hT
  go_enter Tryz.func148, Tryz.ntmps148
  go_wp2
  go_loop [3] (fun i => ∃ k : Nat, k ≤ gS v ∧ i = .int .i64 k) (fun i => 9 - (intOf i).toNat)
  case atStart => exact ⟨0, by omega, rfl⟩
  case round =>
    obtain ⟨k, hk, rfl⟩ := hrel
    have h8 : gS v ≤ 8 := H8.out
    have HBk := Lib.hid (HB.out k (by omega))
    by_cases hlt : k < gS v
    · have HFk : Hid (Calls Tryz.prog 201 #[.int .i64 v, .int .i64 (behind k)] w fun e w' => e = .returned (.bool false) ∧ w = w') := by
        have := HF.out k (by omega)
        rw [show fits v (behind k) = false from HLT.out k hlt] at this
        exact this
      go_wp2_with (first | (go_at_call 200; refine HBk.out.mono ?_; rintro e w' ⟨rfl, rfl⟩) | (go_at_call 201; refine HFk.out.mono ?_; rintro e w' ⟨rfl, rfl⟩))
      go_round
      case rel => exact ⟨k + 1, by omega, by go_num⟩
      case measure => simp [intOf]; omega
    · obtain rfl : k = gS v := by omega
      have HFk : Hid (Calls Tryz.prog 201 #[.int .i64 v, .int .i64 (behind (gS v))] w fun e w' => e = .returned (.bool true) ∧ w = w') := by
        have := HF.out (gS v) (by omega)
        rw [show fits v (behind (gS v)) = true from ?_] at this
        · exact this
        · rcases Nat.lt_or_ge (gS v) 8 with h | h
          · exact HAT.out h
          · rw [show gS v = 8 from by omega]; rfl
      obtain ⟨g, hg⟩ : ∃ g, g = gS v := ⟨_, rfl⟩
      rw [← hg] at HFk HBk ⊢
      have HG := Lib.hid hg
      clear hg HAT HLT H8 HB HF
      go_wp2_with (first | (go_at_call 200; refine HBk.out.mono ?_; rintro e w' ⟨rfl, rfl⟩) | (go_at_call 201; refine HFk.out.mono ?_; rintro e w' ⟨rfl, rfl⟩))
      go_ret
      exact ⟨by rw [← HG.out]; rfl, rfl⟩

theorem groupU_calls (x : Nat) (w : World) (hT : Tab w) (hx : x < 18446744073709551616) :
    Calls Tryz.prog 203 #[.int .u64 x] w fun e w' => e = .returned (.int .i64 (gU x)) ∧ w = w' := by
  have H8 := Lib.hid (first_le fun g => decide (x < 2 ^ behind g))
  have HLT := Lib.hid (fun i (h : i < gU x) => first_lt (p := fun g => decide (x < 2 ^ behind g)) h)
  have HAT := Lib.hid (fun (h : gU x < 8) => first_at (p := fun g => decide (x < 2 ^ behind g)) h)
  have HB := Lib.hid (fun g (hg : g < 9) => behind_calls g w hT hg)
  have HB0 := Lib.hid (HB.out 0 (by decide))
  have HX := Lib.hid hx
  clear hT hx
  go_enter Tryz.func203, Tryz.ntmps203
  go_wp2_with (go_at_call 200; refine HB0.out.mono ?_; rintro e w' ⟨rfl, rfl⟩)
  go_loop [3, 4] (fun i n => ∃ k : Nat, k ≤ gU x ∧ i = .int .i64 k ∧ n = .int .i64 (behind k)) (fun i _ => 9 - (intOf i).toNat)
  case atStart => exact ⟨0, by omega, rfl, rfl⟩
  case round =>
    obtain ⟨k, hk, rfl, rfl⟩ := hrel
    have h8 : gU x ≤ 8 := H8.out
    by_cases hlt : k < gU x
    · have HBk := Lib.hid (HB.out (k + 1) (by omega))
      have hb := behind_lt (g := k) (by omega)
      have hx2 : ¬ x < 2 ^ behind k := of_decide_eq_false (HLT.out k hlt)
      have hq : 0 < x / 2 ^ behind k := Nat.div_pos (by omega) (Nat.two_pow_pos _)
      obtain ⟨b, hbb⟩ : ∃ b, b = behind k := ⟨_, rfl⟩
      rw [← hbb] at hb hq ⊢
      have hqi : 0 < (x : Int) / 2 ^ b := by
        have : (x : Int) / 2 ^ b = ((x / 2 ^ b : Nat) : Int) := by simp
        rw [this]; omega
      have d1 : decide ((b : Int) < 64) = true := by simp; omega
      have d1n : decide (b < 64) = true := by simp; omega
      have d2 : decide ((x : Int) / 2 ^ b > 0) = true := decide_eq_true hqi
      have d2' : decide (0 < (x : Int) / 2 ^ b) = true := decide_eq_true hqi
      clear hx2 hbb
      go_wp2_with (go_at_call 200; refine HBk.out.mono ?_; rintro e w' ⟨rfl, rfl⟩)
      go_round
      case rel => exact ⟨k + 1, by omega, by go_num, rfl⟩
      case measure => simp [intOf]; omega
    · obtain rfl : k = gU x := by omega
      obtain ⟨g, hg⟩ : ∃ g, g = gU x := ⟨_, rfl⟩
      rcases Nat.lt_or_ge (gU x) 8 with h | h
      · have hb := behind_lt h
        have hx2 : x < 2 ^ behind (gU x) := of_decide_eq_true (HAT.out h)
        rw [← hg] at hb hx2 ⊢
        obtain ⟨b, hbb⟩ : ∃ b, b = behind g := ⟨_, rfl⟩
        rw [← hbb] at hb hx2 ⊢
        have hqi : (x : Int) / 2 ^ b = 0 := by
          have : (x : Int) / 2 ^ b = ((x / 2 ^ b : Nat) : Int) := by simp
          rw [this, Nat.div_eq_of_lt hx2]; rfl
        have d1 : decide ((b : Int) < 64) = true := by simp; omega
        have d1n : decide (b < 64) = true := by simp; omega
        have d2 : decide ((x : Int) / 2 ^ b > 0) = false := by rw [hqi]; rfl
        have d2' : decide (0 < (x : Int) / 2 ^ b) = false := by rw [hqi]; rfl
        have HG := Lib.hid hg
        clear hg hx2 hbb hqi
        go_wp2
        go_ret
        exact ⟨by rw [← HG.out]; rfl, rfl⟩
      · have h88 : g = 8 := by omega
        rw [← hg, h88, show behind 8 = 64 from rfl]
        have HG := Lib.hid (hg.symm.trans h88)
        clear hg h88 h
        go_wp2
        go_ret
        exact ⟨by rw [HG.out]; rfl, rfl⟩

theorem lenS_calls (v : Int) (w : World) (hT : Tab w) (h1 : -9223372036854775808 ≤ v) (h2 : v ≤ 9223372036854775807) :
    Calls Tryz.prog 172 #[.int .i64 v] w fun e w' => e = .returned (.int .i64 (encS v).length) ∧ w = w' := by
  rw [encS_length]
  have HG := Lib.hid (groupS_calls v w hT h1 h2)
  have h8 : gS v ≤ 8 := first_le _
  have HS := Lib.hid (size_calls (gS v) w hT (by omega))
  clear hT
  go_enter Tryz.func172, Tryz.ntmps172
  go_wp2_with (first | (go_at_call 148; refine HG.out.mono ?_; rintro e w' ⟨rfl, rfl⟩) | (go_at_call 215; refine HS.out.mono ?_; rintro e w' ⟨rfl, rfl⟩))
  go_ret
  exact ⟨rfl, rfl⟩
theorem lenU_calls (x : Nat) (w : World) (hT : Tab w) (hx : x < 18446744073709551616) :
    Calls Tryz.prog 174 #[.int .u64 x] w fun e w' => e = .returned (.int .i64 (encU x).length) ∧ w = w' := by
  rw [encU_length]
  have HG := Lib.hid (groupU_calls x w hT hx)
  have h8 : gU x ≤ 8 := first_le _
  have HS := Lib.hid (size_calls (gU x) w hT (by omega))
  clear hT
  go_enter Tryz.func174, Tryz.ntmps174
  go_wp2_with (first | (go_at_call 203; refine HG.out.mono ?_; rintro e w' ⟨rfl, rfl⟩) | (go_at_call 215; refine HS.out.mono ?_; rintro e w' ⟨rfl, rfl⟩))
  go_ret
  exact ⟨rfl, rfl⟩
end Go.Proofs.YtjfekjbmgckkcaaGreatDoor.VarbitA

/- varbit's walks: put, PutS, PutU. -/
namespace Go.Proofs.YtjfekjbmgckkcaaGreatDoor.VarbitB
open Go.RowKit Go.Proofs.YtjfekjbmgckkcaaGreatDoorW.PrintWords
open Go.Proofs.YtjfekjbmgckkcaaGreatDoor.Bits Go.Proofs.YtjfekjbmgckkcaaGreatDoor.Base Go.Proofs.YtjfekjbmgckkcaaGreatDoor.VarPure Go.Proofs.YtjfekjbmgckkcaaGreatDoor.VarbitA Go.Proofs.YtjfekjbmgckkcaaGreatDoor.StreamA Go.Proofs.YtjfekjbmgckkcaaGreatDoor.StreamBit

theorem not_turned {w : World} {G : Nat} {S S1 : Nat → Prop} (hG : G < w.heap.size) (hn : ¬ S G) (h : ∀ k, S1 k → S k ∨ w.heap.size ≤ k) : ¬ S1 G := by
  intro h1
  rcases h G h1 with h2 | h2
  · exact hn h2
  · omega

set_option maxHeartbeats 1600000 in
theorem put_calls (g k : Nat) (S : Nat → Prop) (l : List Bool) (x : Nat) (w : World) (hT : Tab w) (hG : ¬ S 1) (h : Wr w g S l) (hm : l.length ≤ 10000000000) (hk : k < 9) (hx : x < 18446744073709551616) :
    Calls Tryz.prog 147 #[.pointer (some ⟨g, 0, none⟩), .int .i64 k, .int .u64 x] w fun e w' => e = .returned (.tuple #[]) ∧ Upd (fun w S => Wr w g S (l ++ enc k x)) S w w' := by
  have HT := Lib.hid hT
  have HX := Lib.hid hx
  have HH := Lib.hid h
  have HNG := Lib.hid hG
  clear hT hx h hG
  go_enter Tryz.func147, Tryz.ntmps147
  go_wp2
  go_loopw [7] (fun i wr => ∃ j : Nat, j ≤ k ∧ i = .int .i64 j ∧ Upd (fun w S => Wr w g S (l ++ List.replicate j true)) S w wr) (fun i _ => k - (intOf i).toNat)
  case atStart => exact ⟨0, by omega, rfl, S, by simpa using HH.out, fun k hk => .inl hk, Ch.refl _ _⟩
  case round =>
    obtain ⟨j, hj, rfl, S1, hw, hs, hc⟩ := hrel
    have HHS := Lib.hid hs
    have HHC := Lib.hid hc
    have HNG1 := Lib.hid (not_turned HT.out.lt HNG.out hs)
    have HT1 := Lib.hid (HT.out.ch hc HNG.out)
    by_cases hlt : j < k
    · have hl : (l ++ List.replicate j true).length ≤ 1000000000000 := by rw [List.length_append, List.length_replicate]; omega
      have HC := Lib.hid (bit_calls g S1 _ true wr hw hl)
      clear hw hs hc hl
      go_wp2_with (go_at_call 16; refine HC.out.mono ?_; rintro e w2 ⟨rfl, hu⟩; have HU := Lib.hid hu; clear hu)
      go_roundw
      case rel =>
        have hu := Upd.then HHS.out HHC.out HU.out
        rw [List.append_assoc, ← List.replicate_succ'] at hu
        exact ⟨j + 1, by omega, by go_num, hu⟩
      case measure => simp [intOf]; omega
    · obtain rfl : j = k := by omega
      by_cases h8 : j < 8
      · have hl : (l ++ List.replicate j true).length ≤ 1000000000000 := by rw [List.length_append, List.length_replicate]; omega
        have HC := Lib.hid (bit_calls g S1 _ false wr hw hl)
        have d1 : decide ((j : Int) < 8) = true := by simp; omega
        have d1n : decide (j < 8) = true := by simp; omega
        clear hw hs hc hl
        go_wp2_with (go_at_call 16; refine HC.out.mono ?_; rintro e w2 ⟨rfl, S2, hw2, hs2, hc2⟩; refine stop_here ?_)
        refine Lib.hid ?_
        have HT2 := Lib.hid (HT1.out.ch hc2 HNG1.out)
        have HB := Lib.hid (behind_calls j w2 HT2.out hk)
        have hl2 : (l ++ List.replicate j true ++ [false]).length ≤ 100000000000 := by rw [List.length_append, List.length_append, List.length_replicate, List.length_singleton]; omega
        have HP := Lib.hid (StreamBit.put_calls g S2 _ x (behind j) w2 hw2 hl2 behind_le HX.out)
        have HS2 := Lib.hid hs2
        have HC2 := Lib.hid hc2
        clear hw2 hs2 hc2 hl2
        go_wp2_with (first | (go_at_call 200; refine HB.out.mono ?_; rintro e w' ⟨rfl, rfl⟩) | (go_at_call 72; refine HP.out.mono ?_; rintro e w3 ⟨rfl, hu⟩; have HU := Lib.hid hu; clear hu))
        go_end0
        refine ⟨rfl, ?_⟩
        have hu := Upd.then HHS.out HHC.out (Upd.then HS2.out HC2.out HU.out)
        have e : l ++ List.replicate j true ++ [false] ++ nb x (behind j) = l ++ enc j x := by
          rw [enc, ones, if_pos h8]; simp
        rw [e] at hu
        exact hu
      · obtain rfl : j = 8 := by omega
        have HB := Lib.hid (behind_calls 8 wr HT1.out hk)
        have hl2 : (l ++ List.replicate 8 true).length ≤ 100000000000 := by rw [List.length_append, List.length_replicate]; omega
        have HP := Lib.hid (StreamBit.put_calls g S1 _ x (behind 8) wr hw hl2 behind_le HX.out)
        clear hw hs hc hl2
        go_wp2_with (first | (go_at_call 200; refine HB.out.mono ?_; rintro e w' ⟨rfl, rfl⟩) | (go_at_call 72; refine HP.out.mono ?_; rintro e w3 ⟨rfl, hu⟩; have HU := Lib.hid hu; clear hu))
        go_end0
        refine ⟨rfl, ?_⟩
        have hu := Upd.then HHS.out HHC.out HU.out
        have e : l ++ List.replicate 8 true ++ nb x (behind 8) = l ++ enc 8 x := by
          rw [enc, ones, if_neg (by decide)]; simp
        rw [e] at hu
        exact hu

theorem putU_calls (g : Nat) (S : Nat → Prop) (l : List Bool) (x : Nat) (w : World) (hT : Tab w) (hG : ¬ S 1) (h : Wr w g S l) (hm : l.length ≤ 10000000000) (hx : x < 18446744073709551616) :
    Calls Tryz.prog 150 #[.pointer (some ⟨g, 0, none⟩), .int .u64 x] w fun e w' => e = .returned (.tuple #[]) ∧ Upd (fun w S => Wr w g S (l ++ encU x)) S w w' := by
  have HG := Lib.hid (groupU_calls x w hT hx)
  have h8 : gU x ≤ 8 := first_le _
  have HP := Lib.hid (put_calls g (gU x) S l x w hT hG h hm (by omega) hx)
  clear hT hG h hx
  go_enter Tryz.func150, Tryz.ntmps150
  go_wp2_with (first | (go_at_call 203; refine HG.out.mono ?_; rintro e w' ⟨rfl, rfl⟩) | (go_at_call 147; refine HP.out.mono ?_; rintro e w3 ⟨rfl, hu⟩; have HU := Lib.hid hu; clear hu))
  go_end0
  exact ⟨rfl, HU.out⟩
theorem wrap_u64 (v : Int) : IntKind.u64.wrap v = (u64 v : Int) := by
  rw [IntKind.wrap_u64, u64]
  have := Int.emod_nonneg v (show (18446744073709551616 : Int) ≠ 0 by decide)
  omega
theorem putS_calls (g : Nat) (S : Nat → Prop) (l : List Bool) (v : Int) (w : World) (hT : Tab w) (hG : ¬ S 1) (h : Wr w g S l) (hm : l.length ≤ 10000000000) (h1 : -9223372036854775808 ≤ v) (h2 : v ≤ 9223372036854775807) :
    Calls Tryz.prog 73 #[.pointer (some ⟨g, 0, none⟩), .int .i64 v] w fun e w' => e = .returned (.tuple #[]) ∧ Upd (fun w S => Wr w g S (l ++ encS v)) S w w' := by
  have HG := Lib.hid (groupS_calls v w hT h1 h2)
  have h8 : gS v ≤ 8 := first_le _
  have HP := Lib.hid (put_calls g (gS v) S l (u64 v) w hT hG h hm (by omega) (u64_lt v))
  have hw := wrap_u64 v
  clear hT hG h
  go_enter Tryz.func73, Tryz.ntmps73
  go_wp2_with (first | (go_at_call 148; refine HG.out.mono ?_; rintro e w' ⟨rfl, rfl⟩) | (go_at_call 147; refine HP.out.mono ?_; rintro e w3 ⟨rfl, hu⟩; have HU := Lib.hid hu; clear hu))
  go_end0
  exact ⟨rfl, HU.out⟩
end Go.Proofs.YtjfekjbmgckkcaaGreatDoor.VarbitB

/- varbit's walks: get. -/
namespace Go.Proofs.YtjfekjbmgckkcaaGreatDoor.VarbitC
open Go.RowKit Go.Proofs.YtjfekjbmgckkcaaGreatDoorW.PrintWords
open Go.Proofs.YtjfekjbmgckkcaaGreatDoor.Bits Go.Proofs.YtjfekjbmgckkcaaGreatDoor.Base Go.Proofs.YtjfekjbmgckkcaaGreatDoor.VarPure Go.Proofs.YtjfekjbmgckkcaaGreatDoor.VarbitA Go.Proofs.YtjfekjbmgckkcaaGreatDoor.VarbitB Go.Proofs.YtjfekjbmgckkcaaGreatDoor.StreamA Go.Proofs.YtjfekjbmgckkcaaGreatDoor.StreamR

/-- Get, as far as there are so many. -/
theorem get_ok (g a k : Nat) (S : Nat → Prop) (x t : List Bool) (sh : Bool) (w : World) (h : Rr w g S a (x ++ t) sh) (hx : x.length = k) (hk : k ≤ 64) :
    Calls Tryz.prog 85 #[.pointer (some ⟨g, 0, none⟩), .int .i64 k] w fun e w' => e = .returned (.int .u64 (val x)) ∧ Rr w' g S (a + k) t sh ∧ Ch S w w' := by
  rcases Nat.eq_zero_or_pos k with h0 | h0
  · subst h0
    obtain rfl : x = [] := List.length_eq_zero_iff.1 hx
    refine (get_zero g a w).mono ?_
    rintro e w' ⟨rfl, rfl⟩
    exact ⟨rfl, h, Ch.refl _ _⟩
  · have := get_calls g a k S (x ++ t) sh w h h0 hk (by rw [List.length_append]; omega)
    rwa [List.take_left' hx, List.drop_left' hx] at this

set_option maxHeartbeats 1600000 in
theorem vget_ok (g a k : Nat) (S : Nat → Prop) (x t : List Bool) (w : World) (hT : Tab w) (hG : ¬ S 1) (h : Rr w g S a (ones k ++ (x ++ t)) false) (hk : k < 9) (hx : x.length = behind k) :
    Calls Tryz.prog 204 #[.pointer (some ⟨g, 0, none⟩)] w fun e w' => e = .returned (.tuple #[.int .i64 k, .int .u64 (val x), .int .i64 0]) ∧ Rr w' g S (a + front k + behind k) t false ∧ Ch S w w' := by
  rw [ones, List.append_assoc] at h
  have HX := Lib.hid hx
  clear hx
  have HH := Lib.hid h
  have HT := Lib.hid hT
  have HNG := Lib.hid hG
  have h64 := behind_le (g := k)
  clear h hT hG
  go_enter Tryz.func204, Tryz.ntmps204
  go_wp2
  go_loopw [2] (fun i wr => ∃ j : Nat, j ≤ k ∧ i = .int .i64 j ∧ Rr wr g S (a + j) (List.replicate (k - j) true ++ ((if k < 8 then [false] else []) ++ (x ++ t))) false ∧ Ch S w wr) (fun i _ => k - (intOf i).toNat)
  case atStart => exact ⟨0, by omega, rfl, by simpa using HH.out, Ch.refl _ _⟩
  case round =>
    obtain ⟨j, hj, rfl, hr, hc⟩ := hrel
    have HC := Lib.hid hc
    have HT1 := Lib.hid (HT.out.ch hc HNG.out)
    clear hc
    by_cases hlt : j < k
    · have hj8 : decide ((j : Int) < 8) = true := by simp; omega
      have hj8n : decide (j < 8) = true := by simp; omega
      rw [show k - j = (k - (j + 1)) + 1 from by omega, List.replicate_succ, List.cons_append] at hr
      have HB := Lib.hid (rbit_calls g (a + j) S true _ false wr hr)
      clear hr
      go_wp2_with (go_at_call 27; refine HB.out.mono ?_; rintro e w2 ⟨rfl, hr2, hc2⟩; have HR2 := Lib.hid hr2; have HC2 := Lib.hid hc2; clear hr2 hc2)
      go_roundw
      case rel => exact ⟨j + 1, by omega, by go_num, HR2.out, HC.out.trans HC2.out fun _ _ h => h⟩
      case measure => simp [intOf]; omega
    · obtain rfl : j = k := by omega
      rw [Nat.sub_self, List.replicate_zero, List.nil_append] at hr
      by_cases h8 : j < 8
      · have hj8 : decide ((j : Int) < 8) = true := by simp; omega
        have hj8n : decide (j < 8) = true := by simp; omega
        rw [if_pos h8, List.cons_append, List.nil_append] at hr
        have HB := Lib.hid (rbit_calls g (a + j) S false _ false wr hr)
        clear hr
        go_wp2_with (go_at_call 27; refine HB.out.mono ?_; rintro e w2 ⟨rfl, hr2, hc2⟩; refine stop_here ?_)
        refine Lib.hid ?_
        have HBE := Lib.hid (behind_calls j w2 (HT1.out.ch hc2 HNG.out) hk)
        have HGET := Lib.hid (get_ok g (a + j + 1) (behind j) S x t false w2 hr2 HX.out h64)
        have HC2 := Lib.hid hc2
        clear hr2 hc2
        go_wp2_with (first | (go_at_call 200; refine HBE.out.mono ?_; rintro e w' ⟨rfl, rfl⟩) | (go_at_call 85; refine HGET.out.mono ?_; rintro e w3 ⟨rfl, hr3, hc3⟩; refine stop_here ?_))
        refine Lib.hid ?_
        have HSH := Lib.hid (short_calls g _ S _ _ w3 hr3)
        have HR3 := Lib.hid hr3
        have HC3 := Lib.hid hc3
        clear hr3 hc3
        go_wp2_with (go_at_call 157; refine HSH.out.mono ?_; rintro e w' ⟨rfl, rfl⟩)
        go_ret3
        refine ⟨rfl, ?_, (HC.out.trans HC2.out fun _ _ h => h).trans HC3.out fun _ _ h => h⟩
        rw [front, if_pos h8]
        exact HR3.out
      · have hj8 : decide ((j : Int) < 8) = false := by simp; omega
        have hj8n : decide (j < 8) = false := by simp; omega
        rw [if_neg h8, List.nil_append] at hr
        have HBE := Lib.hid (behind_calls j wr HT1.out hk)
        have HGET := Lib.hid (get_ok g (a + j) (behind j) S x t false wr hr HX.out h64)
        clear hr
        go_wp2_with (first | (go_at_call 200; refine HBE.out.mono ?_; rintro e w' ⟨rfl, rfl⟩) | (go_at_call 85; refine HGET.out.mono ?_; rintro e w3 ⟨rfl, hr3, hc3⟩; refine stop_here ?_))
        refine Lib.hid ?_
        have HSH := Lib.hid (short_calls g _ S _ _ w3 hr3)
        have HR3 := Lib.hid hr3
        have HC3 := Lib.hid hc3
        clear hr3 hc3
        go_wp2_with (go_at_call 157; refine HSH.out.mono ?_; rintro e w' ⟨rfl, rfl⟩)
        go_ret3
        refine ⟨rfl, ?_, HC.out.trans HC3.out fun _ _ h => h⟩
        rw [front, if_neg h8]
        exact HR3.out

set_option maxHeartbeats 1600000 in
theorem vget_few (g a k : Nat) (S : Nat → Prop) (y : List Bool) (w : World) (hT : Tab w) (hG : ¬ S 1) (h : Rr w g S a (ones k ++ y) false) (hk : k < 9) (hy : y.length < behind k) :
    Calls Tryz.prog 204 #[.pointer (some ⟨g, 0, none⟩)] w fun e w' => e = .returned (.tuple #[.int .i64 0, .int .u64 0, .int .i64 16]) ∧ (∃ a', Rr w' g S a' [] true) ∧ Ch S w w' := by
  rw [ones, List.append_assoc] at h
  have HX := Lib.hid hy
  clear hy
  have HH := Lib.hid h
  have HT := Lib.hid hT
  have HNG := Lib.hid hG
  have h64 := behind_le (g := k)
  clear h hT hG
  go_enter Tryz.func204, Tryz.ntmps204
  go_wp2
  go_loopw [2] (fun i wr => ∃ j : Nat, j ≤ k ∧ i = .int .i64 j ∧ Rr wr g S (a + j) (List.replicate (k - j) true ++ ((if k < 8 then [false] else []) ++ y)) false ∧ Ch S w wr) (fun i _ => k - (intOf i).toNat)
  case atStart => exact ⟨0, by omega, rfl, by simpa using HH.out, Ch.refl _ _⟩
  case round =>
    obtain ⟨j, hj, rfl, hr, hc⟩ := hrel
    have HC := Lib.hid hc
    have HT1 := Lib.hid (HT.out.ch hc HNG.out)
    clear hc
    by_cases hlt : j < k
    · have hj8 : decide ((j : Int) < 8) = true := by simp; omega
      have hj8n : decide (j < 8) = true := by simp; omega
      rw [show k - j = (k - (j + 1)) + 1 from by omega, List.replicate_succ, List.cons_append] at hr
      have HB := Lib.hid (rbit_calls g (a + j) S true _ false wr hr)
      clear hr
      go_wp2_with (go_at_call 27; refine HB.out.mono ?_; rintro e w2 ⟨rfl, hr2, hc2⟩; have HR2 := Lib.hid hr2; have HC2 := Lib.hid hc2; clear hr2 hc2)
      go_roundw
      case rel => exact ⟨j + 1, by omega, by go_num, HR2.out, HC.out.trans HC2.out fun _ _ h => h⟩
      case measure => simp [intOf]; omega
    · obtain rfl : j = k := by omega
      rw [Nat.sub_self, List.replicate_zero, List.nil_append] at hr
      by_cases h8 : j < 8
      · have hj8 : decide ((j : Int) < 8) = true := by simp; omega
        have hj8n : decide (j < 8) = true := by simp; omega
        rw [if_pos h8, List.cons_append, List.nil_append] at hr
        have HB := Lib.hid (rbit_calls g (a + j) S false _ false wr hr)
        clear hr
        go_wp2_with (go_at_call 27; refine HB.out.mono ?_; rintro e w2 ⟨rfl, hr2, hc2⟩; refine stop_here ?_)
        refine Lib.hid ?_
        have HBE := Lib.hid (behind_calls j w2 (HT1.out.ch hc2 HNG.out) hk)
        have HGET := Lib.hid (get_short g (a + j + 1) (behind j) S y false w2 hr2 (Nat.lt_of_le_of_lt (Nat.zero_le _) HX.out) h64 HX.out)
        have HC2 := Lib.hid hc2
        clear hr2 hc2
        go_wp2_with (first | (go_at_call 200; refine HBE.out.mono ?_; rintro e w' ⟨rfl, rfl⟩) | (go_at_call 85; refine HGET.out.mono ?_; rintro e w3 ⟨rfl, hr3, hc3⟩; refine stop_here ?_))
        refine Lib.hid ?_
        have HSH := Lib.hid (short_calls g _ S _ _ w3 hr3)
        have HR3 := Lib.hid hr3
        have HC3 := Lib.hid hc3
        clear hr3 hc3
        go_wp2_with (go_at_call 157; refine HSH.out.mono ?_; rintro e w' ⟨rfl, rfl⟩)
        go_ret3
        exact ⟨rfl, ⟨_, HR3.out⟩, (HC.out.trans HC2.out fun _ _ h => h).trans HC3.out fun _ _ h => h⟩
      · have hj8 : decide ((j : Int) < 8) = false := by simp; omega
        have hj8n : decide (j < 8) = false := by simp; omega
        rw [if_neg h8, List.nil_append] at hr
        have HBE := Lib.hid (behind_calls j wr HT1.out hk)
        have HGET := Lib.hid (get_short g (a + j) (behind j) S y false wr hr (Nat.lt_of_le_of_lt (Nat.zero_le _) HX.out) h64 HX.out)
        clear hr
        go_wp2_with (first | (go_at_call 200; refine HBE.out.mono ?_; rintro e w' ⟨rfl, rfl⟩) | (go_at_call 85; refine HGET.out.mono ?_; rintro e w3 ⟨rfl, hr3, hc3⟩; refine stop_here ?_))
        refine Lib.hid ?_
        have HSH := Lib.hid (short_calls g _ S _ _ w3 hr3)
        have HR3 := Lib.hid hr3
        have HC3 := Lib.hid hc3
        clear hr3 hc3
        go_wp2_with (go_at_call 157; refine HSH.out.mono ?_; rintro e w' ⟨rfl, rfl⟩)
        go_ret3
        exact ⟨rfl, ⟨_, HR3.out⟩, HC.out.trans HC3.out fun _ _ h => h⟩

set_option maxHeartbeats 1600000 in
theorem vget_ones (g a k : Nat) (S : Nat → Prop) (w : World) (hT : Tab w) (hG : ¬ S 1) (h : Rr w g S a (List.replicate k true) false) (hk : k < 8) :
    Calls Tryz.prog 204 #[.pointer (some ⟨g, 0, none⟩)] w fun e w' => e = .returned (.tuple #[.int .i64 0, .int .u64 0, .int .i64 16]) ∧ (∃ a', Rr w' g S a' [] true) ∧ Ch S w w' := by
  rw [← List.append_nil (List.replicate k true)] at h
  have HH := Lib.hid h
  have HT := Lib.hid hT
  have HNG := Lib.hid hG
  have h64 := behind_le (g := k)
  clear h hT hG
  go_enter Tryz.func204, Tryz.ntmps204
  go_wp2
  go_loopw [2] (fun i wr => ∃ j : Nat, j ≤ k ∧ i = .int .i64 j ∧ Rr wr g S (a + j) (List.replicate (k - j) true ++ []) false ∧ Ch S w wr) (fun i _ => k - (intOf i).toNat)
  case atStart => exact ⟨0, by omega, rfl, by simpa using HH.out, Ch.refl _ _⟩
  case round =>
    obtain ⟨j, hj, rfl, hr, hc⟩ := hrel
    have HC := Lib.hid hc
    have HT1 := Lib.hid (HT.out.ch hc HNG.out)
    clear hc
    by_cases hlt : j < k
    · have hj8 : decide ((j : Int) < 8) = true := by simp; omega
      have hj8n : decide (j < 8) = true := by simp; omega
      rw [show k - j = (k - (j + 1)) + 1 from by omega, List.replicate_succ, List.cons_append] at hr
      have HB := Lib.hid (rbit_calls g (a + j) S true _ false wr hr)
      clear hr
      go_wp2_with (go_at_call 27; refine HB.out.mono ?_; rintro e w2 ⟨rfl, hr2, hc2⟩; have HR2 := Lib.hid hr2; have HC2 := Lib.hid hc2; clear hr2 hc2)
      go_roundw
      case rel => exact ⟨j + 1, by omega, by go_num, HR2.out, HC.out.trans HC2.out fun _ _ h => h⟩
      case measure => simp [intOf]; omega
    · obtain rfl : j = k := by omega
      rw [Nat.sub_self, List.replicate_zero, List.nil_append] at hr
      have hj8 : decide ((j : Int) < 8) = true := by simp; omega
      have hj8n : decide (j < 8) = true := by simp; omega
      have HB := Lib.hid (rbit_short g (a + j) S false wr hr)
      clear hr
      go_wp2_with (go_at_call 27; refine HB.out.mono ?_; rintro e w2 ⟨rfl, hr2, hc2⟩; refine stop_here ?_)
      refine Lib.hid ?_
      have HBE := Lib.hid (behind_calls j w2 (HT1.out.ch hc2 HNG.out) (by omega))
      have HGET : Hid (Calls Tryz.prog 85 #[.pointer (some ⟨g, 0, none⟩), .int .i64 (behind j)] w2 fun e w' => e = .returned (.int .u64 0) ∧ Rr w' g S (a + j) [] true ∧ Ch S w2 w') := by
        rcases Nat.eq_zero_or_pos (behind j) with h0 | h0
        · rw [h0]
          refine (get_zero g a w2).mono ?_
          rintro e w' ⟨rfl, rfl⟩
          exact ⟨rfl, hr2, Ch.refl _ _⟩
        · exact get_short g (a + j) (behind j) S [] true w2 hr2 h0 h64 (by simpa using h0)
      have HC2 := Lib.hid hc2
      clear hr2 hc2
      go_wp2_with (first | (go_at_call 200; refine HBE.out.mono ?_; rintro e w' ⟨rfl, rfl⟩) | (go_at_call 85; refine HGET.out.mono ?_; rintro e w3 ⟨rfl, hr3, hc3⟩; refine stop_here ?_))
      refine Lib.hid ?_
      have HSH := Lib.hid (short_calls g _ S _ _ w3 hr3)
      have HR3 := Lib.hid hr3
      have HC3 := Lib.hid hc3
      clear hr3 hc3
      go_wp2_with (go_at_call 157; refine HSH.out.mono ?_; rintro e w' ⟨rfl, rfl⟩)
      go_ret3
      exact ⟨rfl, ⟨_, HR3.out⟩, (HC.out.trans HC2.out fun _ _ h => h).trans HC3.out fun _ _ h => h⟩
end Go.Proofs.YtjfekjbmgckkcaaGreatDoor.VarbitC

/- what bits begin with: a group's ones, its bits, and the others; a number with a sign. No program in sight. -/
namespace Go.Proofs.YtjfekjbmgckkcaaGreatDoor.VarPure
open Go.Proofs.YtjfekjbmgckkcaaGreatDoor.Bits

/-- how many ones stand ahead, of n. -/
def lead : Nat → List Bool → Nat
  | n + 1, true :: q => lead n q + 1
  | _, _ => 0
theorem lead_le : ∀ (n : Nat) (q : List Bool), lead n q ≤ n
  | 0, q => by cases q <;> exact Nat.le_refl 0
  | n + 1, [] => Nat.zero_le _
  | n + 1, false :: q => Nat.zero_le _
  | n + 1, true :: q => Nat.succ_le_succ (lead_le n q)
theorem lead_split : ∀ (n : Nat) (q : List Bool), (q = List.replicate (lead n q) true ∧ lead n q < n) ∨ (∃ y, q = List.replicate (lead n q) true ++ ((if lead n q < n then [false] else []) ++ y))
  | 0, q => .inr ⟨q, by cases q <;> rfl⟩
  | n + 1, [] => .inl ⟨rfl, Nat.succ_pos _⟩
  | n + 1, false :: q => .inr ⟨q, rfl⟩
  | n + 1, true :: q => by
    rcases lead_split n q with ⟨h1, h2⟩ | ⟨y, hy⟩
    · exact .inl ⟨by conv => lhs; rw [h1]
                     rfl, Nat.succ_lt_succ h2⟩
    · refine .inr ⟨y, ?_⟩
      have : (lead (n + 1) (true :: q) < n + 1) = (lead n q < n) := by simp [lead]
      simp only [this]
      conv => lhs; rw [hy]
      rfl
theorem lead_ones : ∀ (n k : Nat) (y : List Bool), k ≤ n → lead n (List.replicate k true ++ ((if k < n then [false] else []) ++ y)) = k
  | 0, 0, y, _ => by cases y <;> rfl
  | n + 1, 0, y, _ => rfl
  | n + 1, k + 1, y, h => by
    have := lead_ones n k y (Nat.le_of_succ_le_succ h)
    simp only [Nat.succ_lt_succ_iff, List.replicate_succ, List.cons_append, lead]
    rw [this]
theorem lead_all : ∀ (n k : Nat), k ≤ n → lead n (List.replicate k true) = k
  | 0, 0, _ => rfl
  | n + 1, 0, _ => rfl
  | n + 1, k + 1, h => by
    simp only [List.replicate_succ, lead]
    rw [lead_all n k (Nat.le_of_succ_le_succ h)]
/-- a group, its bits, and what stands behind. -/
def parse (q : List Bool) : Option (Nat × List Bool × List Bool) :=
  if q.length < front (lead 8 q) + behind (lead 8 q) then none
  else some (lead 8 q, (q.drop (front (lead 8 q))).take (behind (lead 8 q)), q.drop (front (lead 8 q) + behind (lead 8 q)))
theorem lead_enc {k : Nat} (hk : k < 9) (y : List Bool) : lead 8 (ones k ++ y) = k := by
  rw [ones, List.append_assoc]; exact lead_ones 8 k y (by omega)
theorem parse_ok {k : Nat} (hk : k < 9) {x : List Bool} (t : List Bool) (hx : x.length = behind k) : parse (ones k ++ (x ++ t)) = some (k, x, t) := by
  have hl := ones_length k
  unfold parse
  rw [lead_enc hk, if_neg (by simp only [List.length_append]; omega)]
  rw [List.drop_left' hl, List.take_left' hx, ← List.append_assoc, List.drop_left' (by rw [List.length_append]; omega)]
theorem parse_enc {k : Nat} (hk : k < 9) (x : Nat) (t : List Bool) : parse (enc k x ++ t) = some (k, nb x (behind k), t) := by
  rw [enc, List.append_assoc]
  exact parse_ok hk t (nb_length _ _)
theorem parse_cases (q : List Bool) : (∃ k, k < 8 ∧ q = List.replicate k true ∧ parse q = none) ∨ (∃ k y, k < 9 ∧ q = ones k ++ y ∧ y.length < behind k ∧ parse q = none) ∨
    (∃ k x t, k < 9 ∧ q = ones k ++ (x ++ t) ∧ x.length = behind k ∧ parse q = some (k, x, t)) := by
  have hle := lead_le 8 q
  rcases lead_split 8 q with ⟨h1, h2⟩ | ⟨y, hy⟩
  · refine .inl ⟨lead 8 q, h2, h1, ?_⟩
    unfold parse
    have hlen : q.length = lead 8 q := by
      have := congrArg List.length h1
      rwa [List.length_replicate] at this
    rw [if_pos]
    rw [front, if_pos h2]; omega
  · rw [← List.append_assoc] at hy
    have hq : q = ones (lead 8 q) ++ y := hy
    obtain ⟨k, hk⟩ : ∃ k, k = lead 8 q := ⟨_, rfl⟩
    rw [← hk] at hq hle
    have hl := ones_length k
    rcases Nat.lt_or_ge y.length (behind k) with h | h
    · refine .inr (.inl ⟨k, y, by omega, hq, h, ?_⟩)
      unfold parse
      rw [← hk, if_pos]
      rw [hq, List.length_append]; omega
    · refine .inr (.inr ⟨k, y.take (behind k), y.drop (behind k), by omega, by rw [List.take_append_drop]; exact hq, by rw [List.length_take]; omega, ?_⟩)
      have := parse_ok (k := k) (by omega) (y.drop (behind k)) (x := y.take (behind k)) (by rw [List.length_take]; omega)
      rw [List.take_append_drop, ← hq] at this
      exact this
theorem parse_some {q x t : List Bool} {k : Nat} (h : parse q = some (k, x, t)) : k < 9 ∧ q = ones k ++ (x ++ t) ∧ x.length = behind k := by
  rcases parse_cases q with ⟨_, _, _, h1⟩ | ⟨_, _, _, _, _, h1⟩ | ⟨k1, x1, t1, h1, h2, h3, h4⟩
  · rw [h1] at h; cases h
  · rw [h1] at h; cases h
  · rw [h4] at h
    injection h with h
    injection h with ha hb
    injection hb with hb hc
    subst ha; subst hb; subst hc
    exact ⟨h1, h2, h3⟩

/-! ### a number with a sign -/
def i64 (y : Nat) : Int := if y < 9223372036854775808 then (y : Int) else (y : Int) - 18446744073709551616
/-- the number of n bits. -/
def sgd (y n : Nat) : Int := if n = 64 then i64 y else if 0 < n ∧ 2 ^ (n - 1) < y then (y : Int) - 2 ^ n else (y : Int)
theorem i64_u64 (v : Int) (h1 : -9223372036854775808 ≤ v) (h2 : v ≤ 9223372036854775807) : i64 (u64 v) = v := by
  unfold i64 u64
  split <;> omega
theorem u64_i64 (y : Nat) (h : y < 18446744073709551616) : u64 (i64 y) = y := by
  unfold i64 u64
  split <;> omega
theorem i64_range (y : Nat) (h : y < 18446744073709551616) : -9223372036854775808 ≤ i64 y ∧ i64 y ≤ 9223372036854775807 := by
  unfold i64
  split <;> omega
theorem fits_bound {v : Int} {g : Nat} (hg : g < 9) (hf : fits v (behind g) = true) (h1 : -9223372036854775808 ≤ v) (h2 : v ≤ 9223372036854775807) : sgd (u64 v % 2 ^ behind g) (behind g) = v := by
  have : g = 0 ∨ g = 1 ∨ g = 2 ∨ g = 3 ∨ g = 4 ∨ g = 5 ∨ g = 6 ∨ g = 7 ∨ g = 8 := by omega
  rcases this with rfl | rfl | rfl | rfl | rfl | rfl | rfl | rfl | rfl
  · simp [behind, fits] at hf
    subst hf
    rfl
  all_goals simp only [behind, fits, sgd, u64, List.getD_cons_succ, List.getD_cons_zero] at hf ⊢
  all_goals simp at hf ⊢
  all_goals first
    | (split <;> omega)
    | skip
  · rw [Nat.mod_eq_of_lt (by omega)]
    exact i64_u64 v h1 h2
theorem gU_fits {x : Nat} (hx : x < 18446744073709551616) : x < 2 ^ behind (gU x) := by
  rcases Nat.lt_or_ge (gU x) 8 with h | h
  · exact of_decide_eq_true (first_at (p := fun g => decide (x < 2 ^ behind g)) h)
  · have : gU x ≤ 8 := first_le _
    rw [show gU x = 8 from by omega]
    exact hx
theorem gS_fits (v : Int) : fits v (behind (gS v)) = true := by
  rcases Nat.lt_or_ge (gS v) 8 with h | h
  · exact first_at (p := fun g => fits v (behind g)) h
  · have : gS v ≤ 8 := first_le _
    rw [show gS v = 8 from by omega]
    rfl
theorem gU_lt (x : Nat) : gU x < 9 := Nat.lt_succ_of_le (first_le _)
theorem gS_lt (v : Int) : gS v < 9 := Nat.lt_succ_of_le (first_le _)
end Go.Proofs.YtjfekjbmgckkcaaGreatDoor.VarPure
