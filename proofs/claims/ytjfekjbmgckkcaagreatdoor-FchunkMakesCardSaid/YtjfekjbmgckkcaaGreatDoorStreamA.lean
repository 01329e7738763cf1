/- stream's walks: right, size, Clone, first, NewWriter, Len, Bytes. -/
import Derived.Test.YtjfekjbmgckkcaaGreatDoorProg
import Derived.Test.YtjfekjbmgckkcaaGreatDoorBase
import Derived.Test.YtjfekjbmgckkcaaGreatDoorStreamPure
import Derived.WalkSpells
import Derived.Lib.AppendZerosOnto
import Derived.Deep.QuietTactic
import Derived.BigQuiet
import Derived.RegionTactic
import Derived.Deep.RegionHeld3
namespace Go.Proofs.YtjfekjbmgckkcaaGreatDoor.StreamA
open Go.RowKit Go.Proofs.YtjfekjbmgckkcaaGreatDoorW.PrintWords
open Go.Proofs.YtjfekjbmgckkcaaGreatDoor.Bits Go.Proofs.YtjfekjbmgckkcaaGreatDoor.Base Go.Proofs.YtjfekjbmgckkcaaGreatDoor.StreamPure

theorem info : (Tryz.prog.info? 5).map (fun i => (i.zero, i.size, i.bytes)) = some (some (.int .u8 0), 1, 1) := by kernel_rfl

set_option maxHeartbeats 400000 in
theorem size_calls (n : Nat) (w : World) (hn : n ≤ 4611686018427387904) :
    Calls Tryz.prog 141 #[.int .i64 n] w fun e w' => e = .returned (.int .i64 ((n + 7) / 8 : Nat)) ∧ w = w' := by
  go_enter Tryz.func141, Tryz.ntmps141
  go_wp2
  go_ret
  refine ⟨?_, rfl⟩
  go_num

set_option maxHeartbeats 400000 in
theorem right_calls (A : Option Addr) (n c : Nat) (k : Int) (w : World) (hn : n ≤ 1152921504606846975) :
    Calls Tryz.prog 68 #[.slice A n c, .int .i64 k] w fun e w' => e = .returned (.bool (decide (0 ≤ k ∧ k ≤ 8 * (n : Int)))) ∧ w = w' := by
  by_cases h0 : 0 ≤ k
  · have d1 : decide (k ≥ 0) = true := by simp; omega
    have d1' : decide (0 ≤ k) = true := by simp; omega
    by_cases h1 : k ≤ 8 * (n : Int)
    · have d2 : decide (k ≤ 8 * (n : Int)) = true := by simp; omega
      have hd : decide (0 ≤ k ∧ k ≤ 8 * (n : Int)) = true := by simp; omega
      rw [hd]
      go_enter Tryz.func68, Tryz.ntmps68
      go_wp2
      go_ret
      exact ⟨rfl, rfl⟩
    · have d2 : decide (k ≤ 8 * (n : Int)) = false := by simp; omega
      have hd : decide (0 ≤ k ∧ k ≤ 8 * (n : Int)) = false := by simp; omega
      rw [hd]
      go_enter Tryz.func68, Tryz.ntmps68
      go_wp2
      go_ret
      exact ⟨rfl, rfl⟩
  · have d1 : decide (k ≥ 0) = false := by simp; omega
    have d1' : decide (0 ≤ k) = false := by simp; omega
    have hd : decide (0 ≤ k ∧ k ≤ 8 * (n : Int)) = false := by simp; omega
    rw [hd]
    go_enter Tryz.func68, Tryz.ntmps68
    go_wp2
    go_ret
    exact ⟨rfl, rfl⟩

set_option maxHeartbeats 400000 in
theorem clone_calls (A : Option Addr) (c : Nat) (l : List UInt8) (w : World) (hr : RdB w A l) (hm : l.length ≤ 140737488355328) (hc : l.length ≤ c) (hn : A = none → c = 0) :
    Calls Tryz.prog 84 #[.slice A l.length c] w fun e w' => ∃ v, e = .returned v ∧ OwB 5 w' w.heap.size v l ∧ Below w.heap.size w w' := by
  have HR := Lib.hid hr
  clear hr
  cases A with
  | none =>
    have hc0 := hn rfl
    have hl : l = [] := List.length_eq_zero_iff.1 (by omega)
    subst hl
    subst hc0
    clear hc hn
    have hnil := fun w => Lib.run_eql_slice_nil (P := Tryz.prog) w 51 5 none 0 0 0 0 Tryz.underlying51
    go_enter Tryz.func84, Tryz.ntmps84
    go_wp2
    go_ret
    exact ⟨_, rfl, OwI.nil _ _ _ _, Below.refl _ _⟩
  | some ad =>
    clear hn
    have hnil := fun w => Lib.run_eql_slice_nil (P := Tryz.prog) w 51 5 (some ad) l.length c 0 0 Tryz.underlying51
    go_enter Tryz.func84, Tryz.ntmps84
    go_wp2_with (at_builtin; refine print_append_row (w0 := w) w.heap.size rfl _ _ 51 5 .u8 1 rfl Tryz.underlying51 info (by decide) _ [] (ints l) (some ad) l.length c rfl rfl ?c1 ?c2 ?c3 ?c4 ?c5 ?_)
    case c1 => exact own_lit w w.heap.size 5 .u8 [] (Nat.le_refl _) (by decide)
    case c2 => have := HR.out.alloc (.cells #[] 5); unfold RdI at this; rw [ints_length] at this; exact this
    case c3 => exact below_alloc (Below.refl _ _) _
    case c4 => simp
    case c5 => simp; omega
    intro v1 w1 ho hb _ _
    go_wp2
    go_ret
    exact ⟨_, rfl, by simpa [OwI] using ho, hb⟩

theorem and_mask (x : UInt8) (r : Nat) : Go.bits .and .u8 (x.toNat : Int) (255 * 2 ^ (8 - r) % 256) = ((UInt8.ofNat (x.toNat &&& (255 * 2 ^ (8 - r) % 256))).toNat : Int) := by
  have h1 : (255 * 2 ^ (8 - r) % 256 : Int) = ((255 * 2 ^ (8 - r) % 256 : Nat) : Int) := by simp
  have h2 : 255 * 2 ^ (8 - r) % 256 < 256 := Nat.mod_lt _ (by decide)
  rw [h1, u8_and_nat _ _ x.toNat_lt h2, UInt8.toNat_ofNat', Nat.mod_eq_of_lt (Nat.lt_of_le_of_lt Nat.and_le_left x.toNat_lt)]
/-- what is cut off: so many bytes. -/
theorem cut_take {w : World} {A : Option Addr} {l : List UInt8} (h : RdB w A l) (k : Nat) : RdB w A (l.take k) := by rw [RdB, ints_take]; exact RdI.take h k

set_option maxHeartbeats 800000 in
theorem first_calls (A : Option Addr) (c n : Nat) (l : List UInt8) (w : World) (hr : RdB w A l) (hm : l.length ≤ 140737488355328) (hc : l.length ≤ c) (hA : A = none → c = 0) (hn : n ≤ 8 * l.length) :
    Calls Tryz.prog 69 #[.slice A l.length c, .int .i64 n] w fun e w' => ∃ v, e = .returned v ∧ OwB 5 w' w.heap.size v (pack ((bts l).take n)) ∧ Below w.heap.size w w' := by
  obtain ⟨q, r, hq, hr8⟩ : ∃ q r, n = 8 * q + r ∧ r < 8 := ⟨n / 8, n % 8, by omega, by omega⟩
  rcases Nat.eq_zero_or_pos r with h0 | h0
  · subst h0
    simp only [Nat.add_zero] at hq
    subst hq
    have hl : (l.take q).length = q := by rw [List.length_take]; omega
    have hp := pack_take8 l q
    have h1 := clone_calls A c (l.take q) w (cut_take hr q) (by omega) (by omega) hA
    rw [hl] at h1
    have H1 := Lib.hid h1
    have hs := size_calls (8 * q) w (by omega)
    rw [show (8 * q + 7) / 8 = q from by omega] at hs
    have HS := Lib.hid hs
    have HP := Lib.hid hp
    have hd : decide (((8 * q : Nat) : Int) % 8 > 0) = false := by simp
    have hd' : decide (0 < ((8 * q : Nat) : Int) % 8) = false := by simp
    clear h1 hs hr hA hp hl
    go_enter Tryz.func69, Tryz.ntmps69
    go_wp2_with (fail)
    refine HS.out.mono ?_
    rintro e w' ⟨rfl, rfl⟩
    go_wp2_with (fail)
    refine H1.out.mono ?_
    rintro e w1 ⟨v, rfl, ho, hb⟩
    go_wp2
    go_ret
    exact ⟨v, rfl, by rw [HP.out]; exact ho, hb⟩
  · have hql : q < l.length := by omega
    have hl : (l.take (q + 1)).length = q + 1 := by rw [List.length_take]; omega
    have hp := pack_take l q r hr8 h0 hql
    have h1 := clone_calls A c (l.take (q + 1)) w (cut_take hr (q + 1)) (by omega) (by omega) hA
    rw [hl] at h1
    have H1 := Lib.hid h1
    have hs := size_calls n w (by omega)
    rw [show (n + 7) / 8 = q + 1 from by omega] at hs
    have HS := Lib.hid hs
    have HP := Lib.hid hp
    rw [hq] at HS ⊢
    have hd : decide (((8 * q + r : Nat) : Int) % 8 > 0) = true := by simp; omega
    have hd' : decide (0 < ((8 * q + r : Nat) : Int) % 8) = true := by simp; omega
    have hqc : (q : Int) + 1 ≤ (c : Int) := by omega
    have HL := Lib.hid hl
    clear h1 hs hr hA hp hl
    go_enter Tryz.func69, Tryz.ntmps69
    go_wp2_with (fail)
    refine HS.out.mono ?_
    rintro e w' ⟨rfl, rfl⟩
    go_wp2_with (fail)
    refine H1.out.mono ?_
    rintro e w1 ⟨v, rfl, ho, hb⟩
    obtain ⟨g, cc, rfl, hg, hgs, hcc⟩ := OwI.form ho (by rw [ints_length, HL.out]; omega)
    rw [show (ints (l.take (q + 1))).length = q + 1 from by rw [ints_length, HL.out]] at ho hcc ⊢
    have hat := ho.at_ q (by rw [HL.out]; omega)
    obtain ⟨x, hx⟩ : ∃ x, x = l[q] := ⟨_, rfl⟩
    rw [List.getElem_take, ← hx] at hat
    obtain ⟨hat1, hat2⟩ := hat
    have hx8 := x.toNat_lt
    have HX := Lib.hid hx
    have HO := Lib.hid ho
    have HB := Lib.hid hb
    clear hx hb
    have hmod : (8 * (q : Int) + (r : Int)) % 8 = r := by omega
    have hm8 := and_mask x r
    obtain ⟨y, hy⟩ : ∃ y, y = UInt8.ofNat (x.toNat &&& (255 * 2 ^ (8 - r) % 256)) := ⟨_, rfl⟩
    rw [← hy] at hm8
    have HM := Lib.hid hm8
    have HY := Lib.hid hy
    clear hm8 hy
    go_wp2_with (fail)
    go_region
    rw [HM.out]
    go_wp2
    go_ret
    refine ⟨_, rfl, ?_, below_drew (HB.out.setCell hg _)⟩
    rw [HP.out, ← HX.out, ← HY.out]
    exact HO.out.set q y

theorem blk_last (w : World) (o : Obj) : (w.alloc o).heap[w.heap.size]? = some o := by
  simp [World.alloc, -World.alloc_eq]
/-- where a walk stops. -/
theorem stop_here {p : Prop} (h : Hid p) : p := h.out
/-- a block's cell, by its number. -/
theorem obj_cell {w : World} {g : Nat} {cs : Array Value} {t i : Nat} {v : Value} (h : w.heap[g]? = some (.cells cs t (0, 0))) (hi : cs[i]? = some v) : w.cell? ⟨g, i, none⟩ = some v := by
  simp [World.cell?, h, hi]
theorem obj_free {w : World} {g : Nat} {cs : Array Value} {t i : Nat} (h : w.heap[g]? = some (.cells cs t (0, 0))) : w.frozen? ⟨g, i, none⟩ = false := by
  simp [World.frozen?, h]

/-! ### a writer: its own block, and that of its bytes -/
def Wr (w : World) (g : Nat) (S : Nat → Prop) (l : List Bool) : Prop :=
  ∃ v, w.heap[g]? = some (.cells #[v, .int .i64 l.length] 117 (0, 0)) ∧ OwB 5 w 0 v (pack l) ∧ v.ownBlock ≠ some g ∧ ∀ k, S k ↔ k = g ∨ v.ownBlock = some k
theorem Wr.self {w : World} {g : Nat} {S : Nat → Prop} {l : List Bool} (h : Wr w g S l) : S g := by
  obtain ⟨v, _, _, _, hs⟩ := h
  exact (hs g).2 (.inl rfl)
theorem Wr.old {w : World} {g : Nat} {S : Nat → Prop} {l : List Bool} (h : Wr w g S l) : ∀ k, S k → k < w.heap.size := by
  obtain ⟨v, hg, ho, _, hs⟩ := h
  intro k hk
  rcases (hs k).1 hk with rfl | hk
  · exact blk_lt hg
  · exact ho.lt_ k hk
/-- what turns nothing of it leaves it. -/
theorem Wr.ch {S' : Nat → Prop} {w w' : World} {g : Nat} {S : Nat → Prop} {l : List Bool} (h : Wr w g S l) (hc : Ch S' w w') (hs : ∀ k, S k → ¬ S' k) : Wr w' g S l := by
  obtain ⟨v, hg, ho, hn, hS⟩ := h
  exact ⟨v, hc.blk hg (hs g ((hS g).2 (.inl rfl))), ho.ch hc fun k hk => hs k ((hS k).2 (.inr hk)), hn, hS⟩
theorem Wr.below {w w' : World} {g : Nat} {S : Nat → Prop} {l : List Bool} (h : Wr w g S l) (hb : Below w.heap.size w w') : Wr w' g S l :=
  h.ch (Ch.of_below (S := fun _ => False) hb) fun _ _ hf => hf
theorem Wr.drew {w : World} {g : Nat} {S : Nat → Prop} {l : List Bool} (h : Wr w g S l) : Wr w.drew g S l := h
theorem Wr.max {w : World} {g : Nat} {S : Nat → Prop} {l : List Bool} (h : Wr w g S l) : (pack l).length ≤ 9223372036854775807 := by
  obtain ⟨v, _, ho, _, _⟩ := h
  have := ho.max
  rwa [ints_length] at this

set_option maxHeartbeats 400000 in
theorem len_calls (g : Nat) (S : Nat → Prop) (l : List Bool) (w : World) (h : Wr w g S l) :
    Calls Tryz.prog 21 #[.pointer (some ⟨g, 0, none⟩)] w fun e w' => e = .returned (.int .i64 l.length) ∧ w = w' := by
  obtain ⟨v, hg, -, -, -⟩ := h
  have c1 := obj_cell (i := 1) hg rfl
  go_enter Tryz.func21, Tryz.ntmps21
  go_wp2
  go_ret
  exact ⟨rfl, rfl⟩

set_option maxHeartbeats 400000 in
theorem bytes_calls (g : Nat) (S : Nat → Prop) (l : List Bool) (w : World) (h : Wr w g S l) (hm : l.length ≤ 1000000000000) :
    Calls Tryz.prog 26 #[.pointer (some ⟨g, 0, none⟩)] w fun e w' => ∃ v, e = .returned v ∧ OwB 5 w' w.heap.size v (pack l) ∧ Below w.heap.size w w' := by
  obtain ⟨v, hg, ho, -, -⟩ := h
  obtain ⟨A, c, rfl, hc, hr⟩ := ho.reads
  have c1 := obj_cell (i := 0) hg rfl
  have hA : A = none → c = 0 := by
    rintro rfl
    rcases ho.2 with ⟨he, _⟩ | ⟨_, _, _, he, _⟩
    · injection he
    · injection he with he; cases he
  have H := Lib.hid (clone_calls A c (pack l) w hr (by rw [pack_length]; omega) hc hA)
  clear hr hA ho
  go_enter Tryz.func26, Tryz.ntmps26
  go_wp2_with (fail)
  refine H.out.mono ?_
  rintro e w1 ⟨v, rfl, ho, hb⟩
  go_wp2
  go_ret
  exact ⟨v, rfl, ho, hb⟩

set_option maxHeartbeats 800000 in
theorem newWriter_calls (A : Option Addr) (c n : Nat) (l : List UInt8) (w : World) (hr : RdB w A l) (hm : l.length ≤ 140737488355328) (hc : l.length ≤ c) (hA : A = none → c = 0) (hn : n ≤ 8 * l.length) :
    Calls Tryz.prog 13 #[.slice A l.length c, .int .i64 n] w fun e w' => ∃ g S, e = .returned (.tuple #[.pointer (some ⟨g, 0, none⟩), .int .i64 0]) ∧ Wr w' g S ((bts l).take n) ∧ (∀ k, S k → w.heap.size ≤ k) ∧ Below w.heap.size w w' := by
  have h1 := right_calls A l.length c n w (by omega)
  rw [decide_eq_true (show 0 ≤ (n : Int) ∧ (n : Int) ≤ 8 * (l.length : Int) by omega)] at h1
  have H1 := Lib.hid h1
  have H2 := Lib.hid (first_calls A c n l w hr hm hc hA hn)
  have HL := Lib.hid (show ((bts l).take n).length = n by rw [List.length_take, bts_length]; omega)
  clear h1 hr hA
  go_enter Tryz.func13, Tryz.ntmps13
  go_wp2_with (fail)
  refine H1.out.mono ?_
  rintro e w' ⟨rfl, rfl⟩
  go_wp2_with (fail)
  refine H2.out.mono ?_
  rintro e w1 ⟨v, rfl, ho, hb⟩
  have hsz := hb.size
  obtain ⟨D, d, rfl, -, -⟩ := ho.reads
  have HO := Lib.hid ho
  have HB := Lib.hid hb
  clear ho hb
  go_wp2
  go_ret2
  refine ⟨w1.heap.size, fun k => k = w1.heap.size ∨ (Value.slice D (pack ((bts l).take n)).length d).ownBlock = some k, rfl, ⟨_, by rw [HL.out]; exact blk_last _ _, (HO.out.below (below_alloc (Below.refl _ _) _)).lower (Nat.zero_le _), ?_, fun k => Iff.rfl⟩, ?_, below_alloc HB.out _⟩
  · intro h
    have := HO.out.lt_ _ h
    omega
  · rintro k (rfl | hk)
    · exact hsz
    · exact HO.out.base_ _ hk

set_option maxHeartbeats 800000 in
theorem newWriter_bad (A : Option Addr) (c n : Nat) (k : Int) (w : World) (hm : n ≤ 140737488355328) (hk : k < 0 ∨ 8 * (n : Int) < k) :
    Calls Tryz.prog 13 #[.slice A n c, .int .i64 k] w fun e w' => e = .returned (.tuple #[.pointer none, .int .i64 11]) ∧ w = w' := by
  have h1 := right_calls A n c k w (by omega)
  rw [decide_eq_false (show ¬ (0 ≤ k ∧ k ≤ 8 * (n : Int)) by omega)] at h1
  have H1 := Lib.hid h1
  clear h1 hk
  go_enter Tryz.func13, Tryz.ntmps13
  go_wp2_with (fail)
  refine H1.out.mono ?_
  rintro e w' ⟨rfl, rfl⟩
  go_wp2
  go_ret2
  exact ⟨rfl, rfl⟩

/-- a writer that has grown. -/
theorem Wr.grow {w w2 : World} {g : Nat} {S : Nat → Prop} {l' : List Bool} {v v1 : Value} (hS : ∀ k, S k ↔ k = g ∨ v.ownBlock = some k) (hg : g < w.heap.size)
    (hat : v1.ownBlock = v.ownBlock ∨ ∃ b, v1.ownBlock = some b ∧ w.heap.size ≤ b) (hn : v.ownBlock ≠ some g)
    (hg2 : w2.heap[g]? = some (.cells #[v1, .int .i64 l'.length] 117 (0, 0))) (ho2 : OwB 5 w2 0 v1 (pack l')) (hc : Ch S w w2) :
    Upd (fun w S => Wr w g S l') S w w2 := by
  refine ⟨fun k => k = g ∨ v1.ownBlock = some k, ⟨v1, hg2, ho2, ?_, fun k => Iff.rfl⟩, ?_, hc⟩
  · intro h
    rcases hat with he | ⟨b, hb, hbs⟩
    · exact hn (he ▸ h)
    · rw [hb] at h
      injection h with h
      omega
  · rintro k (rfl | hk)
    · exact .inl ((hS _).2 (.inl rfl))
    · rcases hat with he | ⟨b, hb, hbs⟩
      · exact .inl ((hS _).2 (.inr (he ▸ hk)))
      · rw [hb] at hk
        injection hk with hk
        exact .inr (by omega)

end Go.Proofs.YtjfekjbmgckkcaaGreatDoor.StreamA
