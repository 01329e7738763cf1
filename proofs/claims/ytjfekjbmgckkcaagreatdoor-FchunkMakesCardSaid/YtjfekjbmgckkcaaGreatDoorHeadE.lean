/- head's walks: Put, Len. -/
import Derived.Test.YtjfekjbmgckkcaaGreatDoorHeadD
import Derived.Test.YtjfekjbmgckkcaaGreatDoorThrA
namespace Go.Proofs.YtjfekjbmgckkcaaGreatDoor.HeadE
open Go.RowKit Go.Proofs.YtjfekjbmgckkcaaGreatDoorW.PrintWords
open Go.Proofs.YtjfekjbmgckkcaaGreatDoor.Bits Go.Proofs.YtjfekjbmgckkcaaGreatDoor.Base Go.Proofs.YtjfekjbmgckkcaaGreatDoor.VarPure Go.Proofs.YtjfekjbmgckkcaaGreatDoor.VarbitA Go.Proofs.YtjfekjbmgckkcaaGreatDoor.VarbitB Go.Proofs.YtjfekjbmgckkcaaGreatDoor.StreamA Go.Proofs.YtjfekjbmgckkcaaGreatDoor.SpanPure Go.Proofs.YtjfekjbmgckkcaaGreatDoor.SpanBase Go.Proofs.YtjfekjbmgckkcaaGreatDoor.FailAs Go.Proofs.YtjfekjbmgckkcaaGreatDoor.FailB Go.Proofs.YtjfekjbmgckkcaaGreatDoor.FailC Go.Proofs.YtjfekjbmgckkcaaGreatDoor.ThrPure Go.Proofs.YtjfekjbmgckkcaaGreatDoor.HeadA Go.Proofs.YtjfekjbmgckkcaaGreatDoor.HeadB Go.Proofs.YtjfekjbmgckkcaaGreatDoor.HeadPure Go.Proofs.YtjfekjbmgckkcaaGreatDoor.HeadD

theorem right_in : ∀ (l : List Sp) (f : Bool) (a n : Int), rightF f a n l = true → -1048576 ≤ a → a ≤ 1048577 → ∀ s ∈ l, -2097153 ≤ s.1 ∧ s.1 ≤ 2097152 ∧ 0 ≤ s.2 ∧ s.2 ≤ 4096
  | [], _, _, _, _, _, _ => fun _ h => by cases h
  | s :: t, f, a, n, h, h1, h2 => by
    simp only [rightF, Bool.and_eq_true, okS1, decide_eq_true_eq] at h
    obtain ⟨⟨o1, o2, o3, o4, o5, o6, o7, o8⟩, hr⟩ := h
    intro x hx
    rcases List.mem_cons.1 hx with rfl | hx
    · exact ⟨by omega, by omega, by omega, by omega⟩
    · exact right_in t false _ _ hr (by omega) (by omega) x hx
theorem sides_in {l : List Sp} (h : sidesE l = 0) : l.length ≤ 1024 ∧ ∀ s ∈ l, -2097153 ≤ s.1 ∧ s.1 ≤ 2097152 ∧ 0 ≤ s.2 ∧ s.2 ≤ 4096 := by
  unfold sidesE at h
  split at h
  · exact absurd h ‹_›
  · rename_i h'
    have h' := Decidable.not_not.1 h'
    obtain ⟨h1, h2⟩ := chk_zero.1 h'
    exact ⟨h1, right_in l true 0 0 h2 (by decide) (by decide)⟩
theorem sides64 {l : List Sp} (h : sidesE l = 0) : In64 l := fun s hs => by
  obtain ⟨a, b, c, d⟩ := (sides_in h).2 s hs
  exact ⟨by omega, by omega, by omega, by omega⟩
/-- a right head. -/
theorem err_zero {h : Hd} (he : (headErr h).1 = 0) : (h.vr = 0 ∨ h.vr = 1) ∧ 0 ≤ h.hint ∧ h.hint ≤ 3 ∧ -4 ≤ h.schema ∧ h.schema ≤ 8 ∧ thrOk h.zero = true ∧ sidesE h.pos = 0 ∧ sidesE h.neg = 0 := by
  unfold headErr at he
  split at he
  · cases he
  · split at he
    · cases he
    · split at he
      · cases he
      · split at he
        · cases he
        · split at he
          · exact absurd he ‹_›
          · rename_i h1 h2 h3 h4 h5
            have h3 := Decidable.not_not.1 h3
            have h5 := Decidable.not_not.1 h5
            unfold shapeE at h3
            split at h3
            · cases h3
            · simp only [Bool.not_eq_false] at h4
              exact ⟨by omega, by omega, by omega, by omega, by omega, h4, h5, he⟩
theorem err_some {w : World} {v : Value} {c : Int} {nm : ByteArray} {n : Int} {z : Value} (hc : c ≠ 0) (h : Err w v (plc c nm n) z) : ∃ g, v = .iface 182 (.pointer (some ⟨g, 0, none⟩)) := by
  have h := h.ch
  rw [plc, if_neg hc] at h
  obtain ⟨g, _, e, _⟩ := h
  exact ⟨g, e⟩
theorem err_none {w : World} {v : Value} {nm : ByteArray} {n : Int} {z : Value} (h : Err w v (plc 0 nm n) z) : v = z := h.ch
/-- what Put hands back. -/
def PutPost (g : Nat) (S : Nat → Prop) (l : List Bool) (h : Hd) (w : World) (e : Ending) (w' : World) : Prop :=
  ((headErr h).1 = 0 ∧ e = .returned .nilIface ∧ Upd (fun w S => Wr w g S (l ++ encH h)) S w w') ∨
    ((headErr h).1 ≠ 0 ∧ ErrAt (headErr h).1 (headErr h).2 0 w e w')
theorem or_flags (I V : Nat) (hI : I < 4) (hV : V < 2) : Go.bits .or .i64 ((I : Int) * 2) (V : Int) = ((2 * I + V : Nat) : Int) := by
  have h : ∀ (i : Fin 4) (v : Fin 2), Go.bits .or .i64 ((i.val : Int) * 2) (v.val : Int) = ((2 * i.val + v.val : Nat) : Int) := by decide +kernel
  exact h ⟨I, hI⟩ ⟨V, hV⟩
/-- what stays while a head is put: its block, the table, its lists. -/
structure St (w : World) (S : Nat → Prop) (b : Nat) (O : Obj) (A : Option Addr) (pos : List Sp) (B : Option Addr) (neg : List Sp) : Prop where
  blk : w.heap[b]? = some O
  nb : ¬ S b
  tab : Tab w
  ng : ¬ S 1
  rp : RdSp w A pos
  ra : ∀ ad, A = some ad → 0 < pos.length → ¬ S ad.block
  rn : RdSp w B neg
  rb : ∀ ad, B = some ad → 0 < neg.length → ¬ S ad.block
theorem St.step {w w2 : World} {S S2 : Nat → Prop} {b : Nat} {O : Obj} {A B : Option Addr} {pos neg : List Sp} (h : St w S b O A pos B neg) (hs : ∀ k, S2 k → S k ∨ w.heap.size ≤ k) (hc : Ch S w w2) : St w2 S2 b O A pos B neg :=
  ⟨hc.blk h.blk h.nb, not_turned (blk_lt h.blk) h.nb hs, h.tab.ch hc h.ng, not_turned h.tab.lt h.ng hs, rd_ch h.rp hc h.ra, fun ad hA hp => not_turned (rd_lt h.rp ad hA hp) (h.ra ad hA hp) hs,
    rd_ch h.rn hc h.rb, fun ad hA hp => not_turned (rd_lt h.rn ad hA hp) (h.rb ad hA hp) hs⟩
set_option maxRecDepth 100000 in
set_option maxHeartbeats 3200000 in
theorem Put_calls (g : Nat) (S : Nat → Prop) (l : List Bool) (h : Hd) (p : Lc) (w : World) (hh : HdIn w h p) (hg : GlE w) (hT : Tab w) (hG : ¬ S 1) (hw : Wr w g S l) (hm : l.length ≤ 100000000)
    (hA : ∀ ad, p.A = some ad → 0 < h.pos.length → ¬ S ad.block) (hB : ∀ ad, p.B = some ad → 0 < h.neg.length → ¬ S ad.block) :
    Calls Tryz.prog 17 #[.pointer (some ⟨g, 0, none⟩), .agg (hcs h p).toArray] w (PutPost g S l h w) := by
  have HCK := Lib.hid (fun W (x : Below w.heap.size w W) => check_calls h p W (hh.below x) (gle_below hg x))
  obtain ⟨e, he⟩ : ∃ e, e = headErr h := ⟨_, rfl⟩
  rw [← he] at HCK
  by_cases h0 : e.1 = 0
  · have H0 := Lib.hid (show (headErr h).1 = 0 from he ▸ h0)
    rw [h0] at HCK
    obtain ⟨vr, hint, schema, zt, pos, neg⟩ := h
    obtain ⟨A, c, B, d⟩ := p
    obtain ⟨hv, hi1, hi2, hs1, hs2, htz, hsp, hsn⟩ := err_zero H0.out
    simp only at hv hi1 hi2 hs1 hs2 htz hsp hsn hA hB
    obtain ⟨I, rfl⟩ : ∃ I : Nat, hint = (I : Int) := ⟨hint.toNat, by omega⟩
    obtain ⟨V, rfl⟩ : ∃ V : Nat, vr = (V : Int) := ⟨vr.toNat, by omega⟩
    have hV : V < 2 := by omega
    have hI : I < 4 := by omega
    have hof := or_flags I V hI hV
    have hz := hh.z
    simp only at hz
    obtain ⟨O, hO⟩ : ∃ O, O = Obj.cells #[.int .i64 V, .int .i64 I, .int .i64 schema, .int .u64 zt, .slice A pos.length c, .slice B neg.length d] 25 (0, 0) := ⟨_, rfl⟩
    have HO := Lib.hid hO
    have HB0 := Lib.hid (below_alloc (Below.refl w.heap.size w) (.cells #[.int .i64 V, .int .i64 I, .int .i64 schema, .int .u64 zt, .slice A pos.length c, .slice B neg.length d] 25))
    have HST := Lib.hid (fun w1 (hb1 : Below (w.alloc (.cells #[.int .i64 V, .int .i64 I, .int .i64 schema, .int .u64 zt, .slice A pos.length c, .slice B neg.length d] 25)).heap.size (w.alloc (.cells #[.int .i64 V, .int .i64 I, .int .i64 schema, .int .u64 zt, .slice A pos.length c, .slice B neg.length d] 25)) w1) (hbw : Below w.heap.size w w1) =>
      (show St w1 S w.heap.size O A pos B neg from ⟨(hb1.block _ (by simp)).trans (by rw [hO]; exact blk_last w _), fun h => Nat.lt_irrefl _ (hw.old _ h), hT.below hbw, hG, hh.pos.rd.below hbw, hA, hh.neg.rd.below hbw, hB⟩))
    have HIP := Lib.hid (sides64 hsp)
    have HIN := Lib.hid (sides64 hsn)
    have HPP := Lib.hid (fun s hs => ((sides_in hsp).2 s hs).2.2.1)
    have HPN := Lib.hid (fun s hs => ((sides_in hsn).2 s hs).2.2.1)
    have hlp := (sides_in hsp).1
    have hln := (sides_in hsn).1
    have HW := Lib.hid (fun w1 (hbw : Below w.heap.size w w1) => hw.below hbw)
    have HTZ := Lib.hid htz
    show Calls Tryz.prog 17 #[.pointer (some ⟨g, 0, none⟩), .agg #[.int .i64 V, .int .i64 I, .int .i64 schema, .int .u64 zt, .slice A pos.length c, .slice B neg.length d]] w _
    clear hv hO hw hT hG hA hB hh hsp hsn htz h0 he
    go_enter Tryz.func17, Tryz.ntmps17
    go_wp2_with (fail)
    refine (HCK.out _ HB0.out).mono ?_
    rintro e1 w1 ⟨v1, rfl, he1, hb1⟩
    have hbw := below_then HB0.out (by simp) hb1
    have ST1 := Lib.hid (HST.out w1 hb1 hbw)
    have HW1 := Lib.hid (HW.out w1 hbw)
    have HC1 := Lib.hid (Ch.of_below (S := S) hbw)
    obtain rfl := err_none he1
    have k1 := ST1.out.blk
    rw [HO.out] at k1
    have c0 := obj_cell (i := 0) k1 rfl
    have c1 := obj_cell (i := 1) k1 rfl
    have hf : ((((2 * I + V) * 32 : Nat) : Nat) : Int) = (2 * (I : Int) + (V : Int)) * 32 := by omega
    have hp1 := StreamBit.put_calls g S l ((2 * I + V) * 32) 8 w1 (HW1.out) (by omega) (by omega) (by omega)
    rw [hf] at hp1
    have HP := Lib.hid hp1
    clear he1 hb1 hbw k1 HB0 HCK hp1 hf
    go_wp2_with (fail)
    refine HP.out.mono ?_
    rintro e2 w2 ⟨rfl, S2, hw2, hs2, hc2⟩
    have HW2 := Lib.hid hw2
    have HS2 := Lib.hid hs2
    have HC2 := Lib.hid hc2
    have ST2 := Lib.hid (ST1.out.step hs2 hc2)
    have k2 := ST2.out.blk
    rw [HO.out] at k2
    have c2 := obj_cell (i := 2) k2 rfl
    have HPS := Lib.hid (putS_calls g S2 _ schema w2 ST2.out.tab ST2.out.ng hw2 (by rw [List.length_append, nb_length]; omega) (by omega) (by omega))
    clear hw2 hs2 hc2 k2 c0 c1 HP
    go_wp2_with (fail)
    refine HPS.out.mono ?_
    rintro e3 w3 ⟨rfl, S3, hw3, hs3, hc3⟩
    have HW3 := Lib.hid hw3
    have HS3 := Lib.hid hs3
    have HC3 := Lib.hid hc3
    have ST3 := Lib.hid (ST2.out.step hs3 hc3)
    have k3 := ST3.out.blk
    rw [HO.out] at k3
    have c3 := obj_cell (i := 3) k3 rfl
    have HPT := Lib.hid (ThrA.put_calls g S3 _ zt w3 hw3 (by rw [List.length_append, List.length_append, nb_length]; have := encS_le schema; omega) hz)
    clear hw3 hs3 hc3 k3 c2 HPS
    go_wp2_with (fail)
    refine HPT.out.mono ?_
    rintro e4 w4 (⟨-, rfl, S4, hw4, hs4, hc4⟩ | ⟨h9, -, -⟩)
    rotate_left 1
    · rw [HTZ.out] at h9; cases h9
    have HW4 := Lib.hid hw4
    have HS4 := Lib.hid hs4
    have HC4 := Lib.hid hc4
    have ST4 := Lib.hid (ST3.out.step hs4 hc4)
    have k4 := ST4.out.blk
    rw [HO.out] at k4
    have c4 := obj_cell (i := 4) k4 rfl
    have HPP4 := Lib.hid (HeadD.put_calls g S4 _ A c pos w4 ST4.out.tab ST4.out.ng hw4 (by rw [List.length_append, List.length_append, List.length_append, nb_length]; have := encS_le schema; have := encT_length zt; omega) ST4.out.rp ST4.out.ra (by omega) HIP.out HPP.out)
    clear hw4 hs4 hc4 k4 c3 HPT
    go_wp2_with (fail)
    refine HPP4.out.mono ?_
    rintro e5 w5 ⟨rfl, S5, hw5, hs5, hc5⟩
    have HW5 := Lib.hid hw5
    have HS5 := Lib.hid hs5
    have HC5 := Lib.hid hc5
    have ST5 := Lib.hid (ST4.out.step hs5 hc5)
    have k5 := ST5.out.blk
    rw [HO.out] at k5
    have c5 := obj_cell (i := 5) k5 rfl
    have HPN5 := Lib.hid (HeadD.put_calls g S5 _ B d neg w5 ST5.out.tab ST5.out.ng hw5 (by rw [List.length_append, List.length_append, List.length_append, List.length_append, nb_length]; have := encS_le schema; have := encT_length zt; have := encSp_le pos; omega) ST5.out.rn ST5.out.rb (by omega) HIN.out HPN.out)
    clear hw5 hs5 hc5 k5 c4 HPP4
    go_wp2_with (fail)
    refine HPN5.out.mono ?_
    rintro e6 w6 ⟨rfl, hu6⟩
    have HU6 := Lib.hid hu6
    clear hu6 c5 HPN5
    go_wp2
    go_ret
    refine .inl ⟨H0.out, rfl, ?_⟩
    have hu := Upd.then (fun _ h => .inl h) HC1.out (Upd.then HS2.out HC2.out (Upd.then HS3.out HC3.out (Upd.then HS4.out HC4.out (Upd.then HS5.out HC5.out HU6.out))))
    have e : encH ⟨V, I, schema, zt, pos, neg⟩ = nb ((2 * I + V) * 32) 8 ++ encS schema ++ encT zt ++ encSp pos ++ encSp neg := by simp [encH]
    rw [e]
    simpa [List.append_assoc] using hu
  · have H0 := Lib.hid (show (headErr h).1 ≠ 0 from he ▸ h0)
    have HE := Lib.hid he
    obtain ⟨vr, hint, schema, zt, pos, neg⟩ := h
    obtain ⟨A, c, B, d⟩ := p
    obtain ⟨ec, enm⟩ := e
    simp only at HCK h0
    have HB0 := Lib.hid (below_alloc (Below.refl w.heap.size w) (.cells #[.int .i64 vr, .int .i64 hint, .int .i64 schema, .int .u64 zt, .slice A pos.length c, .slice B neg.length d] 25))
    show Calls Tryz.prog 17 #[.pointer (some ⟨g, 0, none⟩), .agg #[.int .i64 vr, .int .i64 hint, .int .i64 schema, .int .u64 zt, .slice A pos.length c, .slice B neg.length d]] w _
    have HN : Hid ((ec : Int) ≠ 0) := Lib.hid (by omega)
    clear hh hg hT hG hw hA hB h0 he
    go_enter Tryz.func17, Tryz.ntmps17
    go_wp2_with (fail)
    refine (HCK.out _ HB0.out).mono ?_
    rintro e1 w1 ⟨v1, rfl, he1, hb1⟩
    obtain ⟨gv, rfl⟩ := err_some HN.out he1
    have HB1 := Lib.hid (below_then HB0.out (by simp) hb1)
    have HE1 := Lib.hid he1
    clear he1 hb1 HCK
    go_wp2
    go_ret
    exact .inr ⟨H0.out, _, rfl, by rw [← HE.out]; exact HE1.out, HB1.out⟩
end Go.Proofs.YtjfekjbmgckkcaaGreatDoor.HeadE
