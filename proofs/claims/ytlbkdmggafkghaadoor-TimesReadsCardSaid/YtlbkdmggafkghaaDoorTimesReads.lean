/- law 13: any bits are read number by number. -/
import Derived.Test.YtlbkdmggafkghaaDoorLaw13B
import Derived.Test.YtlbkdmggafkghaaDoorRef13
namespace Go.Proofs.YtlbkdmggafkghaaDoor.TimesReads
open Go.RowKit Go.Proofs.YtlbkdmggafkghaaDoorW.PrintWords
open Go.Proofs.YtlbkdmggafkghaaDoor.Bits Go.Proofs.YtlbkdmggafkghaaDoor.Base Go.Proofs.YtlbkdmggafkghaaDoor.VarPure Go.Proofs.YtlbkdmggafkghaaDoor.TimesPure Go.Proofs.YtlbkdmggafkghaaDoor.VarbitA Go.Proofs.YtlbkdmggafkghaaDoor.VarbitB Go.Proofs.YtlbkdmggafkghaaDoor.VarbitD Go.Proofs.YtlbkdmggafkghaaDoor.StreamA Go.Proofs.YtlbkdmggafkghaaDoor.StreamR Go.Proofs.YtlbkdmggafkghaaDoor.VarKit Go.Proofs.YtlbkdmggafkghaaDoor.Ref01 Go.Proofs.YtlbkdmggafkghaaDoor.Ref04 Go.Proofs.YtlbkdmggafkghaaDoor.TimesA Go.Proofs.YtlbkdmggafkghaaDoor.TimesB Go.Proofs.YtlbkdmggafkghaaDoor.TimesL Go.Proofs.YtlbkdmggafkghaaDoor.Law13A Go.Proofs.YtlbkdmggafkghaaDoor.Law13B Go.Proofs.YtlbkdmggafkghaaDoor.Ref13 Go.Proofs.YtlbkdmggafkghaaDoor.LawBase

theorem info64 : (Tryd.prog.info? 22).map (fun i => (i.zero, i.size, i.bytes)) = some (some (.int .u64 0), 1, 8) := by kernel_rfl
theorem told_pos (sg : Bool) (l : List Nat) (v : Nat) : 0 < (toldL sg l v).length := by
  have hS : ∀ z, 0 < (encS z).length := fun z => by
    rw [encS_length, front]
    have := gS_lt z
    split <;> omega
  have hU : ∀ z, 0 < (encU z).length := fun z => by
    rw [encU_length, front]
    have := gU_lt z
    split <;> omega
  unfold toldL told
  split
  · split
    · exact hS _
    · exact hU _
  · exact hS _
theorem cut_front {P : Program} (t : TypeId) (ht : P.underlying t = some .string) (x y : List Bool) (s ta : ByteArray) (hs : s = txt (x ++ y)) (ha : ta = txt x) (W : World) :
    (Instr.slice t (.string s) none (some (.int .i64 (ta.size : Int))) none).run P W = .ok (.string ta) W := by
  subst hs ha
  rw [run_slice_string_h W t _ ht .i64 _ (Int.natCast_nonneg _) (by rw [txt_size, txt_size, List.length_append]; omega), Int.toNat_natCast, extract_txt, List.drop_zero, txt_size, Nat.sub_zero, List.take_left' rfl]
theorem cut_back {P : Program} (t : TypeId) (ht : P.underlying t = some .string) (x y : List Bool) (s ta tt : ByteArray) (hs : s = txt (x ++ y)) (ha : ta = txt x) (htt : tt = txt y) (W : World) :
    (Instr.slice t (.string s) (some (.int .i64 (ta.size : Int))) none none).run P W = .ok (.string tt) W := by
  subst hs ha htt
  rw [run_slice_string_l W t _ ht .i64 _ (Int.natCast_nonneg _) (by rw [txt_size, txt_size, List.length_append]; omega), Int.toNat_natCast, extract_txt, txt_size, txt_size, List.length_append, Nat.add_sub_cancel_left, List.drop_left' rfl, List.take_of_length_le (Nat.le_refl _)]

/-- a reader with bits, two rows, and a slice of the numbers that were read. -/
def StR (w : World) (g gx gy : Nat) (SR : Nat → Prop) (Lx Ly L : List Nat) (q : List Bool) (v : Value) (wr : World) : Prop :=
  (∃ a, Rr wr g SR a q false) ∧ RowS wr gx Lx ∧ RowU wr gy Ly ∧ OwI 22 .u64 wr w.heap.size v (nats L) ∧ (∀ b, v.ownBlock = some b → ¬ SR b ∧ b ≠ gx ∧ b ≠ gy) ∧ Below w.heap.size w wr
/-- what never turns. -/
structure Fix (w : World) (gx gy : Nat) (SR : Nat → Prop) : Prop where
  new : ∀ k, SR k → w.heap.size ≤ k
  x : ¬ SR gx
  y : ¬ SR gy
  xy : gx ≠ gy
  gx : w.heap.size ≤ gx
  gy : w.heap.size ≤ gy
theorem StR.below {w wr w' : World} {g gx gy : Nat} {SR : Nat → Prop} {Lx Ly L : List Nat} {q : List Bool} {v : Value} (h : StR w g gx gy SR Lx Ly L q v wr) (hb : Below wr.heap.size wr w') : StR w g gx gy SR Lx Ly L q v w' := by
  obtain ⟨⟨a, h1⟩, h2, h3, h4, h5, h6⟩ := h
  exact ⟨⟨a, h1.below hb⟩, h2.below hb, h3.below hb, h4.below hb, h5, below_then h6 h6.size hb⟩
theorem StR.gotX {w wr w' : World} {g gx gy : Nat} {SR : Nat → Prop} {Lx Ly L Lx' : List Nat} {q q' : List Bool} {v : Value} (h : StR w g gx gy SR Lx Ly L q v wr) (F : Fix w gx gy SR) (hc : Ch (fun k => SR k ∨ k = gx) wr w')
    (hr : ∃ a, Rr w' g SR a q' false) (hx : RowS w' gx Lx') : StR w g gx gy SR Lx' Ly L q' v w' := by
  obtain ⟨-, -, h3, h4, h5, h6⟩ := h
  refine ⟨hr, hx, h3.ch hc ?_, h4.move fun b hb => hc.block b (h4.lt_ b hb) ?_, h5, two_new h6 h6.size F.new F.gx hc⟩
  · rintro (h | h)
    · exact F.y h
    · exact F.xy h.symm
  · rintro (h | h)
    · exact (h5 b hb).1 h
    · exact (h5 b hb).2.1 h
theorem StR.gotY {w wr w' : World} {g gx gy : Nat} {SR : Nat → Prop} {Lx Ly L Ly' : List Nat} {q q' : List Bool} {v : Value} (h : StR w g gx gy SR Lx Ly L q v wr) (F : Fix w gx gy SR) (hc : Ch (fun k => SR k ∨ k = gy) wr w')
    (hr : ∃ a, Rr w' g SR a q' false) (hy : RowU w' gy Ly') : StR w g gx gy SR Lx Ly' L q' v w' := by
  obtain ⟨-, h2, -, h4, h5, h6⟩ := h
  refine ⟨hr, h2.ch hc ?_, hy, h4.move fun b hb => hc.block b (h4.lt_ b hb) ?_, h5, two_new h6 h6.size F.new F.gy hc⟩
  · rintro (h | h)
    · exact F.x h
    · exact F.xy h
  · rintro (h | h)
    · exact (h5 b hb).1 h
    · exact (h5 b hb).2.2 h
theorem StR.otherX {w wr w' : World} {g gx gy : Nat} {SR : Nat → Prop} {Lx Ly L : List Nat} {q : List Bool} {v : Value} (h : StR w g gx gy SR Lx Ly L q v wr) (F : Fix w gx gy SR) (hc : Ch (fun k => SR k ∨ k = gx) wr w') : RowU w' gy Ly := by
  obtain ⟨-, -, h3, -, -, -⟩ := h
  refine h3.ch hc ?_
  rintro (h | h)
  · exact F.y h
  · exact F.xy h.symm
theorem StR.otherY {w wr w' : World} {g gx gy : Nat} {SR : Nat → Prop} {Lx Ly L : List Nat} {q : List Bool} {v : Value} (h : StR w g gx gy SR Lx Ly L q v wr) (F : Fix w gx gy SR) (hc : Ch (fun k => SR k ∨ k = gy) wr w') : RowS w' gx Lx := by
  obtain ⟨-, h2, -, -, -, -⟩ := h
  refine h2.ch hc ?_
  rintro (h | h)
  · exact F.x h
  · exact F.xy h
theorem StR.push {w wr w' : World} {g gx gy : Nat} {SR : Nat → Prop} {Lx Ly L : List Nat} {q : List Bool} {v v1 : Value} {x : Nat} (h : StR w g gx gy SR Lx Ly L q v wr)
    (ho : OwI 22 .u64 w' w.heap.size v1 (nats L ++ [(x : Int)])) (hb : Below w.heap.size w w') (hg : wr.grownBy w' v.ownBlock) (hat : v1.ownBlock = v.ownBlock ∨ ∃ b, v1.ownBlock = some b ∧ wr.heap.size ≤ b) :
    StR w g gx gy SR Lx Ly (L ++ [x]) q v1 w' := by
  obtain ⟨⟨a, h1⟩, h2, h3, -, h5, -⟩ := h
  have hc : Ch (fun k => v.ownBlock = some k) wr w' := Ch.grown (Ch.refl _ _) hg fun k hk => .inl hk
  refine ⟨⟨a, h1.ch hc fun k hk he => (h5 k he).1 hk⟩, h2.ch hc fun he => (h5 _ he).2.1 rfl, h3.ch hc fun he => (h5 _ he).2.2 rfl, by rw [nats_append]; exact ho, ?_, hb⟩
  intro b hb1
  rcases hat with he | ⟨b', he, hlt⟩
  · exact h5 b (he ▸ hb1)
  · rw [he] at hb1
    injection hb1 with hb1
    subst hb1
    refine ⟨fun hs => ?_, ?_, ?_⟩
    · have := h1.old _ hs; omega
    · have := h2.lt; omega
    · have := h3.lt; omega

set_option maxRecDepth 4000 in
set_option maxHeartbeats 3200000 in
theorem coreS (A : Option Addr) (c n : Nat) (B : List UInt8) (w : World) (hT : Tab w) (hr : RdB w A B) (hl : B.length ≤ 60) (hc : B.length ≤ c) (hA : A = none → c = 0) (hn : n ≤ 8 * B.length) :
    Calls Tryd.prog 7 #[.slice A B.length c, .int .i64 n, .bool true] w fun e w' => e = .returned (.bool true) ∧ Below w.heap.size w w' := by
  have HT := Lib.hid hT
  have hq : ((bts B).take n).length = n := by rw [List.length_take, bts_length]; omega
  have HTE := Lib.hid (text_calls (str B) n w (by rw [str_size]; omega) (by rw [str_size]; omega))
  rw [show (str B).data.toList = B from by simp [str]] at HTE
  have HR1 := Lib.hid (newReader_calls A c n B w hr (by omega) hc hA hn)
  have hcv := RdB.string (P := Tryd.prog) (src := 37) (dst := 9) (e := 5) (c := c) hr rfl Tryd.underlying37 Tryd.underlying5 Tryd.underlying9
  obtain ⟨s, hs⟩ : ∃ s, s = str B := ⟨_, rfl⟩
  rw [← hs] at hcv HTE
  have d1 : decide ((B.length : Int) > 60) = false := by simp; omega
  have d1' : decide (60 < (B.length : Int)) = false := by simp; omega
  have d1n : decide (60 < B.length) = false := by simp; omega
  have d2 : decide ((n : Int) < 0) = false := by simp
  have d3 : decide ((n : Int) > 8 * (B.length : Int)) = false := by simp; omega
  have d3' : decide (8 * (B.length : Int) < (n : Int)) = false := by simp; omega
  obtain ⟨q0, hqq⟩ : ∃ q, q = (bts B).take n := ⟨_, rfl⟩
  rw [← hqq] at HTE HR1 hq
  have hn480 : n ≤ 480 := by omega
  have HQ0 := Lib.hid hq
  clear hT hr hA hs hqq hq
  go_enter Tryd.func7, Tryd.ntmps7
  go_wp2_with (go_at_call 26; refine HTE.out.mono ?_; rintro e w' ⟨rfl, rfl⟩)
  refine HR1.out.mono ?_
  rintro e w1 ⟨g, SR, rfl, hR1, hSR, hb1⟩
  have HNX := Lib.hid (newS_row w1)
  have HR := Lib.hid hR1
  have HB := Lib.hid hb1
  have HSR := Lib.hid hSR
  clear hR1 hSR hb1 HR1 hcv HTE
  go_wp2_with (fail)
  refine HNX.out.mono ?_
  rintro e w2 ⟨gx, rfl, hx, hgx, hb2⟩
  have HNY := Lib.hid (newU_row w2)
  have HX := Lib.hid hx
  have HGX := Lib.hid hgx
  have HB2 := Lib.hid hb2
  clear hx hgx hb2 HNX
  go_wp2_with (fail)
  refine HNY.out.mono ?_
  rintro e w3 ⟨gy, rfl, hy, hgy, hb3⟩
  have hB2 := below_then HB.out HB.out.size HB2.out
  have FX : Hid (Fix w gx gy SR) := Lib.hid ⟨HSR.out, fun h => by have := HR.out.old _ h; have := HGX.out; omega, fun h => by have := (HR.out.below HB2.out).old _ h; omega, by have := HX.out.lt; omega, Nat.le_trans HB.out.size HGX.out, Nat.le_trans hB2.size hgy⟩
  have HST := Lib.hid (⟨⟨_, (HR.out.below HB2.out).below hb3⟩, HX.out.below hb3, hy, OwI.nil _ _ _ _, fun b h => by simp [Value.ownBlock] at h, below_then hB2 hB2.size hb3⟩ : StR w g gx gy SR [] [] [] q0 (.slice none 0 0) w3)
  clear hy hgy hb3 hB2 HNY HB2 HX HGX HB HR HSR
  go_wp2_with (fail)
  go_loopw [7, 12, 13] (fun tx v i wr => ∃ (L : List Nat) (q : List Bool), tx = .string (txt q) ∧ i = .int .i64 L.length ∧ L.length + q.length ≤ n ∧ Nums L ∧ StR w g gx gy SR L [] L q v wr) (fun _ _ i _ => n + 1 - (intOf i).toNat)
  case atStart => exact ⟨[], q0, rfl, rfl, by rw [HQ0.out]; simp, Nums.nil, HST.out⟩
  case round =>
    clear HST HQ0
    obtain ⟨L, q, rfl, rfl, hlen, hN, hst⟩ := hrel
    have HST := Lib.hid hst
    obtain ⟨⟨a, hR⟩, hx, hy, ho, -, hb⟩ := hst
    obtain ⟨D, d, rfl, hd, hrd⟩ := ho.reads
    rw [nats_length] at hd
    rw [nats_length] at HST
    have hT := HT.out.below hb
    have HG := Lib.hid (getS_row g gx a SR q (lastOf L) (stepOf L) L.length wr hT (not_old HT.out FX.out.new) hx.1 hR FX.out.x (by omega))
    have HPA := Lib.hid (fun W => Parse_calls q W (by omega))
    have HN := Lib.hid hN
    have HO := Lib.hid ho
    have HRD := Lib.hid hrd
    have hLn : L.length ≤ 480 := by omega
    have hls : decide ((L.length : Int) ≤ (n : Int)) = true := by simp; omega
    have hlsn : decide (L.length ≤ n) = true := by simp; omega
    have HLEN := Lib.hid hlen
    have HAW := Lib.hid (fun W (h : Below w.heap.size w W) => lift h h.size (awake_calls W (HT.out.below h)))
    have hsz := txt_size q
    obtain ⟨s, hs⟩ : ∃ s, s = txt q := ⟨_, rfl⟩
    rw [← hs] at HPA hsz ⊢
    have HS := Lib.hid hs
    have hsn : s.size ≤ 480 := by omega
    have HSZ := Lib.hid hsz
    rw [nats_length]
    have hsp := HST.out.2.2.2.2.2.size
    clear hN hR hx hy ho hb hrd hT hlen hsz hs
    go_wp2_with (fail)
    refine HG.out.mono ?_
    rintro e w4 ⟨hc4, ⟨hp, rfl, hr4, ht4⟩ | ⟨k, x, t, hp, hr4, ⟨hrt, rfl, ht4⟩ | ⟨v, st, hrt, rfl, ht4, hv, hst⟩⟩⟩
    · -- too few
      have HP := Lib.hid hp
      have HX4 : Hid (RowS w4 gx L) := Lib.hid ⟨ht4, HN.out⟩
      have HY4 : Hid (RowU w4 gy []) := Lib.hid (HST.out.otherX FX.out hc4)
      have HB4 := Lib.hid (two_new HST.out.2.2.2.2.2 hsp FX.out.new FX.out.gx hc4)
      clear hc4 hr4 ht4 hp HG
      go_wp2_with (fail)
      refine (HPA.out _).mono ?_
      rintro e w5 ⟨hb5, ⟨hp2, rfl⟩ | ⟨k, x, t, hp2, -⟩⟩
      · have K1 := Lib.hid (fun m => rlenS_calls gx _ _ _ (w5.drewN m) (show RowS (w5.drewN m) gx L from HX4.out.below (pw_below_drewN hb5 m)).1)
        have K2 := Lib.hid (fun m => rlenU_calls gy _ _ _ (w5.drewN m) (show RowU (w5.drewN m) gy [] from HY4.out.below (pw_below_drewN hb5 m)).1)
        have hB5 := below_then HB4.out HB4.out.size hb5
        clear hb5 hp2
        go_wp2_with (first
          | (go_at_call 36; refine (K1.out 0).mono ?_; rintro e w6 ⟨rfl, rfl⟩)
          | (go_at_call 37; refine (K2.out 0).mono ?_; rintro e w6 ⟨rfl, rfl⟩)
          | (go_at_call 31; refine (HAW.out _ hB5).mono ?_; rintro e w9 ⟨rfl, hb9⟩))
        go_ret
        exact ⟨rfl, hb9⟩
      · exact absurd (HP.out.symm.trans hp2) (by simp)
    · -- another group has the number
      have HP := Lib.hid hp
      have HX4 : Hid (RowS w4 gx L) := Lib.hid ⟨ht4, HN.out⟩
      have HY4 : Hid (RowU w4 gy []) := Lib.hid (HST.out.otherX FX.out hc4)
      have HB4 := Lib.hid (two_new HST.out.2.2.2.2.2 hsp FX.out.new FX.out.gx hc4)
      clear hc4 hr4 ht4 hp hrt HG
      go_wp2_with (fail)
      refine (HPA.out _).mono ?_
      rintro e w5 ⟨hb5, ⟨hp2, -⟩ | ⟨k2, x2, t2, -, rfl⟩⟩
      · exact absurd (HP.out.symm.trans hp2) (by simp)
      · have K1 := Lib.hid (fun m => rlenS_calls gx _ _ _ (w5.drewN m) (show RowS (w5.drewN m) gx L from HX4.out.below (pw_below_drewN hb5 m)).1)
        have K2 := Lib.hid (fun m => rlenU_calls gy _ _ _ (w5.drewN m) (show RowU (w5.drewN m) gy [] from HY4.out.below (pw_below_drewN hb5 m)).1)
        have hB5 := below_then HB4.out HB4.out.size hb5
        obtain ⟨U, hU⟩ : ∃ U, U = front k2 + behind k2 := ⟨_, rfl⟩
        rw [← hU]
        have u1 : decide ((U : Int) < 0) = false := by simp
        have u2 : decide ((U : Int) ≥ 0) = true := by simp
        have u2' : decide (0 ≤ (U : Int)) = true := by simp
        clear hb5 hU
        go_wp2_with (first
          | (go_at_call 36; refine (K1.out 0).mono ?_; rintro e w6 ⟨rfl, rfl⟩)
          | (go_at_call 37; refine (K2.out 0).mono ?_; rintro e w6 ⟨rfl, rfl⟩)
          | (go_at_call 31; refine (HAW.out _ hB5).mono ?_; rintro e w9 ⟨rfl, hb9⟩))
        go_ret
        exact ⟨rfl, hb9⟩
    · -- a number
      obtain ⟨hqe, hse⟩ := read_told HN.out hp hrt
      subst hse
      have hx4 : RowS w4 gx (L ++ [v]) := ⟨by rw [lastOf_snoc, stepOf_snoc, List.length_append, List.length_singleton]; exact ht4, HN.out.snoc hv⟩
      have HST4 := Lib.hid (HST.out.gotX FX.out hc4 ⟨_, hr4⟩ hx4)
      have hrd4 : RdI .u64 w4 D (nats L) := by
        obtain ⟨_, _, _, ho4, _⟩ := HST4.out
        obtain ⟨D', d', he', _, hr'⟩ := ho4.reads
        injection he' with he1
        subst he1
        exact hr'
      have HPT := Lib.hid (putText_calls true D d v L w4 hrd4 (by omega) HN.out hv)
      simp only [if_true] at HPT
      have hui := wrap_ui v hv
      have htp := told_pos true L v
      have hql : q.length = (toldL true L v).length + t.length := by rw [hqe, List.length_append]
      have hza : (txt (toldL true L v)).size = (toldL true L v).length := txt_size _
      have hzt : (txt t).size = t.length := txt_size _
      obtain ⟨ta, hta⟩ : ∃ s, s = txt (toldL true L v) := ⟨_, rfl⟩
      obtain ⟨tt, htt⟩ : ∃ s, s = txt t := ⟨_, rfl⟩
      have hc1 := cut_front (P := Tryd.prog) 9 Tryd.underlying9 (toldL true L v) t s ta (by rw [← hqe]; exact HS.out) hta
      have hc2 := cut_back (P := Tryd.prog) 9 Tryd.underlying9 (toldL true L v) t s ta tt (by rw [← hqe]; exact HS.out) hta htt
      rw [← hta] at HPT hza
      rw [← htt] at hzt
      have dd : decide ((ta.size : Int) > (s.size : Int)) = false := by have := HSZ.out; simp; omega
      have dd' : decide ((s.size : Int) < (ta.size : Int)) = false := by have := HSZ.out; simp; omega
      have ddn : decide (s.size < ta.size) = false := by have := HSZ.out; simp; omega
      have et : ((t.length : Int) != (tt.size : Int)) = false := by rw [hzt]; simp
      have HLN : Hid (L.length + 1 + t.length ≤ n) := Lib.hid (by have := HLEN.out; omega)
      have hb4 := two_new HST.out.2.2.2.2.2 hsp FX.out.new FX.out.gx hc4
      have HB4 := Lib.hid hb4
      have HTT := Lib.hid htt
      have HV := Lib.hid hv
      clear hc4 hp hr4 hrt ht4 hst hqe hx4 hrd4 htp hql hza hzt hta htt hb4 HG HRD
      go_wp2_with (go_at_call 38; refine HPT.out.mono ?_; rintro e w5 ⟨rfl, hb5⟩; have HST5 := Lib.hid (HST4.out.below hb5); have hsz5 := HST5.out.2.2.2.2.2.size; clear hb5)
      have HO5 := Lib.hid HST5.out.2.2.2.1
      have HBE5 := Lib.hid HST5.out.2.2.2.2.2
      go_region_law (refine append_one_step (w0 := w) w.heap.size rfl (.tmp 135) (.tmp 137) 59 22 .u64 8 rfl Tryd.underlying59 info64 (by decide) _ (nats L) _ (by simp [Act.eval]) (by simp [Act.eval]) HO5.out.drew (below_drew HBE5.out) hsz5 (by rw [nats_length]; omega) ?_; intro v1 w6 ho6 hb6 hg6 hat6; have HST6 := Lib.hid (StR.push (HST5.out.below (below_drew (Below.refl _ _))) ho6 hb6 hg6 hat6); clear ho6 hb6 hg6 hat6)
      all_goals
        have HLF := Lib.hid (fun a h => left_calls g a SR t false w6 h)
        have HR6 := Lib.hid HST6.out.1
        obtain ⟨a6, hr6⟩ := HR6.out
        have HLF6 := Lib.hid (left_calls g a6 SR t false w6 hr6)
        clear hr6 HLF HR6
        go_wp2_with (go_at_call 24; refine HLF6.out.mono ?_; rintro e w7 ⟨rfl, nd, rfl⟩)
        go_roundw
        case rel => exact ⟨L ++ [v], t, by rw [HTT.out], by rw [List.length_append, List.length_singleton]; go_num, by rw [List.length_append, List.length_singleton]; exact HLN.out, HN.out.snoc HV.out, HST6.out.below (pw_below_drewN (Below.refl _ _) nd)⟩
        case measure => have := HLN.out; simp [intOf]; omega

set_option maxRecDepth 4000 in
set_option maxHeartbeats 3200000 in
theorem coreU (A : Option Addr) (c n : Nat) (B : List UInt8) (w : World) (hT : Tab w) (hr : RdB w A B) (hl : B.length ≤ 60) (hc : B.length ≤ c) (hA : A = none → c = 0) (hn : n ≤ 8 * B.length) :
    Calls Tryd.prog 7 #[.slice A B.length c, .int .i64 n, .bool false] w fun e w' => e = .returned (.bool true) ∧ Below w.heap.size w w' := by
  have HT := Lib.hid hT
  have hq : ((bts B).take n).length = n := by rw [List.length_take, bts_length]; omega
  have HTE := Lib.hid (text_calls (str B) n w (by rw [str_size]; omega) (by rw [str_size]; omega))
  rw [show (str B).data.toList = B from by simp [str]] at HTE
  have HR1 := Lib.hid (newReader_calls A c n B w hr (by omega) hc hA hn)
  have hcv := RdB.string (P := Tryd.prog) (src := 37) (dst := 9) (e := 5) (c := c) hr rfl Tryd.underlying37 Tryd.underlying5 Tryd.underlying9
  obtain ⟨s, hs⟩ : ∃ s, s = str B := ⟨_, rfl⟩
  rw [← hs] at hcv HTE
  have d1 : decide ((B.length : Int) > 60) = false := by simp; omega
  have d1' : decide (60 < (B.length : Int)) = false := by simp; omega
  have d1n : decide (60 < B.length) = false := by simp; omega
  have d2 : decide ((n : Int) < 0) = false := by simp
  have d3 : decide ((n : Int) > 8 * (B.length : Int)) = false := by simp; omega
  have d3' : decide (8 * (B.length : Int) < (n : Int)) = false := by simp; omega
  obtain ⟨q0, hqq⟩ : ∃ q, q = (bts B).take n := ⟨_, rfl⟩
  rw [← hqq] at HTE HR1 hq
  have hn480 : n ≤ 480 := by omega
  have HQ0 := Lib.hid hq
  clear hT hr hA hs hqq hq
  go_enter Tryd.func7, Tryd.ntmps7
  go_wp2_with (go_at_call 26; refine HTE.out.mono ?_; rintro e w' ⟨rfl, rfl⟩)
  refine HR1.out.mono ?_
  rintro e w1 ⟨g, SR, rfl, hR1, hSR, hb1⟩
  have HNX := Lib.hid (newS_row w1)
  have HR := Lib.hid hR1
  have HB := Lib.hid hb1
  have HSR := Lib.hid hSR
  clear hR1 hSR hb1 HR1 hcv HTE
  go_wp2_with (fail)
  refine HNX.out.mono ?_
  rintro e w2 ⟨gx, rfl, hx, hgx, hb2⟩
  have HNY := Lib.hid (newU_row w2)
  have HX := Lib.hid hx
  have HGX := Lib.hid hgx
  have HB2 := Lib.hid hb2
  clear hx hgx hb2 HNX
  go_wp2_with (fail)
  refine HNY.out.mono ?_
  rintro e w3 ⟨gy, rfl, hy, hgy, hb3⟩
  have hB2 := below_then HB.out HB.out.size HB2.out
  have FX : Hid (Fix w gx gy SR) := Lib.hid ⟨HSR.out, fun h => by have := HR.out.old _ h; have := HGX.out; omega, fun h => by have := (HR.out.below HB2.out).old _ h; omega, by have := HX.out.lt; omega, Nat.le_trans HB.out.size HGX.out, Nat.le_trans hB2.size hgy⟩
  have HST := Lib.hid (⟨⟨_, (HR.out.below HB2.out).below hb3⟩, HX.out.below hb3, hy, OwI.nil _ _ _ _, fun b h => by simp [Value.ownBlock] at h, below_then hB2 hB2.size hb3⟩ : StR w g gx gy SR [] [] [] q0 (.slice none 0 0) w3)
  clear hy hgy hb3 hB2 HNY HB2 HX HGX HB HR HSR
  go_wp2_with (fail)
  go_loopw [7, 12, 13] (fun tx v i wr => ∃ (L : List Nat) (q : List Bool), tx = .string (txt q) ∧ i = .int .i64 L.length ∧ L.length + q.length ≤ n ∧ Nums L ∧ StR w g gx gy SR [] L L q v wr) (fun _ _ i _ => n + 1 - (intOf i).toNat)
  case atStart => exact ⟨[], q0, rfl, rfl, by rw [HQ0.out]; simp, Nums.nil, HST.out⟩
  case round =>
    clear HST HQ0
    obtain ⟨L, q, rfl, rfl, hlen, hN, hst⟩ := hrel
    have HST := Lib.hid hst
    obtain ⟨⟨a, hR⟩, hx, hy, ho, -, hb⟩ := hst
    obtain ⟨D, d, rfl, hd, hrd⟩ := ho.reads
    rw [nats_length] at hd
    rw [nats_length] at HST
    have hT := HT.out.below hb
    have HG := Lib.hid (getU_row g gy a SR q (lastOf L) (stepOf L) L.length wr hT (not_old HT.out FX.out.new) hy.1 hR FX.out.y (by omega))
    have HPA := Lib.hid (fun W => Parse_calls q W (by omega))
    have HN := Lib.hid hN
    have HO := Lib.hid ho
    have HRD := Lib.hid hrd
    have hLn : L.length ≤ 480 := by omega
    have hls : decide ((L.length : Int) ≤ (n : Int)) = true := by simp; omega
    have hlsn : decide (L.length ≤ n) = true := by simp; omega
    have HLEN := Lib.hid hlen
    have HAW := Lib.hid (fun W (h : Below w.heap.size w W) => lift h h.size (awake_calls W (HT.out.below h)))
    have hsz := txt_size q
    obtain ⟨s, hs⟩ : ∃ s, s = txt q := ⟨_, rfl⟩
    rw [← hs] at HPA hsz ⊢
    have HS := Lib.hid hs
    have hsn : s.size ≤ 480 := by omega
    have HSZ := Lib.hid hsz
    rw [nats_length]
    have hsp := HST.out.2.2.2.2.2.size
    clear hN hR hx hy ho hb hrd hT hlen hsz hs
    go_wp2_with (fail)
    refine HG.out.mono ?_
    rintro e w4 ⟨hc4, ⟨hp, rfl, hr4, ht4⟩ | ⟨k, x, t, hp, hr4, ⟨hrt, rfl, ht4⟩ | ⟨v, st, hrt, rfl, ht4, hv, hst⟩⟩⟩
    · -- too few
      have HP := Lib.hid hp
      have HX4 : Hid (RowU w4 gy L) := Lib.hid ⟨ht4, HN.out⟩
      have HY4 : Hid (RowS w4 gx []) := Lib.hid (HST.out.otherY FX.out hc4)
      have HB4 := Lib.hid (two_new HST.out.2.2.2.2.2 hsp FX.out.new FX.out.gy hc4)
      clear hc4 hr4 ht4 hp HG
      go_wp2_with (fail)
      refine (HPA.out _).mono ?_
      rintro e w5 ⟨hb5, ⟨hp2, rfl⟩ | ⟨k, x, t, hp2, -⟩⟩
      · have K1 := Lib.hid (fun m => rlenU_calls gy _ _ _ (w5.drewN m) (show RowU (w5.drewN m) gy L from HX4.out.below (pw_below_drewN hb5 m)).1)
        have K2 := Lib.hid (fun m => rlenS_calls gx _ _ _ (w5.drewN m) (show RowS (w5.drewN m) gx [] from HY4.out.below (pw_below_drewN hb5 m)).1)
        have hB5 := below_then HB4.out HB4.out.size hb5
        clear hb5 hp2
        go_wp2_with (first
          | (go_at_call 37; refine (K1.out 0).mono ?_; rintro e w6 ⟨rfl, rfl⟩)
          | (go_at_call 36; refine (K2.out 0).mono ?_; rintro e w6 ⟨rfl, rfl⟩)
          | (go_at_call 31; refine (HAW.out _ hB5).mono ?_; rintro e w9 ⟨rfl, hb9⟩))
        go_ret
        exact ⟨rfl, hb9⟩
      · exact absurd (HP.out.symm.trans hp2) (by simp)
    · -- another group has the number
      have HP := Lib.hid hp
      have HX4 : Hid (RowU w4 gy L) := Lib.hid ⟨ht4, HN.out⟩
      have HY4 : Hid (RowS w4 gx []) := Lib.hid (HST.out.otherY FX.out hc4)
      have HB4 := Lib.hid (two_new HST.out.2.2.2.2.2 hsp FX.out.new FX.out.gy hc4)
      clear hc4 hr4 ht4 hp hrt HG
      go_wp2_with (fail)
      refine (HPA.out _).mono ?_
      rintro e w5 ⟨hb5, ⟨hp2, -⟩ | ⟨k2, x2, t2, -, rfl⟩⟩
      · exact absurd (HP.out.symm.trans hp2) (by simp)
      · have K1 := Lib.hid (fun m => rlenU_calls gy _ _ _ (w5.drewN m) (show RowU (w5.drewN m) gy L from HX4.out.below (pw_below_drewN hb5 m)).1)
        have K2 := Lib.hid (fun m => rlenS_calls gx _ _ _ (w5.drewN m) (show RowS (w5.drewN m) gx [] from HY4.out.below (pw_below_drewN hb5 m)).1)
        have hB5 := below_then HB4.out HB4.out.size hb5
        obtain ⟨U, hU⟩ : ∃ U, U = front k2 + behind k2 := ⟨_, rfl⟩
        rw [← hU]
        have u1 : decide ((U : Int) < 0) = false := by simp
        have u2 : decide ((U : Int) ≥ 0) = true := by simp
        have u2' : decide (0 ≤ (U : Int)) = true := by simp
        clear hb5 hU
        go_wp2_with (first
          | (go_at_call 37; refine (K1.out 0).mono ?_; rintro e w6 ⟨rfl, rfl⟩)
          | (go_at_call 36; refine (K2.out 0).mono ?_; rintro e w6 ⟨rfl, rfl⟩)
          | (go_at_call 31; refine (HAW.out _ hB5).mono ?_; rintro e w9 ⟨rfl, hb9⟩))
        go_ret
        exact ⟨rfl, hb9⟩
    · -- a number
      obtain ⟨hqe, hse⟩ := read_told HN.out hp hrt
      subst hse
      have hx4 : RowU w4 gy (L ++ [v]) := ⟨by rw [lastOf_snoc, stepOf_snoc, List.length_append, List.length_singleton]; exact ht4, HN.out.snoc hv⟩
      have HST4 := Lib.hid (HST.out.gotY FX.out hc4 ⟨_, hr4⟩ hx4)
      have hrd4 : RdI .u64 w4 D (nats L) := by
        obtain ⟨_, _, _, ho4, _⟩ := HST4.out
        obtain ⟨D', d', he', _, hr'⟩ := ho4.reads
        injection he' with he1
        subst he1
        exact hr'
      have HPT := Lib.hid (putText_calls false D d v L w4 hrd4 (by omega) HN.out hv)
      simp only [Bool.false_eq_true, if_false] at HPT
      have hui := wrap_ui v hv
      have htp := told_pos false L v
      have hql : q.length = (toldL false L v).length + t.length := by rw [hqe, List.length_append]
      have hza : (txt (toldL false L v)).size = (toldL false L v).length := txt_size _
      have hzt : (txt t).size = t.length := txt_size _
      obtain ⟨ta, hta⟩ : ∃ s, s = txt (toldL false L v) := ⟨_, rfl⟩
      obtain ⟨tt, htt⟩ : ∃ s, s = txt t := ⟨_, rfl⟩
      have hc1 := cut_front (P := Tryd.prog) 9 Tryd.underlying9 (toldL false L v) t s ta (by rw [← hqe]; exact HS.out) hta
      have hc2 := cut_back (P := Tryd.prog) 9 Tryd.underlying9 (toldL false L v) t s ta tt (by rw [← hqe]; exact HS.out) hta htt
      rw [← hta] at HPT hza
      rw [← htt] at hzt
      have dd : decide ((ta.size : Int) > (s.size : Int)) = false := by have := HSZ.out; simp; omega
      have dd' : decide ((s.size : Int) < (ta.size : Int)) = false := by have := HSZ.out; simp; omega
      have ddn : decide (s.size < ta.size) = false := by have := HSZ.out; simp; omega
      have et : ((t.length : Int) != (tt.size : Int)) = false := by rw [hzt]; simp
      have HLN : Hid (L.length + 1 + t.length ≤ n) := Lib.hid (by have := HLEN.out; omega)
      have hb4 := two_new HST.out.2.2.2.2.2 hsp FX.out.new FX.out.gy hc4
      have HB4 := Lib.hid hb4
      have HTT := Lib.hid htt
      have HV := Lib.hid hv
      clear hc4 hp hr4 hrt ht4 hst hqe hx4 hrd4 htp hql hza hzt hta htt hb4 HG HRD
      go_wp2_with (go_at_call 38; refine HPT.out.mono ?_; rintro e w5 ⟨rfl, hb5⟩; have HST5 := Lib.hid (HST4.out.below hb5); have hsz5 := HST5.out.2.2.2.2.2.size; clear hb5)
      have HO5 := Lib.hid HST5.out.2.2.2.1
      have HBE5 := Lib.hid HST5.out.2.2.2.2.2
      go_region_law (refine append_one_step (w0 := w) w.heap.size rfl (.tmp 135) (.tmp 137) 59 22 .u64 8 rfl Tryd.underlying59 info64 (by decide) _ (nats L) _ (by simp [Act.eval]) (by simp [Act.eval]) HO5.out.drew (below_drew HBE5.out) hsz5 (by rw [nats_length]; omega) ?_; intro v1 w6 ho6 hb6 hg6 hat6; have HST6 := Lib.hid (StR.push (HST5.out.below (below_drew (Below.refl _ _))) ho6 hb6 hg6 hat6); clear ho6 hb6 hg6 hat6)
      all_goals
        have HLF := Lib.hid (fun a h => left_calls g a SR t false w6 h)
        have HR6 := Lib.hid HST6.out.1
        obtain ⟨a6, hr6⟩ := HR6.out
        have HLF6 := Lib.hid (left_calls g a6 SR t false w6 hr6)
        clear hr6 HLF HR6
        go_wp2_with (go_at_call 24; refine HLF6.out.mono ?_; rintro e w7 ⟨rfl, nd, rfl⟩)
        go_roundw
        case rel => exact ⟨L ++ [v], t, by rw [HTT.out], by rw [List.length_append, List.length_singleton]; go_num, by rw [List.length_append, List.length_singleton]; exact HLN.out, HN.out.snoc HV.out, HST6.out.below (pw_below_drewN (Below.refl _ _) nd)⟩
        case measure => have := HLN.out; simp [intOf]; omega

set_option maxHeartbeats 1600000 in
theorem narrow (A : Option Addr) (c m : Nat) (n : Int) (sg : Bool) (w : World) (hT : Tab w) (hl : 60 < m ∨ n < 0 ∨ 8 * (m : Int) < n) :
    Calls Tryd.prog 7 #[.slice A m c, .int .i64 n, .bool sg] w fun e w' => e = .returned (.bool true) ∧ Below w.heap.size w w' := by
  have CAW := Lib.hid (awake_calls w hT)
  clear hT
  by_cases h1 : 60 < m
  · have d1 : decide ((m : Int) > 60) = true := by simp; omega
    have d1' : decide (60 < (m : Int)) = true := by simp; omega
    have d1n : decide (60 < m) = true := by simp; omega
    go_enter Tryd.func7, Tryd.ntmps7
    go_wp2_with (go_at_call 31; refine CAW.out.mono ?_; rintro e w1 ⟨rfl, hb⟩)
    go_ret
    exact ⟨rfl, hb⟩
  · have d1 : decide ((m : Int) > 60) = false := by simp; omega
    have d1' : decide (60 < (m : Int)) = false := by simp; omega
    have d1n : decide (60 < m) = false := by simp; omega
    by_cases h2 : n < 0
    · have d2 : decide (n < 0) = true := by simp; omega
      go_enter Tryd.func7, Tryd.ntmps7
      go_wp2_with (go_at_call 31; refine CAW.out.mono ?_; rintro e w1 ⟨rfl, hb⟩)
      go_ret
      exact ⟨rfl, hb⟩
    · have d2 : decide (n < 0) = false := by simp; omega
      have d3 : decide (n > 8 * (m : Int)) = true := by simp; omega
      have d3' : decide (8 * (m : Int) < n) = true := by simp; omega
      go_enter Tryd.func7, Tryd.ntmps7
      go_wp2_with (go_at_call 31; refine CAW.out.mono ?_; rintro e w1 ⟨rfl, hb⟩)
      go_ret
      exact ⟨rfl, hb⟩

theorem walk (a0 : Option Addr) (len0 cap0 : Nat) (z0 : List Int) (n : Int) (sg : Bool) (w : World) (h0 : IsRow .u8 w a0 len0 cap0 z0) (_ : (Lit.int .i64 n).wf = true)
    (hL : laidMetH Tryd.prog [("tidepole/varbit.behinds", Rows.laid_tidepole_varbit_behinds)] w) :
    Calls Tryd.prog 7 #[.slice a0 len0 cap0, .int .i64 n, .bool sg] w fun e w' => e = .returned (.bool true) ∧ Below w.heap.size w w' := by
  have hT := tab_of hL
  obtain ⟨l, hl, hr, hc, hA⟩ := h0.bytes
  by_cases hin : 60 < len0 ∨ n < 0 ∨ 8 * (len0 : Int) < n
  · exact narrow a0 cap0 len0 n sg w hT hin
  · obtain ⟨m, rfl⟩ := Int.eq_ofNat_of_zero_le (show 0 ≤ n by omega)
    subst hl
    cases sg with
    | true => exact coreS a0 cap0 m l w hT hr (by omega) hc hA (by omega)
    | false => exact coreU a0 cap0 m l w hT hr (by omega) hc hA (by omega)
end Go.Proofs.YtlbkdmggafkghaaDoor.TimesReads
