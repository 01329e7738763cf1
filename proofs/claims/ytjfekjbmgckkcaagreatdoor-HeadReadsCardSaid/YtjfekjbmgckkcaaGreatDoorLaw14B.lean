/- law 14: awake. -/
import Derived.Test.YtjfekjbmgckkcaaGreatDoorLaw14A
import Derived.Test.YtjfekjbmgckkcaaGreatDoorHeadM
namespace Go.Proofs.YtjfekjbmgckkcaaGreatDoor.Law14B
open Go.RowKit Go.Proofs.YtjfekjbmgckkcaaGreatDoorW.PrintWords
open Go.Proofs.YtjfekjbmgckkcaaGreatDoor.Bits Go.Proofs.YtjfekjbmgckkcaaGreatDoor.Base Go.Proofs.YtjfekjbmgckkcaaGreatDoor.VarPure Go.Proofs.YtjfekjbmgckkcaaGreatDoor.VarbitA Go.Proofs.YtjfekjbmgckkcaaGreatDoor.VarbitD Go.Proofs.YtjfekjbmgckkcaaGreatDoor.VarKit Go.Proofs.YtjfekjbmgckkcaaGreatDoor.StreamA Go.Proofs.YtjfekjbmgckkcaaGreatDoor.StreamR Go.Proofs.YtjfekjbmgckkcaaGreatDoor.SpanPure Go.Proofs.YtjfekjbmgckkcaaGreatDoor.SpanBase Go.Proofs.YtjfekjbmgckkcaaGreatDoor.FailAs Go.Proofs.YtjfekjbmgckkcaaGreatDoor.FailB Go.Proofs.YtjfekjbmgckkcaaGreatDoor.FailC Go.Proofs.YtjfekjbmgckkcaaGreatDoor.ThrPure Go.Proofs.YtjfekjbmgckkcaaGreatDoor.ReadP Go.Proofs.YtjfekjbmgckkcaaGreatDoor.HeadA Go.Proofs.YtjfekjbmgckkcaaGreatDoor.HeadB Go.Proofs.YtjfekjbmgckkcaaGreatDoor.HeadC Go.Proofs.YtjfekjbmgckkcaaGreatDoor.HeadD Go.Proofs.YtjfekjbmgckkcaaGreatDoor.HeadPure Go.Proofs.YtjfekjbmgckkcaaGreatDoor.HeadE Go.Proofs.YtjfekjbmgckkcaaGreatDoor.HeadF Go.Proofs.YtjfekjbmgckkcaaGreatDoor.HeadG Go.Proofs.YtjfekjbmgckkcaaGreatDoor.HeadH Go.Proofs.YtjfekjbmgckkcaaGreatDoor.HeadJ Go.Proofs.YtjfekjbmgckkcaaGreatDoor.HeadK Go.Proofs.YtjfekjbmgckkcaaGreatDoor.HeadM

theorem spl_own {w : World} {base : Nat} {e : Nat} {A : Option Addr} {n c : Nat} {l : List Sp} (h : OwSp e w base (.slice A n c) l) (hl : l.length ≤ 1000000) : Spl w A c l := by
  obtain ⟨A', c', he, h1, h2, h3⟩ := h.reads
  injection he with e1 e2 e3
  subst e1 e3
  exact ⟨h3, hl, h1, h2⟩
theorem hdin_out {w : World} {base : Nat} {h : Hd} {p : Lc} (x : HdOut w base h p) (h1 : h.pos.length ≤ 1000000) (h2 : h.neg.length ≤ 1000000) (hz : h.zero < 18446744073709551616) : HdIn w h p := ⟨spl_own x.pos h1, spl_own x.neg h2, hz⟩
theorem own_not {w : World} {base : Nat} {e : Nat} {A : Option Addr} {n c : Nat} {l : List Sp} {S : Nat → Prop} (h : OwSp e w base (.slice A n c) l) (hS : ∀ k, S k → k < base) : ∀ ad, A = some ad → 0 < l.length → ¬ S ad.block := by
  intro ad hA hp hs
  obtain ⟨g, c', he, h1, -, -⟩ := h.form hp
  injection he with e1 e2 e3
  rw [hA] at e1
  injection e1 with e1
  subst e1
  exact Nat.lt_irrefl _ (Nat.lt_of_lt_of_le (hS _ hs) h1)
theorem hdin_nil (w : World) (v i s : Int) (z : Nat) (hz : z < 18446744073709551616) : HdIn w ⟨v, i, s, z, [], []⟩ ⟨none, 0, none, 0⟩ :=
  ⟨spl_own (OwSp.nil 119 w 0) (Nat.zero_le _), spl_own (OwSp.nil 119 w 0) (Nat.zero_le _), hz⟩
def h1 : Hd := ⟨1, 3, 3, 0, [(-2, 2)], []⟩
def h9 : Hd := ⟨0, 0, 9, 0, [], []⟩
theorem err_h1 : (headErr h1).1 = 0 := by decide +kernel
theorem err_h9 : headErr h9 = (21, pSchema) := by decide +kernel
theorem len_h1 : (encH h1).length ≤ 1000 := by decide +kernel
theorem len_hd0 : lenH hd0 = 19 := by decide +kernel
set_option maxRecDepth 100000 in
set_option maxHeartbeats 6400000 in
theorem awake_calls (w : World) (hT : Tab w) (hE : GlE w) :
    Calls Tryz.prog 15 #[] w fun e w' => e = .returned (.bool true) ∧ Below w.heap.size w w' := by
  have HT := Lib.hid hT
  have HE := Lib.hid hE
  have HNW := Lib.hid (newWriter_calls none 0 0 [] w (nil_read w) (by decide) (by decide) (fun _ => rfl) (by decide))
  clear hT hE
  go_enter Tryz.func15, Tryz.ntmps15
  go_wp2_with (fail)
  refine HNW.out.mono ?_
  rintro e w1 ⟨g, S, rfl, hw, hS, hb⟩
  have HP1 : Hid (∃ p : Lc, p = ⟨some ⟨w1.heap.size, 0, none⟩, 1, none, 0⟩) := Lib.hid ⟨_, rfl⟩
  have hb0 := below_alloc (Below.refl w1.heap.size w1) (.cells #[.int .i64 (-2), .int .i64 2] 119)
  have hb1 := below_alloc hb0 (.cells #[.int .i64 1, .int .i64 3, .int .i64 3, .int .u64 0, .slice (some ⟨w1.heap.size, 0, none⟩) 1 1, .slice none 0 0] 25)
  have HOW : Hid (OwSp 119 (w1.alloc (.cells #[.int .i64 (-2), .int .i64 2] 119)) w1.heap.size (.slice (some ⟨w1.heap.size, 0, none⟩) 1 1) [(-2, 2)]) := Lib.hid (OwSp.lit w1 119 [(-2, 2)] (by decide))
  have HIN : Hid (HdIn ((w1.alloc (.cells #[.int .i64 (-2), .int .i64 2] 119)).alloc (.cells #[.int .i64 1, .int .i64 3, .int .i64 3, .int .u64 0, .slice (some ⟨w1.heap.size, 0, none⟩) 1 1, .slice none 0 0] 25)) h1 ⟨some ⟨w1.heap.size, 0, none⟩, 1, none, 0⟩) :=
    Lib.hid ⟨spl_own (HOW.out.below (below_alloc (Below.refl _ _) _)) (by decide), spl_own (OwSp.nil 119 _ 0) (Nat.zero_le _), by decide⟩
  have HBK := Lib.hid (blk_last (w1.alloc (.cells #[.int .i64 (-2), .int .i64 2] 119)) (.cells #[.int .i64 1, .int .i64 3, .int .i64 3, .int .u64 0, .slice (some ⟨w1.heap.size, 0, none⟩) 1 1, .slice none 0 0] 25))
  rw [show (w1.alloc (.cells #[.int .i64 (-2), .int .i64 2] 119)).heap.size = w1.heap.size + 1 from by simp] at HBK
  have HB1 := Lib.hid (below_then hb hb.size hb1)
  have HT1 := Lib.hid ((HT.out.below hb).below hb1)
  have HE1 := Lib.hid (gle_below (gle_below HE.out hb) hb1)
  have HNB := Lib.hid (fun x => Nat.lt_irrefl _ (hw.old _ x) : ¬ S w1.heap.size)
  have HNB1 := Lib.hid (fun x => by have := hw.old _ x; omega : ¬ S (w1.heap.size + 1))
  have HNG := Lib.hid (not_old HT.out hS)
  have HPU := Lib.hid (Put_calls g S _ h1 ⟨some ⟨w1.heap.size, 0, none⟩, 1, none, 0⟩ _ HIN.out HE1.out HT1.out HNG.out (hw.below hb1) (by decide) (fun ad h _ => by injection h with h; subst h; exact HNB.out) (fun ad h _ => by cases h))
  have HS := Lib.hid hS
  have HNE := Lib.hid (fun x => by have := HS.out _ x; have := gle_lt HE.out; omega : ¬ S 0)
  clear hw hS hb hb0 hb1 HNW HP1 HOW
  go_wp2_with (fail)
  refine HPU.out.mono ?_
  rintro e w3 hput
  obtain ⟨-, rfl, S3, hw3, hs3, hc3⟩ : (headErr h1).1 = 0 ∧ e = .returned .nilIface ∧ Upd (fun w S => Wr w g S ([] ++ encH h1)) S _ w3 := by
    rcases hput with h | ⟨h, -⟩
    · exact h
    · exact absurd err_h1 h
  rw [List.nil_append] at hw3
  have HB3 := Lib.hid (HB1.out.trans (hc3.below_of HB1.out.size HS.out))
  have HIN3 : Hid (HdIn w3 h1 ⟨some ⟨w1.heap.size, 0, none⟩, 1, none, 0⟩) := Lib.hid ⟨⟨rd_ch HIN.out.pos.rd hc3 (fun ad h _ => by injection h with h; subst h; exact HNB.out), HIN.out.pos.len, HIN.out.pos.cap, HIN.out.pos.nil⟩, ⟨rd_ch HIN.out.neg.rd hc3 (fun ad h _ => by cases h), HIN.out.neg.len, HIN.out.neg.cap, HIN.out.neg.nil⟩, HIN.out.z⟩
  have HBK3 := Lib.hid (hc3.blk HBK.out HNB1.out)
  have HT3 := Lib.hid (HT1.out.ch hc3 HNG.out)
  have HE3 := Lib.hid (gle_ch HE1.out hc3 HNE.out)
  have hlen := len_h1
  obtain ⟨q, hq⟩ : ∃ q, q = encH h1 := ⟨_, rfl⟩
  have HQ := Lib.hid hq
  rw [← hq] at hw3 hlen
  have HW3 := Lib.hid hw3
  have HLEN := Lib.hid (fun W (h : Below w3.heap.size w3 W) => lift_eq h (len_calls g S3 _ W (hw3.below h)))
  have HBY := Lib.hid (bytes_calls g S3 _ w3 hw3 (by omega))
  clear hw3 hs3 hc3 hq HPU HIN HBK HNB HNB1 HB1 HT1 HE1
  go_wp2_with (fail)
  refine HBY.out.mono ?_
  rintro e w4 ⟨v, rfl, ho, hb4⟩
  obtain ⟨D, d, rfl, hd, hr⟩ := ho.reads
  have hD : D = none → d = 0 := OwI.nilcap ho
  have HNR := Lib.hid (newReader_calls D d q.length (pack q) w4 hr (by rw [pack_length]; omega) hd hD (by rw [pack_length]; omega))
  rw [pack_take_all] at HNR
  have HB4 := Lib.hid hb4
  clear ho hr hd hb4 hD
  go_wp2_with (fail)
  refine (len_calls g S3 _ w4 (HW3.out.below HB4.out)).mono ?_
  rintro e w4' ⟨rfl, rfl⟩
  go_wp2_with (fail)
  refine HNR.out.mono ?_
  rintro e w5 ⟨gr, SR, rfl, hR, hSR, hb5⟩
  have HB5 := Lib.hid (below_then HB4.out HB4.out.size hb5)
  have HT5 := Lib.hid ((HT3.out.below HB4.out).below hb5)
  have HE5 := Lib.hid (gle_below (gle_below HE3.out HB4.out) hb5)
  have HSR := Lib.hid (fun k hk => Nat.le_trans HB4.out.size (hSR k hk) : ∀ k, SR k → w3.heap.size ≤ k)
  have HNG5 := Lib.hid (not_old HT3.out HSR.out)
  have HNE5 := Lib.hid (fun x => by have := HSR.out _ x; have := gle_lt HE3.out; omega : ¬ SR 0)
  have HPH : Hid (pHead q = ⟨0, pNeg, 0, h1, q.length, []⟩) := Lib.hid (by have h := pHead_enc h1 [] err_h1 (by decide); rw [List.append_nil, ← HQ.out] at h; exact h)
  have HG := Lib.hid (Get_calls gr 0 SR q w5 HT5.out HE5.out HNG5.out HNE5.out hR)
  rw [HPH.out] at HG
  have HB5' := Lib.hid hb5
  clear hR hSR hb5 HNR HT3 HE3
  go_wp2_with (fail)
  refine HG.out.mono ?_
  rintro e w6 ⟨hc6, hcase⟩
  obtain ⟨p6, rfl, ho6⟩ : ∃ p, e = .returned (.tuple #[.agg (hcs h1 p).toArray, .nilIface]) ∧ HdOut w6 w5.heap.size h1 p := by
    rcases hcase with ⟨h, -⟩ | ⟨-, h, -⟩
    · exact absurd rfl h
    · exact h
  obtain ⟨A6, c6, B6, d6⟩ := p6
  dsimp only [hcs, h1, List.length]
  have HB6 := Lib.hid (ch_new HB5.out HB5.out.size HSR.out hc6)
  have HT6 := Lib.hid (HT5.out.ch hc6 HNG5.out)
  have HE6 := Lib.hid (gle_ch HE5.out hc6 HNE5.out)
  have hb6a := below_alloc (Below.refl w6.heap.size w6) (.cells #[.int .i64 1, .int .i64 3, .int .i64 3, .int .u64 0, .slice A6 1 c6, .slice B6 0 d6] 25)
  have HIN6 := Lib.hid ((hdin_out ho6 (by decide) (by decide) (by decide)).below hb6a)
  have HBK6 := Lib.hid (blk_last w6 (.cells #[.int .i64 1, .int .i64 3, .int .i64 3, .int .u64 0, .slice A6 1 c6, .slice B6 0 d6] 25))
  have HB6a := Lib.hid (below_then HB6.out HB6.out.size hb6a)
  have HT6a := Lib.hid (HT6.out.below hb6a)
  have HE6a := Lib.hid (gle_below HE6.out hb6a)
  have HCK := Lib.hid (check_calls h9 ⟨none, 0, none, 0⟩ _ (hdin_nil _ 0 0 9 0 (by decide)) HE6a.out)
  rw [err_h9] at HCK
  clear hc6 hcase ho6 hb6a HG HB5 HT5 HE5 HB5' HT6 HE6
  go_wp2_with (fail)
  refine HCK.out.mono ?_
  rintro e w7 ⟨v7, rfl, he7, hb7⟩
  have HAT := Lib.hid (FailE.at_calls pSchema he7)
  have HB7 := Lib.hid (below_then HB6a.out HB6a.out.size hb7)
  have hb7' := hb7
  have HIN7 := Lib.hid (HIN6.out.below hb7)
  have HBK7 := Lib.hid ((Ch.of_below (S := fun _ => False) hb7).blk HBK6.out (fun x => x))
  have HE7 := Lib.hid he7
  have HT7 := Lib.hid (HT6a.out.below hb7)
  clear he7 hb7 HCK hb7'
  go_wp2_with (fail)
  refine HAT.out.mono ?_
  rintro e w8 ⟨rfl, hb8⟩
  have HB8 := Lib.hid (below_then HB7.out HB7.out.size hb8)
  have HIN8 := Lib.hid (HIN7.out.below hb8)
  have hbk8 := (Ch.of_below (S := fun _ => False) hb8).blk HBK7.out (fun x => x)
  have HT8 := Lib.hid (HT7.out.below hb8)
  have he8 := HE7.out.below hb8
  have HE8 := Lib.hid he8
  have hbk3 := (Ch.of_below (S := fun _ => False) HB8.out).blk HBK3.out (fun x => x)
  have HIN3' := Lib.hid (HIN3.out.below HB8.out)
  have HLN := Lib.hid (HW3.out.below HB8.out)
  have k0 := obj_cell (i := 0) hbk8 rfl
  have k1 := obj_cell (i := 1) hbk8 rfl
  have k2 := obj_cell (i := 2) hbk8 rfl
  have k3 := obj_cell (i := 3) hbk8 rfl
  have k4 := obj_cell (i := 4) hbk8 rfl
  have k5 := obj_cell (i := 5) hbk8 rfl
  have c0 := obj_cell (i := 0) hbk3 rfl
  have c1 := obj_cell (i := 1) hbk3 rfl
  have c2 := obj_cell (i := 2) hbk3 rfl
  have c3 := obj_cell (i := 3) hbk3 rfl
  have c4 := obj_cell (i := 4) hbk3 rfl
  have c5 := obj_cell (i := 5) hbk3 rfl
  have HEQ := Lib.hid (Equal_calls h1 h1 ⟨A6, c6, B6, d6⟩ ⟨some ⟨w1.heap.size, 0, none⟩, 1, none, 0⟩ w8 HIN8.out HIN3'.out)
  have hat : FailE.atF (plc (21 : Nat) pSchema 0) pSchema = (0, true) := by decide +kernel
  rw [hat]
  have HB3' := Lib.hid hbk3
  clear hb8 hbk8 he8 hbk3 hat HAT
  go_wp2_with (fail)
  refine HEQ.out.mono ?_
  rintro e w9 ⟨rfl, hb9⟩
  rw [show eqH h1 h1 = true from decide_eq_true rfl]
  have HB9 := Lib.hid (below_then HB8.out HB8.out.size hb9)
  have hbk3 := (Ch.of_below (S := fun _ => False) hb9).blk HB3'.out (fun x => x)
  have c0 := obj_cell (i := 0) hbk3 rfl
  have c1 := obj_cell (i := 1) hbk3 rfl
  have c2 := obj_cell (i := 2) hbk3 rfl
  have c3 := obj_cell (i := 3) hbk3 rfl
  have c4 := obj_cell (i := 4) hbk3 rfl
  have c5 := obj_cell (i := 5) hbk3 rfl
  have HLE := Lib.hid (Len_calls h1 ⟨some ⟨w1.heap.size, 0, none⟩, 1, none, 0⟩ w9 (HIN3'.out.below hb9) (HE8.out.below hb9).gl (HT8.out.below hb9))
  rw [show lenH h1 = (encH h1).length from if_pos err_h1, ← HQ.out] at HLE
  have HE9 := Lib.hid (HE8.out.below hb9)
  have HT9 := Lib.hid (HT8.out.below hb9)
  have HW9 := Lib.hid (HLN.out.below hb9)
  clear hb9 hbk3 HEQ k0 k1 k2 k3 k4 k5 HIN3 HIN8 HIN7 HIN6
  go_wp2_with (fail)
  refine HLE.out.mono ?_
  rintro e w10 ⟨rfl, hb10⟩
  have HB10 := Lib.hid (below_then HB9.out HB9.out.size hb10)
  have HE10 := Lib.hid (HE9.out.below hb10)
  have HLH := Lib.hid (Len_calls hd0 ⟨none, 0, none, 0⟩ w10 (hdin_nil _ 0 0 0 0 (by decide)) (HE9.out.below hb10).gl (HT9.out.below hb10))
  rw [len_hd0] at HLH
  have HLW := Lib.hid (len_calls g S3 _ w10 (HW9.out.below hb10))
  clear hb10 HLE c0 c1 c2 c3 c4 c5
  go_wp2_with (fail)
  refine HLW.out.mono ?_
  rintro e w11 ⟨rfl, rfl⟩
  go_wp2_with (fail)
  refine HLH.out.mono ?_
  rintro e w12 ⟨rfl, hb12⟩
  have HB12 := Lib.hid (below_then HB10.out HB10.out.size hb12)
  have HCO := Lib.hid (code_calls (HE10.out.below hb12))
  rw [show codeOf (plc (21 : Nat) pSchema 0) .nilIface = 21 from rfl] at HCO
  clear hb12 HLH HLW
  go_wp2_with (fail)
  refine HCO.out.mono ?_
  rintro e w13 ⟨rfl, hb13⟩
  have HB13 := Lib.hid (below_then HB12.out HB12.out.size hb13)
  clear hb13 HCO
  go_wp2
  go_ret
  exact ⟨rfl, below_then HB3.out HB3.out.size HB13.out⟩
end Go.Proofs.YtjfekjbmgckkcaaGreatDoor.Law14B
