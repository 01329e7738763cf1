/- head's walks: Len. -/
import Derived.Test.YtjfekjbmgckkcaaGreatDoorHeadE
namespace Go.Proofs.YtjfekjbmgckkcaaGreatDoor.HeadG
open Go.RowKit Go.Proofs.YtjfekjbmgckkcaaGreatDoorW.PrintWords
open Go.Proofs.YtjfekjbmgckkcaaGreatDoor.Bits Go.Proofs.YtjfekjbmgckkcaaGreatDoor.Base Go.Proofs.YtjfekjbmgckkcaaGreatDoor.VarPure Go.Proofs.YtjfekjbmgckkcaaGreatDoor.VarbitA Go.Proofs.YtjfekjbmgckkcaaGreatDoor.VarbitB Go.Proofs.YtjfekjbmgckkcaaGreatDoor.StreamA Go.Proofs.YtjfekjbmgckkcaaGreatDoor.SpanPure Go.Proofs.YtjfekjbmgckkcaaGreatDoor.SpanBase Go.Proofs.YtjfekjbmgckkcaaGreatDoor.FailAs Go.Proofs.YtjfekjbmgckkcaaGreatDoor.FailB Go.Proofs.YtjfekjbmgckkcaaGreatDoor.FailC Go.Proofs.YtjfekjbmgckkcaaGreatDoor.ThrPure Go.Proofs.YtjfekjbmgckkcaaGreatDoor.HeadA Go.Proofs.YtjfekjbmgckkcaaGreatDoor.HeadB Go.Proofs.YtjfekjbmgckkcaaGreatDoor.HeadPure Go.Proofs.YtjfekjbmgckkcaaGreatDoor.HeadD Go.Proofs.YtjfekjbmgckkcaaGreatDoor.HeadE

/-- a head's length in bits; 0 of a wrong one. -/
def lenH (h : Hd) : Nat := if (headErr h).1 = 0 then (encH h).length else 0
set_option maxRecDepth 100000 in
set_option maxHeartbeats 3200000 in
theorem Len_calls (h : Hd) (p : Lc) (w : World) (hh : HdIn w h p) (hg : GlE w) (hT : Tab w) :
    Calls Tryz.prog 22 #[.agg (hcs h p).toArray] w fun e w' => e = .returned (.int .i64 (lenH h)) ∧ Below w.heap.size w w' := by
  have HL : Hid (lenH h = if (headErr h).1 = 0 then (encH h).length else 0) := Lib.hid rfl
  have hl1 := encSp_le h.pos
  have hl2 := encSp_le h.neg
  have hl3 := encS_le h.schema
  have hl4 := encT_length h.zero
  have hl5 := hh.pos.len
  have hl6 := hh.neg.len
  have hle : (encH h).length ≤ 1000000000 := by
    unfold encH
    rw [List.length_append, List.length_append, List.length_append, List.length_append, nb_length]
    omega
  have HLE := Lib.hid hle
  have HPUT := Lib.hid (fun (g : Nat) (S : Nat → Prop) (W : World) (hb : Below w.heap.size w W) (hw : Wr W g S []) (hn : ∀ k, S k → w.heap.size ≤ k) => Put_calls g S [] h p W (hh.below hb) (gle_below hg hb) (hT.below hb)
    (fun x => Nat.lt_irrefl _ (Nat.lt_of_lt_of_le hT.lt (hn _ x))) hw (by decide)
    (fun ad hA hp x => Nat.lt_irrefl _ (Nat.lt_of_lt_of_le (rd_lt hh.pos.rd ad hA hp) (hn _ x))) (fun ad hA hp x => Nat.lt_irrefl _ (Nat.lt_of_lt_of_le (rd_lt hh.neg.rd ad hA hp) (hn _ x))))
  clear hl1 hl2 hl3 hl4 hl5 hl6 hle hh hg hT
  obtain ⟨vr, hint, schema, zt, pos, neg⟩ := h
  obtain ⟨A, c, B, d⟩ := p
  have hb0 := below_alloc (Below.refl w.heap.size w) (.cells #[.int .i64 vr, .int .i64 hint, .int .i64 schema, .int .u64 zt, .slice A pos.length c, .slice B neg.length d] 25)
  have HB0 := Lib.hid hb0
  have HNW := Lib.hid (newWriter_calls none 0 0 [] (w.alloc (.cells #[.int .i64 vr, .int .i64 hint, .int .i64 schema, .int .u64 zt, .slice A pos.length c, .slice B neg.length d] 25)) (RdI.nil _ _ _) (by decide) (by decide) (fun _ => rfl) (by decide))
  have HK := Lib.hid (blk_last w (.cells #[.int .i64 vr, .int .i64 hint, .int .i64 schema, .int .u64 zt, .slice A pos.length c, .slice B neg.length d] 25))
  show Calls Tryz.prog 22 #[.agg #[.int .i64 vr, .int .i64 hint, .int .i64 schema, .int .u64 zt, .slice A pos.length c, .slice B neg.length d]] w _
  clear hb0
  go_enter Tryz.func22, Tryz.ntmps22
  go_wp2_with (fail)
  refine HNW.out.mono ?_
  rintro e w1 ⟨g, S, rfl, hw1, hn1, hb1⟩
  have hk1 := (hb1.block w.heap.size (by simp)).trans HK.out
  have c0 := obj_cell (i := 0) hk1 rfl
  have c1 := obj_cell (i := 1) hk1 rfl
  have c2 := obj_cell (i := 2) hk1 rfl
  have c3 := obj_cell (i := 3) hk1 rfl
  have c4 := obj_cell (i := 4) hk1 rfl
  have c5 := obj_cell (i := 5) hk1 rfl
  have HB1 := Lib.hid (below_then HB0.out (by simp) hb1)
  have HN1 := Lib.hid (fun k hk => Nat.le_trans HB0.out.size (hn1 k hk))
  have HP := Lib.hid (HPUT.out g S w1 HB1.out hw1 HN1.out)
  clear hk1 hw1 hn1 hb1 HNW HPUT HK
  go_wp2_with (fail)
  refine HP.out.mono ?_
  rintro e w2 (⟨h0, rfl, S2, hw2, hs2, hc2⟩ | ⟨h0, v, rfl, he, hb⟩)
  · have HL2 : Hid (lenH ⟨vr, hint, schema, zt, pos, neg⟩ = (encH ⟨vr, hint, schema, zt, pos, neg⟩).length) := Lib.hid (by rw [HL.out, if_pos h0])
    have HLN := Lib.hid (len_calls g S2 _ w2 hw2)
    have HB2 := Lib.hid (hc2.below_of HB1.out.size HN1.out)
    clear h0 hw2 hs2 hc2 HP c0 c1 c2 c3 c4 c5
    go_wp2_with (fail)
    refine HLN.out.mono ?_
    rintro e w3 ⟨rfl, rfl⟩
    go_wp2
    go_ret
    exact ⟨by rw [HL2.out]; rfl, HB1.out.trans HB2.out⟩
  · obtain ⟨gv, rfl⟩ := err_some (by omega) he
    have HL2 : Hid (lenH ⟨vr, hint, schema, zt, pos, neg⟩ = 0) := Lib.hid (by rw [HL.out, if_neg h0])
    have HB2 := Lib.hid (below_then HB1.out HB1.out.size hb)
    clear h0 he hb HP c0 c1 c2 c3 c4 c5
    go_wp2
    go_ret
    exact ⟨by rw [HL2.out]; rfl, HB2.out⟩
end Go.Proofs.YtjfekjbmgckkcaaGreatDoor.HeadG
