/- an error stays while another block is set; what begin and Get tell. -/
import Derived.Test.YtjfekjbmgckkcaaGreatDoorHeadI
namespace Go.Proofs.YtjfekjbmgckkcaaGreatDoor.HeadJ
open Go.RowKit Go.Proofs.YtjfekjbmgckkcaaGreatDoorW.PrintWords
open Go.Proofs.YtjfekjbmgckkcaaGreatDoor.Bits Go.Proofs.YtjfekjbmgckkcaaGreatDoor.Base Go.Proofs.YtjfekjbmgckkcaaGreatDoor.VarPure Go.Proofs.YtjfekjbmgckkcaaGreatDoor.VarbitA Go.Proofs.YtjfekjbmgckkcaaGreatDoor.StreamA Go.Proofs.YtjfekjbmgckkcaaGreatDoor.StreamR Go.Proofs.YtjfekjbmgckkcaaGreatDoor.SpanPure Go.Proofs.YtjfekjbmgckkcaaGreatDoor.SpanBase Go.Proofs.YtjfekjbmgckkcaaGreatDoor.FailAs Go.Proofs.YtjfekjbmgckkcaaGreatDoor.FailB Go.Proofs.YtjfekjbmgckkcaaGreatDoor.FailC Go.Proofs.YtjfekjbmgckkcaaGreatDoor.ThrPure Go.Proofs.YtjfekjbmgckkcaaGreatDoor.ReadP Go.Proofs.YtjfekjbmgckkcaaGreatDoor.HeadA Go.Proofs.YtjfekjbmgckkcaaGreatDoor.HeadB Go.Proofs.YtjfekjbmgckkcaaGreatDoor.HeadF Go.Proofs.YtjfekjbmgckkcaaGreatDoor.HeadH

theorem errC_set {w w2 : World} {b : Nat} {cs : Array Value} {t : Nat} {k : Nat × Nat} (hb : w.heap[b]? = some (.cells cs t k)) (hs : cs.size ≠ 4) (hc : Ch (fun k => k = b) w w2) : ∀ {l : List Pl} {v z : Value}, ErrC w v l z → ErrC w2 v l z
  | [], _, _, e => e
  | _ :: _, _, _, ⟨g, v', e1, e2, e3⟩ => ⟨g, v', e1, hc.blk e2 (by
      rintro rfl
      rw [e2] at hb
      injection hb with hb
      injection hb with hb
      exact hs (by rw [← hb]; rfl)), errC_set hb hs hc e3⟩
theorem gle_ch {S : Nat → Prop} {w w' : World} (h : GlE w) (hc : Ch S w w') (hs : ¬ S 0) : GlE w' := hc.cell h hs
theorem gle_lt {w : World} (h : GlE w) : 0 < w.heap.size := cell_lt h
theorem err_set {w w2 : World} {b : Nat} {cs : Array Value} {t : Nat} {k : Nat × Nat} {l : List Pl} {v z : Value} (h : Err w v l z) (hb : w.heap[b]? = some (.cells cs t k)) (hs : cs.size ≠ 4) (hn : 0 ≠ b) (hc : Ch (fun k => k = b) w w2) : Err w2 v l z :=
  ⟨errC_set hb hs hc h.ch, h.z, gle_ch h.gl hc hn⟩
/-- what is wrong, where; or a value, how many bits it has, what is left. -/
structure PB (α : Type) where
  err : Nat
  place : ByteArray
  at_ : Nat
  val : α
  used : Nat
  rest : List Bool
def hd0 : Hd := ⟨0, 0, 0, 0, [], []⟩
/-- a head's beginning. -/
def pBegin (q : List Bool) : PB Hd :=
  if q.length < 8 then ⟨16, pFlags, 0, hd0, 0, []⟩
  else if Bits.val (q.take 8) % 32 ≠ 0 then ⟨10, pFlags, 0, hd0, 0, []⟩
  else if (pS (q.drop 8)).err ≠ 0 then ⟨(pS (q.drop 8)).err, pSchema, 0, hd0, 0, []⟩
  else if shapeE (pS (q.drop 8)).val ≠ 0 then ⟨shapeE (pS (q.drop 8)).val, pSchema, 0, hd0, 0, []⟩
  else if (parseT (pS (q.drop 8)).rest).1 ≠ 0 then ⟨(parseT (pS (q.drop 8)).rest).1, pZero, 0, hd0, 0, []⟩
  else ⟨0, pZero, 0, ⟨(Bits.val (q.take 8) / 32 % 2 : Nat), (Bits.val (q.take 8) / 64 : Nat), (pS (q.drop 8)).val, (parseT (pS (q.drop 8)).rest).2.1, [], []⟩,
    8 + (pS (q.drop 8)).used + (parseT (pS (q.drop 8)).rest).2.2, (pS (q.drop 8)).rest.drop (parseT (pS (q.drop 8)).rest).2.2⟩
def pHead (q : List Bool) : PB Hd :=
  if (pBegin q).err ≠ 0 then pBegin q
  else if (pGet (pBegin q).rest).err ≠ 0 then ⟨(pGet (pBegin q).rest).err, pPos, (pGet (pBegin q).rest).val.length, hd0, 0, []⟩
  else if (pGet (pGet (pBegin q).rest).rest).err ≠ 0 then ⟨(pGet (pGet (pBegin q).rest).rest).err, pNeg, (pGet (pGet (pBegin q).rest).rest).val.length, hd0, 0, []⟩
  else ⟨0, pNeg, 0, { (pBegin q).val with pos := (pGet (pBegin q).rest).val, neg := (pGet (pGet (pBegin q).rest).rest).val },
    (pBegin q).used + (pGet (pBegin q).rest).used + (pGet (pGet (pBegin q).rest).rest).used, (pGet (pGet (pBegin q).rest).rest).rest⟩
/-- a head that is handed back, with its lists of the call's own. -/
structure HdOut (w : World) (base : Nat) (h : Hd) (p : Lc) : Prop where
  pos : OwSp 119 w base (.slice p.A h.pos.length p.c) h.pos
  neg : OwSp 119 w base (.slice p.B h.neg.length p.d) h.neg
/-- what begin and Get hand back. -/
def HP (r : PB Hd) (g a : Nat) (S : Nat → Prop) (w : World) (e : Ending) (w' : World) : Prop :=
  Ch S w w' ∧
    ((r.err ≠ 0 ∧ (∃ v, e = .returned (.tuple #[.agg (hcs hd0 ⟨none, 0, none, 0⟩).toArray, v]) ∧ Err w' v (plc r.err r.place r.at_) .nilIface) ∧ ∃ a' q' sh, Rr w' g S a' q' sh) ∨
     (r.err = 0 ∧ (∃ p, e = .returned (.tuple #[.agg (hcs r.val p).toArray, .nilIface]) ∧ HdOut w' w.heap.size r.val p) ∧ Rr w' g S (a + r.used) r.rest false))
end Go.Proofs.YtjfekjbmgckkcaaGreatDoor.HeadJ
