/- head's walks: get. -/
import Derived.Test.YtjfekjbmgckkcaaGreatDoorHeadF
namespace Go.Proofs.YtjfekjbmgckkcaaGreatDoor.HeadH
open Go.RowKit Go.Proofs.YtjfekjbmgckkcaaGreatDoorW.PrintWords
open Go.Proofs.YtjfekjbmgckkcaaGreatDoor.Bits Go.Proofs.YtjfekjbmgckkcaaGreatDoor.Base Go.Proofs.YtjfekjbmgckkcaaGreatDoor.VarPure Go.Proofs.YtjfekjbmgckkcaaGreatDoor.VarbitA Go.Proofs.YtjfekjbmgckkcaaGreatDoor.VarbitB Go.Proofs.YtjfekjbmgckkcaaGreatDoor.VarbitD Go.Proofs.YtjfekjbmgckkcaaGreatDoor.StreamA Go.Proofs.YtjfekjbmgckkcaaGreatDoor.StreamR Go.Proofs.YtjfekjbmgckkcaaGreatDoor.SpanPure Go.Proofs.YtjfekjbmgckkcaaGreatDoor.SpanBase Go.Proofs.YtjfekjbmgckkcaaGreatDoor.ReadP Go.Proofs.YtjfekjbmgckkcaaGreatDoor.HeadA Go.Proofs.YtjfekjbmgckkcaaGreatDoor.HeadF

/-- so many spans. -/
def pSpans : Nat → List Bool → PR (List Sp)
  | 0, q => ⟨0, [], 0, q⟩
  | n + 1, q => if (pOne q).err ≠ 0 then ⟨(pOne q).err, [], 0, []⟩
    else ⟨(pSpans n (pOne q).rest).err, (pOne q).val :: (pSpans n (pOne q).rest).val, (pOne q).used + (pSpans n (pOne q).rest).used, (pSpans n (pOne q).rest).rest⟩
def pGet (q : List Bool) : PR (List Sp) :=
  if (pU q).err ≠ 0 then ⟨(pU q).err, [], 0, []⟩
  else if 1024 < (pU q).val then ⟨12, [], 0, []⟩
  else if (pSpans (pU q).val (pU q).rest).err ≠ 0 then ⟨(pSpans (pU q).val (pU q).rest).err, (pSpans (pU q).val (pU q).rest).val, 0, []⟩
  else if sidesE (pSpans (pU q).val (pU q).rest).val ≠ 0 then ⟨sidesE (pSpans (pU q).val (pU q).rest).val, (pSpans (pU q).val (pU q).rest).val, 0, []⟩
  else ⟨0, (pSpans (pU q).val (pU q).rest).val, (pU q).used + (pSpans (pU q).val (pU q).rest).used, (pSpans (pU q).val (pU q).rest).rest⟩
theorem pSpans_err : ∀ (n : Nat) (q : List Bool), (pOne q).err ≠ 0 → pSpans (n + 1) q = ⟨(pOne q).err, [], 0, []⟩ := fun n q h => by rw [pSpans, if_pos h]
theorem pSpans_ok : ∀ (n : Nat) (q : List Bool), (pOne q).err = 0 → pSpans (n + 1) q = ⟨(pSpans n (pOne q).rest).err, (pOne q).val :: (pSpans n (pOne q).rest).val, (pOne q).used + (pSpans n (pOne q).rest).used, (pSpans n (pOne q).rest).rest⟩ := fun n q h => by rw [pSpans, if_neg (by simpa using h)]
/-- spans of the call's own. -/
def IsSps (base : Nat) (l : List Sp) (v : Value) (w : World) : Prop := OwSp 119 w base v l
theorem sps_ch {S : Nat → Prop} {base : Nat} {w w1 : World} {v : Value} {l : List Sp} (h : OwSp 119 w base v l) (hc : Ch S w w1) (hS : ∀ k, S k → k < base) : OwSp 119 w1 base v l :=
  h.move fun g hg => hc.block g (h.lt_ g hg) fun hs => Nat.lt_irrefl _ (Nat.lt_of_lt_of_le (hS g hs) (h.base_ g hg))
theorem infoSp : (Tryz.prog.info? 119).map (fun i => (i.zero, i.size, i.bytes)) = some (some (.agg #[.int .i64 0, .int .i64 0]), 2, 16) := by kernel_rfl
/-- what holds at the loop's head. -/
def Lp (g a : Nat) (S : Nat → Prop) (w : World) (n : Nat) (q0 : List Bool) (k : Nat) (v : Value) (W : World) : Prop :=
  ∃ (l : List Sp) (u : Nat) (q : List Bool), l.length = k ∧ OwSp 119 W w.heap.size v l ∧ Rr W g S (a + u) q false ∧ Ch S w W ∧
    pSpans n q0 = ⟨(pSpans (n - k) q).err, l ++ (pSpans (n - k) q).val, u + (pSpans (n - k) q).used, (pSpans (n - k) q).rest⟩
theorem Lp.start {g a : Nat} {S : Nat → Prop} {w W : World} {n : Nat} {q0 : List Bool} (h : Rr W g S a q0 false) (hc : Ch S w W) : Lp g a S w n q0 0 (.slice none 0 0) W :=
  ⟨[], 0, q0, rfl, OwSp.nil _ _ _, h, hc, by simp⟩
/-- one more span. -/
theorem pSpans_step {n k : Nat} {q q0 : List Bool} {l : List Sp} {u : Nat} (hk : k < n) (h0 : (pOne q).err = 0)
    (h : pSpans n q0 = ⟨(pSpans (n - k) q).err, l ++ (pSpans (n - k) q).val, u + (pSpans (n - k) q).used, (pSpans (n - k) q).rest⟩) :
    pSpans n q0 = ⟨(pSpans (n - (k + 1)) (pOne q).rest).err, (l ++ [(pOne q).val]) ++ (pSpans (n - (k + 1)) (pOne q).rest).val, (u + (pOne q).used) + (pSpans (n - (k + 1)) (pOne q).rest).used, (pSpans (n - (k + 1)) (pOne q).rest).rest⟩ := by
  rw [show n - k = (n - (k + 1)) + 1 from by omega, pSpans_ok _ _ h0] at h
  rw [h]
  simp [Nat.add_assoc]
end Go.Proofs.YtjfekjbmgckkcaaGreatDoor.HeadH
