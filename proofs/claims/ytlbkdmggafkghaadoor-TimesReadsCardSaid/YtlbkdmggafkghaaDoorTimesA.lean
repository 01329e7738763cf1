/- times' walks: rows of numbers. -/
import Derived.Test.YtlbkdmggafkghaaDoorVarKit
import Derived.Test.YtlbkdmggafkghaaDoorTimesPure
namespace Go.Proofs.YtlbkdmggafkghaaDoor.TimesA
open Go.RowKit Go.Proofs.YtlbkdmggafkghaaDoorW.PrintWords
open Go.Proofs.YtlbkdmggafkghaaDoor.Bits Go.Proofs.YtlbkdmggafkghaaDoor.Base Go.Proofs.YtlbkdmggafkghaaDoor.VarPure Go.Proofs.YtlbkdmggafkghaaDoor.TimesPure Go.Proofs.YtlbkdmggafkghaaDoor.VarbitA Go.Proofs.YtlbkdmggafkghaaDoor.VarbitB Go.Proofs.YtlbkdmggafkghaaDoor.VarbitD Go.Proofs.YtlbkdmggafkghaaDoor.StreamA Go.Proofs.YtlbkdmggafkghaaDoor.StreamR Go.Proofs.YtlbkdmggafkghaaDoor.VarKit

theorem wrap_sub (a b : Nat) (_ : a < 18446744073709551616) (hb : b < 18446744073709551616) : IntKind.i64.wrap (i64 a - i64 b) = i64 (sub64 a b) := by
  rw [IntKind.wrap_i64]; unfold i64 sub64; repeat' split
  all_goals omega
theorem wrap_subU (a b : Nat) (_ : a < 18446744073709551616) (hb : b < 18446744073709551616) : IntKind.u64.wrap ((a : Int) - (b : Int)) = (sub64 a b : Int) := by
  rw [IntKind.wrap_u64]; unfold sub64; omega
theorem wrap_add (a b : Nat) (_ : a < 18446744073709551616) (_ : b < 18446744073709551616) : IntKind.i64.wrap (i64 a + i64 b) = i64 (add64 a b) := by
  rw [IntKind.wrap_i64]; unfold i64 add64; repeat' split
  all_goals omega
theorem wrap_addU (a b : Nat) (_ : a < 18446744073709551616) (_ : b < 18446744073709551616) : IntKind.u64.wrap ((a : Int) + (b : Int)) = (add64 a b : Int) := by
  rw [IntKind.wrap_u64]; unfold add64; omega
theorem wrap_ui (a : Nat) (ha : a < 18446744073709551616) : IntKind.u64.wrap (i64 a) = (a : Int) := by
  rw [IntKind.wrap_u64]; unfold i64; split <;> omega
/-- a first number's bits. -/
def firstS (v : Nat) : List Bool := encS (i64 v)
def firstU (v : Nat) : List Bool := encU v
theorem lenSv_calls (v : Nat) (w : World) (hT : Tab w) (hv : v < 18446744073709551616) :
    Calls Tryd.prog 17 #[.int .i64 (i64 v)] w fun e w' => e = .returned (.int .i64 (firstS v).length) ∧ w = w' := lenS_calls (i64 v) w hT (i64_range v hv).1 (i64_range v hv).2
theorem lenUv_calls (v : Nat) (w : World) (hT : Tab w) (hv : v < 18446744073709551616) :
    Calls Tryd.prog 18 #[.int .u64 v] w fun e w' => e = .returned (.int .i64 (firstU v).length) ∧ w = w' := lenU_calls v w hT hv
theorem putSv_calls (g : Nat) (S : Nat → Prop) (l : List Bool) (v : Nat) (w : World) (hT : Tab w) (hG : ¬ S 0) (h : Wr w g S l) (hm : l.length ≤ 10000000000) (hv : v < 18446744073709551616) :
    Calls Tryd.prog 12 #[.pointer (some ⟨g, 0, none⟩), .int .i64 (i64 v)] w fun e w' => e = .returned (.tuple #[]) ∧ Upd (fun w S => Wr w g S (l ++ firstS v)) S w w' := putS_calls g S l (i64 v) w hT hG h hm (i64_range v hv).1 (i64_range v hv).2
theorem putUv_calls (g : Nat) (S : Nat → Prop) (l : List Bool) (v : Nat) (w : World) (hT : Tab w) (hG : ¬ S 0) (h : Wr w g S l) (hm : l.length ≤ 10000000000) (hv : v < 18446744073709551616) :
    Calls Tryd.prog 13 #[.pointer (some ⟨g, 0, none⟩), .int .u64 v] w fun e w' => e = .returned (.tuple #[]) ∧ Upd (fun w S => Wr w g S (l ++ firstU v)) S w w' := putU_calls g S l v w hT hG h hm hv
theorem upd_undrew {O : World → (Nat → Prop) → Prop} {S : Nat → Prop} {w w' : World} {n : Nat} (h : Upd O S (w.drewN n) w') : Upd O S w w' := Upd.then (fun _ hk => .inl hk) ((Ch.refl S w).drewN n) h
theorem upd_ch {O : World → (Nat → Prop) → Prop} {S : Nat → Prop} {w w' : World} {n : Nat} (h : Upd O S (w.drewN n) w') : Ch S w w' := by
  obtain ⟨_, _, _, hc⟩ := h
  exact ((Ch.refl S w).drewN n).trans hc fun _ _ h => h

/-! ### rows of int64 -/
def TrS (w : World) (g last step n : Nat) : Prop :=
  w.heap[g]? = some (.cells #[.int .i64 (i64 last), .int .i64 (i64 step), .int .i64 n] 85 (0, 0)) ∧ last < 18446744073709551616 ∧ step < 18446744073709551616 ∧ n ≤ 1000000
theorem TrS.ch {S : Nat → Prop} {w w' : World} {g last step n : Nat} (h : TrS w g last step n) (hc : Ch S w w') (hs : ¬ S g) : TrS w' g last step n := ⟨hc.blk h.1 hs, h.2⟩
theorem TrS.below {w w' : World} {g last step n : Nat} (h : TrS w g last step n) (hb : Below w.heap.size w w') : TrS w' g last step n := h.ch (Ch.of_below (S := fun _ => False) hb) id
theorem TrS.lt {w : World} {g last step n : Nat} (h : TrS w g last step n) : g < w.heap.size := blk_lt h.1

theorem newS_calls (w : World) :
    Calls Tryd.prog 32 #[] w fun e w' => e = .returned (.pointer (some ⟨w.heap.size, 0, none⟩)) ∧ TrS w' w.heap.size 0 0 0 ∧ Below w.heap.size w w' := by
  go_enter Tryd.func32, Tryd.ntmps32
  go_wp2
  go_ret
  exact ⟨rfl, ⟨blk_last _ _, by decide, by decide, by decide⟩, below_alloc (Below.refl _ _) _⟩

set_option maxHeartbeats 400000 in
theorem lastS_calls (g last step n : Nat) (w : World) (h : TrS w g last step n) :
    Calls Tryd.prog 47 #[.pointer (some ⟨g, 0, none⟩)] w fun e w' => e = .returned (.int .i64 (i64 last)) ∧ w = w' := by
  obtain ⟨hg, -⟩ := h
  have c0 : w.cell? ⟨g, 0, none⟩ = some (.int .i64 (i64 last)) := obj_cell hg rfl
  clear hg
  go_enter Tryd.func47, Tryd.ntmps47
  go_wp2
  go_ret
  exact ⟨rfl, rfl⟩

set_option maxHeartbeats 400000 in
theorem stepS_calls (g last step n : Nat) (w : World) (h : TrS w g last step n) :
    Calls Tryd.prog 40 #[.pointer (some ⟨g, 0, none⟩)] w fun e w' => e = .returned (.int .i64 (i64 step)) ∧ w = w' := by
  obtain ⟨hg, -⟩ := h
  have c0 : w.cell? ⟨g, 1, none⟩ = some (.int .i64 (i64 step)) := obj_cell hg rfl
  clear hg
  go_enter Tryd.func40, Tryd.ntmps40
  go_wp2
  go_ret
  exact ⟨rfl, rfl⟩

set_option maxHeartbeats 400000 in
theorem rlenS_calls (g last step n : Nat) (w : World) (h : TrS w g last step n) :
    Calls Tryd.prog 36 #[.pointer (some ⟨g, 0, none⟩)] w fun e w' => e = .returned (.int .i64 n) ∧ w = w' := by
  obtain ⟨hg, -⟩ := h
  have c0 : w.cell? ⟨g, 2, none⟩ = some (.int .i64 n) := obj_cell hg rfl
  clear hg
  go_enter Tryd.func36, Tryd.ntmps36
  go_wp2
  go_ret
  exact ⟨rfl, rfl⟩

set_option maxHeartbeats 400000 in
theorem signedS_calls (g : Nat) (w : World) :
    Calls Tryd.prog 68 #[.pointer (some ⟨g, 0, none⟩)] w fun e w' => e = .returned (.bool true) ∧ w = w' := by
  go_enter Tryd.func68, Tryd.ntmps68
  go_wp2
  go_ret
  exact ⟨rfl, rfl⟩

set_option maxHeartbeats 800000 in
theorem toS_calls (g last step n v : Nat) (w : World) (h : TrS w g last step n) (hv : v < 18446744073709551616) :
    Calls Tryd.prog 67 #[.pointer (some ⟨g, 0, none⟩), .int .i64 (i64 v)] w fun e w' =>
      e = .returned (.tuple #[.int .i64 (i64 (stepTo last n v)), .int .i64 (if n = 0 then 0 else i64 (sub64 (sub64 v last) step))]) ∧ Drawn0 w w' := by
  obtain ⟨hg, hl, hs, hn⟩ := h
  have c0 : w.cell? ⟨g, 0, none⟩ = some (.int .i64 (i64 last)) := obj_cell hg rfl
  have c1 : w.cell? ⟨g, 1, none⟩ = some (.int .i64 (i64 step)) := obj_cell hg rfl
  have c2 : w.cell? ⟨g, 2, none⟩ = some (.int .i64 n) := obj_cell hg rfl
  clear hg
  by_cases h0 : n = 0
  · subst h0
    rw [if_pos rfl, show stepTo last 0 v = 0 from rfl, show i64 0 = 0 from rfl]
    clear c0 c1 hl hs
    go_enter Tryd.func67, Tryd.ntmps67
    go_wp2
    go_ret2
    exact ⟨rfl, Drawn0.refl _⟩
  · have d0 : ((n : Int) == 0) = false := by simp; omega
    rw [if_neg h0, show stepTo last n v = sub64 v last from if_neg h0]
    have e1 := wrap_sub v last hv hl
    have hq := sub64_lt v last
    obtain ⟨q, hqq⟩ : ∃ q, q = sub64 v last := ⟨_, rfl⟩
    rw [← hqq] at e1 hq ⊢
    skip
    have e2 := wrap_sub q step hq hs
    have H2 := Lib.hid e2
    clear hqq h0
    go_enter Tryd.func67, Tryd.ntmps67
    go_wp2_with (fail)
    go_quiet (fail)
    go_wp2
    go_ret2
    exact ⟨rfl, by repeat (first | exact Drawn0.refl _ | apply Drawn0.step)⟩

set_option maxHeartbeats 800000 in
theorem takeS_calls (g last step n v st : Nat) (w : World) (h : TrS w g last step n) (hv : v < 18446744073709551616) (hst : st < 18446744073709551616) (hn : n < 1000000) :
    Calls Tryd.prog 64 #[.pointer (some ⟨g, 0, none⟩), .int .i64 (i64 v), .int .i64 (i64 st)] w fun e w' => e = .returned (.tuple #[]) ∧ TrS w' g v st (n + 1) ∧ Ch (fun k => k = g) w w' := by
  obtain ⟨hg, -⟩ := h
  have c0 : w.cell? ⟨g, 0, none⟩ = some (.int .i64 (i64 last)) := obj_cell hg rfl
  have c1 : w.cell? ⟨g, 1, none⟩ = some (.int .i64 (i64 step)) := obj_cell hg rfl
  have c2 : w.cell? ⟨g, 2, none⟩ = some (.int .i64 n) := obj_cell hg rfl
  have f0 : w.frozen? ⟨g, 0, none⟩ = false := obj_free hg
  have f1 : w.frozen? ⟨g, 1, none⟩ = false := obj_free hg
  have f2 : w.frozen? ⟨g, 2, none⟩ = false := obj_free hg
  have HG := Lib.hid hg
  clear hg
  go_enter Tryd.func64, Tryd.ntmps64
  go_wp2_with (fail)
  go_end0
  refine ⟨rfl, ⟨?_, hv, hst, by omega⟩, ?_⟩
  · exact blk_set (blk_set (blk_set HG.out 0 _) 1 _) 2 _
  · exact (((Ch.refl (fun k => k = g) w).setCell (p := ⟨g, 0, none⟩) (.inl rfl) _).setCell (p := ⟨g, 1, none⟩) (.inl rfl) _).setCell (p := ⟨g, 2, none⟩) (.inl rfl) _

set_option maxHeartbeats 800000 in
theorem costS_calls (g last step n v : Nat) (w : World) (hT : Tab w) (h : TrS w g last step n) (hv : v < 18446744073709551616) :
    Calls Tryd.prog 45 #[.pointer (some ⟨g, 0, none⟩), .int .i64 (i64 v)] w fun e w' => e = .returned (.int .i64 (told true last step n v).length) ∧ Drawn0 w w' := by
  have HTO := Lib.hid (toS_calls g last step n v w h hv)
  have HT := Lib.hid hT
  obtain ⟨hg, hl, hs, hn⟩ := h
  have c2 : w.cell? ⟨g, 2, none⟩ = some (.int .i64 n) := obj_cell hg rfl
  by_cases h0 : n = 0
  · subst h0
    have hir := i64_range v hv
    have HL := Lib.hid (fun m => lenSv_calls v (w.drewN m) (HT.out.drewN m) hv)
    have HSG := Lib.hid (fun m => signedS_calls g (w.drewN m))
    rw [show told true last step 0 v = firstS v from rfl]
    clear hg hT
    go_enter Tryd.func45, Tryd.ntmps45
    go_wp2_with (first
      | (go_at_call 67; refine HTO.out.mono ?_; rintro e w' ⟨rfl, nd, rfl⟩)
      | (go_at_call 68; refine (HSG.out _).mono ?_; rintro e w' ⟨rfl, rfl⟩)
      | (go_at_call 17; refine (HL.out _).mono ?_; rintro e w' ⟨rfl, rfl⟩))
    go_ret
    exact ⟨rfl, _, rfl⟩
  · have d0 : decide ((n : Int) > 0) = true := by simp; omega
    have d0' : decide (0 < (n : Int)) = true := by simp; omega
    have d0n : decide (0 < n) = true := by simp; omega
    have hir := i64_range (sub64 (sub64 v last) step) (sub64_lt _ _)
    have HL := Lib.hid (fun m => lenS_calls (i64 (sub64 (sub64 v last) step)) (w.drewN m) (HT.out.drewN m) hir.1 hir.2)
    rw [show told true last step n v = encS (i64 (sub64 (sub64 v last) step)) from if_neg h0]
    rw [if_neg h0] at HTO
    clear hg hT h0
    go_enter Tryd.func45, Tryd.ntmps45
    go_wp2_with (first
      | (go_at_call 67; refine HTO.out.mono ?_; rintro e w' ⟨rfl, nd, rfl⟩)
      | (go_at_call 17; refine (HL.out _).mono ?_; rintro e w' ⟨rfl, rfl⟩))
    go_ret
    exact ⟨rfl, _, rfl⟩

/-- what a row of int64 and a writer are behind a number that was put. -/
def PutS (g gx : Nat) (S : Nat → Prop) (l : List Bool) (last step n v : Nat) (w w' : World) : Prop :=
  ∃ S', Wr w' g S' (l ++ told true last step n v) ∧ (∀ k, S' k → S k ∨ w.heap.size ≤ k) ∧ TrS w' gx v (stepTo last n v) (n + 1) ∧ Ch (fun k => S k ∨ k = gx) w w'

set_option maxHeartbeats 800000 in
theorem putS_row (g gx : Nat) (S : Nat → Prop) (l : List Bool) (last step n v : Nat) (w : World) (hT : Tab w) (hG : ¬ S 0) (hx : TrS w gx last step n) (hw : Wr w g S l) (hgx : ¬ S gx)
    (hm : l.length ≤ 10000000000) (hv : v < 18446744073709551616) (hn : n < 1000000) :
    Calls Tryd.prog 39 #[.pointer (some ⟨gx, 0, none⟩), .pointer (some ⟨g, 0, none⟩), .int .i64 (i64 v)] w fun e w' => e = .returned (.tuple #[]) ∧ PutS g gx S l last step n v w w' := by
  have HTO := Lib.hid (toS_calls gx last step n v w hx hv)
  have HX := Lib.hid hx
  have HEND := Lib.hid (fun (b : List Bool) (w1 w2 : World) (hu : Upd (fun w S => Wr w g S (l ++ b)) S w w1) (h2 : b = told true last step n v) (hx2 : TrS w2 gx v (stepTo last n v) (n + 1)) (hc : Ch (fun k => k = gx) w1 w2) =>
    show PutS g gx S l last step n v w w2 from by
      obtain ⟨S', ho, hs, h1⟩ := hu
      subst h2
      refine ⟨S', ho.ch hc ?_, hs, hx2, ?_⟩
      · rintro k hk rfl
        rcases hs _ hk with h3 | h3
        · exact hgx h3
        · have := hx.lt; omega
      · exact (h1.mono fun k _ h => .inl h).trans hc fun i _ h => .inr h)
  have HST := Lib.hid (stepTo_lt last n v)
  have HTX := Lib.hid (fun (w1 : World) (h : Ch S w w1) => takeS_calls gx last step n v (stepTo last n v) w1 (hx.ch h hgx) hv (stepTo_lt last n v) hn)
  have c2 : w.cell? ⟨gx, 2, none⟩ = some (.int .i64 n) := obj_cell hx.1 rfl
  by_cases h0 : n = 0
  · subst h0
    have hir := i64_range v hv
    have HP := Lib.hid (fun m => putSv_calls g S l v (w.drewN m) hT hG hw hm hv)
    have HSG := Lib.hid (fun m => signedS_calls gx (w.drewN m))
    clear hT hG hx hw hgx HX HST
    go_enter Tryd.func39, Tryd.ntmps39
    go_wp2_with (first
      | (go_at_call 67; refine HTO.out.mono ?_; rintro e w' ⟨rfl, nd, rfl⟩)
      | (go_at_call 68; refine (HSG.out _).mono ?_; rintro e w' ⟨rfl, rfl⟩)
      | (go_at_call 12; refine (HP.out _).mono ?_; rintro e w1 ⟨rfl, hu⟩; have HU := Lib.hid hu; clear hu)
      | (go_at_call 64; refine (HTX.out _ (upd_ch HU.out)).mono ?_; rintro e w2 ⟨rfl, hx2, hc2⟩))
    go_end0
    exact ⟨rfl, HEND.out _ _ _ (upd_undrew HU.out) rfl hx2 hc2⟩
  · have d0 : decide ((n : Int) > 0) = true := by simp; omega
    have d0' : decide (0 < (n : Int)) = true := by simp; omega
    have d0n : decide (0 < n) = true := by simp; omega
    have hir := i64_range (sub64 (sub64 v last) step) (sub64_lt _ _)
    have HP := Lib.hid (fun m => putS_calls g S l (i64 (sub64 (sub64 v last) step)) (w.drewN m) hT hG hw hm hir.1 hir.2)
    have HTL := Lib.hid (show told true last step n v = encS (i64 (sub64 (sub64 v last) step)) from if_neg h0)
    rw [if_neg h0] at HTO
    clear hT hG hx hw hgx h0 HX HST
    go_enter Tryd.func39, Tryd.ntmps39
    go_wp2_with (first
      | (go_at_call 67; refine HTO.out.mono ?_; rintro e w' ⟨rfl, nd, rfl⟩)
      | (go_at_call 12; refine (HP.out _).mono ?_; rintro e w1 ⟨rfl, hu⟩; have HU := Lib.hid hu; clear hu)
      | (go_at_call 64; refine (HTX.out _ (upd_ch HU.out)).mono ?_; rintro e w2 ⟨rfl, hx2, hc2⟩))
    go_end0
    exact ⟨rfl, HEND.out _ _ _ (upd_undrew HU.out) HTL.out.symm hx2 hc2⟩

/-! ### rows of uint64 -/
def TrU (w : World) (g last step n : Nat) : Prop :=
  w.heap[g]? = some (.cells #[.int .u64 last, .int .i64 (i64 step), .int .i64 n] 87 (0, 0)) ∧ last < 18446744073709551616 ∧ step < 18446744073709551616 ∧ n ≤ 1000000
theorem TrU.ch {S : Nat → Prop} {w w' : World} {g last step n : Nat} (h : TrU w g last step n) (hc : Ch S w w') (hs : ¬ S g) : TrU w' g last step n := ⟨hc.blk h.1 hs, h.2⟩
theorem TrU.below {w w' : World} {g last step n : Nat} (h : TrU w g last step n) (hb : Below w.heap.size w w') : TrU w' g last step n := h.ch (Ch.of_below (S := fun _ => False) hb) id
theorem TrU.lt {w : World} {g last step n : Nat} (h : TrU w g last step n) : g < w.heap.size := blk_lt h.1

theorem newU_calls (w : World) :
    Calls Tryd.prog 33 #[] w fun e w' => e = .returned (.pointer (some ⟨w.heap.size, 0, none⟩)) ∧ TrU w' w.heap.size 0 0 0 ∧ Below w.heap.size w w' := by
  go_enter Tryd.func33, Tryd.ntmps33
  go_wp2
  go_ret
  exact ⟨rfl, ⟨blk_last _ _, by decide, by decide, by decide⟩, below_alloc (Below.refl _ _) _⟩

set_option maxHeartbeats 400000 in
theorem lastU_calls (g last step n : Nat) (w : World) (h : TrU w g last step n) :
    Calls Tryd.prog 43 #[.pointer (some ⟨g, 0, none⟩)] w fun e w' => e = .returned (.int .u64 last) ∧ w = w' := by
  obtain ⟨hg, -⟩ := h
  have c0 : w.cell? ⟨g, 0, none⟩ = some (.int .u64 last) := obj_cell hg rfl
  clear hg
  go_enter Tryd.func43, Tryd.ntmps43
  go_wp2
  go_ret
  exact ⟨rfl, rfl⟩

set_option maxHeartbeats 400000 in
theorem stepU_calls (g last step n : Nat) (w : World) (h : TrU w g last step n) :
    Calls Tryd.prog 44 #[.pointer (some ⟨g, 0, none⟩)] w fun e w' => e = .returned (.int .i64 (i64 step)) ∧ w = w' := by
  obtain ⟨hg, -⟩ := h
  have c0 : w.cell? ⟨g, 1, none⟩ = some (.int .i64 (i64 step)) := obj_cell hg rfl
  clear hg
  go_enter Tryd.func44, Tryd.ntmps44
  go_wp2
  go_ret
  exact ⟨rfl, rfl⟩

set_option maxHeartbeats 400000 in
theorem rlenU_calls (g last step n : Nat) (w : World) (h : TrU w g last step n) :
    Calls Tryd.prog 37 #[.pointer (some ⟨g, 0, none⟩)] w fun e w' => e = .returned (.int .i64 n) ∧ w = w' := by
  obtain ⟨hg, -⟩ := h
  have c0 : w.cell? ⟨g, 2, none⟩ = some (.int .i64 n) := obj_cell hg rfl
  clear hg
  go_enter Tryd.func37, Tryd.ntmps37
  go_wp2
  go_ret
  exact ⟨rfl, rfl⟩

set_option maxHeartbeats 400000 in
theorem signedU_calls (g : Nat) (w : World) :
    Calls Tryd.prog 70 #[.pointer (some ⟨g, 0, none⟩)] w fun e w' => e = .returned (.bool false) ∧ w = w' := by
  go_enter Tryd.func70, Tryd.ntmps70
  go_wp2
  go_ret
  exact ⟨rfl, rfl⟩

set_option maxHeartbeats 800000 in
theorem toU_calls (g last step n v : Nat) (w : World) (h : TrU w g last step n) (hv : v < 18446744073709551616) :
    Calls Tryd.prog 69 #[.pointer (some ⟨g, 0, none⟩), .int .u64 v] w fun e w' =>
      e = .returned (.tuple #[.int .i64 (i64 (stepTo last n v)), .int .i64 (if n = 0 then 0 else i64 (sub64 (sub64 v last) step))]) ∧ Drawn0 w w' := by
  obtain ⟨hg, hl, hs, hn⟩ := h
  have c0 : w.cell? ⟨g, 0, none⟩ = some (.int .u64 last) := obj_cell hg rfl
  have c1 : w.cell? ⟨g, 1, none⟩ = some (.int .i64 (i64 step)) := obj_cell hg rfl
  have c2 : w.cell? ⟨g, 2, none⟩ = some (.int .i64 n) := obj_cell hg rfl
  clear hg
  by_cases h0 : n = 0
  · subst h0
    rw [if_pos rfl, show stepTo last 0 v = 0 from rfl, show i64 0 = 0 from rfl]
    clear c0 c1 hl hs
    go_enter Tryd.func69, Tryd.ntmps69
    go_wp2
    go_ret2
    exact ⟨rfl, Drawn0.refl _⟩
  · have d0 : ((n : Int) == 0) = false := by simp; omega
    rw [if_neg h0, show stepTo last n v = sub64 v last from if_neg h0]
    have e1 := wrap_subU v last hv hl
    have hq := sub64_lt v last
    obtain ⟨q, hqq⟩ : ∃ q, q = sub64 v last := ⟨_, rfl⟩
    rw [← hqq] at e1 hq ⊢
    have e3 := wrap_i64 q hq
    have e2 := wrap_sub q step hq hs
    have H2 := Lib.hid e2
    clear hqq h0
    go_enter Tryd.func69, Tryd.ntmps69
    go_wp2_with (fail)
    go_quiet (fail)
    go_wp2
    go_ret2
    exact ⟨rfl, by repeat (first | exact Drawn0.refl _ | apply Drawn0.step)⟩

set_option maxHeartbeats 800000 in
theorem takeU_calls (g last step n v st : Nat) (w : World) (h : TrU w g last step n) (hv : v < 18446744073709551616) (hst : st < 18446744073709551616) (hn : n < 1000000) :
    Calls Tryd.prog 66 #[.pointer (some ⟨g, 0, none⟩), .int .u64 v, .int .i64 (i64 st)] w fun e w' => e = .returned (.tuple #[]) ∧ TrU w' g v st (n + 1) ∧ Ch (fun k => k = g) w w' := by
  obtain ⟨hg, -⟩ := h
  have c0 : w.cell? ⟨g, 0, none⟩ = some (.int .u64 last) := obj_cell hg rfl
  have c1 : w.cell? ⟨g, 1, none⟩ = some (.int .i64 (i64 step)) := obj_cell hg rfl
  have c2 : w.cell? ⟨g, 2, none⟩ = some (.int .i64 n) := obj_cell hg rfl
  have f0 : w.frozen? ⟨g, 0, none⟩ = false := obj_free hg
  have f1 : w.frozen? ⟨g, 1, none⟩ = false := obj_free hg
  have f2 : w.frozen? ⟨g, 2, none⟩ = false := obj_free hg
  have HG := Lib.hid hg
  clear hg
  go_enter Tryd.func66, Tryd.ntmps66
  go_wp2_with (fail)
  go_end0
  refine ⟨rfl, ⟨?_, hv, hst, by omega⟩, ?_⟩
  · exact blk_set (blk_set (blk_set HG.out 0 _) 1 _) 2 _
  · exact (((Ch.refl (fun k => k = g) w).setCell (p := ⟨g, 0, none⟩) (.inl rfl) _).setCell (p := ⟨g, 1, none⟩) (.inl rfl) _).setCell (p := ⟨g, 2, none⟩) (.inl rfl) _

set_option maxHeartbeats 800000 in
theorem costU_calls (g last step n v : Nat) (w : World) (hT : Tab w) (h : TrU w g last step n) (hv : v < 18446744073709551616) :
    Calls Tryd.prog 46 #[.pointer (some ⟨g, 0, none⟩), .int .u64 v] w fun e w' => e = .returned (.int .i64 (told false last step n v).length) ∧ Drawn0 w w' := by
  have HTO := Lib.hid (toU_calls g last step n v w h hv)
  have HT := Lib.hid hT
  obtain ⟨hg, hl, hs, hn⟩ := h
  have c2 : w.cell? ⟨g, 2, none⟩ = some (.int .i64 n) := obj_cell hg rfl
  by_cases h0 : n = 0
  · subst h0
    have hir := i64_range v hv
    have HL := Lib.hid (fun m => lenUv_calls v (w.drewN m) (HT.out.drewN m) hv)
    have HSG := Lib.hid (fun m => signedU_calls g (w.drewN m))
    rw [show told false last step 0 v = firstU v from rfl]
    clear hg hT
    go_enter Tryd.func46, Tryd.ntmps46
    go_wp2_with (first
      | (go_at_call 69; refine HTO.out.mono ?_; rintro e w' ⟨rfl, nd, rfl⟩)
      | (go_at_call 70; refine (HSG.out _).mono ?_; rintro e w' ⟨rfl, rfl⟩)
      | (go_at_call 18; refine (HL.out _).mono ?_; rintro e w' ⟨rfl, rfl⟩))
    go_ret
    exact ⟨rfl, _, rfl⟩
  · have d0 : decide ((n : Int) > 0) = true := by simp; omega
    have d0' : decide (0 < (n : Int)) = true := by simp; omega
    have d0n : decide (0 < n) = true := by simp; omega
    have hir := i64_range (sub64 (sub64 v last) step) (sub64_lt _ _)
    have HL := Lib.hid (fun m => lenS_calls (i64 (sub64 (sub64 v last) step)) (w.drewN m) (HT.out.drewN m) hir.1 hir.2)
    rw [show told false last step n v = encS (i64 (sub64 (sub64 v last) step)) from if_neg h0]
    rw [if_neg h0] at HTO
    clear hg hT h0
    go_enter Tryd.func46, Tryd.ntmps46
    go_wp2_with (first
      | (go_at_call 69; refine HTO.out.mono ?_; rintro e w' ⟨rfl, nd, rfl⟩)
      | (go_at_call 17; refine (HL.out _).mono ?_; rintro e w' ⟨rfl, rfl⟩))
    go_ret
    exact ⟨rfl, _, rfl⟩

/-- what a row of uint64 and a writer are behind a number that was put. -/
def PutU (g gx : Nat) (S : Nat → Prop) (l : List Bool) (last step n v : Nat) (w w' : World) : Prop :=
  ∃ S', Wr w' g S' (l ++ told false last step n v) ∧ (∀ k, S' k → S k ∨ w.heap.size ≤ k) ∧ TrU w' gx v (stepTo last n v) (n + 1) ∧ Ch (fun k => S k ∨ k = gx) w w'

set_option maxHeartbeats 800000 in
theorem putU_row (g gx : Nat) (S : Nat → Prop) (l : List Bool) (last step n v : Nat) (w : World) (hT : Tab w) (hG : ¬ S 0) (hx : TrU w gx last step n) (hw : Wr w g S l) (hgx : ¬ S gx)
    (hm : l.length ≤ 10000000000) (hv : v < 18446744073709551616) (hn : n < 1000000) :
    Calls Tryd.prog 42 #[.pointer (some ⟨gx, 0, none⟩), .pointer (some ⟨g, 0, none⟩), .int .u64 v] w fun e w' => e = .returned (.tuple #[]) ∧ PutU g gx S l last step n v w w' := by
  have HTO := Lib.hid (toU_calls gx last step n v w hx hv)
  have HX := Lib.hid hx
  have HEND := Lib.hid (fun (b : List Bool) (w1 w2 : World) (hu : Upd (fun w S => Wr w g S (l ++ b)) S w w1) (h2 : b = told false last step n v) (hx2 : TrU w2 gx v (stepTo last n v) (n + 1)) (hc : Ch (fun k => k = gx) w1 w2) =>
    show PutU g gx S l last step n v w w2 from by
      obtain ⟨S', ho, hs, h1⟩ := hu
      subst h2
      refine ⟨S', ho.ch hc ?_, hs, hx2, ?_⟩
      · rintro k hk rfl
        rcases hs _ hk with h3 | h3
        · exact hgx h3
        · have := hx.lt; omega
      · exact (h1.mono fun k _ h => .inl h).trans hc fun i _ h => .inr h)
  have HST := Lib.hid (stepTo_lt last n v)
  have HTX := Lib.hid (fun (w1 : World) (h : Ch S w w1) => takeU_calls gx last step n v (stepTo last n v) w1 (hx.ch h hgx) hv (stepTo_lt last n v) hn)
  have c2 : w.cell? ⟨gx, 2, none⟩ = some (.int .i64 n) := obj_cell hx.1 rfl
  by_cases h0 : n = 0
  · subst h0
    have hir := i64_range v hv
    have HP := Lib.hid (fun m => putUv_calls g S l v (w.drewN m) hT hG hw hm hv)
    have HSG := Lib.hid (fun m => signedU_calls gx (w.drewN m))
    clear hT hG hx hw hgx HX HST
    go_enter Tryd.func42, Tryd.ntmps42
    go_wp2_with (first
      | (go_at_call 69; refine HTO.out.mono ?_; rintro e w' ⟨rfl, nd, rfl⟩)
      | (go_at_call 70; refine (HSG.out _).mono ?_; rintro e w' ⟨rfl, rfl⟩)
      | (go_at_call 13; refine (HP.out _).mono ?_; rintro e w1 ⟨rfl, hu⟩; have HU := Lib.hid hu; clear hu)
      | (go_at_call 66; refine (HTX.out _ (upd_ch HU.out)).mono ?_; rintro e w2 ⟨rfl, hx2, hc2⟩))
    go_end0
    exact ⟨rfl, HEND.out _ _ _ (upd_undrew HU.out) rfl hx2 hc2⟩
  · have d0 : decide ((n : Int) > 0) = true := by simp; omega
    have d0' : decide (0 < (n : Int)) = true := by simp; omega
    have d0n : decide (0 < n) = true := by simp; omega
    have hir := i64_range (sub64 (sub64 v last) step) (sub64_lt _ _)
    have HP := Lib.hid (fun m => putS_calls g S l (i64 (sub64 (sub64 v last) step)) (w.drewN m) hT hG hw hm hir.1 hir.2)
    have HTL := Lib.hid (show told false last step n v = encS (i64 (sub64 (sub64 v last) step)) from if_neg h0)
    rw [if_neg h0] at HTO
    clear hT hG hx hw hgx h0 HX HST
    go_enter Tryd.func42, Tryd.ntmps42
    go_wp2_with (first
      | (go_at_call 69; refine HTO.out.mono ?_; rintro e w' ⟨rfl, nd, rfl⟩)
      | (go_at_call 12; refine (HP.out _).mono ?_; rintro e w1 ⟨rfl, hu⟩; have HU := Lib.hid hu; clear hu)
      | (go_at_call 66; refine (HTX.out _ (upd_ch HU.out)).mono ?_; rintro e w2 ⟨rfl, hx2, hc2⟩))
    go_end0
    exact ⟨rfl, HEND.out _ _ _ (upd_undrew HU.out) HTL.out.symm hx2 hc2⟩
end Go.Proofs.YtlbkdmggafkghaaDoor.TimesA
