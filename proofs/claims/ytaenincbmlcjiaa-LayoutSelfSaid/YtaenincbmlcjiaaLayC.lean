/- layout's walks: values with zeros. -/
import Derived.Test.YtaenincbmlcjiaaLayB
namespace Go.Proofs.Ytaenincbmlcjiaa.LayC
open Go.RowKit Go.Proofs.YtaenincbmlcjiaaW.PrintWords
open Go.Proofs.Ytaenincbmlcjiaa.Base Go.Proofs.Ytaenincbmlcjiaa.SpanPure Go.Proofs.Ytaenincbmlcjiaa.LayPure Go.Proofs.Ytaenincbmlcjiaa.SpanBase Go.Proofs.Ytaenincbmlcjiaa.LayA Go.Proofs.Ytaenincbmlcjiaa.LayB

/-- the copy of a loop's value lies apart from a row that is grown. -/
theorem far_own {k : IntKind} {e : Nat} {w : World} {base : Nat} {v v1 : Value} {xs : List Int} {n : Nat} (h : OwI e k w base v xs) (hat : v1.ownBlock = v.ownBlock ∨ ∃ b, v1.ownBlock = some b ∧ n ≤ b) (hn : w.heap.size < n) : some w.heap.size ≠ v1.ownBlock := by
  intro he
  rcases hat with h1 | ⟨b, h1, h2⟩
  · have := h.lt_ w.heap.size (by rw [← h1, ← he])
    omega
  · rw [h1] at he
    injection he with he
    omega
theorem far_self {k : IntKind} {e : Nat} {w : World} {base : Nat} {v : Value} {xs : List Int} (h : OwI e k w base v xs) : some w.heap.size ≠ v.ownBlock := fun he => by
  have := h.lt_ w.heap.size he.symm
  omega
theorem cell_at {w : World} {g : Nat} {a b : Value} {t : TypeId} (h : w.heap[g]? = some (.cells #[a, b] t (0, 0))) : w.cell? ⟨g, 0, none⟩ = some a ∧ w.cell? ⟨g, 1, none⟩ = some b := by
  constructor <;> simp [World.cell?, h]

/-- what Expand hands back. -/
def ExpPost (vs : List Int) (l : List Sp) (z : Int) (w : World) (e : Ending) (w' : World) : Prop :=
  Below w.heap.size w w' ∧ ((right vs.length l = false ∧ e = .returned (.tuple #[.slice none 0 0, .int .i64 11])) ∨ (right vs.length l = true ∧ ∃ v, e = .returned (.tuple #[v, .int .i64 0]) ∧ OwI 2 .i64 w' w.heap.size v (expand vs l z)))
set_option maxRecDepth 100000 in
set_option maxHeartbeats 3200000 in
theorem expand_calls (A B : Option Addr) (c d : Nat) (vs : List Int) (l : List Sp) (z : Int) (w : World) (hr : RdI .i64 w A vs) (hl : RdSp w B l) (hm : vs.length ≤ 1000000) (hm2 : l.length ≤ 1000000000) (hc : vs.length ≤ c) :
    Calls Try.prog 28 #[.slice A vs.length c, .slice B l.length d, .int .i64 z] w (ExpPost vs l z w) := by
  have HRI := Lib.hid (right_calls B d l vs.length w hl hm2)
  cases hok : right vs.length l with
  | false =>
    rw [hok] at HRI
    have HOK := Lib.hid hok
    clear hr hl hok
    go_enter Try.func28, Try.ntmps28
    go_wp2_with (go_at_call 29; refine HRI.out.mono ?_; rintro e w1 ⟨rfl, hb1⟩)
    go_ret2
    exact ⟨hb1, .inl ⟨HOK.out, rfl⟩⟩
  | true =>
    rw [hok] at HRI
    have HOK := Lib.hid hok
    have HR := Lib.hid hr
    have HL := Lib.hid hl
    have HST := Lib.hid (fun k hk => exp_step vs z l rfl hok k hk)
    have HEN := Lib.hid (expL_len vs z l rfl hok)
    have hcn := right_cnt hok
    obtain ⟨i0, hi, hz0, hz1, hz2⟩ := info_parts info64
    have HI := Lib.hid hi
    have HZ1 := Lib.hid hz1
    clear hr hl hok hi hz0 hz1 hz2
    go_enter Try.func28, Try.ntmps28
    go_wp2_with (go_at_call 29; refine HRI.out.mono ?_; rintro e w1 ⟨rfl, hb1⟩; have HB1 := Lib.hid hb1; clear hb1)
    go_loopw [8, 9, 19] (fun v f i wr => ∃ (k g : Nat) (xs : List Int), k ≤ l.length ∧ i = .int .i64 k ∧ f = .int .i64 g ∧ g ≤ vs.length ∧ OwI 2 .i64 wr w.heap.size v xs ∧ Hid (expL vs z (l.take k) = (g, xs)) ∧ Below w.heap.size w wr) (fun _ _ i _ => l.length - (intOf i).toNat)
    case atStart => exact ⟨0, 0, [], by omega, rfl, rfl, by omega, OwI.nil _ _ _ _, Lib.hid rfl, HB1.out⟩
    case round =>
      clear HB1 HRI
      obtain ⟨k, g, xs, hk, rfl, rfl, hg, ho, hx, hb⟩ := hrel
      have HB := Lib.hid hb
      have HO := Lib.hid ho
      have hsz := hb.size
      by_cases hlt : k < l.length
      · obtain ⟨ad, hA, c0, c1⟩ := (HL.out.below hb).at_ k hlt
        subst hA
        obtain ⟨s1, s2, s3, s4, s5, s6, s7⟩ := HST.out k hlt
        obtain ⟨s, hs⟩ : ∃ s, s = l[k] := ⟨_, rfl⟩
        rw [← hs] at c0 c1 s1 s2 s3 s4 s5 s7
        rw [hx.out] at s5 s6 s7
        obtain ⟨o, q⟩ := s
        simp only at c0 c1 s1 s2 s3 s4 s5 s6 s7
        obtain ⟨O, rfl⟩ := Int.eq_ofNat_of_zero_le s1
        obtain ⟨Q, rfl⟩ := Int.eq_ofNat_of_zero_le (show 0 ≤ q by omega)
        rw [Int.toNat_natCast, Int.toNat_natCast] at s7
        obtain ⟨ys, hys⟩ : ∃ ys, ys = (vs.take O).drop g := ⟨_, rfl⟩
        rw [← hys] at s7
        have HS7 := Lib.hid s7
        obtain ⟨AO, hAO⟩ : ∃ AO, AO = (if c = g then A else A.map (·.add g)) := ⟨_, rfl⟩
        have HYS : Hid (∀ W, RdI .i64 W A vs → RdI .i64 W AO ys) := Lib.hid fun W h => by
          rw [hys, hAO]
          exact (h.take O).drop g c (by rw [List.length_take]; omega) (by rw [List.length_take]; omega)
        have hyl : ys.length = O - g := by rw [hys, List.length_drop, List.length_take]; omega
        have HCUT : Hid (∀ W, (Instr.slice 47 (.slice A vs.length c) (some (.int .i64 g)) (some (.int .i64 O)) none).run Try.prog W = .ok (.slice AO (O - g) (c - g)) W) := Lib.hid fun W => by
          have := cut_mid (P := Try.prog) 47 2 .i64 .i64 Try.underlying47 HI.out 1 (by rw [HZ1.out]) A vs.length c (g : Int) (O : Int) (by omega) (by omega) (by omega) hc W
          rw [Int.toNat_natCast, Int.toNat_natCast, Nat.mul_one, ← hAO] at this
          exact this
        have hcut := HCUT.out
        clear hs hb ho hx s7 hys hAO s1
        go_wp2_with (first
          | (at_builtin; refine append_row (w0 := w) w.heap.size rfl (.tmp 23) (.tmp 28) 47 2 .i64 8 rfl Try.underlying47 info64 (by decide) _ xs ys AO (O - g) (c - g) rfl rfl hyl (HO.out.below (below_alloc (Below.refl _ _) _)) (HYS.out _ (HR.out.below (below_alloc HB.out _))) (below_alloc HB.out _) (by simp; omega) (by omega) ?_; intro v1 w1 ho1 hb1 hg1 hat1; have HBK : Hid (w1.heap[wr.heap.size]? = some (.cells #[.int .i64 O, .int .i64 Q] 53 (0, 0))) := Lib.hid ((hg1.block wr.heap.size (by simp) (far_self HO.out)).trans (heap_alloc_new wr _)); have HFAR : Hid (some wr.heap.size ≠ v1.ownBlock) := Lib.hid (far_own HO.out hat1 (by simp)); have HO1 := Lib.hid ho1; have HB1 := Lib.hid hb1; have hk0 := (cell_at HBK.out).1; have hk1 := (cell_at HBK.out).2; have hz1 : wr.heap.size < w1.heap.size := blk_lt HBK.out; clear ho1 hb1 hg1 hat1))
        refine (repeat_calls ⟨w1.heap.size, 0, none⟩ z Q (w1.alloc (.cells #[.int .i64 z] 2)) (by simp) (by omega) (by omega)).mono ?_
        rintro e w2 ⟨v2, rfl, ho2, hb2⟩
        obtain ⟨A2, c2, rfl, -, hr2⟩ := ho2.reads
        have hlt1 : w1.heap.size < (w1.alloc (.cells #[.int .i64 z] 2)).heap.size := by simp
        have hb12 : Below w1.heap.size w1 w2 := below_then (below_alloc (Below.refl _ _) _) (by omega) hb2
        have hb02 := below_then HB1.out (by omega) hb12
        have HB2 := Lib.hid hb02
        have HO12 := Lib.hid (HO1.out.below hb12)
        have HR2 := Lib.hid hr2
        have HBK2 := Lib.hid ((hb12.block wr.heap.size hz1).trans HBK.out)
        have hz2 : w1.heap.size ≤ w2.heap.size := hb12.size
        rw [List.length_replicate]
        have hyl2 : (List.replicate Q z).length = Q := List.length_replicate
        clear ho2 hb2 hr2 hb12 hb02 hlt1 hk0 hk1 HB1 HO HB HO1
        go_wp2_with (first
          | (at_builtin; refine append_row (w0 := w) w.heap.size rfl (.tmp 30) (.tmp 35) 47 2 .i64 8 rfl Try.underlying47 info64 (by decide) _ (xs ++ ys) (List.replicate Q z) A2 Q c2 rfl rfl hyl2 HO12.out HR2.out HB2.out (by omega) (by rw [List.length_append]; omega) ?_; intro v3 w3 ho3 hb3 hg3 _; have HBK3 : Hid (w3.heap[wr.heap.size]? = some (.cells #[.int .i64 O, .int .i64 Q] 53 (0, 0))) := Lib.hid ((hg3.block wr.heap.size (by omega) HFAR.out).trans HBK2.out); have HO3 := Lib.hid ho3; have HB3 := Lib.hid hb3; have hk0 := (cell_at HBK3.out).1; clear ho3 hb3 hg3))
        go_roundw
        case rel => exact ⟨k + 1, O, xs ++ ys ++ List.replicate Q z, by omega, by go_num, rfl, by omega, HO3.out, HS7, HB3.out⟩
        case measure => simp [intOf]; omega
      · obtain rfl : k = l.length := by omega
        rw [List.take_length] at hx
        obtain ⟨e1, e2⟩ := HEN.out
        rw [hx.out] at e1 e2
        have HX : Hid (expand vs l z = xs ++ vs.drop g) := Lib.hid (by rw [expand, hx.out])
        obtain ⟨AO, hAO⟩ : ∃ AO, AO = (if c = g then A else A.map (·.add g)) := ⟨_, rfl⟩
        have HYS : Hid (∀ W, RdI .i64 W A vs → RdI .i64 W AO (vs.drop g)) := Lib.hid fun W h => by
          rw [hAO]
          exact h.drop g c hg hc
        have hyl : (vs.drop g).length = vs.length - g := List.length_drop
        have HCUT : Hid (∀ W, (Instr.slice 47 (.slice A vs.length c) (some (.int .i64 g)) none none).run Try.prog W = .ok (.slice AO (vs.length - g) (c - g)) W) := Lib.hid fun W => by
          have := cut_from (P := Try.prog) 47 2 .i64 Try.underlying47 HI.out 1 (by rw [HZ1.out]) A vs.length c (g : Int) (by omega) (by omega) W
          rw [Int.toNat_natCast, Nat.mul_one, ← hAO] at this
          exact this
        have hcut := HCUT.out
        clear hb ho hx hAO
        go_wp2_with (first
          | (at_builtin; refine append_row (w0 := w) w.heap.size rfl (.tmp 40) (.tmp 43) 47 2 .i64 8 rfl Try.underlying47 info64 (by decide) _ xs (vs.drop g) AO (vs.length - g) (c - g) rfl rfl hyl HO.out (HYS.out _ (HR.out.below HB.out)) HB.out hsz (by simp only at e2; omega) ?_; intro v3 w3 ho3 hb3 _ _; have HO3 := Lib.hid ho3; have HB3 := Lib.hid hb3; clear ho3 hb3))
        go_ret2
        exact ⟨HB3.out, .inr ⟨HOK.out, _, rfl, by rw [HX.out]; exact HO3.out⟩⟩
end Go.Proofs.Ytaenincbmlcjiaa.LayC
