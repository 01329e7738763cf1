/- layout's walks: differences of values with zeros; the law's sums and numbers. -/
import Derived.Test.YtaenincbmlcjiaaLayC
import Derived.Test.YtaenincbmlcjiaaLayPure2
namespace Go.Proofs.Ytaenincbmlcjiaa.LayD
open Go.RowKit Go.Proofs.YtaenincbmlcjiaaW.PrintWords
open Go.Proofs.Ytaenincbmlcjiaa.Base Go.Proofs.Ytaenincbmlcjiaa.SpanPure Go.Proofs.Ytaenincbmlcjiaa.LayPure Go.Proofs.Ytaenincbmlcjiaa.LayPure2 Go.Proofs.Ytaenincbmlcjiaa.SpanBase Go.Proofs.Ytaenincbmlcjiaa.LayA Go.Proofs.Ytaenincbmlcjiaa.LayB Go.Proofs.Ytaenincbmlcjiaa.LayC

theorem wrap64_eq (x : Int) : wrap64 x = w64 x := by unfold wrap64 w64; omega
theorem u_step {U x a : Int} (h : w64 U = a) : w64 (IntKind.u64.wrap (U + IntKind.u64.wrap x)) = w64 (a + x) := by
  rw [IntKind.wrap_u64, IntKind.wrap_u64]
  unfold w64 at *
  omega
set_option maxRecDepth 100000 in
set_option maxHeartbeats 1600000 in
theorem sums_calls (A : Option Addr) (c : Nat) (ds : List Int) (w : World) (hr : RdI .i64 w A ds) (hm : ds.length ≤ 1000000) :
    Calls Try.prog 33 #[.slice A ds.length c] w fun e w' => ∃ v, e = .returned v ∧ OwI 2 .i64 w' w.heap.size v (sums ds) ∧ Below w.heap.size w w' := by
  have HR := Lib.hid hr
  have HT := Lib.hid (fun k h => sums_take ds k h)
  clear hr
  go_enter Try.func33, Try.ntmps33
  go_wp2
  go_loopw [3, 4, 9] (fun v a i wr => ∃ (k : Nat) (U : Int), k ≤ ds.length ∧ i = .int .i64 k ∧ a = .int .u64 U ∧ Hid (w64 U = endS 0 (ds.take k)) ∧ OwI 2 .i64 wr w.heap.size v (sums (ds.take k)) ∧ Below w.heap.size w wr) (fun _ _ i _ => ds.length - (intOf i).toNat)
  case atStart => exact ⟨0, 0, by omega, rfl, rfl, Lib.hid rfl, OwI.nil _ _ _ _, Below.refl _ _⟩
  case round =>
    obtain ⟨k, U, hk, rfl, rfl, he, ho, hb⟩ := hrel
    have HB := Lib.hid hb
    have HO := Lib.hid ho
    have hsz := hb.size
    by_cases hlt : k < ds.length
    · obtain ⟨ad, hA, c0⟩ := (HR.out.below hb).at_ k hlt
      subst hA
      have H1 := Lib.hid (HT.out k hlt)
      obtain ⟨x, hx⟩ : ∃ x, x = ds[k] := ⟨_, rfl⟩
      rw [← hx] at c0 H1
      have hsl : (sums (ds.take k)).length ≤ 1000000 := by rw [sums, sumsF_len, List.length_take]; omega
      have HL := Lib.hid hsl
      clear hb ho hx hsl
      go_wp2_with (at_builtin; refine append_one (w0 := w) w.heap.size rfl (.tmp 17) (.tmp 20) 47 2 .i64 8 rfl Try.underlying47 info64 (by decide) _ (sums (ds.take k)) _ rfl rfl HO.out HB.out hsz (by have := HL.out; omega) ?_; intro v1 w1 ho1 hb1 _ _; have HO1 := Lib.hid ho1; have HB1 := Lib.hid hb1; clear ho1 hb1)
      go_roundw
      case rel =>
        have e := u_step (x := x) he.out
        have h9 := HO1.out
        rw [wrap64_eq, e] at h9
        exact ⟨k + 1, _, by omega, by go_num, rfl, Lib.hid (by rw [e, H1.out.2]), by rw [H1.out.1]; exact h9, HB1.out⟩
      case measure => simp [intOf]; omega
    · obtain rfl : k = ds.length := by omega
      rw [List.take_length] at ho
      have HO := Lib.hid ho
      obtain ⟨A1, c1, rfl, -, -⟩ := ho.reads
      go_wp2
      go_ret
      exact ⟨_, rfl, HO.out, HB.out⟩

/-- what ExpandDeltas hands back. -/
def DelPost (ds : List Int) (l : List Sp) (w : World) (e : Ending) (w' : World) : Prop :=
  Below w.heap.size w w' ∧ ((right ds.length l = false ∧ e = .returned (.tuple #[.slice none 0 0, .int .i64 11])) ∨ (right ds.length l = true ∧ ∃ v, e = .returned (.tuple #[v, .int .i64 0]) ∧ OwI 2 .i64 w' w.heap.size v (difs (expand (sums ds) l 0))))
set_option maxRecDepth 100000 in
set_option maxHeartbeats 3200000 in
theorem deltas_calls (A B : Option Addr) (c d : Nat) (ds : List Int) (l : List Sp) (w : World) (hr : RdI .i64 w A ds) (hl : RdSp w B l) (hm : ds.length ≤ 1000000) (hm2 : l.length ≤ 1000000000) :
    Calls Try.prog 32 #[.slice A ds.length c, .slice B l.length d] w (DelPost ds l w) := by
  have HR := Lib.hid hr
  have HL := Lib.hid hl
  have HT := Lib.hid (fun k h => sums_take ds k h)
  have hsl : (sums ds).length = ds.length := sumsF_len ds 0
  have HSL := Lib.hid hsl
  clear hr hl hsl
  go_enter Try.func32, Try.ntmps32
  go_wp2
  go_loopw [6, 7, 17] (fun v a i wr => ∃ (k : Nat) (U : Int), k ≤ ds.length ∧ i = .int .i64 k ∧ a = .int .i64 U ∧ Hid (U = endS 0 (ds.take k)) ∧ OwI 2 .i64 wr w.heap.size v (sums (ds.take k)) ∧ Below w.heap.size w wr) (fun _ _ i _ => ds.length - (intOf i).toNat)
  case atStart => exact ⟨0, 0, by omega, rfl, rfl, Lib.hid rfl, OwI.nil _ _ _ _, Below.refl _ _⟩
  case round =>
    obtain ⟨k, U, hk, rfl, rfl, he, ho, hb⟩ := hrel
    have HB := Lib.hid hb
    have HO := Lib.hid ho
    have hsz := hb.size
    by_cases hlt : k < ds.length
    · obtain ⟨ad, hA, c0⟩ := (HR.out.below hb).at_ k hlt
      subst hA
      have H1 := Lib.hid (HT.out k hlt)
      obtain ⟨x, hx⟩ : ∃ x, x = ds[k] := ⟨_, rfl⟩
      rw [← hx] at c0 H1
      have HLK : Hid ((sums (ds.take k)).length ≤ 1000000) := Lib.hid (by rw [sums, sumsF_len, List.length_take]; omega)
      clear hb ho hx
      go_wp2_with (at_builtin; refine append_one (w0 := w) w.heap.size rfl (.tmp 24) (.tmp 26) 47 2 .i64 8 rfl Try.underlying47 info64 (by decide) _ (sums (ds.take k)) _ rfl rfl HO.out HB.out hsz (by have := HLK.out; omega) ?_; intro v1 w1 ho1 hb1 _ _; have HO1 := Lib.hid ho1; have HB1 := Lib.hid hb1; clear ho1 hb1)
      go_roundw
      case rel =>
        have h9 := HO1.out
        rw [wrap64_eq, he.out] at h9
        exact ⟨k + 1, _, by omega, by go_num, rfl, Lib.hid (by rw [wrap64_eq, he.out, H1.out.2]), by rw [H1.out.1]; exact h9, HB1.out⟩
      case measure => simp [intOf]; omega
    · obtain rfl : k = ds.length := by omega
      rw [List.take_length] at ho
      obtain ⟨A1, c1, rfl, hc1, hr1⟩ := ho.reads
      have HEX := Lib.hid (expand_calls A1 B c1 d (sums ds) l 0 wr hr1 (HL.out.below hb) (by rw [HSL.out]; omega) hm2 hc1)
      rw [HSL.out] at HEX ⊢
      clear ho hb hr1 HO HT
      go_wp2_with (fail)
      refine HEX.out.mono ?_
      rintro e w1 ⟨hb1, ⟨h0, rfl⟩ | ⟨h0, v, rfl, ho⟩⟩
      · rw [HSL.out] at h0
        have HB1 := Lib.hid (below_then HB.out hsz hb1)
        have H0 := Lib.hid h0
        clear hb1 h0
        go_wp2
        go_ret2
        exact ⟨HB1.out, .inl ⟨H0.out, rfl⟩⟩
      · rw [HSL.out] at h0
        have HB1 := Lib.hid (below_then HB.out hsz hb1)
        have H0 := Lib.hid h0
        obtain ⟨xs, hxs⟩ : ∃ xs, xs = expand (sums ds) l 0 := ⟨_, rfl⟩
        rw [← hxs] at ho
        have HXS := Lib.hid hxs
        have hxl : xs.length ≤ 2000000 := by
          have h1 := expand_len (sums ds) 0 l (n := ds.length) (by rw [HSL.out]) h0
          have h2 := right_cnt h0
          rw [← hxs] at h1
          omega
        obtain ⟨A2, c2, rfl, hc2, hr2⟩ := ho.reads
        have HO2 := Lib.hid (ho.lower hsz)
        clear hb1 h0 ho hr2 hxs HEX
        have HGET := Lib.hid (fun k h => half_get xs k h)
        have HSET := Lib.hid (fun k h => half_set xs k h)
        have HHL := Lib.hid (fun k h => half_len xs k h)
        go_wp2
        go_loopw [12, 40] (fun a i wr => ∃ (k : Nat), k ≤ xs.length ∧ i = .int .i64 k ∧ a = .int .i64 (prev xs k) ∧ OwI 2 .i64 wr w.heap.size (.slice A2 xs.length c2) (half xs k) ∧ Below w.heap.size w wr) (fun _ i _ => xs.length - (intOf i).toNat)
        case atStart => exact ⟨0, by omega, rfl, rfl, by rw [half_zero]; exact HO2.out, HB1.out⟩
        case round =>
          clear HB HB1 HO2
          obtain ⟨k, hk, rfl, rfl, ho, hb⟩ := hrel
          have HB := Lib.hid hb
          have HO := Lib.hid ho
          by_cases hlt : k < xs.length
          · obtain ⟨g, c', he, hg1, hg2, hg3⟩ := ho.form (by rw [HHL.out k hk]; omega)
            injection he with e1 e2 e3
            subst e1 e3
            have hat := ho.at_ k (by rw [HHL.out k hk]; omega)
            rw [HGET.out k hlt] at hat
            obtain ⟨hat1, hat2⟩ := hat
            have HS := Lib.hid (HSET.out k hlt)
            have HP : Hid (prev xs (k + 1) = xs[k]) := Lib.hid (by rw [prev, if_neg (by omega), Nat.add_sub_cancel]; simp [List.getD_eq_getElem?_getD, hlt])
            obtain ⟨x, hx⟩ : ∃ x, x = xs[k] := ⟨_, rfl⟩
            rw [← hx] at hat1 HS HP
            obtain ⟨p, hp⟩ : ∃ p, p = prev xs k := ⟨_, rfl⟩
            rw [← hp] at HS ⊢
            clear ho hb hx hp HGET HSET HHL
            go_wp2
            go_roundw
            case rel => exact ⟨k + 1, by omega, by go_num, by rw [HP.out], by rw [wrap64_eq, ← HS.out]; exact HO.out.set k _, HB.out.setCell (p := ⟨g, k, none⟩) hg1 _⟩
            case measure => simp [intOf]; omega
          · obtain rfl : k = xs.length := by omega
            rw [half_all] at ho
            have HO := Lib.hid ho
            clear ho hb
            go_wp2
            go_ret2
            exact ⟨HB.out, .inr ⟨H0.out, _, rfl, by rw [← HXS.out]; exact HO.out⟩⟩
end Go.Proofs.Ytaenincbmlcjiaa.LayD
