/- layout's walks: which inserts lead from some places to all of them. -/
import Derived.Test.YtaenincbmlcjiaaLayC
import Derived.Test.YtaenincbmlcjiaaLayPure3
namespace Go.Proofs.Ytaenincbmlcjiaa.LayE
open Go.RowKit Go.Proofs.YtaenincbmlcjiaaW.PrintWords
open Go.Proofs.Ytaenincbmlcjiaa.Base Go.Proofs.Ytaenincbmlcjiaa.SpanPure Go.Proofs.Ytaenincbmlcjiaa.SpanPure2 Go.Proofs.Ytaenincbmlcjiaa.LayPure Go.Proofs.Ytaenincbmlcjiaa.LayPure3 Go.Proofs.Ytaenincbmlcjiaa.SpanBase Go.Proofs.Ytaenincbmlcjiaa.LayA

theorem infoIn : (Try.prog.info? 53).map (fun i => (i.zero, i.size, i.bytes)) = some (some (.agg #[.int .i64 0, .int .i64 0]), 2, 16) := by kernel_rfl
theorem lastO {e : Nat} {w : World} {base : Nat} {l : List Sp} {g c : Nat} {s : Sp} (h : OwSp e w base (.slice (some ⟨g, 0, none⟩) (l.length + 1) c) (l ++ [s])) :
    w.cell? ⟨g, l.length * 2, none⟩ = some (.int .i64 s.1) := by
  have h' : w.ownsRow base e 2 (.slice (some ⟨g, 0, none⟩) (l.length + 1) c) (l.length + 1) (spc (l ++ [s])) := by
    have := h
    unfold OwSp at this
    rwa [List.length_append, List.length_singleton] at this
  rw [World.ownsRow.cellAt h' _ (by omega)]
  have := (spc_get (l ++ [s]) l.length (by simp)).1
  simpa using this
theorem lack_hit {x : List Int} {a : Nat} {L : List Sp} {p : Int} (h : a < x.length) (he : x[a] = p) : lackS x (a, L) p = (a + 1, L) := by
  simp only [lackS]; rw [if_pos (by rw [List.getElem?_eq_getElem h, he])]
theorem lack_new {x : List Int} {a : Nat} {L : List Sp} {p : Int} (h : x[a]? ≠ some p) (hl : ∀ u, L.getLast? = some u → u.1 ≠ (a : Int)) : lackS x (a, L) p = (a, L ++ [((a : Int), 1)]) := by
  simp only [lackS]; rw [if_neg h]
  cases hg : L.getLast? with
  | none => rfl
  | some u => simp [hl u hg]
theorem lack_more {x : List Int} {a : Nat} {L : List Sp} {n : Int} {p : Int} (h : x[a]? ≠ some p) : lackS x (a, L ++ [((a : Int), n)]) p = (a, L ++ [((a : Int), n + 1)]) := by
  simp only [lackS]; rw [if_neg h]; simp

set_option maxRecDepth 100000 in
set_option maxHeartbeats 6400000 in
theorem lacks_calls (A B : Option Addr) (c d : Nat) (x all : List Int) (w : World) (hx : RdI .i64 w A x) (ha : RdI .i64 w B all) (hm : x.length ≤ 1000000) (hm2 : all.length ≤ 1000000) :
    Calls Try.prog 54 #[.slice A x.length c, .slice B all.length d] w fun e w' => ∃ v, e = .returned v ∧ OwSp 53 w' w.heap.size v (lacks x all) ∧ Below w.heap.size w w' := by
  have HX := Lib.hid hx
  have HA := Lib.hid ha
  clear hx ha
  go_enter Try.func54, Try.ntmps54
  go_wp2
  go_loopw [5, 6, 11] (fun v t i wr => ∃ (k a : Nat) (L : List Sp), k ≤ all.length ∧ i = .int .i64 k ∧ t = .int .i64 a ∧ a ≤ k ∧ L.length ≤ k ∧ Hid (∀ s ∈ L, 0 ≤ s.2 ∧ s.2 ≤ k) ∧ Hid (lackL x (all.take k) = (a, L)) ∧ OwSp 53 wr w.heap.size v L ∧ Below w.heap.size w wr) (fun _ _ i _ => all.length - (intOf i).toNat)
  case atStart => exact ⟨0, 0, [], by omega, rfl, rfl, by omega, by simp, Lib.hid (by simp), Lib.hid rfl, OwSp.nil _ _ _, Below.refl _ _⟩
  case round =>
    obtain ⟨k, a, L, hk, rfl, rfl, hak, hLk, hq, hst, ho, hb⟩ := hrel
    have HB := Lib.hid hb
    have HO := Lib.hid ho
    have hsz := hb.size
    by_cases hlt : k < all.length
    · obtain ⟨ad, hA, c0⟩ := (HA.out.below hb).at_ k hlt
      subst hA
      have HT : Hid (lackL x (all.take (k + 1)) = lackS x (a, L) all[k]) := Lib.hid (by rw [List.take_succ_eq_append_getElem hlt, lackL_snoc, hst.out])
      obtain ⟨p, hp⟩ : ∃ p, p = all[k] := ⟨_, rfl⟩
      rw [← hp] at c0 HT
      have HQ1 : Hid (∀ s ∈ L, 0 ≤ s.2 ∧ s.2 ≤ ((k + 1 : Nat) : Int)) := Lib.hid fun s hs => by have := hq.out s hs; omega
      have HQN : Hid (∀ s ∈ L ++ [((a : Int), (1 : Int))], 0 ≤ s.2 ∧ s.2 ≤ ((k + 1 : Nat) : Int)) := Lib.hid fun s hs => by
        rcases List.mem_append.1 hs with hs | hs
        · exact HQ1.out s hs
        · rw [List.mem_singleton.1 hs]; simp only; omega
      clear hb ho hp hst
      by_cases hit : ∃ h : a < x.length, x[a] = p
      · obtain ⟨hal, he⟩ := hit
        obtain ⟨ad2, hA2, c02⟩ := (HX.out.below HB.out).at_ a hal
        subst hA2
        rw [he] at c02
        have HN : Hid (lackL x (all.take (k + 1)) = (a + 1, L)) := Lib.hid (by rw [HT.out, lack_hit hal he])
        have b0 : (0 : Int) ≤ (a : Int) := by omega
        have b1 : (a : Int) < (x.length : Int) := by omega
        have e0 : decide ((a : Int) < (x.length : Int)) = true := by simp; omega
        have e0n : decide (a < x.length) = true := by simp; omega
        clear he
        go_wp2
        go_roundw
        case rel => exact ⟨k + 1, a + 1, L, by omega, by go_num, by go_num, by omega, by omega, HQ1, HN, HO.out, HB.out⟩
        case measure => simp [intOf]; omega
      · have HM : Hid (x[a]? ≠ some p) := Lib.hid fun h => hit ⟨(List.getElem?_eq_some_iff.1 h).1, (List.getElem?_eq_some_iff.1 h).2⟩
        have hno : (x.length ≤ a) ∨ ∃ h : a < x.length, x[a] ≠ p := by
          rcases Nat.lt_or_ge a x.length with h | h
          · exact .inr ⟨h, fun e => hit ⟨h, e⟩⟩
          · exact .inl h
        clear hit
        rcases List.eq_nil_or_concat L with rfl | ⟨i, s, hi⟩
        · have HN : Hid (lackL x (all.take (k + 1)) = (a, [] ++ [((a : Int), 1)])) := Lib.hid (by rw [HT.out, lack_new HM.out (by simp)])
          obtain ⟨A9, c9, rfl, -, -, -⟩ := HO.out.reads
          rw [List.length_nil] at HO ⊢
          rcases hno with hge | ⟨hal, hne⟩
          · have e0 : decide ((a : Int) < (x.length : Int)) = false := by simp; omega
            have e0n : decide (a < x.length) = false := by simp; omega
            go_wp2_with (at_builtin; refine append_span (w0 := w) w.heap.size rfl (.tmp 15) (.tmp 18) 48 53 16 rfl Try.underlying48 infoIn _ ([]) (a : Int) 1 rfl rfl HO.out HB.out hsz (by simp) (by simp) ?_; intro g1 cap1 w1 ho1 hb1 _ _; have HO2 := Lib.hid ho1; have HB1 := Lib.hid hb1; clear ho1 hb1)
            go_roundw
            case rel => exact ⟨k + 1, a, [] ++ [((a : Int), 1)], by omega, by go_num, rfl, by omega, by simp, HQN, HN, HO2.out, HB1.out⟩
            case measure => simp [intOf]; omega
          · obtain ⟨ad2, hA2, c02⟩ := (HX.out.below HB.out).at_ a hal
            subst hA2
            have ne : (x[a] == p) = false := by simpa using hne
            obtain ⟨y, hy⟩ : ∃ y, y = x[a] := ⟨_, rfl⟩
            rw [← hy] at c02 ne
            have b0 : (0 : Int) ≤ (a : Int) := by omega
            have b1 : (a : Int) < (x.length : Int) := by omega
            have e0 : decide ((a : Int) < (x.length : Int)) = true := by simp; omega
            have e0n : decide (a < x.length) = true := by simp; omega
            clear hy hne
            go_wp2_with (at_builtin; refine append_span (w0 := w) w.heap.size rfl (.tmp 15) (.tmp 18) 48 53 16 rfl Try.underlying48 infoIn _ ([]) (a : Int) 1 rfl rfl HO.out HB.out hsz (by simp) (by simp) ?_; intro g1 cap1 w1 ho1 hb1 _ _; have HO2 := Lib.hid ho1; have HB1 := Lib.hid hb1; clear ho1 hb1)
            go_roundw
            case rel => exact ⟨k + 1, a, [] ++ [((a : Int), 1)], by omega, by go_num, rfl, by omega, by simp, HQN, HN, HO2.out, HB1.out⟩
            case measure => simp [intOf]; omega
        · rw [List.concat_eq_append] at hi
          subst hi
          obtain ⟨g, cap, rfl, hge0, hgl, hcap⟩ := HO.out.form (by simp)
          rw [List.length_append, List.length_singleton] at HO hLk hcap ⊢
          have HO1 := Lib.hid HO.out
          obtain ⟨hc1, hf1⟩ := HO1.out.last_
          have hc0 := lastO HO1.out
          have hs0 := hq.out s (by simp)
          obtain ⟨u, n⟩ := s
          simp only at hc0 hc1 hs0
          obtain ⟨h01, h02⟩ := hs0
          have g0 : decide ((i.length : Int) + 1 > 0) = true := decide_eq_true (by omega)
          have g0' : decide (0 < (i.length : Int) + 1) = true := decide_eq_true (by omega)
          by_cases hu : u = (a : Int)
          · subst hu
            have HN : Hid (lackL x (all.take (k + 1)) = (a, i ++ [((a : Int), n + 1)])) := Lib.hid (by rw [HT.out, lack_more HM.out])
            have HQU : Hid (∀ s ∈ i ++ [((a : Int), n + 1)], 0 ≤ s.2 ∧ s.2 ≤ ((k + 1 : Nat) : Int)) := Lib.hid fun s hs => by
              rcases List.mem_append.1 hs with hs | hs
              · exact HQ1.out s (List.mem_append_left _ hs)
              · rw [List.mem_singleton.1 hs]; simp only; omega
            have hn : n ≤ 1000000 := by omega
            rcases hno with hge | ⟨hal, hne⟩
            · have e0 : decide ((a : Int) < (x.length : Int)) = false := by simp; omega
              have e0n : decide (a < x.length) = false := by simp; omega
              go_wp2
              go_roundw
              case rel => exact ⟨k + 1, a, i ++ [((a : Int), n + 1)], by omega, by go_num, rfl, by omega, by simp; omega, HQU, HN, HO1.out.setLast, HB.out.setCell hge0 _⟩
              case measure => simp [intOf]; omega
            · obtain ⟨ad2, hA2, c02⟩ := (HX.out.below HB.out).at_ a hal
              subst hA2
              have ne : (x[a] == p) = false := by simpa using hne
              obtain ⟨y, hy⟩ : ∃ y, y = x[a] := ⟨_, rfl⟩
              rw [← hy] at c02 ne
              have b0 : (0 : Int) ≤ (a : Int) := by omega
              have b1 : (a : Int) < (x.length : Int) := by omega
              have e0 : decide ((a : Int) < (x.length : Int)) = true := by simp; omega
              have e0n : decide (a < x.length) = true := by simp; omega
              clear hy hne
              go_wp2
              go_roundw
              case rel => exact ⟨k + 1, a, i ++ [((a : Int), n + 1)], by omega, by go_num, rfl, by omega, by simp; omega, HQU, HN, HO1.out.setLast, HB.out.setCell hge0 _⟩
              case measure => simp [intOf]; omega
          · have eu : (u == (a : Int)) = false := by simp; exact hu
            have HN : Hid (lackL x (all.take (k + 1)) = (a, i ++ [(u, n)] ++ [((a : Int), 1)])) := Lib.hid (by rw [HT.out, lack_new HM.out (by simp; exact hu)])
            rcases hno with hge | ⟨hal, hne⟩
            · have e0 : decide ((a : Int) < (x.length : Int)) = false := by simp; omega
              have e0n : decide (a < x.length) = false := by simp; omega
              go_wp2_with (at_builtin; refine append_span (w0 := w) w.heap.size rfl (.tmp 15) (.tmp 18) 48 53 16 rfl Try.underlying48 infoIn _ (i ++ [(u, n)]) (a : Int) 1 rfl rfl HO1.out HB.out hsz (by simp; omega) (by simp; omega) ?_; intro g1 cap1 w1 ho1 hb1 _ _; have HO2 := Lib.hid ho1; have HB1 := Lib.hid hb1; clear ho1 hb1)
              go_roundw
              case rel => exact ⟨k + 1, a, i ++ [(u, n)] ++ [((a : Int), 1)], by omega, by go_num, rfl, by omega, by simp; omega, HQN, HN, (by have h9 := HO2.out; rwa [List.length_append, List.length_singleton] at h9), HB1.out⟩
              case measure => simp [intOf]; omega
            · obtain ⟨ad2, hA2, c02⟩ := (HX.out.below HB.out).at_ a hal
              subst hA2
              have ne : (x[a] == p) = false := by simpa using hne
              obtain ⟨y, hy⟩ : ∃ y, y = x[a] := ⟨_, rfl⟩
              rw [← hy] at c02 ne
              have b0 : (0 : Int) ≤ (a : Int) := by omega
              have b1 : (a : Int) < (x.length : Int) := by omega
              have e0 : decide ((a : Int) < (x.length : Int)) = true := by simp; omega
              have e0n : decide (a < x.length) = true := by simp; omega
              clear hy hne
              go_wp2_with (at_builtin; refine append_span (w0 := w) w.heap.size rfl (.tmp 15) (.tmp 18) 48 53 16 rfl Try.underlying48 infoIn _ (i ++ [(u, n)]) (a : Int) 1 rfl rfl HO1.out HB.out hsz (by simp; omega) (by simp; omega) ?_; intro g1 cap1 w1 ho1 hb1 _ _; have HO2 := Lib.hid ho1; have HB1 := Lib.hid hb1; clear ho1 hb1)
              go_roundw
              case rel => exact ⟨k + 1, a, i ++ [(u, n)] ++ [((a : Int), 1)], by omega, by go_num, rfl, by omega, by simp; omega, HQN, HN, (by have h9 := HO2.out; rwa [List.length_append, List.length_singleton] at h9), HB1.out⟩
              case measure => simp [intOf]; omega
    · obtain rfl : k = all.length := by omega
      rw [List.take_length] at hst
      have HF : Hid (lacks x all = L) := Lib.hid (by rw [lacks, hst.out])
      obtain ⟨A1, c1, rfl, -, -, -⟩ := ho.reads
      clear ho hb
      go_wp2
      go_ret
      exact ⟨_, rfl, by rw [HF.out]; exact HO.out, HB.out⟩
end Go.Proofs.Ytaenincbmlcjiaa.LayE
