/- the reference of layer 6: the union. -/
import Derived.Test.YtaenincbmlcjiaaRef06B
namespace Go.Proofs.Ytaenincbmlcjiaa.Ref06D
open Go.RowKit Go.Proofs.YtaenincbmlcjiaaW.PrintWords
open Go.Proofs.Ytaenincbmlcjiaa.Base Go.Proofs.Ytaenincbmlcjiaa.SpanPure Go.Proofs.Ytaenincbmlcjiaa.SpanPure2 Go.Proofs.Ytaenincbmlcjiaa.SpanBase Go.Proofs.Ytaenincbmlcjiaa.SpanA Go.Proofs.Ytaenincbmlcjiaa.SpanB Go.Proofs.Ytaenincbmlcjiaa.SpanD Go.Proofs.Ytaenincbmlcjiaa.SpanG Go.Proofs.Ytaenincbmlcjiaa.Ref06

/-- all of two rising lists, each once. -/
def mg : List Int → List Int → List Int
  | [], b => b
  | x :: a, [] => x :: a
  | x :: a, y :: b => if x < y then x :: mg a (y :: b) else if y < x then y :: mg (x :: a) b else x :: mg a b
termination_by a b => a.length + b.length
theorem mg_nil (a : List Int) : mg a [] = a := by cases a <;> simp [mg]
theorem mg_spec : ∀ (n : Nat) (a b : List Int), a.length + b.length ≤ n → Rise a → Rise b → Rise (mg a b) ∧ (∀ z, z ∈ mg a b ↔ z ∈ a ∨ z ∈ b)
  | _, [], b, _, _, hb => ⟨by simpa [mg] using hb, by simp [mg]⟩
  | _, x :: a, [], _, ha, _ => ⟨by simpa [mg] using ha, by simp [mg]⟩
  | 0, x :: a, y :: b, hn, _, _ => by simp at hn
  | n + 1, x :: a, y :: b, hn, ha, hb => by
    have a1 := List.pairwise_cons.1 ha
    have b1 := List.pairwise_cons.1 hb
    simp only [List.length_cons] at hn
    rw [mg]
    by_cases h1 : x < y
    · obtain ⟨i1, i2⟩ := mg_spec n a (y :: b) (by simp; omega) a1.2 hb
      rw [if_pos h1]
      refine ⟨List.pairwise_cons.2 ⟨fun z hz => ?_, i1⟩, fun z => ?_⟩
      · rcases (i2 z).1 hz with h | h
        · exact a1.1 z h
        · rcases List.mem_cons.1 h with rfl | h
          · exact h1
          · have := b1.1 z h; omega
      · rw [List.mem_cons, i2, List.mem_cons (l := a), or_assoc]
    · rw [if_neg h1]
      by_cases h2 : y < x
      · obtain ⟨i1, i2⟩ := mg_spec n (x :: a) b (by simp; omega) ha b1.2
        rw [if_pos h2]
        refine ⟨List.pairwise_cons.2 ⟨fun z hz => ?_, i1⟩, fun z => ?_⟩
        · rcases (i2 z).1 hz with h | h
          · rcases List.mem_cons.1 h with rfl | h
            · exact h2
            · have := a1.1 z h; omega
          · exact b1.1 z h
        · rw [List.mem_cons, i2, List.mem_cons (l := b)]
          constructor
          · rintro (h | h | h)
            · exact .inr (.inl h)
            · exact .inl h
            · exact .inr (.inr h)
          · rintro (h | h | h)
            · exact .inr (.inl h)
            · exact .inl h
            · exact .inr (.inr h)
      · rw [if_neg h2]
        obtain ⟨i1, i2⟩ := mg_spec n a b (by omega) a1.2 b1.2
        have hxy : x = y := by omega
        subst hxy
        refine ⟨List.pairwise_cons.2 ⟨fun z hz => ?_, i1⟩, fun z => ?_⟩
        · rcases (i2 z).1 hz with h | h
          · exact a1.1 z h
          · exact b1.1 z h
        · rw [List.mem_cons, i2, List.mem_cons, List.mem_cons]
          constructor
          · rintro (h | h | h)
            · exact .inl (.inl h)
            · exact .inl (.inr h)
            · exact .inr (.inr h)
          · rintro ((h | h) | (h | h))
            · exact .inl h
            · exact .inr (.inl h)
            · exact .inl h
            · exact .inr (.inr h)
theorem mg_uni {p q : List Int} (hp : Rise p) (hq : Rise q) : uni p q = mg p q := by
  obtain ⟨h1, h2⟩ := mg_spec _ p q (Nat.le_refl _) hp hq
  exact rise_ext (uni_spec p q).1 h1 fun x => by rw [(uni_spec p q).2, h2]

set_option maxRecDepth 100000 in
set_option maxHeartbeats 6400000 in
theorem merge_calls (A1 A2 : Option Addr) (c1 c2 : Nat) (p q : List Int) (w : World) (h1 : RdI .i64 w A1 p) (h2 : RdI .i64 w A2 q) (hm : p.length ≤ 100000) (hm2 : q.length ≤ 100000) (hp : Rise p) (hq : Rise q) :
    Calls Try.prog 26 #[.slice A1 p.length c1, .slice A2 q.length c2] w fun e w' => ∃ v, e = .returned v ∧ OwI 3 .i64 w' w.heap.size v (uni p q) ∧ Below w.heap.size w w' := by
  have H1 := Lib.hid h1
  have H2 := Lib.hid h2
  rw [mg_uni hp hq]
  obtain ⟨U, hU⟩ : ∃ U, U = mg p q := ⟨_, rfl⟩
  rw [← hU]
  clear h1 h2 hp hq
  go_enter Try.func26, Try.ntmps26
  go_wp2
  go_loopw [5, 6, 7] (fun v i k wr => ∃ (m n : Nat) (O : List Int), m ≤ p.length ∧ n ≤ q.length ∧ i = .int .i64 m ∧ k = .int .i64 n ∧ O.length ≤ m + n ∧ OwI 3 .i64 wr w.heap.size v O ∧ Hid (U = O ++ mg (p.drop m) (q.drop n)) ∧ Below w.heap.size w wr) (fun _ i k _ => (p.length - (intOf i).toNat) + (q.length - (intOf k).toNat))
  case atStart => exact ⟨0, 0, [], by omega, by omega, rfl, rfl, by simp, OwI.nil _ _ _ _, Lib.hid (by simpa using hU), Below.refl _ _⟩
  case round =>
    obtain ⟨m, n, O, hmp, hnq, rfl, rfl, hO, ho, ht, hb⟩ := hrel
    have HO := Lib.hid ho
    have HB := Lib.hid hb
    have hsz := hb.size
    have HR1 := Lib.hid (fun W (h : Below w.heap.size w W) => H1.out.below h)
    clear hU
    have hm0 : (0 : Int) ≤ (m : Int) := by omega
    have hn0 : (0 : Int) ≤ (n : Int) := by omega
    by_cases hi : m < p.length
    · obtain ⟨ad, hA, cx⟩ := RdI.at_ (H1.out.below hb) m hi
      have HDP := Lib.hid (show p.drop m = p[m] :: p.drop (m + 1) from List.drop_eq_getElem_cons hi)
      obtain ⟨x, hx⟩ : ∃ x, x = p[m] := ⟨_, rfl⟩
      rw [← hx] at cx HDP
      subst hA
      have hib : (m : Int) < (p.length : Int) := by omega
      have dI : decide ((m : Int) < (p.length : Int)) = true := by simpa using hi
      have dIn : decide (m < p.length) = true := by simpa using hi
      have eI : ((m : Int) == (p.length : Int)) = false := by simp; omega
      by_cases hk : n < q.length
      · obtain ⟨ad2, hA2, cy⟩ := RdI.at_ (H2.out.below hb) n hk
        have HDQ := Lib.hid (show q.drop n = q[n] :: q.drop (n + 1) from List.drop_eq_getElem_cons hk)
        obtain ⟨y, hy⟩ : ∃ y, y = q[n] := ⟨_, rfl⟩
        rw [← hy] at cy HDQ
        subst hA2
        have hkb : (n : Int) < (q.length : Int) := by omega
        have dK : decide ((n : Int) < (q.length : Int)) = true := by simpa using hk
        have dKn : decide (n < q.length) = true := by simpa using hk
        have eK : ((n : Int) == (q.length : Int)) = false := by simp; omega
        by_cases h1 : x < y
        · have dxy : decide (x < y) = true := by simpa using h1
          have HT : Hid (U = (O ++ [x]) ++ mg (p.drop (m + 1)) (q.drop n)) := Lib.hid (by rw [ht.out, HDP.out, HDQ.out, mg, if_pos h1, List.append_assoc]; rfl)
          clear hx hy h1 ho hb ht hi hk
          go_wp2_with (fail)
          go_quiet (fail)
          go_wp2_with (at_builtin; refine append_one (w0 := w) w.heap.size rfl (.tmp 39) (.tmp 44) 25 3 .i64 8 rfl Try.underlying25 infoInt (by decide) _ O x rfl rfl (HO.out.drewN _) (pw_below_drewN HB.out _) hsz (by omega) ?_; intro v2 w2 ho2 hb2 _ _; have HO2 := Lib.hid ho2; have HB2 := Lib.hid hb2; clear ho2 hb2)
          go_roundw
          case rel => exact ⟨m + 1, n, O ++ [x], by omega, by omega, by go_num, rfl, by simp; omega, HO2.out, HT, HB2.out⟩
          case measure => simp [intOf]; omega
        · have dxy : decide (x < y) = false := by simpa using h1
          by_cases h2 : y < x
          · have dyx : decide (y < x) = true := by simpa using h2
            have HT : Hid (U = (O ++ [y]) ++ mg (p.drop m) (q.drop (n + 1))) := Lib.hid (by rw [ht.out, HDP.out, HDQ.out, mg, if_neg h1, if_pos h2, List.append_assoc]; rfl)
            clear hx hy h1 h2 ho hb ht hi hk
            go_wp2_with (fail)
            go_quiet (fail)
            go_wp2_with (fail)
            go_quiet (fail)
            go_wp2_with (at_builtin; refine append_one (w0 := w) w.heap.size rfl (.tmp 63) (.tmp 68) 25 3 .i64 8 rfl Try.underlying25 infoInt (by decide) _ O y rfl rfl (HO.out.drewN _) (pw_below_drewN HB.out _) hsz (by omega) ?_; intro v2 w2 ho2 hb2 _ _; have HO2 := Lib.hid ho2; have HB2 := Lib.hid hb2; clear ho2 hb2)
            go_roundw
            case rel => exact ⟨m, n + 1, O ++ [y], by omega, by omega, rfl, by go_num, by simp; omega, HO2.out, HT, HB2.out⟩
            case measure => simp [intOf]; omega
          · have dyx : decide (y < x) = false := by simpa using h2
            have HT : Hid (U = (O ++ [x]) ++ mg (p.drop (m + 1)) (q.drop (n + 1))) := Lib.hid (by rw [ht.out, HDP.out, HDQ.out, mg, if_neg h1, if_neg h2, List.append_assoc]; rfl)
            clear hx hy h1 h2 ho hb ht hi hk
            go_wp2_with (fail)
            go_quiet (fail)
            go_wp2_with (fail)
            go_quiet (fail)
            go_wp2_with (at_builtin; refine append_one (w0 := w) w.heap.size rfl (.tmp 72) (.tmp 77) 25 3 .i64 8 rfl Try.underlying25 infoInt (by decide) _ O x rfl rfl (HO.out.drewN _) (pw_below_drewN HB.out _) hsz (by omega) ?_; intro v2 w2 ho2 hb2 _ _; have HO2 := Lib.hid ho2; have HB2 := Lib.hid hb2; clear ho2 hb2)
            go_roundw
            case rel => exact ⟨m + 1, n + 1, O ++ [x], by omega, by omega, by go_num, by go_num, by simp; omega, HO2.out, HT, HB2.out⟩
            case measure => simp [intOf]; omega
      · have hkn : n = q.length := by omega
        have dK : decide ((n : Int) < (q.length : Int)) = false := by simpa using hk
        have dKn : decide (n < q.length) = false := by simpa using hk
        have eK : ((n : Int) == (q.length : Int)) = true := by simp; omega
        have HT : Hid (U = (O ++ [x]) ++ mg (p.drop (m + 1)) (q.drop n)) := Lib.hid (by rw [ht.out, HDP.out, hkn, List.drop_length, mg_nil, mg_nil, List.append_assoc]; rfl)
        clear hx ho hb ht hi hk hkn
        go_wp2_with (fail)
        go_quiet (fail)
        go_wp2_with (at_builtin; refine append_one (w0 := w) w.heap.size rfl (.tmp 39) (.tmp 44) 25 3 .i64 8 rfl Try.underlying25 infoInt (by decide) _ O x rfl rfl (HO.out.drewN _) (pw_below_drewN HB.out _) hsz (by omega) ?_; intro v2 w2 ho2 hb2 _ _; have HO2 := Lib.hid ho2; have HB2 := Lib.hid hb2; clear ho2 hb2)
        go_roundw
        case rel => exact ⟨m + 1, n, O ++ [x], by omega, by omega, by go_num, rfl, by simp; omega, HO2.out, HT, HB2.out⟩
        case measure => simp [intOf]; omega
    · have him : m = p.length := by omega
      have dI : decide ((m : Int) < (p.length : Int)) = false := by simpa using hi
      have dIn : decide (m < p.length) = false := by simpa using hi
      have eI : ((m : Int) == (p.length : Int)) = true := by simp; omega
      by_cases hk : n < q.length
      · obtain ⟨ad2, hA2, cy⟩ := RdI.at_ (H2.out.below hb) n hk
        have HDQ := Lib.hid (show q.drop n = q[n] :: q.drop (n + 1) from List.drop_eq_getElem_cons hk)
        obtain ⟨y, hy⟩ : ∃ y, y = q[n] := ⟨_, rfl⟩
        rw [← hy] at cy HDQ
        subst hA2
        have hkb : (n : Int) < (q.length : Int) := by omega
        have dK : decide ((n : Int) < (q.length : Int)) = true := by simpa using hk
        have dKn : decide (n < q.length) = true := by simpa using hk
        have eK : ((n : Int) == (q.length : Int)) = false := by simp; omega
        have HT : Hid (U = (O ++ [y]) ++ mg (p.drop m) (q.drop (n + 1))) := Lib.hid (by rw [ht.out, HDQ.out, him, List.drop_length, mg, mg, List.append_assoc]; rfl)
        clear hy ho hb ht hi hk him
        go_wp2_with (fail)
        go_quiet (fail)
        go_wp2_with (fail)
        go_quiet (fail)
        go_wp2_with (at_builtin; refine append_one (w0 := w) w.heap.size rfl (.tmp 63) (.tmp 68) 25 3 .i64 8 rfl Try.underlying25 infoInt (by decide) _ O y rfl rfl (HO.out.drewN _) (pw_below_drewN HB.out _) hsz (by omega) ?_; intro v2 w2 ho2 hb2 _ _; have HO2 := Lib.hid ho2; have HB2 := Lib.hid hb2; clear ho2 hb2)
        go_roundw
        case rel => exact ⟨m, n + 1, O ++ [y], by omega, by omega, rfl, by go_num, by simp; omega, HO2.out, HT, HB2.out⟩
        case measure => simp [intOf]; omega
      · have hkn : n = q.length := by omega
        have dK : decide ((n : Int) < (q.length : Int)) = false := by simpa using hk
        have dKn : decide (n < q.length) = false := by simpa using hk
        have HT : Hid (U = O) := Lib.hid (by rw [ht.out, him, hkn, List.drop_length, List.drop_length, mg, List.append_nil])
        obtain ⟨A3, c3, rfl, -, -⟩ := ho.reads
        clear ho hb ht hi hk hkn him
        go_wp2
        go_ret
        exact ⟨_, rfl, by rw [HT.out]; exact HO.out, HB.out⟩
end Go.Proofs.Ytaenincbmlcjiaa.Ref06D
