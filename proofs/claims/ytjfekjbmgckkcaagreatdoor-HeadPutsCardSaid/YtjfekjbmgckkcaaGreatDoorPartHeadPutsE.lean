/- what HeadPuts stands on, part 5: HeadK, HeadC, HeadG, Law14A, HeadL, HeadM, Law14B, Ref06K. -/
import Derived.Test.YtjfekjbmgckkcaaGreatDoorPartHeadPutsD
import Derived.Deep.QuietTactic
import Derived.BigQuiet
import Derived.Test.YtjfekjbmgckkcaaGreatDoorPartHeadPutsC
import Derived.Laws.ResultCell

/- a head's bits are read again; what is read has just its bits: no program in sight. -/
namespace Go.Proofs.YtjfekjbmgckkcaaGreatDoor.HeadK
open Go.RowKit
open Go.Proofs.YtjfekjbmgckkcaaGreatDoor.Bits Go.Proofs.YtjfekjbmgckkcaaGreatDoor.Base Go.Proofs.YtjfekjbmgckkcaaGreatDoor.VarPure Go.Proofs.YtjfekjbmgckkcaaGreatDoor.VarbitD Go.Proofs.YtjfekjbmgckkcaaGreatDoor.SpanPure Go.Proofs.YtjfekjbmgckkcaaGreatDoor.SpanBase Go.Proofs.YtjfekjbmgckkcaaGreatDoor.ThrPure Go.Proofs.YtjfekjbmgckkcaaGreatDoor.ReadP Go.Proofs.YtjfekjbmgckkcaaGreatDoor.HeadA Go.Proofs.YtjfekjbmgckkcaaGreatDoor.HeadB Go.Proofs.YtjfekjbmgckkcaaGreatDoor.HeadPure Go.Proofs.YtjfekjbmgckkcaaGreatDoor.HeadE Go.Proofs.YtjfekjbmgckkcaaGreatDoor.HeadF Go.Proofs.YtjfekjbmgckkcaaGreatDoor.HeadH Go.Proofs.YtjfekjbmgckkcaaGreatDoor.HeadJ

theorem pU_enc (x : Nat) (t : List Bool) (hx : x < 18446744073709551616) : pU (encU x ++ t) = ⟨0, x, (encU x).length, t⟩ := by
  have ho : okU (gU x) (nb x (behind (gU x))) = true := by unfold okU; rw [VarKit.encU_val x hx]; simp
  unfold pU
  simp only [VarKit.parse_encU]
  rw [if_pos ho, VarKit.encU_val x hx, encU_length]
theorem pS_enc (v : Int) (t : List Bool) (h1 : -9223372036854775808 ≤ v) (h2 : v ≤ 9223372036854775807) : pS (encS v ++ t) = ⟨0, v, (encS v).length, t⟩ := by
  have ho : okS (gS v) (nb (u64 v) (behind (gS v))) = true := by unfold okS; rw [VarKit.encS_val v h1 h2]; simp
  unfold pS
  simp only [VarKit.parse_encS]
  rw [if_pos ho, VarKit.encS_val v h1 h2, encS_length]
theorem val_lt64 {x : List Bool} {k : Nat} (hx : x.length = behind k) : val x < 18446744073709551616 := by
  have h1 := val_lt x
  have h2 : 2 ^ x.length ≤ 2 ^ 64 := Nat.pow_le_pow_right (by decide) (by rw [hx]; exact behind_le)
  omega
theorem enc_val {x : List Bool} {k : Nat} (hx : x.length = behind k) : enc k (val x) = ones k ++ x := by
  rw [enc, ← hx, nb_val]
theorem pU_inv {q : List Bool} (h : (pU q).err = 0) : q = encU (pU q).val ++ (pU q).rest ∧ (pU q).used = (encU (pU q).val).length ∧ (pU q).val < 18446744073709551616 := by
  unfold pU at h ⊢
  rcases hp : parse q with _ | ⟨k, x, t⟩
  · simp only [hp] at h
    cases h
  · simp only [hp] at h ⊢
    by_cases ho : okU k x = true
    · rw [if_pos ho]
      obtain ⟨hk, hq, hx⟩ := parse_some hp
      have hg : gU (val x) = k := of_decide_eq_true ho
      have e : encU (val x) = ones k ++ x := by rw [encU, hg, enc_val hx]
      refine ⟨?_, ?_, val_lt64 hx⟩
      · show q = encU (val x) ++ t
        rw [e, List.append_assoc]; exact hq
      · show front k + behind k = (encU (val x)).length
        rw [encU_length, hg]
    · rw [if_neg ho] at h
      cases h
theorem pS_inv {q : List Bool} (h : (pS q).err = 0) : q = encS (pS q).val ++ (pS q).rest ∧ (pS q).used = (encS (pS q).val).length ∧ -9223372036854775808 ≤ (pS q).val ∧ (pS q).val ≤ 9223372036854775807 := by
  unfold pS at h ⊢
  rcases hp : parse q with _ | ⟨k, x, t⟩
  · simp only [hp] at h
    cases h
  · simp only [hp] at h ⊢
    by_cases ho : okS k x = true
    · rw [if_pos ho]
      obtain ⟨hk, hq, hx⟩ := parse_some hp
      have hg : gS (sgd (val x) (behind k)) = k := of_decide_eq_true ho
      have e : encS (sgd (val x) (behind k)) = ones k ++ x := by rw [encS_sgd hk hx hg, enc_val hx]
      have hv : val x < 2 ^ behind k := by have := val_lt x; rwa [hx] at this
      refine ⟨?_, ?_, sgd_range _ _ hk hv⟩
      · show q = encS (sgd (val x) (behind k)) ++ t
        rw [e, List.append_assoc]; exact hq
      · show front k + behind k = (encS (sgd (val x) (behind k))).length
        rw [encS_length, hg]
    · rw [if_neg ho] at h
      cases h
theorem codeT_zero {v : Nat} (h : codeT v = 0) : v = 0 := by
  unfold codeT pw at h
  split at h
  · assumption
  · split at h
    · rename_i h2
      simp at h2
      omega
    · cases h
theorem codeT_mid {v : Nat} (h0 : codeT v ≠ 0) (h5 : codeT v ≠ 255) : v = (codeT v + 779) * 4503599627370496 := by
  unfold codeT pw at *
  split at h0
  · exact absurd rfl h0
  · rename_i hv
    rw [if_neg hv] at h5 ⊢
    split at h5
    · rename_i h2
      rw [if_pos h2]
      simp at h2
      omega
    · exact absurd rfl h5
theorem codeT_of {c : Nat} (h1 : 1 ≤ c) (h2 : c ≤ 254) : codeT ((c + 779) * 4503599627370496) = c := by
  have hp : pw ((c + 779) * 4503599627370496) = true := by
    unfold pw
    rw [decide_eq_true_eq]
    omega
  unfold codeT
  rw [if_neg (by omega), if_pos hp]
  omega
theorem parseT_enc (v : Nat) (t : List Bool) (hk : thrOk v = true) (hv : v < 18446744073709551616) : parseT (encT v ++ t) = (0, v, (encT v).length) := by
  have hc := codeT_lt v
  have hl : (nb (codeT v) 8).length = 8 := nb_length _ _
  have hval : val (nb (codeT v) 8) = codeT v := by rw [val_nb]; exact Nat.mod_eq_of_lt (by omega)
  by_cases h5 : codeT v = 255
  · have e : encT v = nb (codeT v) 8 ++ nb v 64 := by rw [encT, if_pos h5]
    have hl2 : (nb v 64).length = 64 := nb_length _ _
    have t8 : (encT v ++ t).take 8 = nb (codeT v) 8 := by rw [e, List.append_assoc, List.take_left' hl]
    have d8 : (encT v ++ t).drop 8 = nb v 64 ++ t := by rw [e, List.append_assoc, List.drop_left' hl]
    have hlen : (encT v ++ t).length = 72 + t.length := by rw [List.length_append, e, List.length_append, hl, hl2]
    have hv2 : val (nb v 64) = v := by rw [val_nb]; exact Nat.mod_eq_of_lt hv
    unfold parseT
    rw [hlen, if_neg (by omega), t8, hval, if_pos h5, if_neg (by omega), d8, List.take_left' hl2, hv2, if_neg (by rw [hk]; decide), if_neg (by rw [h5]; decide), e, List.length_append, hl, hl2]
  · have e : encT v = nb (codeT v) 8 := by rw [encT, if_neg h5, List.append_nil]
    have t8 : (encT v ++ t).take 8 = nb (codeT v) 8 := by rw [e, List.take_left' hl]
    have hlen : (encT v ++ t).length = 8 + t.length := by rw [List.length_append, e, hl]
    unfold parseT
    rw [hlen, if_neg (by omega), t8, hval, if_neg h5, e, hl]
    by_cases h0 : codeT v = 0
    · rw [if_pos h0, codeT_zero h0]
    · rw [if_neg h0, ← codeT_mid h0 h5]
theorem parseT_inv {q : List Bool} (h : (parseT q).1 = 0) : q = encT (parseT q).2.1 ++ q.drop (parseT q).2.2 ∧ (parseT q).2.2 = (encT (parseT q).2.1).length ∧ thrOk (parseT q).2.1 = true := by
  unfold parseT at h ⊢
  by_cases h8 : q.length < 8
  · rw [if_pos h8] at h; cases h
  rw [if_neg h8] at h ⊢
  have hl8 : (q.take 8).length = 8 := by rw [List.length_take]; omega
  have e8 : nb (val (q.take 8)) 8 = q.take 8 := by have := nb_val (q.take 8); rwa [hl8] at this
  have hlt := val_lt8 q
  by_cases h5 : val (q.take 8) = 255
  · rw [if_pos h5] at h ⊢
    by_cases h72 : q.length < 72
    · rw [if_pos h72] at h; cases h
    rw [if_neg h72] at h ⊢
    have hl64 : ((q.drop 8).take 64).length = 64 := by rw [List.length_take, List.length_drop]; omega
    by_cases hk : thrOk (val ((q.drop 8).take 64)) = false
    · rw [if_pos hk] at h; cases h
    rw [if_neg hk] at h ⊢
    by_cases hc : codeT (val ((q.drop 8).take 64)) ≠ 255
    · rw [if_pos hc] at h; cases h
    rw [if_neg hc] at h ⊢
    have hc := Decidable.not_not.1 hc
    have e64 : nb (val ((q.drop 8).take 64)) 64 = (q.drop 8).take 64 := by have := nb_val ((q.drop 8).take 64); rwa [hl64] at this
    have e : encT (val ((q.drop 8).take 64)) = q.take 8 ++ (q.drop 8).take 64 := by rw [encT, if_pos hc, hc, e64, ← h5, e8]
    refine ⟨?_, ?_, by simpa using hk⟩
    · simp only
      rw [e, List.append_assoc]
      have e1 : q.drop 72 = (q.drop 8).drop 64 := by rw [List.drop_drop]
      rw [e1, List.take_append_drop, List.take_append_drop]
    · simp only
      rw [e, List.length_append, hl8, hl64]
  · rw [if_neg h5] at h ⊢
    by_cases h0 : val (q.take 8) = 0
    · rw [if_pos h0]
      have e : encT 0 = q.take 8 := by rw [← e8, h0]; rfl
      refine ⟨?_, ?_, rfl⟩
      · simp only
        rw [e, List.take_append_drop]
      · simp only
        rw [e, hl8]
    · rw [if_neg h0]
      have hc := codeT_of (c := val (q.take 8)) (by omega) (by omega)
      have e : encT ((val (q.take 8) + 779) * 4503599627370496) = q.take 8 := by rw [encT, hc, if_neg h5, e8, List.append_nil]
      refine ⟨?_, ?_, ?_⟩
      · simp only
        rw [e, List.take_append_drop]
      · simp only
        rw [e, hl8]
      · simp only [thrOk, decide_eq_true_eq]
        omega
theorem pOne_enc (s : Sp) (t : List Bool) (h1 : -9223372036854775808 ≤ s.1) (h2 : s.1 ≤ 9223372036854775807) (h3 : 0 ≤ s.2) (h4 : s.2 ≤ 4096) : pOne (encSp1 s ++ t) = ⟨0, s, (encSp1 s).length, t⟩ := by
  have e : pU (encSp1 s ++ t) = ⟨0, s.2.toNat, (encU s.2.toNat).length, encS s.1 ++ t⟩ := by
    rw [encSp1, List.append_assoc]
    exact pU_enc _ _ (by omega)
  have e2 := pS_enc s.1 t h1 h2
  unfold pOne
  rw [e]
  simp only
  rw [e2]
  simp only
  rw [if_neg (by simp), if_neg (by omega), if_neg (by simp), encSp1, List.length_append, Int.toNat_of_nonneg h3]
theorem pOne_inv {q : List Bool} (h : (pOne q).err = 0) : q = encSp1 (pOne q).val ++ (pOne q).rest ∧ (pOne q).used = (encSp1 (pOne q).val).length := by
  unfold pOne at h ⊢
  by_cases h1 : (pU q).err ≠ 0
  · rw [if_pos h1] at h; exact absurd h h1
  rw [if_neg h1] at h ⊢
  by_cases h2 : 4096 < (pU q).val
  · rw [if_pos h2] at h; cases h
  rw [if_neg h2] at h ⊢
  by_cases h3 : (pS (pU q).rest).err ≠ 0
  · rw [if_pos h3] at h; exact absurd h h3
  rw [if_neg h3]
  obtain ⟨a1, a2, a3⟩ := pU_inv (Decidable.not_not.1 h1)
  obtain ⟨b1, b2, b3⟩ := pS_inv (Decidable.not_not.1 h3)
  simp only [encSp1, List.length_append, Int.toNat_natCast]
  refine ⟨?_, by omega⟩
  rw [List.append_assoc, ← b1]
  exact a1
theorem pSpans_enc : ∀ (l : List Sp) (t : List Bool), (∀ s ∈ l, -2097153 ≤ s.1 ∧ s.1 ≤ 2097152 ∧ 0 ≤ s.2 ∧ s.2 ≤ 4096) → pSpans l.length (encSps l ++ t) = ⟨0, l, (encSps l).length, t⟩
  | [], t, _ => rfl
  | s :: l, t, h => by
    obtain ⟨h1, h2, h3, h4⟩ := h s (List.mem_cons_self ..)
    have e : encSps (s :: l) ++ t = encSp1 s ++ (encSps l ++ t) := by
      show (encSp1 s ++ encSps l) ++ t = _
      rw [List.append_assoc]
    have e1 := pOne_enc s (encSps l ++ t) (by omega) (by omega) h3 h4
    have ih := pSpans_enc l t fun x hx => h x (List.mem_cons_of_mem _ hx)
    rw [List.length_cons, e, pSpans_ok _ _ (by rw [e1]), e1]
    simp only
    rw [ih]
    simp only
    rw [show encSps (s :: l) = encSp1 s ++ encSps l from rfl, List.length_append]
theorem pSpans_inv : ∀ (n : Nat) (q : List Bool), (pSpans n q).err = 0 → q = encSps (pSpans n q).val ++ (pSpans n q).rest ∧ (pSpans n q).used = (encSps (pSpans n q).val).length ∧ (pSpans n q).val.length = n
  | 0, q, _ => ⟨rfl, rfl, rfl⟩
  | n + 1, q, h => by
    by_cases h1 : (pOne q).err ≠ 0
    · rw [pSpans_err _ _ h1] at h
      exact absurd h h1
    · have h1 := Decidable.not_not.1 h1
      rw [pSpans_ok _ _ h1] at h ⊢
      obtain ⟨a1, a2, a3⟩ := pSpans_inv n _ h
      obtain ⟨b1, b2⟩ := pOne_inv h1
      refine ⟨?_, ?_, ?_⟩
      · show q = (encSp1 (pOne q).val ++ encSps (pSpans n (pOne q).rest).val) ++ _
        rw [List.append_assoc, ← a1]
        exact b1
      · show (pOne q).used + (pSpans n (pOne q).rest).used = (encSp1 (pOne q).val ++ encSps (pSpans n (pOne q).rest).val).length
        rw [List.length_append, a2, b2]
      · show (pSpans n (pOne q).rest).val.length + 1 = n + 1
        rw [a3]
theorem pGet_enc (l : List Sp) (t : List Bool) (h : sidesE l = 0) : pGet (encSp l ++ t) = ⟨0, l, (encSp l).length, t⟩ := by
  obtain ⟨h1, h2⟩ := sides_in h
  have e : pU (encSp l ++ t) = ⟨0, l.length, (encU l.length).length, encSps l ++ t⟩ := by
    rw [encSp, List.append_assoc]
    exact pU_enc _ _ (by omega)
  have e2 := pSpans_enc l t h2
  unfold pGet
  rw [e]
  simp only
  rw [e2]
  simp only
  rw [if_neg (by simp), if_neg (by omega), if_neg (by simp), if_neg (by simpa using h), encSp, List.length_append]
theorem pGet_inv {q : List Bool} (h : (pGet q).err = 0) : q = encSp (pGet q).val ++ (pGet q).rest ∧ (pGet q).used = (encSp (pGet q).val).length ∧ sidesE (pGet q).val = 0 := by
  unfold pGet at h ⊢
  by_cases h1 : (pU q).err ≠ 0
  · rw [if_pos h1] at h; exact absurd h h1
  rw [if_neg h1] at h ⊢
  by_cases h2 : 1024 < (pU q).val
  · rw [if_pos h2] at h; cases h
  rw [if_neg h2] at h ⊢
  by_cases h3 : (pSpans (pU q).val (pU q).rest).err ≠ 0
  · rw [if_pos h3] at h; exact absurd h h3
  rw [if_neg h3] at h ⊢
  by_cases h4 : sidesE (pSpans (pU q).val (pU q).rest).val ≠ 0
  · rw [if_pos h4] at h; exact absurd h h4
  rw [if_neg h4]
  obtain ⟨a1, a2, a3⟩ := pU_inv (Decidable.not_not.1 h1)
  obtain ⟨b1, b2, b3⟩ := pSpans_inv _ _ (Decidable.not_not.1 h3)
  simp only [encSp, List.length_append, b3]
  refine ⟨?_, by omega, Decidable.not_not.1 h4⟩
  rw [List.append_assoc, ← b1]
  exact a1
theorem pHead_enc (h : Hd) (t : List Bool) (he : (headErr h).1 = 0) (hz : h.zero < 18446744073709551616) : pHead (encH h ++ t) = ⟨0, pNeg, 0, h, (encH h).length, t⟩ := by
  obtain ⟨hv, hi0, hi3, hs0, hs8, hz1, hp, hn⟩ := err_zero he
  obtain ⟨vr, hint, schema, zt, pos, neg⟩ := h
  simp only at *
  obtain ⟨V, rfl⟩ := Int.eq_ofNat_of_zero_le (show 0 ≤ vr by omega)
  obtain ⟨I, rfl⟩ := Int.eq_ofNat_of_zero_le hi0
  have eH : encH ⟨(V : Int), (I : Int), schema, zt, pos, neg⟩ ++ t = nb ((2 * I + V) * 32) 8 ++ (encS schema ++ (encT zt ++ (encSp pos ++ (encSp neg ++ t)))) := by
    simp [encH, List.append_assoc]
  have eL : (encH ⟨(V : Int), (I : Int), schema, zt, pos, neg⟩).length = 8 + (encS schema).length + (encT zt).length + (encSp pos).length + (encSp neg).length := by
    simp [encH, nb_length]
    omega
  have hl : (nb ((2 * I + V) * 32) 8).length = 8 := nb_length _ _
  have hval : val (nb ((2 * I + V) * 32) 8) = (2 * I + V) * 32 := by rw [val_nb]; exact Nat.mod_eq_of_lt (by omega)
  have eS := pS_enc schema (encT zt ++ (encSp pos ++ (encSp neg ++ t))) (by omega) (by omega)
  have eT := parseT_enc zt (encSp pos ++ (encSp neg ++ t)) hz1 hz
  have eP := pGet_enc pos (encSp neg ++ t) hp
  have eN := pGet_enc neg t hn
  have hsh : shapeE schema = 0 := if_neg (by omega)
  have eB : pBegin (encH ⟨(V : Int), (I : Int), schema, zt, pos, neg⟩ ++ t) = ⟨0, pZero, 0, ⟨(V : Int), (I : Int), schema, zt, [], []⟩, 8 + (encS schema).length + (encT zt).length, encSp pos ++ (encSp neg ++ t)⟩ := by
    rw [eH]
    unfold pBegin
    rw [if_neg (by rw [List.length_append, hl]; omega), List.take_left' hl, List.drop_left' hl, hval, if_neg (by omega), eS]
    simp only
    rw [if_neg (by simp), if_neg (by simpa using hsh), eT]
    simp only
    rw [if_neg (by simp), List.drop_left' rfl, show (2 * I + V) * 32 / 32 % 2 = V from by omega, show (2 * I + V) * 32 / 64 = I from by omega]
  unfold pHead
  rw [eB]
  simp only
  rw [if_neg (by simp), eP]
  simp only
  rw [if_neg (by simp), eN]
  simp only
  rw [if_neg (by simp), eL]
theorem pHead_inv {q : List Bool} (h : (pHead q).err = 0) : q = encH (pHead q).val ++ (pHead q).rest ∧ (pHead q).used = (encH (pHead q).val).length ∧ (headErr (pHead q).val).1 = 0 ∧ (pHead q).val.zero < 18446744073709551616 := by
  unfold pHead at h ⊢
  by_cases h1 : (pBegin q).err ≠ 0
  · rw [if_pos h1] at h; exact absurd h h1
  rw [if_neg h1] at h ⊢
  by_cases h2 : (pGet (pBegin q).rest).err ≠ 0
  · rw [if_pos h2] at h; exact absurd h h2
  rw [if_neg h2] at h ⊢
  by_cases h3 : (pGet (pGet (pBegin q).rest).rest).err ≠ 0
  · rw [if_pos h3] at h; exact absurd h h3
  rw [if_neg h3]
  have h1 := Decidable.not_not.1 h1
  obtain ⟨p1, p2, p3⟩ := pGet_inv (Decidable.not_not.1 h2)
  obtain ⟨n1, n2, n3⟩ := pGet_inv (Decidable.not_not.1 h3)
  obtain ⟨P, hP⟩ : ∃ P, P = pGet (pBegin q).rest := ⟨_, rfl⟩
  rw [← hP] at p1 p2 p3 n1 n2 n3 ⊢
  obtain ⟨N, hN⟩ : ∃ N, N = pGet P.rest := ⟨_, rfl⟩
  rw [← hN] at n1 n2 n3 ⊢
  clear hP hN h h2 h3
  unfold pBegin at h1 p1 ⊢
  by_cases b1 : q.length < 8
  · rw [if_pos b1] at h1; cases h1
  rw [if_neg b1] at h1 p1 ⊢
  by_cases b2 : val (q.take 8) % 32 ≠ 0
  · rw [if_pos b2] at h1; cases h1
  rw [if_neg b2] at h1 p1 ⊢
  by_cases b3 : (pS (q.drop 8)).err ≠ 0
  · rw [if_pos b3] at h1; exact absurd h1 b3
  rw [if_neg b3] at h1 p1 ⊢
  by_cases b4 : shapeE (pS (q.drop 8)).val ≠ 0
  · rw [if_pos b4] at h1; exact absurd h1 b4
  rw [if_neg b4] at h1 p1 ⊢
  by_cases b5 : (parseT (pS (q.drop 8)).rest).1 ≠ 0
  · rw [if_pos b5] at h1; exact absurd h1 b5
  rw [if_neg b5] at p1 ⊢
  have b2 := Decidable.not_not.1 b2
  obtain ⟨s1, s2, s3⟩ := pS_inv (Decidable.not_not.1 b3)
  obtain ⟨t1, t2, t3⟩ := parseT_inv (Decidable.not_not.1 b5)
  have tin := parseT_in (pS (q.drop 8)).rest
  obtain ⟨Z, hZ⟩ : ∃ Z, Z = parseT (pS (q.drop 8)).rest := ⟨_, rfl⟩
  rw [← hZ] at t1 t2 t3 tin p1 ⊢
  have hl8 : (q.take 8).length = 8 := by rw [List.length_take]; omega
  have e8 : nb (val (q.take 8)) 8 = q.take 8 := by have := nb_val (q.take 8); rwa [hl8] at this
  have hlt := val_lt8 q
  obtain ⟨f, hf⟩ : ∃ f, f = val (q.take 8) := ⟨_, rfl⟩
  rw [← hf] at b2 e8 hlt ⊢
  have b4 := Decidable.not_not.1 b4
  simp only at p1 ⊢
  have hff : (2 * ((f / 64 : Nat) : Int).toNat + ((f / 32 % 2 : Nat) : Int).toNat) * 32 = f := by
    rw [Int.toNat_natCast, Int.toNat_natCast]
    omega
  refine ⟨?_, ?_, ?_, tin⟩
  · simp only [encH]
    rw [hff, e8, List.append_assoc, List.append_assoc, List.append_assoc, List.append_assoc, ← n1, ← p1, ← t1, ← s1, List.take_append_drop]
  · simp only [encH]
    rw [hff, e8]
    simp only [List.length_append, hl8]
    omega
  · have h1 : (¬ (((f / 32 % 2 : Nat) : Int) ≠ 0 ∧ ((f / 32 % 2 : Nat) : Int) ≠ 1)) := by omega
    have h2 : (¬ (((f / 64 : Nat) : Int) < 0 ∨ 3 < ((f / 64 : Nat) : Int))) := by omega
    unfold headErr
    simp only
    rw [if_neg h1, if_neg h2, if_neg (by simpa using b4), if_neg (by rw [t3]; decide), if_neg (by simpa using p3)]
    exact n3
end Go.Proofs.YtjfekjbmgckkcaaGreatDoor.HeadK

/- head's walks: are two lists of spans one. -/
namespace Go.Proofs.YtjfekjbmgckkcaaGreatDoor.HeadC
open Go.RowKit Go.Proofs.YtjfekjbmgckkcaaGreatDoorW.PrintWords
open Go.Proofs.YtjfekjbmgckkcaaGreatDoor.Base Go.Proofs.YtjfekjbmgckkcaaGreatDoor.SpanPure Go.Proofs.YtjfekjbmgckkcaaGreatDoor.SpanBase Go.Proofs.YtjfekjbmgckkcaaGreatDoor.HeadB

set_option maxHeartbeats 1600000 in
theorem equal_calls (A B : Option Addr) (c d : Nat) (a b : List Sp) (w : World) (ha : RdSp w A a) (hb : RdSp w B b) (hma : a.length ≤ 1000000000) (hmb : b.length ≤ 1000000000) :
    Calls Tryz.prog 89 #[.slice A a.length c, .slice B b.length d] w fun e w' => e = .returned (.bool (decide (a = b))) ∧ Drawn0 w w' := by
  have HA := Lib.hid ha
  have HB := Lib.hid hb
  clear ha hb
  by_cases hl : a.length = b.length
  · have hlb : ((a.length : Int) != (b.length : Int)) = false := by simp [hl]
    have hlc : ((a.length : Int) == (b.length : Int)) = true := by simp [hl]
    have HL := Lib.hid hl
    clear hl
    go_enter Tryz.func89, Tryz.ntmps89
    go_wp2
    repeat (go_quiet (fail); try go_wp2)
    go_loopw [13] (fun i wr => ∃ k : Nat, k ≤ a.length ∧ i = .int .i64 k ∧ Hid (a.take k = b.take k) ∧ Drawn0 w wr) (fun i _ => a.length - (intOf i).toNat)
    case atStart => exact ⟨0, by omega, rfl, rfl, by repeat (first | exact Drawn0.refl _ | apply Drawn0.step)⟩
    case round =>
      obtain ⟨k, hk, rfl, ht, ⟨m, rfl⟩⟩ := hrel
      by_cases hlt : k < a.length
      · have hlt2 : k < b.length := by have := HL.out; omega
        obtain ⟨ad, rfl, hc, hc'⟩ := HA.out.at_ k hlt
        obtain ⟨bd, rfl, hd, hd'⟩ := HB.out.at_ k hlt2
        by_cases he : a[k] = b[k]
        · have HT : Hid (a.take (k + 1) = b.take (k + 1)) := Lib.hid (by rw [List.take_succ_eq_append_getElem hlt, List.take_succ_eq_append_getElem hlt2, ht.out, he])
          rw [← he] at hd hd'
          obtain ⟨⟨o, q⟩, hs⟩ : ∃ s, s = a[k] := ⟨_, rfl⟩
          rw [← hs] at hc hc' hd hd'
          simp only at hc hc' hd hd'
          clear ht he hs
          go_wp2_with (fail)
          go_quiet (fail)
          go_wp2
          go_roundw
          case rel => exact ⟨k + 1, by omega, by go_num, HT, by repeat (first | exact Drawn0.refl _ | apply Drawn0.step)⟩
          case measure => simp [intOf]; omega
        · have HF : Hid (decide (a = b) = false) := Lib.hid (by
            rw [decide_eq_false]
            rintro rfl
            exact he rfl)
          obtain ⟨⟨o, q⟩, hs⟩ : ∃ s, s = a[k] := ⟨_, rfl⟩
          obtain ⟨⟨o2, q2⟩, hs2⟩ : ∃ s, s = b[k] := ⟨_, rfl⟩
          rw [← hs] at hc hc' he
          rw [← hs2] at hd hd' he
          simp only at hc hc' hd hd'
          by_cases h1 : o = o2
          · have h2 : ¬ q = q2 := fun h => he (by rw [h1, h])
            subst h1
            have e1 : (q == q2) = false := by simpa using h2
            have e2 : (q != q2) = true := by simpa using h2
            clear ht he hs hs2 h2
            go_wp2_with (fail)
            go_quiet (fail)
            go_wp2
            go_ret
            exact ⟨by rw [HF.out]; rfl, by repeat (first | exact Drawn0.refl _ | apply Drawn0.step)⟩
          · have e1 : (o == o2) = false := by simpa using h1
            have e2 : (o != o2) = true := by simpa using h1
            clear ht he hs hs2 h1
            go_wp2_with (fail)
            go_quiet (fail)
            go_wp2
            go_ret
            exact ⟨by rw [HF.out]; rfl, by repeat (first | exact Drawn0.refl _ | apply Drawn0.step)⟩
      · obtain rfl : k = a.length := by omega
        have HT : Hid (decide (a = b) = true) := Lib.hid (decide_eq_true (by have h := ht.out; rw [List.take_length, HL.out, List.take_length] at h; exact h))
        clear ht
        go_wp2
        repeat (go_quiet (fail); try go_wp2)
        go_ret
        exact ⟨by rw [HT.out]; rfl, by repeat (first | exact Drawn0.refl _ | apply Drawn0.step)⟩
  · have hlb : ((a.length : Int) != (b.length : Int)) = true := by simp; omega
    have hlc : ((a.length : Int) == (b.length : Int)) = false := by simp; omega
    have HT := Lib.hid (show decide (a = b) = false from decide_eq_false fun h => hl (by rw [h]))
    clear hl
    go_enter Tryz.func89, Tryz.ntmps89
    go_wp2
    repeat (go_quiet (fail); try go_wp2)
    go_ret
    exact ⟨by rw [HT.out]; rfl, by repeat (first | exact Drawn0.refl _ | apply Drawn0.step)⟩
/-! ### Equal -/
def eqH (x y : Hd) : Bool := decide (x = y)
set_option maxRecDepth 100000 in
set_option maxHeartbeats 3200000 in
theorem Equal_calls (x y : Hd) (p r : Lc) (w : World) (hx : HdIn w x p) (hy : HdIn w y r) :
    Calls Tryz.prog 29 #[.agg (hcs x p).toArray, .agg (hcs y r).toArray] w fun e w' => e = .returned (.bool (eqH x y)) ∧ Below w.heap.size w w' := by
  obtain ⟨v1, i1, s1, z1, l1, m1⟩ := x
  obtain ⟨v2, i2, s2, z2, l2, m2⟩ := y
  obtain ⟨A, c, B, d⟩ := p
  obtain ⟨A', c', B', d'⟩ := r
  obtain ⟨hl1, hm1, -⟩ := hx
  obtain ⟨hl2, hm2, -⟩ := hy
  simp only at hl1 hm1 hl2 hm2
  show Calls Tryz.prog 29 #[.agg #[.int .i64 v1, .int .i64 i1, .int .i64 s1, .int .u64 z1, .slice A l1.length c, .slice B m1.length d], .agg #[.int .i64 v2, .int .i64 i2, .int .i64 s2, .int .u64 z2, .slice A' l2.length c', .slice B' m2.length d']] w _
  have HL := Lib.hid (fun W (h : Below w.heap.size w W) => equal_calls A A' c c' l1 l2 W (hl1.below h).rd (hl2.below h).rd (by have := hl1.len; omega) (by have := hl2.len; omega))
  have HM := Lib.hid (fun W (h : Below w.heap.size w W) => equal_calls B B' d d' m1 m2 W (hm1.below h).rd (hm2.below h).rd (by have := hm1.len; omega) (by have := hm2.len; omega))
  have HB := Lib.hid (below_alloc (below_alloc (Below.refl w.heap.size w) (.cells #[.int .i64 v1, .int .i64 i1, .int .i64 s1, .int .u64 z1, .slice A l1.length c, .slice B m1.length d] 25)) (.cells #[.int .i64 v2, .int .i64 i2, .int .i64 s2, .int .u64 z2, .slice A' l2.length c', .slice B' m2.length d'] 25))
  clear hl1 hm1 hl2 hm2
  by_cases hv1 : ¬ v1 = v2
  · have HF : Hid (eqH ⟨v1, i1, s1, z1, l1, m1⟩ ⟨v2, i2, s2, z2, l2, m2⟩ = false) := Lib.hid (decide_eq_false fun h => hv1 (by injection h))
    have ev1 : (v1 == v2) = false := by simp; omega
    clear hv1
    go_enter Tryz.func29, Tryz.ntmps29
    go_wp2
    go_ret
    exact ⟨by rw [HF.out]; rfl, HB.out⟩
  have hv1 := Decidable.not_not.1 hv1
  subst hv1
  by_cases hi1 : ¬ i1 = i2
  · have HF : Hid (eqH ⟨v1, i1, s1, z1, l1, m1⟩ ⟨v1, i2, s2, z2, l2, m2⟩ = false) := Lib.hid (decide_eq_false fun h => hi1 (by injection h))
    have ei1 : (i1 == i2) = false := by simp; omega
    clear hi1
    go_enter Tryz.func29, Tryz.ntmps29
    go_wp2
    go_ret
    exact ⟨by rw [HF.out]; rfl, HB.out⟩
  have hi1 := Decidable.not_not.1 hi1
  subst hi1
  by_cases hs1 : ¬ s1 = s2
  · have HF : Hid (eqH ⟨v1, i1, s1, z1, l1, m1⟩ ⟨v1, i1, s2, z2, l2, m2⟩ = false) := Lib.hid (decide_eq_false fun h => hs1 (by injection h))
    have es1 : (s1 == s2) = false := by simp; omega
    clear hs1
    go_enter Tryz.func29, Tryz.ntmps29
    go_wp2
    go_ret
    exact ⟨by rw [HF.out]; rfl, HB.out⟩
  have hs1 := Decidable.not_not.1 hs1
  subst hs1
  by_cases hz1 : ¬ z1 = z2
  · have HF : Hid (eqH ⟨v1, i1, s1, z1, l1, m1⟩ ⟨v1, i1, s1, z2, l2, m2⟩ = false) := Lib.hid (decide_eq_false fun h => hz1 (by injection h))
    have ez1 : (((z1 : Int)) == ((z2 : Int))) = false := by simp; omega
    clear hz1
    go_enter Tryz.func29, Tryz.ntmps29
    go_wp2
    go_ret
    exact ⟨by rw [HF.out]; rfl, HB.out⟩
  have hz1 := Decidable.not_not.1 hz1
  subst hz1
  by_cases hl1 : ¬ l1 = l2
  · have HF : Hid (eqH ⟨v1, i1, s1, z1, l1, m1⟩ ⟨v1, i1, s1, z1, l2, m2⟩ = false) := Lib.hid (decide_eq_false fun h => hl1 (by injection h))
    rw [decide_eq_false hl1] at HL
    clear hl1
    go_enter Tryz.func29, Tryz.ntmps29
    go_wp2_with (fail)
    refine (HL.out _ HB.out).mono ?_
    rintro e w' ⟨rfl, ⟨n1, rfl⟩⟩
    go_wp2
    go_ret
    exact ⟨by rw [HF.out]; rfl, below_drewN HB.out _⟩
  have hl1 := Decidable.not_not.1 hl1
  rw [decide_eq_true hl1] at HL
  subst hl1
  by_cases hm1 : ¬ m1 = m2
  · have HF : Hid (eqH ⟨v1, i1, s1, z1, l1, m1⟩ ⟨v1, i1, s1, z1, l1, m2⟩ = false) := Lib.hid (decide_eq_false fun h => hm1 (by injection h))
    rw [decide_eq_false hm1] at HM
    clear hm1
    go_enter Tryz.func29, Tryz.ntmps29
    go_wp2_with (fail)
    refine (HL.out _ HB.out).mono ?_
    rintro e w' ⟨rfl, ⟨n1, rfl⟩⟩
    go_wp2_with (fail)
    refine (HM.out _ (below_drewN HB.out _)).mono ?_
    rintro e w' ⟨rfl, ⟨n2, rfl⟩⟩
    go_wp2
    go_ret
    exact ⟨by rw [HF.out]; rfl, below_drewN HB.out _⟩
  have hm1 := Decidable.not_not.1 hm1
  rw [decide_eq_true hm1] at HM
  subst hm1
  have HF : Hid (eqH ⟨v1, i1, s1, z1, l1, m1⟩ ⟨v1, i1, s1, z1, l1, m1⟩ = true) := Lib.hid (decide_eq_true rfl)
  go_enter Tryz.func29, Tryz.ntmps29
  go_wp2_with (fail)
  refine (HL.out _ HB.out).mono ?_
  rintro e w' ⟨rfl, ⟨n1, rfl⟩⟩
  go_wp2_with (fail)
  refine (HM.out _ (below_drewN HB.out _)).mono ?_
  rintro e w' ⟨rfl, ⟨n2, rfl⟩⟩
  go_wp2
  go_ret
  exact ⟨by rw [HF.out]; rfl, below_drewN HB.out _⟩
end Go.Proofs.YtjfekjbmgckkcaaGreatDoor.HeadC

/- head's walks: Len. -/
namespace Go.Proofs.YtjfekjbmgckkcaaGreatDoor.HeadG
open Go.RowKit Go.Proofs.YtjfekjbmgckkcaaGreatDoorW.PrintWords
open Go.Proofs.YtjfekjbmgckkcaaGreatDoor.Bits Go.Proofs.YtjfekjbmgckkcaaGreatDoor.Base Go.Proofs.YtjfekjbmgckkcaaGreatDoor.VarPure Go.Proofs.YtjfekjbmgckkcaaGreatDoor.VarbitA Go.Proofs.YtjfekjbmgckkcaaGreatDoor.VarbitB Go.Proofs.YtjfekjbmgckkcaaGreatDoor.StreamA Go.Proofs.YtjfekjbmgckkcaaGreatDoor.SpanPure Go.Proofs.YtjfekjbmgckkcaaGreatDoor.SpanBase Go.Proofs.YtjfekjbmgckkcaaGreatDoor.FailAs Go.Proofs.YtjfekjbmgckkcaaGreatDoor.FailB Go.Proofs.YtjfekjbmgckkcaaGreatDoor.FailC Go.Proofs.YtjfekjbmgckkcaaGreatDoor.ThrPure Go.Proofs.YtjfekjbmgckkcaaGreatDoor.HeadA Go.Proofs.YtjfekjbmgckkcaaGreatDoor.HeadB Go.Proofs.YtjfekjbmgckkcaaGreatDoor.HeadPure Go.Proofs.YtjfekjbmgckkcaaGreatDoor.HeadD Go.Proofs.YtjfekjbmgckkcaaGreatDoor.HeadE

/-- a head's length in bits; 0 of a wrong one. -/
def lenH (h : Hd) : Nat := if (headErr h).1 = 0 then (encH h).length else 0
set_option maxRecDepth 100000 in
set_option maxHeartbeats 3200000 in
theorem Len_calls (h : Hd) (p : Lc) (w : World) (hh : HdIn w h p) (hg : GlE w) (hT : Tab w) :
    Calls Tryz.prog 22 #[.agg (hcs h p).toArray] w fun e w' => e = .returned (.int .i64 (lenH h)) ∧ Below w.heap.size w w' := by
  have HL : Hid (lenH h = if (headErr h).1 = 0 then (encH h).length else 0) := Lib.hid rfl
  have hl1 := encSp_le h.pos
  have hl2 := encSp_le h.neg
  have hl3 := encS_le h.schema
  have hl4 := encT_length h.zero
  have hl5 := hh.pos.len
  have hl6 := hh.neg.len
  have hle : (encH h).length ≤ 1000000000 := by
    unfold encH
    rw [List.length_append, List.length_append, List.length_append, List.length_append, nb_length]
    omega
  have HLE := Lib.hid hle
  have HPUT := Lib.hid (fun (g : Nat) (S : Nat → Prop) (W : World) (hb : Below w.heap.size w W) (hw : Wr W g S []) (hn : ∀ k, S k → w.heap.size ≤ k) => Put_calls g S [] h p W (hh.below hb) (gle_below hg hb) (hT.below hb)
    (fun x => Nat.lt_irrefl _ (Nat.lt_of_lt_of_le hT.lt (hn _ x))) hw (by decide)
    (fun ad hA hp x => Nat.lt_irrefl _ (Nat.lt_of_lt_of_le (rd_lt hh.pos.rd ad hA hp) (hn _ x))) (fun ad hA hp x => Nat.lt_irrefl _ (Nat.lt_of_lt_of_le (rd_lt hh.neg.rd ad hA hp) (hn _ x))))
  clear hl1 hl2 hl3 hl4 hl5 hl6 hle hh hg hT
  obtain ⟨vr, hint, schema, zt, pos, neg⟩ := h
  obtain ⟨A, c, B, d⟩ := p
  have hb0 := below_alloc (Below.refl w.heap.size w) (.cells #[.int .i64 vr, .int .i64 hint, .int .i64 schema, .int .u64 zt, .slice A pos.length c, .slice B neg.length d] 25)
  have HB0 := Lib.hid hb0
  have HNW := Lib.hid (newWriter_calls none 0 0 [] (w.alloc (.cells #[.int .i64 vr, .int .i64 hint, .int .i64 schema, .int .u64 zt, .slice A pos.length c, .slice B neg.length d] 25)) (RdI.nil _ _ _) (by decide) (by decide) (fun _ => rfl) (by decide))
  have HK := Lib.hid (blk_last w (.cells #[.int .i64 vr, .int .i64 hint, .int .i64 schema, .int .u64 zt, .slice A pos.length c, .slice B neg.length d] 25))
  show Calls Tryz.prog 22 #[.agg #[.int .i64 vr, .int .i64 hint, .int .i64 schema, .int .u64 zt, .slice A pos.length c, .slice B neg.length d]] w _
  clear hb0
  go_enter Tryz.func22, Tryz.ntmps22
  go_wp2_with (fail)
  refine HNW.out.mono ?_
  rintro e w1 ⟨g, S, rfl, hw1, hn1, hb1⟩
  have hk1 := (hb1.block w.heap.size (by simp)).trans HK.out
  have c0 := obj_cell (i := 0) hk1 rfl
  have c1 := obj_cell (i := 1) hk1 rfl
  have c2 := obj_cell (i := 2) hk1 rfl
  have c3 := obj_cell (i := 3) hk1 rfl
  have c4 := obj_cell (i := 4) hk1 rfl
  have c5 := obj_cell (i := 5) hk1 rfl
  have HB1 := Lib.hid (below_then HB0.out (by simp) hb1)
  have HN1 := Lib.hid (fun k hk => Nat.le_trans HB0.out.size (hn1 k hk))
  have HP := Lib.hid (HPUT.out g S w1 HB1.out hw1 HN1.out)
  clear hk1 hw1 hn1 hb1 HNW HPUT HK
  go_wp2_with (fail)
  refine HP.out.mono ?_
  rintro e w2 (⟨h0, rfl, S2, hw2, hs2, hc2⟩ | ⟨h0, v, rfl, he, hb⟩)
  · have HL2 : Hid (lenH ⟨vr, hint, schema, zt, pos, neg⟩ = (encH ⟨vr, hint, schema, zt, pos, neg⟩).length) := Lib.hid (by rw [HL.out, if_pos h0])
    have HLN := Lib.hid (len_calls g S2 _ w2 hw2)
    have HB2 := Lib.hid (hc2.below_of HB1.out.size HN1.out)
    clear h0 hw2 hs2 hc2 HP c0 c1 c2 c3 c4 c5
    go_wp2_with (fail)
    refine HLN.out.mono ?_
    rintro e w3 ⟨rfl, rfl⟩
    go_wp2
    go_ret
    exact ⟨by rw [HL2.out]; rfl, HB1.out.trans HB2.out⟩
  · obtain ⟨gv, rfl⟩ := err_some (by omega) he
    have HL2 : Hid (lenH ⟨vr, hint, schema, zt, pos, neg⟩ = 0) := Lib.hid (by rw [HL.out, if_neg h0])
    have HB2 := Lib.hid (below_then HB1.out HB1.out.size hb)
    clear h0 he hb HP c0 c1 c2 c3 c4 c5
    go_wp2
    go_ret
    exact ⟨by rw [HL2.out]; rfl, HB2.out⟩
end Go.Proofs.YtjfekjbmgckkcaaGreatDoor.HeadG

/- law 14: what its functions have in common: spans, few, bits, same, tells. -/
namespace Go.Proofs.YtjfekjbmgckkcaaGreatDoor.Law14A
open Go.RowKit Go.Proofs.YtjfekjbmgckkcaaGreatDoorW.PrintWords
open Go.Proofs.YtjfekjbmgckkcaaGreatDoor.Bits Go.Proofs.YtjfekjbmgckkcaaGreatDoor.Base Go.Proofs.YtjfekjbmgckkcaaGreatDoor.VarPure Go.Proofs.YtjfekjbmgckkcaaGreatDoor.VarKit Go.Proofs.YtjfekjbmgckkcaaGreatDoor.StreamA Go.Proofs.YtjfekjbmgckkcaaGreatDoor.StreamR Go.Proofs.YtjfekjbmgckkcaaGreatDoor.SpanPure Go.Proofs.YtjfekjbmgckkcaaGreatDoor.SpanBase Go.Proofs.YtjfekjbmgckkcaaGreatDoor.FailAs Go.Proofs.YtjfekjbmgckkcaaGreatDoor.FailB Go.Proofs.YtjfekjbmgckkcaaGreatDoor.FailC Go.Proofs.YtjfekjbmgckkcaaGreatDoor.HeadA Go.Proofs.YtjfekjbmgckkcaaGreatDoor.HeadB Go.Proofs.YtjfekjbmgckkcaaGreatDoor.HeadE Go.Proofs.YtjfekjbmgckkcaaGreatDoor.Ref01

theorem infoRs : (Tryz.prog.info? 214).map (fun i => (i.zero, i.size, i.bytes)) = some (some (.agg #[.int .i64 0, .int .i64 0]), 2, 16) := by kernel_rfl
set_option maxRecDepth 100000 in
set_option maxHeartbeats 800000 in
theorem spans_calls (A : Option Addr) (c : Nat) (l : List Sp) (w : World) (hr : RdSp w A l) (hm : l.length ≤ 1000000) :
    Calls Tryz.prog 78 #[.slice A l.length c] w fun e w' => ∃ v, e = .returned v ∧ OwSp 214 w' w.heap.size v l ∧ Below w.heap.size w w' := by
  have HR := Lib.hid hr
  clear hr
  go_enter Tryz.func78, Tryz.ntmps78
  go_wp2
  go_loopw [3, 8] (fun v i wr => ∃ (k : Nat), k ≤ l.length ∧ i = .int .i64 k ∧ OwSp 214 wr w.heap.size v (l.take k) ∧ Below w.heap.size w wr) (fun _ i _ => l.length - (intOf i).toNat)
  case atStart => exact ⟨0, by omega, rfl, OwSp.nil _ _ _, Below.refl _ _⟩
  case round =>
    obtain ⟨k, hk, rfl, ho, hb⟩ := hrel
    have HO := Lib.hid ho
    have HB := Lib.hid hb
    have hsz := hb.size
    by_cases hlt : k < l.length
    · obtain ⟨ad, hA, c0, c1⟩ := (HR.out.below hb).at_ k hlt
      subst hA
      have HT := Lib.hid (show l.take (k + 1) = l.take k ++ [l[k]] from List.take_succ_eq_append_getElem hlt)
      obtain ⟨s, hs⟩ : ∃ s, s = l[k] := ⟨_, rfl⟩
      rw [← hs] at c0 c1 HT
      obtain ⟨o, q⟩ := s
      simp only at c0 c1
      have hlk : (l.take k).length ≤ 1000000 := by rw [List.length_take]; omega
      obtain ⟨L, hL⟩ : ∃ L, L = l.take k := ⟨_, rfl⟩
      rw [← hL] at HO HT hlk
      clear hs ho hb hL
      go_wp2_with (at_builtin; refine append_span_at (w0 := w) w.heap.size rfl (.tmp 12) (.tmp 18) 39 214 16 rfl Tryz.underlying39 infoRs _ L o q rfl (wr.heap.size + 1) (by simp) rfl (by exact HO.out.below (below_alloc (Below.refl _ _) _)) (by exact below_alloc HB.out _) (by simp; omega) (by omega) (by omega) ?_; intro g cap w1 ho1 hb1 _ _; have HO1 := Lib.hid ho1; have HB1 := Lib.hid hb1; clear ho1 hb1)
      go_roundw
      case rel => exact ⟨k + 1, by omega, by go_num, by rw [HT.out]; exact HO1.out, HB1.out⟩
      case measure => simp [intOf]; omega
    · obtain rfl : k = l.length := by omega
      rw [List.take_length] at HO
      obtain ⟨A1, c1, rfl, -, -, -⟩ := HO.out.reads
      clear ho hb
      go_wp2
      go_ret
      exact ⟨_, rfl, HO.out, HB.out⟩

/-- what few counts. -/
def sizeF : Int → List Sp → Int
  | n, [] => n
  | n, s :: t => sizeF (n + (if 0 < s.2 then 1 + min s.2 5000 / 10 else 0) + 1) t
def fewF : Int → List Sp → Bool
  | _, [] => true
  | n, s :: t => decide (n + (if 0 < s.2 then 1 + min s.2 5000 / 10 else 0) + 1 ≤ 400) && fewF (n + (if 0 < s.2 then 1 + min s.2 5000 / 10 else 0) + 1) t
def few (l : List Sp) : Bool := fewF 0 l
theorem fewF_len (l : List Sp) : ∀ n, fewF n l = true → 0 ≤ n → n ≤ 400 → n + (l.length : Int) ≤ 400 := by
  induction l with
  | nil => intro n _ _ h; simpa using h
  | cons s t ih =>
    intro n h h0 h6
    simp only [fewF, Bool.and_eq_true, decide_eq_true_eq] at h
    have h1 : 0 ≤ (if 0 < s.2 then 1 + min s.2 5000 / 10 else 0) := by split <;> omega
    have := ih _ h.2 (by omega) h.1
    simp only [List.length_cons]
    omega
theorem few_len {l : List Sp} (h : few l = true) : l.length ≤ 400 := by
  have := fewF_len l 0 h (by decide) (by decide)
  omega
set_option maxHeartbeats 1600000 in
theorem few_calls (A : Option Addr) (c : Nat) (l : List Sp) (w : World) (hr : RdSp w A l) (hm : l.length ≤ 9223372036854775807) :
    Calls Tryz.prog 14 #[.slice A l.length c] w fun e w' => e = .returned (.bool (few l)) ∧ Below w.heap.size w w' := by
  have HR := Lib.hid hr
  clear hr
  go_enter Tryz.func14, Tryz.ntmps14
  go_wp2
  go_loopw [3, 8] (fun n i wr => ∃ (k : Nat) (m : Int), k ≤ l.length ∧ i = .int .i64 k ∧ n = .int .i64 m ∧ 0 ≤ m ∧ m ≤ 400 ∧ Hid (few l = fewF m (l.drop k)) ∧ Below w.heap.size w wr) (fun _ i _ => l.length - (intOf i).toNat)
  case atStart => exact ⟨0, 0, by omega, rfl, rfl, by omega, by omega, Lib.hid rfl, Below.refl _ _⟩
  case round =>
    obtain ⟨k, m, hk, rfl, rfl, hm0, hm6, ht, hb⟩ := hrel
    have HB := Lib.hid hb
    have hsz := hb.size
    by_cases hlt : k < l.length
    · obtain ⟨ad, hA, c0, c1⟩ := (HR.out.below hb).at_ k hlt
      subst hA
      have HD := Lib.hid (show l.drop k = l[k] :: l.drop (k + 1) from List.drop_eq_getElem_cons hlt)
      obtain ⟨s, hs⟩ : ∃ s, s = l[k] := ⟨_, rfl⟩
      rw [← hs] at c0 c1 HD
      obtain ⟨o, q⟩ := s
      simp only at c0 c1
      clear hs hb
      by_cases hq : 0 < q
      · have d1 : decide (q > 0) = true := by simpa using hq
        have d1' : decide (0 < q) = true := by simpa using hq
        by_cases hq5 : q ≤ 5000
        · have e5 : min q 5000 = q := by omega
          have HS : Hid (few l = (decide (m + (1 + q / 10) + 1 ≤ 400) && fewF (m + (1 + q / 10) + 1) (l.drop (k + 1)))) := Lib.hid (by rw [ht.out, HD.out, fewF, if_pos hq, e5])
          go_wp2
          all_goals first
            | (have HF : few l = false := by rw [HS.out, decide_eq_false (by omega)]; rfl
               go_ret
               exact ⟨by rw [HF]; rfl, HB.out.alloc hsz _⟩)
            | (have HF : few l = fewF (m + (1 + q / 10) + 1) (l.drop (k + 1)) := by rw [HS.out, decide_eq_true (by omega)]; rfl
               go_roundw
               case rel => exact ⟨k + 1, _, by omega, by go_num, rfl, by omega, by omega, Lib.hid HF, HB.out.alloc hsz _⟩
               case measure => simp [intOf]; omega)
        · have hq6 : 5000 < q := by omega
          have e5 : min q 5000 = 5000 := by omega
          have HS : Hid (few l = (decide (m + 501 + 1 ≤ 400) && fewF (m + 501 + 1) (l.drop (k + 1)))) := Lib.hid (by rw [ht.out, HD.out, fewF, if_pos hq, e5]; rfl)
          clear hq5
          go_wp2
          all_goals first
            | (have HF : few l = false := by rw [HS.out, decide_eq_false (by omega)]; rfl
               go_ret
               exact ⟨by rw [HF]; rfl, HB.out.alloc hsz _⟩)
            | (have HF : few l = fewF (m + 501 + 1) (l.drop (k + 1)) := by rw [HS.out, decide_eq_true (by omega)]; rfl
               go_roundw
               case rel => exact ⟨k + 1, _, by omega, by go_num, rfl, by omega, by omega, Lib.hid HF, HB.out.alloc hsz _⟩
               case measure => simp [intOf]; omega)
      · have d1 : decide (q > 0) = false := by simpa using hq
        have d1' : decide (0 < q) = false := by simpa using hq
        have HS : Hid (few l = (decide (m + 1 ≤ 400) && fewF (m + 1) (l.drop (k + 1)))) := Lib.hid (by rw [ht.out, HD.out, fewF, if_neg hq, Int.add_zero])
        clear hq
        go_wp2
        all_goals first
          | (have HF : few l = false := by rw [HS.out, decide_eq_false (by omega)]; rfl
             go_ret
             exact ⟨by rw [HF]; rfl, HB.out.alloc hsz _⟩)
          | (have HF : few l = fewF (m + 1) (l.drop (k + 1)) := by rw [HS.out, decide_eq_true (by omega)]; rfl
             go_roundw
             case rel => exact ⟨k + 1, _, by omega, by go_num, rfl, by omega, by omega, Lib.hid HF, HB.out.alloc hsz _⟩
             case measure => simp [intOf]; omega)
    · obtain rfl : k = l.length := by omega
      have HF : Hid (few l = true) := Lib.hid (by rw [ht.out, List.drop_length]; rfl)
      clear ht hb
      go_wp2
      go_ret
      exact ⟨by rw [HF.out]; rfl, HB.out⟩
theorem text_pack (l : List Bool) : (bts (str (pack l)).data.toList).take l.length = l := by
  rw [show (str (pack l)).data.toList = pack l from by simp [str], bts_pack _ _ rfl, List.take_left' rfl]

set_option maxHeartbeats 800000 in
theorem bits_calls (g : Nat) (S : Nat → Prop) (l : List Bool) (w : World) (h : Wr w g S l) (hm : l.length ≤ 1000000) :
    Calls Tryz.prog 24 #[.pointer (some ⟨g, 0, none⟩)] w fun e w' => e = .returned (.string (txt l)) ∧ Below w.heap.size w w' := by
  have HH := Lib.hid h
  have HBY := Lib.hid (bytes_calls g S l w h (by omega))
  have hpl := pack_length l
  have hss := str_size (pack l)
  have HTX := Lib.hid (text_pack l)
  have HLEN := Lib.hid (fun W (hb : Below w.heap.size w W) => len_calls g S l W (h.below hb))
  have HTE := Lib.hid (fun W => text_calls (str (pack l)) l.length W (by rw [hss, hpl]; omega) (by rw [hss, hpl]; omega))
  obtain ⟨s, hs⟩ : ∃ s, s = str (pack l) := ⟨_, rfl⟩
  rw [← hs] at HTX HTE hss
  have d1 : decide ((l.length : Int) < 0) = false := by simp
  have d2 : decide ((l.length : Int) > 8 * (s.size : Int)) = false := by simp; omega
  have d2' : decide (8 * (s.size : Int) < (l.length : Int)) = false := by simp; omega
  have HS := Lib.hid hs
  have hsz : s.size ≤ 1000000 := by omega
  clear h hs hss hpl
  go_enter Tryz.func24, Tryz.ntmps24
  go_wp2_with (fail)
  refine HBY.out.mono ?_
  rintro e w1 ⟨v, rfl, ho, hb⟩
  obtain ⟨D, d, rfl, hd, hr⟩ := ho.reads
  have hcv := RdB.string (P := Tryz.prog) (src := 51) (dst := 9) (e := 5) (c := d) hr rfl Tryz.underlying51 Tryz.underlying5 Tryz.underlying9
  rw [← HS.out] at hcv
  clear ho hr hd
  go_wp2_with (first | (go_at_call 21; refine (HLEN.out _ hb).mono ?_; rintro e w' ⟨rfl, rfl⟩) | (go_at_call 32; refine (HTE.out _).mono ?_; rintro e w' ⟨rfl, rfl⟩))
  go_ret
  exact ⟨by rw [HTX.out]; rfl, hb⟩

end Go.Proofs.YtjfekjbmgckkcaaGreatDoor.Law14A

/- head's walks: begin. -/
namespace Go.Proofs.YtjfekjbmgckkcaaGreatDoor.HeadL
open Go.RowKit Go.Proofs.YtjfekjbmgckkcaaGreatDoorW.PrintWords
open Go.Proofs.YtjfekjbmgckkcaaGreatDoor.Bits Go.Proofs.YtjfekjbmgckkcaaGreatDoor.Base Go.Proofs.YtjfekjbmgckkcaaGreatDoor.VarPure Go.Proofs.YtjfekjbmgckkcaaGreatDoor.VarbitA Go.Proofs.YtjfekjbmgckkcaaGreatDoor.StreamA Go.Proofs.YtjfekjbmgckkcaaGreatDoor.StreamR Go.Proofs.YtjfekjbmgckkcaaGreatDoor.SpanPure Go.Proofs.YtjfekjbmgckkcaaGreatDoor.SpanBase Go.Proofs.YtjfekjbmgckkcaaGreatDoor.FailAs Go.Proofs.YtjfekjbmgckkcaaGreatDoor.FailB Go.Proofs.YtjfekjbmgckkcaaGreatDoor.FailC Go.Proofs.YtjfekjbmgckkcaaGreatDoor.ThrPure Go.Proofs.YtjfekjbmgckkcaaGreatDoor.ReadP Go.Proofs.YtjfekjbmgckkcaaGreatDoor.HeadA Go.Proofs.YtjfekjbmgckkcaaGreatDoor.HeadB Go.Proofs.YtjfekjbmgckkcaaGreatDoor.HeadF Go.Proofs.YtjfekjbmgckkcaaGreatDoor.HeadH Go.Proofs.YtjfekjbmgckkcaaGreatDoor.HeadJ

/-- a block's six cells are set. -/
abbrev six (w : World) (b : Nat) (v0 v1 v2 v3 v4 v5 : Value) : World := (((((w.setCell ⟨b, 0, none⟩ v0).setCell ⟨b, 1, none⟩ v1).setCell ⟨b, 2, none⟩ v2).setCell ⟨b, 3, none⟩ v3).setCell ⟨b, 4, none⟩ v4).setCell ⟨b, 5, none⟩ v5
theorem ch_six0 {S : Nat → Prop} {w w1 : World} {b : Nat} (h : Ch S w w1) (hb : S b ∨ w.heap.size ≤ b) (v0 v1 v2 v3 v4 v5 : Value) : Ch S w (six w1 b v0 v1 v2 v3 v4 v5) :=
  (((((h.setCell hb v0).setCell hb v1).setCell hb v2).setCell hb v3).setCell hb v4).setCell hb v5
theorem ch_six {S : Nat → Prop} {w w1 : World} {b : Nat} (h : Ch S w w1) (hb : w.heap.size ≤ b) (v0 v1 v2 v3 v4 v5 : Value) : Ch S w (six w1 b v0 v1 v2 v3 v4 v5) := ch_six0 h (.inr hb) v0 v1 v2 v3 v4 v5
theorem six_ch (w1 : World) (b : Nat) (v0 v1 v2 v3 v4 v5 : Value) : Ch (fun k => k = b) w1 (six w1 b v0 v1 v2 v3 v4 v5) := ch_six0 (S := fun k => k = b) (Ch.refl _ w1) (.inl rfl) v0 v1 v2 v3 v4 v5
theorem rr_six {S : Nat → Prop} {w1 : World} {g a b : Nat} {q : List Bool} {sh : Bool} (h : Rr w1 g S a q sh) (hb : ¬ S b) (v0 v1 v2 v3 v4 v5 : Value) : Rr (six w1 b v0 v1 v2 v3 v4 v5) g S a q sh :=
  h.ch (six_ch w1 b v0 v1 v2 v3 v4 v5) fun _ hk he => hb (he ▸ hk)
theorem err_six {w : World} {b : Nat} {cs : Array Value} {t : Nat} {k : Nat × Nat} {l : List Pl} {v z : Value} (h : Err w v l z) (hb : w.heap[b]? = some (.cells cs t k)) (hs : cs.size ≠ 4) (hn : 0 ≠ b) (v0 v1 v2 v3 v4 v5 : Value) : Err (six w b v0 v1 v2 v3 v4 v5) v l z :=
  err_set h hb hs hn (six_ch w b v0 v1 v2 v3 v4 v5)
abbrev zcs : Array Value := #[.int .i64 0, .int .i64 0, .int .i64 0, .int .u64 0, .slice none 0 0, .slice none 0 0]

set_option maxRecDepth 100000 in
set_option maxHeartbeats 6400000 in
theorem begin_calls (g a : Nat) (S : Nat → Prop) (q : List Bool) (w : World) (hT : Tab w) (hE : GlE w) (hG : ¬ S 1) (hGE : ¬ S 0) (h : Rr w g S a q false) :
    Calls Tryz.prog 86 #[.pointer (some ⟨g, 0, none⟩)] w (HP (pBegin q) g a S w) := by
  have hal : Below w.heap.size w (w.alloc (.cells zcs 25)) := below_alloc (Below.refl _ _) _
  have hN : ¬ S w.heap.size := fun x => Nat.lt_irrefl _ (h.old _ x)
  have HEB := Lib.hid (Nat.ne_of_lt (gle_lt hE) : 0 ≠ w.heap.size)
  have HN := Lib.hid hN
  have HT := Lib.hid (hT.below hal)
  have HE := Lib.hid (gle_below hE hal)
  have HG := Lib.hid hG
  have HGE := Lib.hid hGE
  have HOLD := Lib.hid h.old
  have hr0 := h.below hal
  have HC0 := Lib.hid (Ch.of_below (S := S) hal)
  have HB0 := Lib.hid (blk_last w (.cells zcs 25))
  by_cases hs : q.length < 8
  · have HP : Hid (pBegin q = ⟨16, pFlags, 0, hd0, 0, []⟩) := Lib.hid (if_pos hs)
    have HGT := Lib.hid (get_short g a 8 S q false _ hr0 (by omega) (by omega) hs)
    clear hal hN hT hE hG hGE h hr0 hs
    go_enter Tryz.func86, Tryz.ntmps86
    go_wp2_with (fail)
    refine HGT.out.mono ?_
    rintro e w1 ⟨rfl, hr1, hc1⟩
    have HR1 := Lib.hid hr1
    have HC1 := Lib.hid (HC0.out.trans hc1 fun _ _ x => x)
    have HBK := Lib.hid (hc1.blk HB0.out HN.out)
    have HSH := Lib.hid (short_calls g a S [] true w1 hr1)
    have HAT := Lib.hid (HeadA.at_calls 16 pFlags 0 w1 (gle_ch HE.out hc1 HGE.out))
    clear hr1 hc1 HGT
    go_wp2_with (fail)
    refine HSH.out.mono ?_
    rintro e w2 ⟨rfl, rfl⟩
    go_wp2_with (fail)
    refine HAT.out.mono ?_
    rintro e w9 ⟨v9, rfl, he9, hb9⟩
    have hk9 := (Ch.of_below (S := fun _ => False) hb9).blk HBK.out (fun x => x)
    have f0 := obj_free (i := 0) hk9
    have f1 := obj_free (i := 1) hk9
    have f2 := obj_free (i := 2) hk9
    have f3 := obj_free (i := 3) hk9
    have f4 := obj_free (i := 4) hk9
    have f5 := obj_free (i := 5) hk9
    have c0 := obj_cell (i := 0) hk9 rfl
    have c1 := obj_cell (i := 1) hk9 rfl
    have c2 := obj_cell (i := 2) hk9 rfl
    have c3 := obj_cell (i := 3) hk9 rfl
    have c4 := obj_cell (i := 4) hk9 rfl
    have c5 := obj_cell (i := 5) hk9 rfl
    have E9 := Lib.hid he9
    have B9 := Lib.hid hb9
    have K9 := Lib.hid hk9
    clear he9 hb9 hk9
    go_wp2
    refine bodyPost_ret (v := .tuple #[.agg zcs, v9]) (by rw [results_cell_tmp rfl]; go_simp) rfl ?_
    rw [HP.out]
    exact ⟨ch_six (HC1.out.trans (Ch.of_below B9.out) fun _ _ x => x) (Nat.le_refl _) _ _ _ _ _ _, .inl ⟨by decide, ⟨_, rfl, err_six E9.out K9.out (by decide) HEB.out _ _ _ _ _ _⟩, _, _, _, rr_six (HR1.out.below B9.out) HN.out _ _ _ _ _ _⟩⟩
  have HP : Hid (∀ f s, f = val (q.take 8) → s = pS (q.drop 8) → pBegin q = if f % 32 ≠ 0 then ⟨10, pFlags, 0, hd0, 0, []⟩
    else if s.err ≠ 0 then ⟨s.err, pSchema, 0, hd0, 0, []⟩
    else if shapeE s.val ≠ 0 then ⟨shapeE s.val, pSchema, 0, hd0, 0, []⟩
    else if (parseT s.rest).1 ≠ 0 then ⟨(parseT s.rest).1, pZero, 0, hd0, 0, []⟩
    else ⟨0, pZero, 0, ⟨(f / 32 % 2 : Nat), (f / 64 : Nat), s.val, (parseT s.rest).2.1, [], []⟩, 8 + s.used + (parseT s.rest).2.2, s.rest.drop (parseT s.rest).2.2⟩) := Lib.hid (by rintro f s rfl rfl; exact if_neg hs)
  have HGT := Lib.hid (StreamR.get_calls g a 8 S q false _ hr0 (by omega) (by omega) (by omega))
  have hf8 := val_lt8 q
  obtain ⟨f, hf⟩ : ∃ f, f = val (q.take 8) := ⟨_, rfl⟩
  rw [← hf] at HGT hf8
  have HF := Lib.hid hf
  clear hal hN hT hE hG hGE h hr0 hs hf
  go_enter Tryz.func86, Tryz.ntmps86
  go_wp2_with (fail)
  refine HGT.out.mono ?_
  rintro e w1 ⟨rfl, hr1, hc1⟩
  have HR1 := Lib.hid hr1
  have HC1 := Lib.hid (HC0.out.trans hc1 fun _ _ x => x)
  have HC1' := Lib.hid hc1
  have HBK := Lib.hid (hc1.blk HB0.out HN.out)
  have HSH := Lib.hid (short_calls g (a + 8) S (q.drop 8) false w1 hr1)
  have HAT := Lib.hid (HeadA.at_calls 10 pFlags 0 w1 (gle_ch HE.out hc1 HGE.out))
  clear hr1 hc1 HGT
  by_cases hm : f % 32 ≠ 0
  · have d1 : ((f : Int) % 32 != 0) = true := by simp; omega
    have HPB : Hid (pBegin q = ⟨10, pFlags, 0, hd0, 0, []⟩) := Lib.hid (by rw [HP.out f _ HF.out rfl, if_pos hm])
    clear hm HP
    go_wp2_with (fail)
    refine HSH.out.mono ?_
    rintro e w2 ⟨rfl, rfl⟩
    go_wp2_with (fail)
    refine HAT.out.mono ?_
    rintro e w9 ⟨v9, rfl, he9, hb9⟩
    have hk9 := (Ch.of_below (S := fun _ => False) hb9).blk HBK.out (fun x => x)
    have f0 := obj_free (i := 0) hk9
    have f1 := obj_free (i := 1) hk9
    have f2 := obj_free (i := 2) hk9
    have f3 := obj_free (i := 3) hk9
    have f4 := obj_free (i := 4) hk9
    have f5 := obj_free (i := 5) hk9
    have c0 := obj_cell (i := 0) hk9 rfl
    have c1 := obj_cell (i := 1) hk9 rfl
    have c2 := obj_cell (i := 2) hk9 rfl
    have c3 := obj_cell (i := 3) hk9 rfl
    have c4 := obj_cell (i := 4) hk9 rfl
    have c5 := obj_cell (i := 5) hk9 rfl
    have E9 := Lib.hid he9
    have B9 := Lib.hid hb9
    have K9 := Lib.hid hk9
    clear he9 hb9 hk9
    go_wp2
    refine bodyPost_ret (v := .tuple #[.agg zcs, v9]) (by rw [results_cell_tmp rfl]; go_simp) rfl ?_
    rw [HPB.out]
    exact ⟨ch_six (HC1.out.trans (Ch.of_below B9.out) fun _ _ x => x) (Nat.le_refl _) _ _ _ _ _ _, .inl ⟨by decide, ⟨_, rfl, err_six E9.out K9.out (by decide) HEB.out _ _ _ _ _ _⟩, _, _, _, rr_six (HR1.out.below B9.out) HN.out _ _ _ _ _ _⟩⟩
  have d1 : ((f : Int) % 32 != 0) = false := by simp; omega
  have ea : Go.bits .and .u64 ((f : Int) / 32) 1 = (f : Int) / 32 % 2 := by
    have h3 : Go.bits .and .u64 ((f / 32 : Nat) : Int) ((1 : Nat) : Int) = ((f / 32 &&& 1 : Nat) : Int) := u64_and_nat _ _ (by omega) (by decide)
    rw [show ((f : Int) / 32) = ((f / 32 : Nat) : Int) from by simp, show (1 : Int) = ((1 : Nat) : Int) from rfl, h3, Nat.and_one_is_mod]
    rfl
  have hal1 : Below w1.heap.size w1 (w1.alloc (.cells #[.int .i64 ((f : Int) / 32 % 2), .int .i64 ((f : Int) / 32 / 2), .int .i64 0, .int .u64 0, .slice none 0 0, .slice none 0 0] 25)) := below_alloc (Below.refl _ _) _
  have HN1 := Lib.hid (fun x => by have h1 := HOLD.out _ x; have h2 := HC1.out.size; omega : ¬ S w1.heap.size)
  have HLT1 := Lib.hid (blk_lt HBK.out : w.heap.size < w1.heap.size)
  have HTA := Lib.hid ((HT.out.ch HC1'.out HG.out).below hal1)
  have HEA := Lib.hid (gle_below (gle_ch HE.out HC1'.out HGE.out) hal1)
  have HR2 := Lib.hid (HR1.out.below hal1)
  have HCA := Lib.hid (HC1.out.trans (Ch.of_below (S := S) hal1) fun _ _ x => x)
  have HBA := Lib.hid ((Ch.of_below (S := fun _ => False) hal1).blk HBK.out (fun x => x))
  have HKA := Lib.hid (blk_last w1 (.cells #[.int .i64 ((f : Int) / 32 % 2), .int .i64 ((f : Int) / 32 / 2), .int .i64 0, .int .u64 0, .slice none 0 0, .slice none 0 0] 25))
  have HGS := Lib.hid (getS_reads g (a + 8) S (q.drop 8) _ HTA.out HG.out HR2.out)
  obtain ⟨s, hss⟩ : ∃ s, s = pS (q.drop 8) := ⟨_, rfl⟩
  rw [← hss] at HGS
  have HPB : Hid (∀ t, t = parseT s.rest → pBegin q = if s.err ≠ 0 then ⟨s.err, pSchema, 0, hd0, 0, []⟩
    else if shapeE s.val ≠ 0 then ⟨shapeE s.val, pSchema, 0, hd0, 0, []⟩
    else if t.1 ≠ 0 then ⟨t.1, pZero, 0, hd0, 0, []⟩
    else ⟨0, pZero, 0, ⟨(f / 32 % 2 : Nat), (f / 64 : Nat), s.val, t.2.1, [], []⟩, 8 + s.used + t.2.2, s.rest.drop t.2.2⟩) := Lib.hid (by rintro t rfl; rw [HP.out f _ HF.out hss, if_neg hm])
  clear hal1 hm HP hss
  go_wp2_with (fail)
  refine HSH.out.mono ?_
  rintro e w2 ⟨rfl, rfl⟩
  go_wp2_with (fail)
  refine HGS.out.mono ?_
  rintro e w2 ⟨hc2, ⟨v, rfl, rfl⟩, hcase⟩
  obtain ⟨se, sv, su, sr⟩ := s
  simp only at hcase HPB ⊢
  have HC2 := Lib.hid (HCA.out.trans hc2 fun _ _ x => x)
  have HBK := Lib.hid (hc2.blk HBA.out HN.out)
  have HKK := Lib.hid (hc2.blk HKA.out HN1.out)
  have HT2 := Lib.hid (HTA.out.ch hc2 HG.out)
  have HE2 := Lib.hid (gle_ch HEA.out hc2 HGE.out)
  clear hc2 HGS HSH HTA HEA
  by_cases h1 : se ≠ 0
  · have hcase : ∃ a' q' sh, Rr w2 g S a' q' sh := hcase.elim (fun h => h.2) (fun h => absurd h.1 h1)
    have HR3 := Lib.hid hcase
    have HPC : Hid (pBegin q = ⟨se, pSchema, 0, hd0, 0, []⟩) := Lib.hid (by rw [HPB.out _ rfl, if_pos h1])
    have HAT := Lib.hid (HeadA.at_calls se pSchema 0 w2 HE2.out)
    have e1 : ((se : Int) == 0) = false := by simp; omega
    have e2 : ((se : Int) != 0) = true := by simp; omega
    have H1 := Lib.hid h1
    clear hcase h1 HPB
    go_wp2_with (fail)
    refine HAT.out.mono ?_
    rintro e w9 ⟨v9, rfl, he9, hb9⟩
    have hk9 := (Ch.of_below (S := fun _ => False) hb9).blk HBK.out (fun x => x)
    have f0 := obj_free (i := 0) hk9
    have f1 := obj_free (i := 1) hk9
    have f2 := obj_free (i := 2) hk9
    have f3 := obj_free (i := 3) hk9
    have f4 := obj_free (i := 4) hk9
    have f5 := obj_free (i := 5) hk9
    have c0 := obj_cell (i := 0) hk9 rfl
    have c1 := obj_cell (i := 1) hk9 rfl
    have c2 := obj_cell (i := 2) hk9 rfl
    have c3 := obj_cell (i := 3) hk9 rfl
    have c4 := obj_cell (i := 4) hk9 rfl
    have c5 := obj_cell (i := 5) hk9 rfl
    have E9 := Lib.hid he9
    have B9 := Lib.hid hb9
    have K9 := Lib.hid hk9
    clear he9 hb9 hk9
    go_wp2
    refine bodyPost_ret (v := .tuple #[.agg zcs, v9]) (by rw [results_cell_tmp rfl]; go_simp) rfl ?_
    rw [HPC.out]
    exact ⟨ch_six (HC2.out.trans (Ch.of_below B9.out) fun _ _ x => x) (Nat.le_refl _) _ _ _ _ _ _, .inl ⟨H1.out, ⟨_, rfl, err_six E9.out K9.out (by decide) HEB.out _ _ _ _ _ _⟩, (by obtain ⟨a2, q2, s2, h9⟩ := HR3.out; exact ⟨a2, q2, s2, rr_six (h9.below B9.out) HN.out _ _ _ _ _ _⟩)⟩⟩
  obtain rfl := Decidable.not_not.1 h1
  have hcase : Rr w2 g S (a + 8 + su) sr false := hcase.elim (fun h => absurd rfl h.1) (fun h => h.2)
  have HR3 := Lib.hid hcase
  have HSP := Lib.hid (shape_calls sv w2)
  obtain ⟨c, hc⟩ : ∃ c, c = shapeE sv := ⟨_, rfl⟩
  rw [← hc] at HSP HPB
  clear hcase h1 hc
  by_cases h2 : c ≠ 0
  · have HPC : Hid (pBegin q = ⟨c, pSchema, 0, hd0, 0, []⟩) := Lib.hid (by rw [HPB.out _ rfl, if_neg (fun h => h rfl), if_pos h2])
    have HAT := Lib.hid (HeadA.at_calls c pSchema 0 w2 HE2.out)
    have e2 : ((c : Int) != 0) = true := by simp; omega
    have H1 := Lib.hid h2
    clear h2 HPB
    go_wp2_with (fail)
    refine HSP.out.mono ?_
    rintro e w3 ⟨rfl, rfl⟩
    go_wp2_with (fail)
    refine HAT.out.mono ?_
    rintro e w9 ⟨v9, rfl, he9, hb9⟩
    have hk9 := (Ch.of_below (S := fun _ => False) hb9).blk HBK.out (fun x => x)
    have f0 := obj_free (i := 0) hk9
    have f1 := obj_free (i := 1) hk9
    have f2 := obj_free (i := 2) hk9
    have f3 := obj_free (i := 3) hk9
    have f4 := obj_free (i := 4) hk9
    have f5 := obj_free (i := 5) hk9
    have c0 := obj_cell (i := 0) hk9 rfl
    have c1 := obj_cell (i := 1) hk9 rfl
    have c2 := obj_cell (i := 2) hk9 rfl
    have c3 := obj_cell (i := 3) hk9 rfl
    have c4 := obj_cell (i := 4) hk9 rfl
    have c5 := obj_cell (i := 5) hk9 rfl
    have E9 := Lib.hid he9
    have B9 := Lib.hid hb9
    have K9 := Lib.hid hk9
    clear he9 hb9 hk9
    go_wp2
    refine bodyPost_ret (v := .tuple #[.agg zcs, v9]) (by rw [results_cell_tmp rfl]; go_simp) rfl ?_
    rw [HPC.out]
    exact ⟨ch_six (HC2.out.trans (Ch.of_below B9.out) fun _ _ x => x) (Nat.le_refl _) _ _ _ _ _ _, .inl ⟨H1.out, ⟨_, rfl, err_six E9.out K9.out (by decide) HEB.out _ _ _ _ _ _⟩, _, _, _, rr_six (HR3.out.below B9.out) HN.out _ _ _ _ _ _⟩⟩
  obtain rfl := Decidable.not_not.1 h2
  have HKS := Lib.hid (blk_set HKK.out 2 (.int .i64 sv))
  have hcs : Ch (fun k => k = w1.heap.size) w2 (w2.setCell ⟨w1.heap.size, 2, none⟩ (.int .i64 sv)) := (Ch.refl (fun k => k = w1.heap.size) w2).setCell (p := ⟨w1.heap.size, 2, none⟩) (.inl rfl) _
  have HBS := Lib.hid (hcs.blk HBK.out (Nat.ne_of_lt HLT1.out))
  have HES := Lib.hid (gle_ch HE2.out hcs (fun h => by have h5 := gle_lt HE.out; have h6 := HLT1.out; simp at h5; omega))
  have HCS := Lib.hid (HC2.out.setCell (p := ⟨w1.heap.size, 2, none⟩) (.inr (Nat.le_of_lt HLT1.out)) (.int .i64 sv))
  have HRS := Lib.hid (HR3.out.ch hcs (fun k hk he => HN1.out (he ▸ hk)))
  have HGT := Lib.hid (ThrA.get_calls' g (a + 8 + su) S sr _ HRS.out)
  have f2 := obj_free (i := 2) HKK.out
  have c2 := obj_cell (i := 2) HKK.out rfl
  clear h2 hcs
  go_wp2_with (fail)
  refine HSP.out.mono ?_
  rintro e w3 ⟨rfl, rfl⟩
  go_wp2_with (fail)
  obtain ⟨t, ht⟩ : ∃ t, t = parseT sr := ⟨_, rfl⟩
  have HPT := Lib.hid (HPB.out t ht)
  refine HGT.out.mono ?_
  rintro e w3 ⟨hc3, hcase⟩
  rw [← ht] at hcase
  obtain ⟨te, tv, tu⟩ := t
  simp only at hcase HPT ⊢
  have HC3 := Lib.hid (HCS.out.trans hc3 fun _ _ x => x)
  have HBK3 := Lib.hid (hc3.blk HBS.out HN.out)
  have HKK3 := Lib.hid (hc3.blk HKS.out HN1.out)
  have HE3 := Lib.hid (gle_ch HES.out hc3 HGE.out)
  have f3 := obj_free (i := 3) HKK3.out
  have c3 := obj_cell (i := 3) HKK3.out rfl
  clear f2 c2 ht hc3 HGT HPB HRS
  rcases hcase with ⟨h1, rfl, h3⟩ | ⟨h1, rfl, h3⟩
  · have H3 := Lib.hid h3
    have HPC : Hid (pBegin q = ⟨te, pZero, 0, hd0, 0, []⟩) := Lib.hid (by rw [HPT.out, if_neg (fun h => h rfl), if_neg (fun h => h rfl), if_pos h1])
    have e2 : ((te : Int) != 0) = true := by simp; omega
    have H1 := Lib.hid h1
    have hcs : Ch (fun k => k = w1.heap.size) w3 (w3.setCell ⟨w1.heap.size, 3, none⟩ (.int .u64 0)) := (Ch.refl (fun k => k = w1.heap.size) w3).setCell (p := ⟨w1.heap.size, 3, none⟩) (.inl rfl) _
    have HBK := Lib.hid (hcs.blk HBK3.out (Nat.ne_of_lt HLT1.out))
    have HKK := Lib.hid (blk_set HKK3.out 3 (.int .u64 0))
    have HE4 := Lib.hid (gle_ch HE3.out hcs (fun h => by have h5 := gle_lt HE.out; have h6 := HLT1.out; simp at h5; omega))
    have HC4 := Lib.hid (HC3.out.setCell (p := ⟨w1.heap.size, 3, none⟩) (.inr (Nat.le_of_lt HLT1.out)) (.int .u64 0))
    have HRC := Lib.hid (fun a q sh (h : Rr w3 g S a q sh) => h.ch hcs (fun k hk he => HN1.out (he ▸ hk)))
    have HAT := Lib.hid (HeadA.at_calls te pZero 0 _ HE4.out)
    clear h1 h3 HPT hcs
    go_wp2_with (fail)
    refine HAT.out.mono ?_
    rintro e w9 ⟨v9, rfl, he9, hb9⟩
    have hk9 := (Ch.of_below (S := fun _ => False) hb9).blk HBK.out (fun x => x)
    have f0 := obj_free (i := 0) hk9
    have f1 := obj_free (i := 1) hk9
    have f2 := obj_free (i := 2) hk9
    have f3 := obj_free (i := 3) hk9
    have f4 := obj_free (i := 4) hk9
    have f5 := obj_free (i := 5) hk9
    have c0 := obj_cell (i := 0) hk9 rfl
    have c1 := obj_cell (i := 1) hk9 rfl
    have c2 := obj_cell (i := 2) hk9 rfl
    have c3 := obj_cell (i := 3) hk9 rfl
    have c4 := obj_cell (i := 4) hk9 rfl
    have c5 := obj_cell (i := 5) hk9 rfl
    have E9 := Lib.hid he9
    have B9 := Lib.hid hb9
    have K9 := Lib.hid hk9
    clear he9 hb9 hk9
    go_wp2
    refine bodyPost_ret (v := .tuple #[.agg zcs, v9]) (by rw [results_cell_tmp rfl]; go_simp) rfl ?_
    rw [HPC.out]
    exact ⟨ch_six (HC4.out.trans (Ch.of_below B9.out) fun _ _ x => x) (Nat.le_refl _) _ _ _ _ _ _, .inl ⟨H1.out, ⟨_, rfl, err_six E9.out K9.out (by decide) HEB.out _ _ _ _ _ _⟩, (by obtain ⟨a2, q2, s2, h9⟩ := H3.out; exact ⟨a2, q2, s2, rr_six ((HRC.out _ _ _ h9).below B9.out) HN.out _ _ _ _ _ _⟩)⟩⟩
  obtain rfl : te = 0 := h1
  have H3 := Lib.hid h3
  have HPC : Hid (pBegin q = ⟨0, pZero, 0, ⟨(f / 32 % 2 : Nat), (f / 64 : Nat), sv, tv, [], []⟩, 8 + su + tu, sr.drop tu⟩) := Lib.hid (by rw [HPT.out, if_neg (fun h => h rfl), if_neg (fun h => h rfl), if_neg (fun h => h rfl)])
  have hcs : Ch (fun k => k = w1.heap.size) w3 (w3.setCell ⟨w1.heap.size, 3, none⟩ (.int .u64 tv)) := (Ch.refl (fun k => k = w1.heap.size) w3).setCell (p := ⟨w1.heap.size, 3, none⟩) (.inl rfl) _
  have HBK := Lib.hid (hcs.blk HBK3.out (Nat.ne_of_lt HLT1.out))
  have HKK := Lib.hid (blk_set HKK3.out 3 (.int .u64 tv))
  have HE4 := Lib.hid (gle_ch HE3.out hcs (fun h => by have h5 := gle_lt HE.out; have h6 := HLT1.out; simp at h5; omega))
  have HC4 := Lib.hid (HC3.out.setCell (p := ⟨w1.heap.size, 3, none⟩) (.inr (Nat.le_of_lt HLT1.out)) (.int .u64 tv))
  have HRC := Lib.hid (fun a q sh (h : Rr w3 g S a q sh) => h.ch hcs (fun k hk he => HN1.out (he ▸ hk)))
  have k0 := obj_cell (i := 0) HKK3.out rfl
  have k1 := obj_cell (i := 1) HKK3.out rfl
  have k2 := obj_cell (i := 2) HKK3.out rfl
  have k3 := obj_cell (i := 3) HKK3.out rfl
  have k4 := obj_cell (i := 4) HKK3.out rfl
  have k5 := obj_cell (i := 5) HKK3.out rfl
  have g0 := obj_free (i := 0) HBK3.out
  have g1 := obj_free (i := 1) HBK3.out
  have g2 := obj_free (i := 2) HBK3.out
  have g3 := obj_free (i := 3) HBK3.out
  have g4 := obj_free (i := 4) HBK3.out
  have g5 := obj_free (i := 5) HBK3.out
  have d0 := obj_cell (i := 0) HBK3.out rfl
  have d1 := obj_cell (i := 1) HBK3.out rfl
  have d2 := obj_cell (i := 2) HBK3.out rfl
  have d3 := obj_cell (i := 3) HBK3.out rfl
  have d4 := obj_cell (i := 4) HBK3.out rfl
  have d5 := obj_cell (i := 5) HBK3.out rfl
  have hne1 : ¬ w1.heap.size = w.heap.size := Nat.ne_of_gt HLT1.out
  have hne2 : ¬ w.heap.size = w1.heap.size := Nat.ne_of_lt HLT1.out
  clear h3 HPT hcs
  go_wp2
  refine bodyPost_ret (v := .tuple #[.agg #[.int .i64 ((f : Int) / 32 % 2), .int .i64 ((f : Int) / 32 / 2), .int .i64 sv, .int .u64 tv, .slice none 0 0, .slice none 0 0], .nilIface]) (by rw [results_cell_tmp rfl]; go_simp) rfl ?_
  rw [HPC.out]
  have hv1 : ((f / 32 % 2 : Nat) : Int) = (f : Int) / 32 % 2 := by omega
  have hv2 : ((f / 64 : Nat) : Int) = (f : Int) / 32 / 2 := by omega
  refine ⟨ch_six HC4.out (Nat.le_refl _) _ _ _ _ _ _, .inr ⟨rfl, ⟨⟨none, 0, none, 0⟩, ?_, ⟨OwSp.nil _ _ _, OwSp.nil _ _ _⟩⟩, ?_⟩⟩
  · simp only [hcs, hv1, hv2]
    rfl
  · simp only
    rw [show a + (8 + su + tu) = a + 8 + su + tu from by omega]
    exact rr_six (HRC.out _ _ _ H3.out) HN.out _ _ _ _ _ _
end Go.Proofs.YtjfekjbmgckkcaaGreatDoor.HeadL

/- head's walks: Get. -/
namespace Go.Proofs.YtjfekjbmgckkcaaGreatDoor.HeadM
open Go.RowKit Go.Proofs.YtjfekjbmgckkcaaGreatDoorW.PrintWords
open Go.Proofs.YtjfekjbmgckkcaaGreatDoor.Bits Go.Proofs.YtjfekjbmgckkcaaGreatDoor.Base Go.Proofs.YtjfekjbmgckkcaaGreatDoor.VarPure Go.Proofs.YtjfekjbmgckkcaaGreatDoor.VarbitA Go.Proofs.YtjfekjbmgckkcaaGreatDoor.StreamA Go.Proofs.YtjfekjbmgckkcaaGreatDoor.StreamR Go.Proofs.YtjfekjbmgckkcaaGreatDoor.SpanPure Go.Proofs.YtjfekjbmgckkcaaGreatDoor.SpanBase Go.Proofs.YtjfekjbmgckkcaaGreatDoor.FailAs Go.Proofs.YtjfekjbmgckkcaaGreatDoor.FailB Go.Proofs.YtjfekjbmgckkcaaGreatDoor.FailC Go.Proofs.YtjfekjbmgckkcaaGreatDoor.ThrPure Go.Proofs.YtjfekjbmgckkcaaGreatDoor.ReadP Go.Proofs.YtjfekjbmgckkcaaGreatDoor.HeadA Go.Proofs.YtjfekjbmgckkcaaGreatDoor.HeadB Go.Proofs.YtjfekjbmgckkcaaGreatDoor.HeadE Go.Proofs.YtjfekjbmgckkcaaGreatDoor.HeadF Go.Proofs.YtjfekjbmgckkcaaGreatDoor.HeadH Go.Proofs.YtjfekjbmgckkcaaGreatDoor.HeadJ Go.Proofs.YtjfekjbmgckkcaaGreatDoor.HeadL

set_option maxRecDepth 100000 in
set_option maxHeartbeats 6400000 in
theorem Get_calls (g a : Nat) (S : Nat → Prop) (q : List Bool) (w : World) (hT : Tab w) (hE : GlE w) (hG : ¬ S 1) (hGE : ¬ S 0) (h : Rr w g S a q false) :
    Calls Tryz.prog 28 #[.pointer (some ⟨g, 0, none⟩)] w (HP (pHead q) g a S w) := by
  have hal : Below w.heap.size w (w.alloc (.cells zcs 25)) := below_alloc (Below.refl _ _) _
  have hN : ¬ S w.heap.size := fun x => Nat.lt_irrefl _ (h.old _ x)
  have HEB := Lib.hid (Nat.ne_of_lt (gle_lt hE) : 0 ≠ w.heap.size)
  have HN := Lib.hid hN
  have HT := Lib.hid (hT.below hal)
  have HE := Lib.hid (gle_below hE hal)
  have HG := Lib.hid hG
  have HGE := Lib.hid hGE
  have HOLD := Lib.hid h.old
  have HC0 := Lib.hid (Ch.of_below (S := S) hal)
  have HB0 := Lib.hid (blk_last w (.cells zcs 25))
  have HBE := Lib.hid (begin_calls g a S q _ HT.out HE.out hG hGE (h.below hal))
  obtain ⟨r, hr⟩ : ∃ r, r = pBegin q := ⟨_, rfl⟩
  rw [← hr] at HBE
  have HP : Hid (∀ P N, P = pGet r.rest → N = pGet P.rest → pHead q = if r.err ≠ 0 then r
    else if P.err ≠ 0 then ⟨P.err, pPos, P.val.length, hd0, 0, []⟩
    else if N.err ≠ 0 then ⟨N.err, pNeg, N.val.length, hd0, 0, []⟩
    else ⟨0, pNeg, 0, { r.val with pos := P.val, neg := N.val }, r.used + P.used + N.used, N.rest⟩) := Lib.hid (by rintro P N rfl rfl; rw [hr]; rfl)
  clear hal hN hT hE hG hGE h hr
  go_enter Tryz.func28, Tryz.ntmps28
  go_wp2_with (fail)
  refine HBE.out.mono ?_
  rintro e w1 ⟨hc1, hcase⟩
  have HC1 := Lib.hid (HC0.out.trans hc1 fun _ _ x => x)
  have HBK := Lib.hid (hc1.blk HB0.out HN.out)
  have HT1 := Lib.hid (HT.out.ch hc1 HG.out)
  have HE1 := Lib.hid (gle_ch HE.out hc1 HGE.out)
  have HLT1 := Lib.hid (blk_lt HBK.out : w.heap.size < w1.heap.size)
  clear hc1 HBE
  rcases hcase with ⟨h1, ⟨v, rfl, he⟩, h3⟩ | ⟨h1, ⟨pl, rfl, ho⟩, h3⟩
  · have HPC : Hid (pHead q = r) := Lib.hid (by rw [HP.out _ _ rfl rfl, if_pos h1])
    have hal1 : Below w1.heap.size w1 (w1.alloc (.cells zcs 25)) := below_alloc (Below.refl _ _) _
    have HEA := Lib.hid (he.below hal1)
    have HRA := Lib.hid (show ∃ a' q' sh, Rr (w1.alloc (.cells zcs 25)) g S a' q' sh from by obtain ⟨a2, q2, s2, h9⟩ := h3; exact ⟨a2, q2, s2, h9.below hal1⟩)
    have HCA := Lib.hid (HC1.out.trans (Ch.of_below (S := S) hal1) fun _ _ x => x)
    have HBA := Lib.hid ((Ch.of_below (S := fun _ => False) hal1).blk HBK.out (fun x => x))
    obtain ⟨ge, rfl⟩ := err_some (by omega) he
    have H1 := Lib.hid h1
    have f0 := obj_free (i := 0) HBA.out
    have f1 := obj_free (i := 1) HBA.out
    have f2 := obj_free (i := 2) HBA.out
    have f3 := obj_free (i := 3) HBA.out
    have f4 := obj_free (i := 4) HBA.out
    have f5 := obj_free (i := 5) HBA.out
    have c0 := obj_cell (i := 0) HBA.out rfl
    have c1 := obj_cell (i := 1) HBA.out rfl
    have c2 := obj_cell (i := 2) HBA.out rfl
    have c3 := obj_cell (i := 3) HBA.out rfl
    have c4 := obj_cell (i := 4) HBA.out rfl
    have c5 := obj_cell (i := 5) HBA.out rfl
    clear h1 he h3 HP hal1
    dsimp only [hcs, hd0]
    go_wp2
    refine bodyPost_ret (v := .tuple #[.agg zcs, .iface 182 (.pointer (some ⟨ge, 0, none⟩))]) (by rw [results_cell_tmp rfl]; go_simp) rfl ?_
    rw [HPC.out]
    refine ⟨ch_six HCA.out (Nat.le_refl _) _ _ _ _ _ _, .inl ⟨H1.out, ⟨_, rfl, err_six HEA.out HBA.out (by decide) HEB.out _ _ _ _ _ _⟩, ?_⟩⟩
    obtain ⟨a2, q2, s2, h9⟩ := HRA.out
    exact ⟨a2, q2, s2, rr_six h9 HN.out _ _ _ _ _ _⟩
  obtain ⟨re, rp, ra, ⟨vr, hint, schema, zt, rpos, rneg⟩, ru, rr⟩ := r
  obtain ⟨A0, c0, B0, d0⟩ := pl
  obtain rfl : re = 0 := h1
  simp only at h3 HP
  have hal1 : Below w1.heap.size w1 (w1.alloc (.cells #[.int .i64 vr, .int .i64 hint, .int .i64 schema, .int .u64 zt, .slice A0 rpos.length c0, .slice B0 rneg.length d0] 25)) := below_alloc (Below.refl _ _) _
  have HN1 := Lib.hid (fun x => by have h1 := HOLD.out _ x; have h2 := HC1.out.size; omega : ¬ S w1.heap.size)
  have HTA := Lib.hid (HT1.out.below hal1)
  have HEA := Lib.hid (gle_below HE1.out hal1)
  have HRA := Lib.hid (h3.below hal1)
  have HCA := Lib.hid (HC1.out.trans (Ch.of_below (S := S) hal1) fun _ _ x => x)
  have HBA := Lib.hid ((Ch.of_below (S := fun _ => False) hal1).blk HBK.out (fun x => x))
  have HKA := Lib.hid (blk_last w1 (.cells #[.int .i64 vr, .int .i64 hint, .int .i64 schema, .int .u64 zt, .slice A0 rpos.length c0, .slice B0 rneg.length d0] 25))
  have HGP := Lib.hid (HeadI.get_calls g (a + ru) S rr _ HTA.out HG.out HRA.out)
  obtain ⟨P, hP⟩ : ∃ P, P = pGet rr := ⟨_, rfl⟩
  rw [← hP] at HGP
  have HPP := Lib.hid (fun N h => HP.out P N hP h)
  have HSZ := Lib.hid (show w1.heap.size < (w1.alloc (.cells #[.int .i64 vr, .int .i64 hint, .int .i64 schema, .int .u64 zt, .slice A0 rpos.length c0, .slice B0 rneg.length d0] 25)).heap.size by simp)
  clear hP ho h3 HP hal1 HBK
  
  dsimp only [hcs]
  go_wp2_with (fail)
  refine HGP.out.mono ?_
  rintro e w2 ⟨hc2, ⟨v, rfl, hv⟩, hcase⟩
  obtain ⟨Pe, pv, Pu, Pr⟩ := P
  simp only at hv hcase HPP ⊢
  obtain ⟨A, c, rfl, hle, hnil, hrd⟩ := OwSp.reads hv
  have HV := Lib.hid hv
  have HC2 := Lib.hid (HCA.out.trans hc2 fun _ _ x => x)
  have HBK2 := Lib.hid (hc2.blk HBA.out HN.out)
  have HKK2 := Lib.hid (hc2.blk HKA.out HN1.out)
  have HT2 := Lib.hid (HTA.out.ch hc2 HG.out)
  have HE2 := Lib.hid (gle_ch HEA.out hc2 HGE.out)
  have HS2 := Lib.hid hc2.size
  have f4 := obj_free (i := 4) HKK2.out
  have c4 := obj_cell (i := 4) HKK2.out rfl
  have hcs : Ch (fun k => k = w1.heap.size) w2 (w2.setCell ⟨w1.heap.size, 4, none⟩ (.slice A pv.length c)) := (Ch.refl (fun k => k = w1.heap.size) w2).setCell (p := ⟨w1.heap.size, 4, none⟩) (.inl rfl) _
  have HBK := Lib.hid (hcs.blk HBK2.out (Nat.ne_of_lt HLT1.out))
  have HKK := Lib.hid (blk_set HKK2.out 4 (.slice A pv.length c))
  have HEN := Lib.hid (fun h => by have h5 := gle_lt HE.out; have h6 := HLT1.out; simp at h5; omega : 0 ≠ w1.heap.size)
  have HE3 := Lib.hid (gle_ch HE2.out hcs HEN.out)
  have HC3 := Lib.hid (HC2.out.setCell (p := ⟨w1.heap.size, 4, none⟩) (.inr (Nat.le_of_lt HLT1.out)) (.slice A pv.length c))
  have HRC := Lib.hid (fun a q sh (h : Rr w2 g S a q sh) => h.ch hcs (fun k hk he => HN1.out (he ▸ hk)))
  have HV3 := Lib.hid (sps_ch hv hcs (fun k hk => by rw [hk]; exact HSZ.out))
  have HCS3 := Lib.hid hcs
  clear hv hc2 hrd hle hnil hcs HGP
  by_cases h1 : Pe ≠ 0
  · have hcase : ∃ a' q' sh, Rr w2 g S a' q' sh := hcase.elim (fun h => h.2) (fun h => absurd h.1 h1)
    have HR3 := Lib.hid hcase
    have HPC : Hid (pHead q = ⟨Pe, pPos, pv.length, hd0, 0, []⟩) := Lib.hid (by rw [HPP.out _ rfl, if_neg (fun h => h rfl), if_pos h1])
    have HAT := Lib.hid (HeadA.at_calls Pe pPos pv.length _ HE3.out)
    have e2 : ((Pe : Int) != 0) = true := by simp; omega
    have H1 := Lib.hid h1
    clear hcase h1 HPP
    go_wp2_with (fail)
    refine HAT.out.mono ?_
    rintro e w9 ⟨v9, rfl, he9, hb9⟩
    have hk9 := (Ch.of_below (S := fun _ => False) hb9).blk HBK.out (fun x => x)
    have f0 := obj_free (i := 0) hk9
    have f1 := obj_free (i := 1) hk9
    have f2 := obj_free (i := 2) hk9
    have f3 := obj_free (i := 3) hk9
    have f4 := obj_free (i := 4) hk9
    have f5 := obj_free (i := 5) hk9
    have c0 := obj_cell (i := 0) hk9 rfl
    have c1 := obj_cell (i := 1) hk9 rfl
    have c2 := obj_cell (i := 2) hk9 rfl
    have c3 := obj_cell (i := 3) hk9 rfl
    have c4 := obj_cell (i := 4) hk9 rfl
    have c5 := obj_cell (i := 5) hk9 rfl
    have E9 := Lib.hid he9
    have B9 := Lib.hid hb9
    have K9 := Lib.hid hk9
    clear he9 hb9 hk9
    go_wp2
    refine bodyPost_ret (v := .tuple #[.agg zcs, v9]) (by rw [results_cell_tmp rfl]; go_simp) rfl ?_
    rw [HPC.out]
    exact ⟨ch_six (HC3.out.trans (Ch.of_below B9.out) fun _ _ x => x) (Nat.le_refl _) _ _ _ _ _ _, .inl ⟨H1.out, ⟨_, rfl, err_six E9.out K9.out (by decide) HEB.out _ _ _ _ _ _⟩, (by obtain ⟨a2, q2, s2, h9⟩ := HR3.out; exact ⟨a2, q2, s2, rr_six ((HRC.out _ _ _ h9).below B9.out) HN.out _ _ _ _ _ _⟩)⟩⟩
  obtain rfl := Decidable.not_not.1 h1
  have hcase : Rr w2 g S (a + ru + Pu) Pr false := hcase.elim (fun h => absurd rfl h.1) (fun h => h.2)
  have HT3 := Lib.hid (HT2.out.ch HCS3.out (fun h => by have h5 := HT.out.lt; have h6 := HLT1.out; simp at h5; omega))
  have HGN := Lib.hid (HeadI.get_calls g (a + ru + Pu) S Pr _ HT3.out HG.out (HRC.out _ _ _ hcase))
  obtain ⟨N, hNN⟩ : ∃ N, N = pGet Pr := ⟨_, rfl⟩
  rw [← hNN] at HGN
  have HPN := Lib.hid (HPP.out N hNN)
  clear hcase h1 hNN HPP
  go_wp2_with (fail)
  refine HGN.out.mono ?_
  rintro e w3 ⟨hc3, ⟨v, rfl, hv⟩, hcase⟩
  obtain ⟨Ne, nv, Nu, Nr⟩ := N
  simp only at hv hcase HPN ⊢
  obtain ⟨B, d, rfl, hle, hnil, hrd⟩ := OwSp.reads hv
  have HW := Lib.hid hv
  have HC4 := Lib.hid (HC3.out.trans hc3 fun _ _ x => x)
  have HBK3 := Lib.hid (hc3.blk HBK.out HN.out)
  have HKK3 := Lib.hid (hc3.blk HKK.out HN1.out)
  have HE4 := Lib.hid (gle_ch HE3.out hc3 HGE.out)
  have HV4 := Lib.hid (sps_ch HV3.out hc3 (fun k hk => by have h1 := HOLD.out k hk; have h2 := HLT1.out; have h3 := HSZ.out; omega))
  have f5 := obj_free (i := 5) HKK3.out
  have c5 := obj_cell (i := 5) HKK3.out rfl
  have hcs : Ch (fun k => k = w1.heap.size) w3 (w3.setCell ⟨w1.heap.size, 5, none⟩ (.slice B nv.length d)) := (Ch.refl (fun k => k = w1.heap.size) w3).setCell (p := ⟨w1.heap.size, 5, none⟩) (.inl rfl) _
  have HBK := Lib.hid (hcs.blk HBK3.out (Nat.ne_of_lt HLT1.out))
  have HE5 := Lib.hid (gle_ch HE4.out hcs HEN.out)
  have HC5 := Lib.hid (HC4.out.setCell (p := ⟨w1.heap.size, 5, none⟩) (.inr (Nat.le_of_lt HLT1.out)) (.slice B nv.length d))
  have HRC := Lib.hid (fun a q sh (h : Rr w3 g S a q sh) => h.ch hcs (fun k hk he => HN1.out (he ▸ hk)))
  have HV5 := Lib.hid (sps_ch HV4.out hcs (fun k hk => by rw [hk]; exact HSZ.out))
  have HW5 := Lib.hid (sps_ch hv hcs (fun k hk => by rw [hk]; have h2 := HSZ.out; have h3 := HS2.out; simp at h2 h3 ⊢; omega))
  clear hv hc3 hrd hle hnil hcs HGN f4 c4
  by_cases h1 : Ne ≠ 0
  · have hcase : ∃ a' q' sh, Rr w3 g S a' q' sh := hcase.elim (fun h => h.2) (fun h => absurd h.1 h1)
    have HR3 := Lib.hid hcase
    have HPC : Hid (pHead q = ⟨Ne, pNeg, nv.length, hd0, 0, []⟩) := Lib.hid (by rw [HPN.out, if_neg (fun h => h rfl), if_neg (fun h => h rfl), if_pos h1])
    have HAT := Lib.hid (HeadA.at_calls Ne pNeg nv.length _ HE5.out)
    have e2 : ((Ne : Int) != 0) = true := by simp; omega
    have H1 := Lib.hid h1
    clear hcase h1 HPN
    go_wp2_with (fail)
    refine HAT.out.mono ?_
    rintro e w9 ⟨v9, rfl, he9, hb9⟩
    have hk9 := (Ch.of_below (S := fun _ => False) hb9).blk HBK.out (fun x => x)
    have f0 := obj_free (i := 0) hk9
    have f1 := obj_free (i := 1) hk9
    have f2 := obj_free (i := 2) hk9
    have f3 := obj_free (i := 3) hk9
    have f4 := obj_free (i := 4) hk9
    have f5 := obj_free (i := 5) hk9
    have c0 := obj_cell (i := 0) hk9 rfl
    have c1 := obj_cell (i := 1) hk9 rfl
    have c2 := obj_cell (i := 2) hk9 rfl
    have c3 := obj_cell (i := 3) hk9 rfl
    have c4 := obj_cell (i := 4) hk9 rfl
    have c5 := obj_cell (i := 5) hk9 rfl
    have E9 := Lib.hid he9
    have B9 := Lib.hid hb9
    have K9 := Lib.hid hk9
    clear he9 hb9 hk9
    go_wp2
    refine bodyPost_ret (v := .tuple #[.agg zcs, v9]) (by rw [results_cell_tmp rfl]; go_simp) rfl ?_
    rw [HPC.out]
    exact ⟨ch_six (HC5.out.trans (Ch.of_below B9.out) fun _ _ x => x) (Nat.le_refl _) _ _ _ _ _ _, .inl ⟨H1.out, ⟨_, rfl, err_six E9.out K9.out (by decide) HEB.out _ _ _ _ _ _⟩, (by obtain ⟨a2, q2, s2, h9⟩ := HR3.out; exact ⟨a2, q2, s2, rr_six ((HRC.out _ _ _ h9).below B9.out) HN.out _ _ _ _ _ _⟩)⟩⟩
  obtain rfl := Decidable.not_not.1 h1
  have hcase : Rr w3 g S (a + ru + Pu + Nu) Nr false := hcase.elim (fun h => absurd rfl h.1) (fun h => h.2)
  have H3 := Lib.hid hcase
  have HPC : Hid (pHead q = ⟨0, pNeg, 0, ⟨vr, hint, schema, zt, pv, nv⟩, ru + Pu + Nu, Nr⟩) := Lib.hid (by rw [HPN.out, if_neg (fun h => h rfl), if_neg (fun h => h rfl), if_neg (fun h => h rfl)])
  have k0 := obj_cell (i := 0) HKK3.out rfl
  have k1 := obj_cell (i := 1) HKK3.out rfl
  have k2 := obj_cell (i := 2) HKK3.out rfl
  have k3 := obj_cell (i := 3) HKK3.out rfl
  have k4 := obj_cell (i := 4) HKK3.out rfl
  have k5 := obj_cell (i := 5) HKK3.out rfl
  have g0 := obj_free (i := 0) HBK3.out
  have g1 := obj_free (i := 1) HBK3.out
  have g2 := obj_free (i := 2) HBK3.out
  have g3 := obj_free (i := 3) HBK3.out
  have g4 := obj_free (i := 4) HBK3.out
  have g5 := obj_free (i := 5) HBK3.out
  have e0 := obj_cell (i := 0) HBK3.out rfl
  have e1 := obj_cell (i := 1) HBK3.out rfl
  have e2 := obj_cell (i := 2) HBK3.out rfl
  have e3 := obj_cell (i := 3) HBK3.out rfl
  have e4 := obj_cell (i := 4) HBK3.out rfl
  have e5 := obj_cell (i := 5) HBK3.out rfl
  have hne1 : ¬ w1.heap.size = w.heap.size := Nat.ne_of_gt HLT1.out
  have hne2 : ¬ w.heap.size = w1.heap.size := Nat.ne_of_lt HLT1.out
  clear h1 hcase HPN
  go_wp2
  refine bodyPost_ret (v := .tuple #[.agg #[.int .i64 vr, .int .i64 hint, .int .i64 schema, .int .u64 zt, .slice A pv.length c, .slice B nv.length d], .nilIface]) (by rw [results_cell_tmp rfl]; go_simp) rfl ?_
  rw [HPC.out]
  have hlo : w.heap.size ≤ (w1.alloc (.cells #[.int .i64 vr, .int .i64 hint, .int .i64 schema, .int .u64 zt, .slice A0 rpos.length c0, .slice B0 rneg.length d0] 25)).heap.size := by have h1 := HLT1.out; have h2 := HSZ.out; omega
  have hlo2 : w.heap.size < (w2.setCell ⟨w1.heap.size, 4, none⟩ (.slice A pv.length c)).heap.size := by have h1 := HLT1.out; have h2 := HSZ.out; have h3 := HS2.out; simp at h2 h3 ⊢; omega
  refine ⟨ch_six HC5.out (Nat.le_refl _) _ _ _ _ _ _, .inr ⟨rfl, ⟨⟨A, c, B, d⟩, rfl, ⟨?_, ?_⟩⟩, ?_⟩⟩
  · exact (sps_ch HV5.out (six_ch _ w.heap.size _ _ _ _ _ _) (fun k hk => by rw [hk]; have h1 := HLT1.out; have h2 := HSZ.out; omega)).lower hlo
  · exact (sps_ch HW5.out (six_ch _ w.heap.size _ _ _ _ _ _) (fun k hk => by rw [hk]; exact hlo2)).lower (Nat.le_of_lt hlo2)
  · simp only
    rw [show a + (ru + Pu + Nu) = a + ru + Pu + Nu from by omega]
    exact rr_six (HRC.out _ _ _ H3.out) HN.out _ _ _ _ _ _
end Go.Proofs.YtjfekjbmgckkcaaGreatDoor.HeadM

/- law 14: awake. -/
namespace Go.Proofs.YtjfekjbmgckkcaaGreatDoor.Law14B
open Go.RowKit Go.Proofs.YtjfekjbmgckkcaaGreatDoorW.PrintWords
open Go.Proofs.YtjfekjbmgckkcaaGreatDoor.Bits Go.Proofs.YtjfekjbmgckkcaaGreatDoor.Base Go.Proofs.YtjfekjbmgckkcaaGreatDoor.VarPure Go.Proofs.YtjfekjbmgckkcaaGreatDoor.VarbitA Go.Proofs.YtjfekjbmgckkcaaGreatDoor.VarbitD Go.Proofs.YtjfekjbmgckkcaaGreatDoor.VarKit Go.Proofs.YtjfekjbmgckkcaaGreatDoor.StreamA Go.Proofs.YtjfekjbmgckkcaaGreatDoor.StreamR Go.Proofs.YtjfekjbmgckkcaaGreatDoor.SpanPure Go.Proofs.YtjfekjbmgckkcaaGreatDoor.SpanBase Go.Proofs.YtjfekjbmgckkcaaGreatDoor.FailAs Go.Proofs.YtjfekjbmgckkcaaGreatDoor.FailB Go.Proofs.YtjfekjbmgckkcaaGreatDoor.FailC Go.Proofs.YtjfekjbmgckkcaaGreatDoor.ThrPure Go.Proofs.YtjfekjbmgckkcaaGreatDoor.ReadP Go.Proofs.YtjfekjbmgckkcaaGreatDoor.HeadA Go.Proofs.YtjfekjbmgckkcaaGreatDoor.HeadB Go.Proofs.YtjfekjbmgckkcaaGreatDoor.HeadC Go.Proofs.YtjfekjbmgckkcaaGreatDoor.HeadD Go.Proofs.YtjfekjbmgckkcaaGreatDoor.HeadPure Go.Proofs.YtjfekjbmgckkcaaGreatDoor.HeadE Go.Proofs.YtjfekjbmgckkcaaGreatDoor.HeadF Go.Proofs.YtjfekjbmgckkcaaGreatDoor.HeadG Go.Proofs.YtjfekjbmgckkcaaGreatDoor.HeadH Go.Proofs.YtjfekjbmgckkcaaGreatDoor.HeadJ Go.Proofs.YtjfekjbmgckkcaaGreatDoor.HeadK Go.Proofs.YtjfekjbmgckkcaaGreatDoor.HeadM

theorem spl_own {w : World} {base : Nat} {e : Nat} {A : Option Addr} {n c : Nat} {l : List Sp} (h : OwSp e w base (.slice A n c) l) (hl : l.length ≤ 1000000) : Spl w A c l := by
  obtain ⟨A', c', he, h1, h2, h3⟩ := h.reads
  injection he with e1 e2 e3
  subst e1 e3
  exact ⟨h3, hl, h1, h2⟩
theorem hdin_out {w : World} {base : Nat} {h : Hd} {p : Lc} (x : HdOut w base h p) (h1 : h.pos.length ≤ 1000000) (h2 : h.neg.length ≤ 1000000) (hz : h.zero < 18446744073709551616) : HdIn w h p := ⟨spl_own x.pos h1, spl_own x.neg h2, hz⟩
theorem own_not {w : World} {base : Nat} {e : Nat} {A : Option Addr} {n c : Nat} {l : List Sp} {S : Nat → Prop} (h : OwSp e w base (.slice A n c) l) (hS : ∀ k, S k → k < base) : ∀ ad, A = some ad → 0 < l.length → ¬ S ad.block := by
  intro ad hA hp hs
  obtain ⟨g, c', he, h1, -, -⟩ := h.form hp
  injection he with e1 e2 e3
  rw [hA] at e1
  injection e1 with e1
  subst e1
  exact Nat.lt_irrefl _ (Nat.lt_of_lt_of_le (hS _ hs) h1)
theorem hdin_nil (w : World) (v i s : Int) (z : Nat) (hz : z < 18446744073709551616) : HdIn w ⟨v, i, s, z, [], []⟩ ⟨none, 0, none, 0⟩ :=
  ⟨spl_own (OwSp.nil 119 w 0) (Nat.zero_le _), spl_own (OwSp.nil 119 w 0) (Nat.zero_le _), hz⟩
def h1 : Hd := ⟨1, 3, 3, 0, [(-2, 2)], []⟩
def h9 : Hd := ⟨0, 0, 9, 0, [], []⟩
theorem err_h1 : (headErr h1).1 = 0 := by decide +kernel
theorem err_h9 : headErr h9 = (21, pSchema) := by decide +kernel
theorem len_h1 : (encH h1).length ≤ 1000 := by decide +kernel
theorem len_hd0 : lenH hd0 = 19 := by decide +kernel
set_option maxRecDepth 100000 in
set_option maxHeartbeats 6400000 in
theorem awake_calls (w : World) (hT : Tab w) (hE : GlE w) :
    Calls Tryz.prog 15 #[] w fun e w' => e = .returned (.bool true) ∧ Below w.heap.size w w' := by
  have HT := Lib.hid hT
  have HE := Lib.hid hE
  have HNW := Lib.hid (newWriter_calls none 0 0 [] w (nil_read w) (by decide) (by decide) (fun _ => rfl) (by decide))
  clear hT hE
  go_enter Tryz.func15, Tryz.ntmps15
  go_wp2_with (fail)
  refine HNW.out.mono ?_
  rintro e w1 ⟨g, S, rfl, hw, hS, hb⟩
  have HP1 : Hid (∃ p : Lc, p = ⟨some ⟨w1.heap.size, 0, none⟩, 1, none, 0⟩) := Lib.hid ⟨_, rfl⟩
  have hb0 := below_alloc (Below.refl w1.heap.size w1) (.cells #[.int .i64 (-2), .int .i64 2] 119)
  have hb1 := below_alloc hb0 (.cells #[.int .i64 1, .int .i64 3, .int .i64 3, .int .u64 0, .slice (some ⟨w1.heap.size, 0, none⟩) 1 1, .slice none 0 0] 25)
  have HOW : Hid (OwSp 119 (w1.alloc (.cells #[.int .i64 (-2), .int .i64 2] 119)) w1.heap.size (.slice (some ⟨w1.heap.size, 0, none⟩) 1 1) [(-2, 2)]) := Lib.hid (OwSp.lit w1 119 [(-2, 2)] (by decide))
  have HIN : Hid (HdIn ((w1.alloc (.cells #[.int .i64 (-2), .int .i64 2] 119)).alloc (.cells #[.int .i64 1, .int .i64 3, .int .i64 3, .int .u64 0, .slice (some ⟨w1.heap.size, 0, none⟩) 1 1, .slice none 0 0] 25)) h1 ⟨some ⟨w1.heap.size, 0, none⟩, 1, none, 0⟩) :=
    Lib.hid ⟨spl_own (HOW.out.below (below_alloc (Below.refl _ _) _)) (by decide), spl_own (OwSp.nil 119 _ 0) (Nat.zero_le _), by decide⟩
  have HBK := Lib.hid (blk_last (w1.alloc (.cells #[.int .i64 (-2), .int .i64 2] 119)) (.cells #[.int .i64 1, .int .i64 3, .int .i64 3, .int .u64 0, .slice (some ⟨w1.heap.size, 0, none⟩) 1 1, .slice none 0 0] 25))
  rw [show (w1.alloc (.cells #[.int .i64 (-2), .int .i64 2] 119)).heap.size = w1.heap.size + 1 from by simp] at HBK
  have HB1 := Lib.hid (below_then hb hb.size hb1)
  have HT1 := Lib.hid ((HT.out.below hb).below hb1)
  have HE1 := Lib.hid (gle_below (gle_below HE.out hb) hb1)
  have HNB := Lib.hid (fun x => Nat.lt_irrefl _ (hw.old _ x) : ¬ S w1.heap.size)
  have HNB1 := Lib.hid (fun x => by have := hw.old _ x; omega : ¬ S (w1.heap.size + 1))
  have HNG := Lib.hid (not_old HT.out hS)
  have HPU := Lib.hid (Put_calls g S _ h1 ⟨some ⟨w1.heap.size, 0, none⟩, 1, none, 0⟩ _ HIN.out HE1.out HT1.out HNG.out (hw.below hb1) (by decide) (fun ad h _ => by injection h with h; subst h; exact HNB.out) (fun ad h _ => by cases h))
  have HS := Lib.hid hS
  have HNE := Lib.hid (fun x => by have := HS.out _ x; have := gle_lt HE.out; omega : ¬ S 0)
  clear hw hS hb hb0 hb1 HNW HP1 HOW
  go_wp2_with (fail)
  refine HPU.out.mono ?_
  rintro e w3 hput
  obtain ⟨-, rfl, S3, hw3, hs3, hc3⟩ : (headErr h1).1 = 0 ∧ e = .returned .nilIface ∧ Upd (fun w S => Wr w g S ([] ++ encH h1)) S _ w3 := by
    rcases hput with h | ⟨h, -⟩
    · exact h
    · exact absurd err_h1 h
  rw [List.nil_append] at hw3
  have HB3 := Lib.hid (HB1.out.trans (hc3.below_of HB1.out.size HS.out))
  have HIN3 : Hid (HdIn w3 h1 ⟨some ⟨w1.heap.size, 0, none⟩, 1, none, 0⟩) := Lib.hid ⟨⟨rd_ch HIN.out.pos.rd hc3 (fun ad h _ => by injection h with h; subst h; exact HNB.out), HIN.out.pos.len, HIN.out.pos.cap, HIN.out.pos.nil⟩, ⟨rd_ch HIN.out.neg.rd hc3 (fun ad h _ => by cases h), HIN.out.neg.len, HIN.out.neg.cap, HIN.out.neg.nil⟩, HIN.out.z⟩
  have HBK3 := Lib.hid (hc3.blk HBK.out HNB1.out)
  have HT3 := Lib.hid (HT1.out.ch hc3 HNG.out)
  have HE3 := Lib.hid (gle_ch HE1.out hc3 HNE.out)
  have hlen := len_h1
  obtain ⟨q, hq⟩ : ∃ q, q = encH h1 := ⟨_, rfl⟩
  have HQ := Lib.hid hq
  rw [← hq] at hw3 hlen
  have HW3 := Lib.hid hw3
  have HLEN := Lib.hid (fun W (h : Below w3.heap.size w3 W) => lift_eq h (len_calls g S3 _ W (hw3.below h)))
  have HBY := Lib.hid (bytes_calls g S3 _ w3 hw3 (by omega))
  clear hw3 hs3 hc3 hq HPU HIN HBK HNB HNB1 HB1 HT1 HE1
  go_wp2_with (fail)
  refine HBY.out.mono ?_
  rintro e w4 ⟨v, rfl, ho, hb4⟩
  obtain ⟨D, d, rfl, hd, hr⟩ := ho.reads
  have hD : D = none → d = 0 := OwI.nilcap ho
  have HNR := Lib.hid (newReader_calls D d q.length (pack q) w4 hr (by rw [pack_length]; omega) hd hD (by rw [pack_length]; omega))
  rw [pack_take_all] at HNR
  have HB4 := Lib.hid hb4
  clear ho hr hd hb4 hD
  go_wp2_with (fail)
  refine (len_calls g S3 _ w4 (HW3.out.below HB4.out)).mono ?_
  rintro e w4' ⟨rfl, rfl⟩
  go_wp2_with (fail)
  refine HNR.out.mono ?_
  rintro e w5 ⟨gr, SR, rfl, hR, hSR, hb5⟩
  have HB5 := Lib.hid (below_then HB4.out HB4.out.size hb5)
  have HT5 := Lib.hid ((HT3.out.below HB4.out).below hb5)
  have HE5 := Lib.hid (gle_below (gle_below HE3.out HB4.out) hb5)
  have HSR := Lib.hid (fun k hk => Nat.le_trans HB4.out.size (hSR k hk) : ∀ k, SR k → w3.heap.size ≤ k)
  have HNG5 := Lib.hid (not_old HT3.out HSR.out)
  have HNE5 := Lib.hid (fun x => by have := HSR.out _ x; have := gle_lt HE3.out; omega : ¬ SR 0)
  have HPH : Hid (pHead q = ⟨0, pNeg, 0, h1, q.length, []⟩) := Lib.hid (by have h := pHead_enc h1 [] err_h1 (by decide); rw [List.append_nil, ← HQ.out] at h; exact h)
  have HG := Lib.hid (Get_calls gr 0 SR q w5 HT5.out HE5.out HNG5.out HNE5.out hR)
  rw [HPH.out] at HG
  have HB5' := Lib.hid hb5
  clear hR hSR hb5 HNR HT3 HE3
  go_wp2_with (fail)
  refine HG.out.mono ?_
  rintro e w6 ⟨hc6, hcase⟩
  obtain ⟨p6, rfl, ho6⟩ : ∃ p, e = .returned (.tuple #[.agg (hcs h1 p).toArray, .nilIface]) ∧ HdOut w6 w5.heap.size h1 p := by
    rcases hcase with ⟨h, -⟩ | ⟨-, h, -⟩
    · exact absurd rfl h
    · exact h
  obtain ⟨A6, c6, B6, d6⟩ := p6
  dsimp only [hcs, h1, List.length]
  have HB6 := Lib.hid (ch_new HB5.out HB5.out.size HSR.out hc6)
  have HT6 := Lib.hid (HT5.out.ch hc6 HNG5.out)
  have HE6 := Lib.hid (gle_ch HE5.out hc6 HNE5.out)
  have hb6a := below_alloc (Below.refl w6.heap.size w6) (.cells #[.int .i64 1, .int .i64 3, .int .i64 3, .int .u64 0, .slice A6 1 c6, .slice B6 0 d6] 25)
  have HIN6 := Lib.hid ((hdin_out ho6 (by decide) (by decide) (by decide)).below hb6a)
  have HBK6 := Lib.hid (blk_last w6 (.cells #[.int .i64 1, .int .i64 3, .int .i64 3, .int .u64 0, .slice A6 1 c6, .slice B6 0 d6] 25))
  have HB6a := Lib.hid (below_then HB6.out HB6.out.size hb6a)
  have HT6a := Lib.hid (HT6.out.below hb6a)
  have HE6a := Lib.hid (gle_below HE6.out hb6a)
  have HCK := Lib.hid (check_calls h9 ⟨none, 0, none, 0⟩ _ (hdin_nil _ 0 0 9 0 (by decide)) HE6a.out)
  rw [err_h9] at HCK
  clear hc6 hcase ho6 hb6a HG HB5 HT5 HE5 HB5' HT6 HE6
  go_wp2_with (fail)
  refine HCK.out.mono ?_
  rintro e w7 ⟨v7, rfl, he7, hb7⟩
  have HAT := Lib.hid (FailE.at_calls pSchema he7)
  have HB7 := Lib.hid (below_then HB6a.out HB6a.out.size hb7)
  have hb7' := hb7
  have HIN7 := Lib.hid (HIN6.out.below hb7)
  have HBK7 := Lib.hid ((Ch.of_below (S := fun _ => False) hb7).blk HBK6.out (fun x => x))
  have HE7 := Lib.hid he7
  have HT7 := Lib.hid (HT6a.out.below hb7)
  clear he7 hb7 HCK hb7'
  go_wp2_with (fail)
  refine HAT.out.mono ?_
  rintro e w8 ⟨rfl, hb8⟩
  have HB8 := Lib.hid (below_then HB7.out HB7.out.size hb8)
  have HIN8 := Lib.hid (HIN7.out.below hb8)
  have hbk8 := (Ch.of_below (S := fun _ => False) hb8).blk HBK7.out (fun x => x)
  have HT8 := Lib.hid (HT7.out.below hb8)
  have he8 := HE7.out.below hb8
  have HE8 := Lib.hid he8
  have hbk3 := (Ch.of_below (S := fun _ => False) HB8.out).blk HBK3.out (fun x => x)
  have HIN3' := Lib.hid (HIN3.out.below HB8.out)
  have HLN := Lib.hid (HW3.out.below HB8.out)
  have k0 := obj_cell (i := 0) hbk8 rfl
  have k1 := obj_cell (i := 1) hbk8 rfl
  have k2 := obj_cell (i := 2) hbk8 rfl
  have k3 := obj_cell (i := 3) hbk8 rfl
  have k4 := obj_cell (i := 4) hbk8 rfl
  have k5 := obj_cell (i := 5) hbk8 rfl
  have c0 := obj_cell (i := 0) hbk3 rfl
  have c1 := obj_cell (i := 1) hbk3 rfl
  have c2 := obj_cell (i := 2) hbk3 rfl
  have c3 := obj_cell (i := 3) hbk3 rfl
  have c4 := obj_cell (i := 4) hbk3 rfl
  have c5 := obj_cell (i := 5) hbk3 rfl
  have HEQ := Lib.hid (Equal_calls h1 h1 ⟨A6, c6, B6, d6⟩ ⟨some ⟨w1.heap.size, 0, none⟩, 1, none, 0⟩ w8 HIN8.out HIN3'.out)
  have hat : FailE.atF (plc (21 : Nat) pSchema 0) pSchema = (0, true) := by decide +kernel
  rw [hat]
  have HB3' := Lib.hid hbk3
  clear hb8 hbk8 he8 hbk3 hat HAT
  go_wp2_with (fail)
  refine HEQ.out.mono ?_
  rintro e w9 ⟨rfl, hb9⟩
  rw [show eqH h1 h1 = true from decide_eq_true rfl]
  have HB9 := Lib.hid (below_then HB8.out HB8.out.size hb9)
  have hbk3 := (Ch.of_below (S := fun _ => False) hb9).blk HB3'.out (fun x => x)
  have c0 := obj_cell (i := 0) hbk3 rfl
  have c1 := obj_cell (i := 1) hbk3 rfl
  have c2 := obj_cell (i := 2) hbk3 rfl
  have c3 := obj_cell (i := 3) hbk3 rfl
  have c4 := obj_cell (i := 4) hbk3 rfl
  have c5 := obj_cell (i := 5) hbk3 rfl
  have HLE := Lib.hid (Len_calls h1 ⟨some ⟨w1.heap.size, 0, none⟩, 1, none, 0⟩ w9 (HIN3'.out.below hb9) (HE8.out.below hb9).gl (HT8.out.below hb9))
  rw [show lenH h1 = (encH h1).length from if_pos err_h1, ← HQ.out] at HLE
  have HE9 := Lib.hid (HE8.out.below hb9)
  have HT9 := Lib.hid (HT8.out.below hb9)
  have HW9 := Lib.hid (HLN.out.below hb9)
  clear hb9 hbk3 HEQ k0 k1 k2 k3 k4 k5 HIN3 HIN8 HIN7 HIN6
  go_wp2_with (fail)
  refine HLE.out.mono ?_
  rintro e w10 ⟨rfl, hb10⟩
  have HB10 := Lib.hid (below_then HB9.out HB9.out.size hb10)
  have HE10 := Lib.hid (HE9.out.below hb10)
  have HLH := Lib.hid (Len_calls hd0 ⟨none, 0, none, 0⟩ w10 (hdin_nil _ 0 0 0 0 (by decide)) (HE9.out.below hb10).gl (HT9.out.below hb10))
  rw [len_hd0] at HLH
  have HLW := Lib.hid (len_calls g S3 _ w10 (HW9.out.below hb10))
  clear hb10 HLE c0 c1 c2 c3 c4 c5
  go_wp2_with (fail)
  refine HLW.out.mono ?_
  rintro e w11 ⟨rfl, rfl⟩
  go_wp2_with (fail)
  refine HLH.out.mono ?_
  rintro e w12 ⟨rfl, hb12⟩
  have HB12 := Lib.hid (below_then HB10.out HB10.out.size hb12)
  have HCO := Lib.hid (code_calls (HE10.out.below hb12))
  rw [show codeOf (plc (21 : Nat) pSchema 0) .nilIface = 21 from rfl] at HCO
  clear hb12 HLH HLW
  go_wp2_with (fail)
  refine HCO.out.mono ?_
  rintro e w13 ⟨rfl, hb13⟩
  have HB13 := Lib.hid (below_then HB12.out HB12.out.size hb13)
  clear hb13 HCO
  go_wp2
  go_ret
  exact ⟨rfl, below_then HB3.out HB3.out.size HB13.out⟩
end Go.Proofs.YtjfekjbmgckkcaaGreatDoor.Law14B

/- the reference of layer 6: what is right; the union. -/
namespace Go.Proofs.YtjfekjbmgckkcaaGreatDoor.Ref06K
open Go.RowKit Go.Proofs.YtjfekjbmgckkcaaGreatDoorW.PrintWords
open Go.Proofs.YtjfekjbmgckkcaaGreatDoor.Base Go.Proofs.YtjfekjbmgckkcaaGreatDoor.SpanPure Go.Proofs.YtjfekjbmgckkcaaGreatDoor.SpanBase Go.Proofs.YtjfekjbmgckkcaaGreatDoor.SpanA Go.Proofs.YtjfekjbmgckkcaaGreatDoor.SpanB 

set_option maxRecDepth 100000 in
set_option maxHeartbeats 3200000 in
theorem check_calls (A : Option Addr) (c : Nat) (l : List Sp) (w : World) (hr : RdSp w A l) (hm : l.length ≤ 1000000000) :
    Calls Tryz.prog 151 #[.slice A l.length c] w fun e w' => e = .returned (.int .i64 (chk l)) ∧ Below w.heap.size w w' := by
  have HR := Lib.hid hr
  clear hr
  by_cases h1 : 1024 < l.length
  · rw [show chk l = 12 from if_pos h1]
    have d1 : decide ((l.length : Int) > 1024) = true := by simp; omega
    have d1' : decide (1024 < (l.length : Int)) = true := by simp; omega
    have d1n : decide (1024 < l.length) = true := by simp; omega
    go_enter Tryz.func151, Tryz.ntmps151
    go_wp2
    go_ret
    exact ⟨rfl, Below.refl _ _⟩
  have d1 : decide ((l.length : Int) > 1024) = false := by simp; omega
  have d1' : decide (1024 < (l.length : Int)) = false := by simp; omega
  have d1n : decide (1024 < l.length) = false := by simp; omega
  have HYES : Hid (rightF true 0 0 l = true → chk l = 0) := Lib.hid (fun h => by rw [chk, if_neg h1, if_pos h])
  have HNO : Hid (rightF true 0 0 l = false → Ending.returned (.int .i64 20) = .returned (.int .i64 (chk l))) := Lib.hid (fun h => by rw [chk, if_neg h1, h]; rfl)
  clear h1
  go_enter Tryz.func151, Tryz.ntmps151
  go_wp2
  go_loopw [3, 4, 5] (fun t n i wr => ∃ (k : Nat) (a m : Int), k ≤ l.length ∧ i = .int .i64 k ∧ t = .int .i64 a ∧ n = .int .i64 m ∧ -1048576 ≤ a ∧ a ≤ 1048577 ∧ 0 ≤ m ∧ m ≤ 4096 ∧ Hid (k = 0 → a = 0) ∧ Hid (rightF true 0 0 l = rightF (decide (k = 0)) a m (l.drop k)) ∧ Below w.heap.size w wr) (fun _ _ i _ => l.length - (intOf i).toNat)
  case atStart => exact ⟨0, 0, 0, by omega, rfl, rfl, rfl, by omega, by omega, by omega, by omega, Lib.hid (fun _ => rfl), Lib.hid rfl, Below.refl _ _⟩
  case round =>
    obtain ⟨k, a, m, hk, rfl, rfl, rfl, ha1, ha2, hm1, hm2, hz, hd, hb⟩ := hrel
    have HB := Lib.hid hb
    have hsz := hb.size
    by_cases hlt : k < l.length
    · obtain ⟨ad, hA, c0, c1⟩ := (HR.out.below hb).at_ k hlt
      subst hA
      have HD := Lib.hid (show l.drop k = l[k] :: l.drop (k + 1) from List.drop_eq_getElem_cons hlt)
      obtain ⟨s, hs⟩ : ∃ s, s = l[k] := ⟨_, rfl⟩
      rw [← hs] at c0 c1 HD
      obtain ⟨o, q⟩ := s
      simp only at c0 c1
      have HX := Lib.hid (right_step k a m o q (l.drop (k + 1)))
      have HZ : Hid (0 < k ∨ a = 0) := Lib.hid (by rcases Nat.eq_zero_or_pos k with h | h; exact .inr (hz.out h); exact .inl h)
      clear hs hb
      by_cases hg : -1048576 ≤ o ∧ o ≤ 2097152 ∧ (k = 0 → o ≤ 1048576) ∧ (0 < k → 0 ≤ o) ∧ 0 ≤ q ∧ q ≤ 4096
      · obtain ⟨g1, g2, g3, g4, g5, g6⟩ := hg
        obtain ⟨Q, rfl⟩ := Int.eq_ofNat_of_zero_le g5
        have t1 : decide (o < -1048576) = false := by simp; omega
        have t2 : decide (o > 2097152) = false := by simp; omega
        have t2' : decide (2097152 < o) = false := by simp; omega
        have t5 : decide ((Q : Int) < 0) = false := by simp
        have t6 : decide ((Q : Int) > 4096) = false := by simp; omega
        have t6' : decide (4096 < (Q : Int)) = false := by simp; omega
        have t6n : decide (4096 < Q) = false := by simp; omega
        have hz0 := HZ.out
        have ho1 : -1048576 ≤ a + o ∨ True := .inr trivial
        have HK : Hid (∀ (K : Bool), K = decide (k = 0) → True) := Lib.hid (fun _ _ => trivial)
        by_cases hat : -1048576 ≤ a + o ∧ a + o ≤ 1048576
        · obtain ⟨D, hD⟩ : ∃ D, D = a + o := ⟨_, rfl⟩
          have HF : Hid (1048577 < D + (Q : Int) ∨ 4096 < m + (Q : Int) → rightF true 0 0 l = false) := Lib.hid (fun h => by
            rw [hd.out, HD.out, HX.out, decide_eq_false (by omega)]; rfl)
          have HT : Hid (D + (Q : Int) ≤ 1048577 → m + (Q : Int) ≤ 4096 → rightF true 0 0 l = rightF (decide (k + 1 = 0)) (D + (Q : Int)) (m + (Q : Int)) (l.drop (k + 1))) := Lib.hid (fun h h' => by
            rw [hd.out, HD.out, HX.out, decide_eq_true (by omega), ← hD]; rfl)
          rw [← hD] at hat
          obtain ⟨hat1, hat2⟩ := hat
          have u1 : decide (D < -1048576) = false := by simp; omega
          have u2 : decide (D > 1048576) = false := by simp; omega
          have u2' : decide (1048576 < D) = false := by simp; omega
          have hDD := hD
          have HCONT : Hid (∀ (wq : World), Below w.heap.size w wq → D + (Q : Int) ≤ 1048577 → m + (Q : Int) ≤ 4096 → ∃ (k' : Nat) (a' m' : Int), k' ≤ l.length ∧ Value.int .i64 ((k : Int) + 1) = .int .i64 k' ∧ Value.int .i64 (D + (Q : Int)) = .int .i64 a' ∧ Value.int .i64 (m + (Q : Int)) = .int .i64 m' ∧ -1048576 ≤ a' ∧ a' ≤ 1048577 ∧ 0 ≤ m' ∧ m' ≤ 4096 ∧ Hid (k' = 0 → a' = 0) ∧ Hid (rightF true 0 0 l = rightF (decide (k' = 0)) a' m' (l.drop k')) ∧ Below w.heap.size w wq) := Lib.hid (by
            intro wq h1 h2 h3
            exact ⟨k + 1, D + (Q : Int), m + (Q : Int), by omega, by go_num, rfl, rfl, by omega, by omega, by omega, by omega, Lib.hid (fun h => by omega), Lib.hid (HT.out h2 h3), h1⟩)
          clear hz HX HZ HD hd HK ho1 HT
          have HDD := Lib.hid hD
          obtain ⟨wo, rfl⟩ : ∃ wo : World, wo = wr := ⟨_, rfl⟩
          have hcase : (((k : Int) == 0) = true ∧ decide ((k : Int) > 0) = false ∧ decide (0 < (k : Int)) = false ∧ decide (0 < k) = false ∧ decide (o > 1048576) = false ∧ decide (1048576 < o) = false) ∨
              (((k : Int) == 0) = false ∧ decide ((k : Int) > 0) = true ∧ decide (0 < (k : Int)) = true ∧ decide (0 < k) = true ∧ decide (o < 0) = false ∧ decide (0 > o) = false) := by
            by_cases hk0 : k = 0
            · have := g3 hk0
              left; simp; omega
            · have := g4 (by omega)
              right; simp; omega
          have hao1 : -1048576 ≤ a + o := by omega
          have hao2 : a + o ≤ 1048576 := by omega
          clear g3 g4 hz0 hD hDD
          rcases hcase with ⟨e1, e2, e3, e4, e5, e6⟩ | ⟨e1, e2, e3, e4, e5, e6⟩
          all_goals
            go_wp2_with (fail)
            rw [← HDD.out]
            go_loop [3, 4, 7] (fun t n i => ∃ j : Nat, j ≤ Q ∧ i = .int .i64 j ∧ t = .int .i64 (D + (j : Int)) ∧ n = .int .i64 (m + (j : Int)) ∧ D + (j : Int) ≤ 1048577) (fun _ _ i => Q - (intOf i).toNat)
            case atStart => exact ⟨0, by omega, rfl, by simp, by simp, by omega⟩
            case round =>
              obtain ⟨j, hj, rfl, rfl, rfl, hDj⟩ := hrel
              by_cases hjl : j < Q
              · by_cases hbig : D + (j : Int) = 1048577
                · have v1 : decide (D + (j : Int) > 1048576) = true := by simp; omega
                  have v1' : decide (1048576 < D + (j : Int)) = true := by simp; omega
                  have HN := Lib.hid (HNO.out (HF.out (.inl (by omega))))
                  clear hbig
                  go_wp2
                  go_ret
                  exact ⟨HN.out, HB.out.alloc hsz _⟩
                · have v1 : decide (D + (j : Int) > 1048576) = false := by simp; omega
                  have v1' : decide (1048576 < D + (j : Int)) = false := by simp; omega
                  have hbb : D + (j : Int) ≤ 1048576 := by omega
                  clear hbig
                  go_wp2
                  go_round
                  case rel => exact ⟨j + 1, by omega, by go_num, by go_num, by go_num, by omega⟩
                  case measure => simp [intOf]; omega
              · obtain rfl : j = Q := by omega
                by_cases hbig : 4096 < m + (j : Int)
                · have v1 : decide (m + (j : Int) > 4096) = true := by simp; omega
                  have v1' : decide (4096 < m + (j : Int)) = true := by simp; omega
                  have HN := Lib.hid (HNO.out (HF.out (.inr (by omega))))
                  clear hbig
                  go_wp2
                  go_ret
                  exact ⟨HN.out, HB.out.alloc hsz _⟩
                · have v1 : decide (m + (j : Int) > 4096) = false := by simp; omega
                  have v1' : decide (4096 < m + (j : Int)) = false := by simp; omega
                  have hbb : m + (j : Int) ≤ 4096 := by omega
                  clear hbig
                  go_wp2
                  go_roundw
                  case rel => exact HCONT.out _ (HB.out.alloc hsz _) hDj hbb
                  case measure => simp [intOf]; omega
        · have HN := Lib.hid (HNO.out (by rw [hd.out, HD.out, HX.out, decide_eq_false (by omega)]; rfl))
          have hcase : (((k : Int) == 0) = true ∧ decide ((k : Int) > 0) = false ∧ decide (0 < (k : Int)) = false ∧ decide (0 < k) = false ∧ decide (o > 1048576) = false ∧ decide (1048576 < o) = false) ∨
              (((k : Int) == 0) = false ∧ decide ((k : Int) > 0) = true ∧ decide (0 < (k : Int)) = true ∧ decide (0 < k) = true ∧ decide (o < 0) = false ∧ decide (0 > o) = false) := by
            by_cases hk0 : k = 0
            · have := g3 hk0
              left; simp; omega
            · have := g4 (by omega)
              right; simp; omega
          by_cases hlo : a + o < -1048576
          · have u1 : decide (a + o < -1048576) = true := by simpa using hlo
            clear g3 g4 hz0 hat hz hd HD HX HZ HK ho1 hlo
            rcases hcase with ⟨e1, e2, e3, e4, e5, e6⟩ | ⟨e1, e2, e3, e4, e5, e6⟩
            all_goals
              go_wp2
              go_ret
              exact ⟨HN.out, HB.out.alloc hsz _⟩
          · have u1 : decide (a + o < -1048576) = false := by simp; omega
            have u2 : decide (a + o > 1048576) = true := by simp; omega
            have u2' : decide (1048576 < a + o) = true := by simp; omega
            clear g3 g4 hz0 hat hz hd HD HX HZ HK ho1 hlo
            rcases hcase with ⟨e1, e2, e3, e4, e5, e6⟩ | ⟨e1, e2, e3, e4, e5, e6⟩
            all_goals
              go_wp2
              go_ret
              exact ⟨HN.out, HB.out.alloc hsz _⟩
      · have hz0 := HZ.out
        have HN := Lib.hid (HNO.out (by rw [hd.out, HD.out, HX.out, decide_eq_false (by omega)]; rfl))
        have HG := Lib.hid hg
        clear hz hd HD HX HZ hg hz0
        go_wp2
        all_goals first
          | (go_ret
             exact ⟨HN.out, HB.out.alloc hsz _⟩)
          | (exfalso
             exact HG.out (by omega))
    · obtain rfl : k = l.length := by omega
      have HF : Hid (chk l = 0) := Lib.hid (HYES.out (by rw [hd.out, List.drop_length]; rfl))
      clear hd hz hb
      go_wp2
      go_ret
      exact ⟨by rw [HF.out]; rfl, HB.out⟩
end Go.Proofs.YtjfekjbmgckkcaaGreatDoor.Ref06K
