/- a head's bits are read again; what is read has just its bits: no program in sight. -/
import Derived.Test.YtjfekjbmgckkcaaGreatDoorHeadJ
import Derived.Test.YtjfekjbmgckkcaaGreatDoorVarKit
import Derived.Test.YtjfekjbmgckkcaaGreatDoorVarPure2
namespace Go.Proofs.YtjfekjbmgckkcaaGreatDoor.HeadK
open Go.RowKit
open Go.Proofs.YtjfekjbmgckkcaaGreatDoor.Bits Go.Proofs.YtjfekjbmgckkcaaGreatDoor.Base Go.Proofs.YtjfekjbmgckkcaaGreatDoor.VarPure Go.Proofs.YtjfekjbmgckkcaaGreatDoor.VarbitD Go.Proofs.YtjfekjbmgckkcaaGreatDoor.SpanPure Go.Proofs.YtjfekjbmgckkcaaGreatDoor.SpanBase Go.Proofs.YtjfekjbmgckkcaaGreatDoor.ThrPure Go.Proofs.YtjfekjbmgckkcaaGreatDoor.ReadP Go.Proofs.YtjfekjbmgckkcaaGreatDoor.HeadA Go.Proofs.YtjfekjbmgckkcaaGreatDoor.HeadB Go.Proofs.YtjfekjbmgckkcaaGreatDoor.HeadPure Go.Proofs.YtjfekjbmgckkcaaGreatDoor.HeadE Go.Proofs.YtjfekjbmgckkcaaGreatDoor.HeadF Go.Proofs.YtjfekjbmgckkcaaGreatDoor.HeadH Go.Proofs.YtjfekjbmgckkcaaGreatDoor.HeadJ

theorem pU_enc (x : Nat) (t : List Bool) (hx : x < 18446744073709551616) : pU (encU x ++ t) = ⟨0, x, (encU x).length, t⟩ := by
  have ho : okU (gU x) (nb x (behind (gU x))) = true := by unfold okU; rw [VarKit.encU_val x hx]; simp
  unfold pU
  simp only [VarKit.parse_encU]
  rw [if_pos ho, VarKit.encU_val x hx, encU_length]
theorem pS_enc (v : Int) (t : List Bool) (h1 : -9223372036854775808 ≤ v) (h2 : v ≤ 9223372036854775807) : pS (encS v ++ t) = ⟨0, v, (encS v).length, t⟩ := by
  have ho : okS (gS v) (nb (u64 v) (behind (gS v))) = true := by unfold okS; rw [VarKit.encS_val v h1 h2]; simp
  unfold pS
  simp only [VarKit.parse_encS]
  rw [if_pos ho, VarKit.encS_val v h1 h2, encS_length]
theorem val_lt64 {x : List Bool} {k : Nat} (hx : x.length = behind k) : val x < 18446744073709551616 := by
  have h1 := val_lt x
  have h2 : 2 ^ x.length ≤ 2 ^ 64 := Nat.pow_le_pow_right (by decide) (by rw [hx]; exact behind_le)
  omega
theorem enc_val {x : List Bool} {k : Nat} (hx : x.length = behind k) : enc k (val x) = ones k ++ x := by
  rw [enc, ← hx, nb_val]
theorem pU_inv {q : List Bool} (h : (pU q).err = 0) : q = encU (pU q).val ++ (pU q).rest ∧ (pU q).used = (encU (pU q).val).length ∧ (pU q).val < 18446744073709551616 := by
  unfold pU at h ⊢
  rcases hp : parse q with _ | ⟨k, x, t⟩
  · simp only [hp] at h
    cases h
  · simp only [hp] at h ⊢
    by_cases ho : okU k x = true
    · rw [if_pos ho]
      obtain ⟨hk, hq, hx⟩ := parse_some hp
      have hg : gU (val x) = k := of_decide_eq_true ho
      have e : encU (val x) = ones k ++ x := by rw [encU, hg, enc_val hx]
      refine ⟨?_, ?_, val_lt64 hx⟩
      · show q = encU (val x) ++ t
        rw [e, List.append_assoc]; exact hq
      · show front k + behind k = (encU (val x)).length
        rw [encU_length, hg]
    · rw [if_neg ho] at h
      cases h
theorem pS_inv {q : List Bool} (h : (pS q).err = 0) : q = encS (pS q).val ++ (pS q).rest ∧ (pS q).used = (encS (pS q).val).length ∧ -9223372036854775808 ≤ (pS q).val ∧ (pS q).val ≤ 9223372036854775807 := by
  unfold pS at h ⊢
  rcases hp : parse q with _ | ⟨k, x, t⟩
  · simp only [hp] at h
    cases h
  · simp only [hp] at h ⊢
    by_cases ho : okS k x = true
    · rw [if_pos ho]
      obtain ⟨hk, hq, hx⟩ := parse_some hp
      have hg : gS (sgd (val x) (behind k)) = k := of_decide_eq_true ho
      have e : encS (sgd (val x) (behind k)) = ones k ++ x := by rw [encS_sgd hk hx hg, enc_val hx]
      have hv : val x < 2 ^ behind k := by have := val_lt x; rwa [hx] at this
      refine ⟨?_, ?_, sgd_range _ _ hk hv⟩
      · show q = encS (sgd (val x) (behind k)) ++ t
        rw [e, List.append_assoc]; exact hq
      · show front k + behind k = (encS (sgd (val x) (behind k))).length
        rw [encS_length, hg]
    · rw [if_neg ho] at h
      cases h
theorem codeT_zero {v : Nat} (h : codeT v = 0) : v = 0 := by
  unfold codeT pw at h
  split at h
  · assumption
  · split at h
    · rename_i h2
      simp at h2
      omega
    · cases h
theorem codeT_mid {v : Nat} (h0 : codeT v ≠ 0) (h5 : codeT v ≠ 255) : v = (codeT v + 779) * 4503599627370496 := by
  unfold codeT pw at *
  split at h0
  · exact absurd rfl h0
  · rename_i hv
    rw [if_neg hv] at h5 ⊢
    split at h5
    · rename_i h2
      rw [if_pos h2]
      simp at h2
      omega
    · exact absurd rfl h5
theorem codeT_of {c : Nat} (h1 : 1 ≤ c) (h2 : c ≤ 254) : codeT ((c + 779) * 4503599627370496) = c := by
  have hp : pw ((c + 779) * 4503599627370496) = true := by
    unfold pw
    rw [decide_eq_true_eq]
    omega
  unfold codeT
  rw [if_neg (by omega), if_pos hp]
  omega
theorem parseT_enc (v : Nat) (t : List Bool) (hk : thrOk v = true) (hv : v < 18446744073709551616) : parseT (encT v ++ t) = (0, v, (encT v).length) := by
  have hc := codeT_lt v
  have hl : (nb (codeT v) 8).length = 8 := nb_length _ _
  have hval : val (nb (codeT v) 8) = codeT v := by rw [val_nb]; exact Nat.mod_eq_of_lt (by omega)
  by_cases h5 : codeT v = 255
  · have e : encT v = nb (codeT v) 8 ++ nb v 64 := by rw [encT, if_pos h5]
    have hl2 : (nb v 64).length = 64 := nb_length _ _
    have t8 : (encT v ++ t).take 8 = nb (codeT v) 8 := by rw [e, List.append_assoc, List.take_left' hl]
    have d8 : (encT v ++ t).drop 8 = nb v 64 ++ t := by rw [e, List.append_assoc, List.drop_left' hl]
    have hlen : (encT v ++ t).length = 72 + t.length := by rw [List.length_append, e, List.length_append, hl, hl2]
    have hv2 : val (nb v 64) = v := by rw [val_nb]; exact Nat.mod_eq_of_lt hv
    unfold parseT
    rw [hlen, if_neg (by omega), t8, hval, if_pos h5, if_neg (by omega), d8, List.take_left' hl2, hv2, if_neg (by rw [hk]; decide), if_neg (by rw [h5]; decide), e, List.length_append, hl, hl2]
  · have e : encT v = nb (codeT v) 8 := by rw [encT, if_neg h5, List.append_nil]
    have t8 : (encT v ++ t).take 8 = nb (codeT v) 8 := by rw [e, List.take_left' hl]
    have hlen : (encT v ++ t).length = 8 + t.length := by rw [List.length_append, e, hl]
    unfold parseT
    rw [hlen, if_neg (by omega), t8, hval, if_neg h5, e, hl]
    by_cases h0 : codeT v = 0
    · rw [if_pos h0, codeT_zero h0]
    · rw [if_neg h0, ← codeT_mid h0 h5]
theorem parseT_inv {q : List Bool} (h : (parseT q).1 = 0) : q = encT (parseT q).2.1 ++ q.drop (parseT q).2.2 ∧ (parseT q).2.2 = (encT (parseT q).2.1).length ∧ thrOk (parseT q).2.1 = true := by
  unfold parseT at h ⊢
  by_cases h8 : q.length < 8
  · rw [if_pos h8] at h; cases h
  rw [if_neg h8] at h ⊢
  have hl8 : (q.take 8).length = 8 := by rw [List.length_take]; omega
  have e8 : nb (val (q.take 8)) 8 = q.take 8 := by have := nb_val (q.take 8); rwa [hl8] at this
  have hlt := val_lt8 q
  by_cases h5 : val (q.take 8) = 255
  · rw [if_pos h5] at h ⊢
    by_cases h72 : q.length < 72
    · rw [if_pos h72] at h; cases h
    rw [if_neg h72] at h ⊢
    have hl64 : ((q.drop 8).take 64).length = 64 := by rw [List.length_take, List.length_drop]; omega
    by_cases hk : thrOk (val ((q.drop 8).take 64)) = false
    · rw [if_pos hk] at h; cases h
    rw [if_neg hk] at h ⊢
    by_cases hc : codeT (val ((q.drop 8).take 64)) ≠ 255
    · rw [if_pos hc] at h; cases h
    rw [if_neg hc] at h ⊢
    have hc := Decidable.not_not.1 hc
    have e64 : nb (val ((q.drop 8).take 64)) 64 = (q.drop 8).take 64 := by have := nb_val ((q.drop 8).take 64); rwa [hl64] at this
    have e : encT (val ((q.drop 8).take 64)) = q.take 8 ++ (q.drop 8).take 64 := by rw [encT, if_pos hc, hc, e64, ← h5, e8]
    refine ⟨?_, ?_, by simpa using hk⟩
    · simp only
      rw [e, List.append_assoc]
      have e1 : q.drop 72 = (q.drop 8).drop 64 := by rw [List.drop_drop]
      rw [e1, List.take_append_drop, List.take_append_drop]
    · simp only
      rw [e, List.length_append, hl8, hl64]
  · rw [if_neg h5] at h ⊢
    by_cases h0 : val (q.take 8) = 0
    · rw [if_pos h0]
      have e : encT 0 = q.take 8 := by rw [← e8, h0]; rfl
      refine ⟨?_, ?_, rfl⟩
      · simp only
        rw [e, List.take_append_drop]
      · simp only
        rw [e, hl8]
    · rw [if_neg h0]
      have hc := codeT_of (c := val (q.take 8)) (by omega) (by omega)
      have e : encT ((val (q.take 8) + 779) * 4503599627370496) = q.take 8 := by rw [encT, hc, if_neg h5, e8, List.append_nil]
      refine ⟨?_, ?_, ?_⟩
      · simp only
        rw [e, List.take_append_drop]
      · simp only
        rw [e, hl8]
      · simp only [thrOk, decide_eq_true_eq]
        omega
theorem pOne_enc (s : Sp) (t : List Bool) (h1 : -9223372036854775808 ≤ s.1) (h2 : s.1 ≤ 9223372036854775807) (h3 : 0 ≤ s.2) (h4 : s.2 ≤ 4096) : pOne (encSp1 s ++ t) = ⟨0, s, (encSp1 s).length, t⟩ := by
  have e : pU (encSp1 s ++ t) = ⟨0, s.2.toNat, (encU s.2.toNat).length, encS s.1 ++ t⟩ := by
    rw [encSp1, List.append_assoc]
    exact pU_enc _ _ (by omega)
  have e2 := pS_enc s.1 t h1 h2
  unfold pOne
  rw [e]
  simp only
  rw [e2]
  simp only
  rw [if_neg (by simp), if_neg (by omega), if_neg (by simp), encSp1, List.length_append, Int.toNat_of_nonneg h3]
theorem pOne_inv {q : List Bool} (h : (pOne q).err = 0) : q = encSp1 (pOne q).val ++ (pOne q).rest ∧ (pOne q).used = (encSp1 (pOne q).val).length := by
  unfold pOne at h ⊢
  by_cases h1 : (pU q).err ≠ 0
  · rw [if_pos h1] at h; exact absurd h h1
  rw [if_neg h1] at h ⊢
  by_cases h2 : 4096 < (pU q).val
  · rw [if_pos h2] at h; cases h
  rw [if_neg h2] at h ⊢
  by_cases h3 : (pS (pU q).rest).err ≠ 0
  · rw [if_pos h3] at h; exact absurd h h3
  rw [if_neg h3]
  obtain ⟨a1, a2, a3⟩ := pU_inv (Decidable.not_not.1 h1)
  obtain ⟨b1, b2, b3⟩ := pS_inv (Decidable.not_not.1 h3)
  simp only [encSp1, List.length_append, Int.toNat_natCast]
  refine ⟨?_, by omega⟩
  rw [List.append_assoc, ← b1]
  exact a1
theorem pSpans_enc : ∀ (l : List Sp) (t : List Bool), (∀ s ∈ l, -2097153 ≤ s.1 ∧ s.1 ≤ 2097152 ∧ 0 ≤ s.2 ∧ s.2 ≤ 4096) → pSpans l.length (encSps l ++ t) = ⟨0, l, (encSps l).length, t⟩
  | [], t, _ => rfl
  | s :: l, t, h => by
    obtain ⟨h1, h2, h3, h4⟩ := h s (List.mem_cons_self ..)
    have e : encSps (s :: l) ++ t = encSp1 s ++ (encSps l ++ t) := by
      show (encSp1 s ++ encSps l) ++ t = _
      rw [List.append_assoc]
    have e1 := pOne_enc s (encSps l ++ t) (by omega) (by omega) h3 h4
    have ih := pSpans_enc l t fun x hx => h x (List.mem_cons_of_mem _ hx)
    rw [List.length_cons, e, pSpans_ok _ _ (by rw [e1]), e1]
    simp only
    rw [ih]
    simp only
    rw [show encSps (s :: l) = encSp1 s ++ encSps l from rfl, List.length_append]
theorem pSpans_inv : ∀ (n : Nat) (q : List Bool), (pSpans n q).err = 0 → q = encSps (pSpans n q).val ++ (pSpans n q).rest ∧ (pSpans n q).used = (encSps (pSpans n q).val).length ∧ (pSpans n q).val.length = n
  | 0, q, _ => ⟨rfl, rfl, rfl⟩
  | n + 1, q, h => by
    by_cases h1 : (pOne q).err ≠ 0
    · rw [pSpans_err _ _ h1] at h
      exact absurd h h1
    · have h1 := Decidable.not_not.1 h1
      rw [pSpans_ok _ _ h1] at h ⊢
      obtain ⟨a1, a2, a3⟩ := pSpans_inv n _ h
      obtain ⟨b1, b2⟩ := pOne_inv h1
      refine ⟨?_, ?_, ?_⟩
      · show q = (encSp1 (pOne q).val ++ encSps (pSpans n (pOne q).rest).val) ++ _
        rw [List.append_assoc, ← a1]
        exact b1
      · show (pOne q).used + (pSpans n (pOne q).rest).used = (encSp1 (pOne q).val ++ encSps (pSpans n (pOne q).rest).val).length
        rw [List.length_append, a2, b2]
      · show (pSpans n (pOne q).rest).val.length + 1 = n + 1
        rw [a3]
theorem pGet_enc (l : List Sp) (t : List Bool) (h : sidesE l = 0) : pGet (encSp l ++ t) = ⟨0, l, (encSp l).length, t⟩ := by
  obtain ⟨h1, h2⟩ := sides_in h
  have e : pU (encSp l ++ t) = ⟨0, l.length, (encU l.length).length, encSps l ++ t⟩ := by
    rw [encSp, List.append_assoc]
    exact pU_enc _ _ (by omega)
  have e2 := pSpans_enc l t h2
  unfold pGet
  rw [e]
  simp only
  rw [e2]
  simp only
  rw [if_neg (by simp), if_neg (by omega), if_neg (by simp), if_neg (by simpa using h), encSp, List.length_append]
theorem pGet_inv {q : List Bool} (h : (pGet q).err = 0) : q = encSp (pGet q).val ++ (pGet q).rest ∧ (pGet q).used = (encSp (pGet q).val).length ∧ sidesE (pGet q).val = 0 := by
  unfold pGet at h ⊢
  by_cases h1 : (pU q).err ≠ 0
  · rw [if_pos h1] at h; exact absurd h h1
  rw [if_neg h1] at h ⊢
  by_cases h2 : 1024 < (pU q).val
  · rw [if_pos h2] at h; cases h
  rw [if_neg h2] at h ⊢
  by_cases h3 : (pSpans (pU q).val (pU q).rest).err ≠ 0
  · rw [if_pos h3] at h; exact absurd h h3
  rw [if_neg h3] at h ⊢
  by_cases h4 : sidesE (pSpans (pU q).val (pU q).rest).val ≠ 0
  · rw [if_pos h4] at h; exact absurd h h4
  rw [if_neg h4]
  obtain ⟨a1, a2, a3⟩ := pU_inv (Decidable.not_not.1 h1)
  obtain ⟨b1, b2, b3⟩ := pSpans_inv _ _ (Decidable.not_not.1 h3)
  simp only [encSp, List.length_append, b3]
  refine ⟨?_, by omega, Decidable.not_not.1 h4⟩
  rw [List.append_assoc, ← b1]
  exact a1
theorem pHead_enc (h : Hd) (t : List Bool) (he : (headErr h).1 = 0) (hz : h.zero < 18446744073709551616) : pHead (encH h ++ t) = ⟨0, pNeg, 0, h, (encH h).length, t⟩ := by
  obtain ⟨hv, hi0, hi3, hs0, hs8, hz1, hp, hn⟩ := err_zero he
  obtain ⟨vr, hint, schema, zt, pos, neg⟩ := h
  simp only at *
  obtain ⟨V, rfl⟩ := Int.eq_ofNat_of_zero_le (show 0 ≤ vr by omega)
  obtain ⟨I, rfl⟩ := Int.eq_ofNat_of_zero_le hi0
  have eH : encH ⟨(V : Int), (I : Int), schema, zt, pos, neg⟩ ++ t = nb ((2 * I + V) * 32) 8 ++ (encS schema ++ (encT zt ++ (encSp pos ++ (encSp neg ++ t)))) := by
    simp [encH, List.append_assoc]
  have eL : (encH ⟨(V : Int), (I : Int), schema, zt, pos, neg⟩).length = 8 + (encS schema).length + (encT zt).length + (encSp pos).length + (encSp neg).length := by
    simp [encH, nb_length]
    omega
  have hl : (nb ((2 * I + V) * 32) 8).length = 8 := nb_length _ _
  have hval : val (nb ((2 * I + V) * 32) 8) = (2 * I + V) * 32 := by rw [val_nb]; exact Nat.mod_eq_of_lt (by omega)
  have eS := pS_enc schema (encT zt ++ (encSp pos ++ (encSp neg ++ t))) (by omega) (by omega)
  have eT := parseT_enc zt (encSp pos ++ (encSp neg ++ t)) hz1 hz
  have eP := pGet_enc pos (encSp neg ++ t) hp
  have eN := pGet_enc neg t hn
  have hsh : shapeE schema = 0 := if_neg (by omega)
  have eB : pBegin (encH ⟨(V : Int), (I : Int), schema, zt, pos, neg⟩ ++ t) = ⟨0, pZero, 0, ⟨(V : Int), (I : Int), schema, zt, [], []⟩, 8 + (encS schema).length + (encT zt).length, encSp pos ++ (encSp neg ++ t)⟩ := by
    rw [eH]
    unfold pBegin
    rw [if_neg (by rw [List.length_append, hl]; omega), List.take_left' hl, List.drop_left' hl, hval, if_neg (by omega), eS]
    simp only
    rw [if_neg (by simp), if_neg (by simpa using hsh), eT]
    simp only
    rw [if_neg (by simp), List.drop_left' rfl, show (2 * I + V) * 32 / 32 % 2 = V from by omega, show (2 * I + V) * 32 / 64 = I from by omega]
  unfold pHead
  rw [eB]
  simp only
  rw [if_neg (by simp), eP]
  simp only
  rw [if_neg (by simp), eN]
  simp only
  rw [if_neg (by simp), eL]
theorem pHead_inv {q : List Bool} (h : (pHead q).err = 0) : q = encH (pHead q).val ++ (pHead q).rest ∧ (pHead q).used = (encH (pHead q).val).length ∧ (headErr (pHead q).val).1 = 0 ∧ (pHead q).val.zero < 18446744073709551616 := by
  unfold pHead at h ⊢
  by_cases h1 : (pBegin q).err ≠ 0
  · rw [if_pos h1] at h; exact absurd h h1
  rw [if_neg h1] at h ⊢
  by_cases h2 : (pGet (pBegin q).rest).err ≠ 0
  · rw [if_pos h2] at h; exact absurd h h2
  rw [if_neg h2] at h ⊢
  by_cases h3 : (pGet (pGet (pBegin q).rest).rest).err ≠ 0
  · rw [if_pos h3] at h; exact absurd h h3
  rw [if_neg h3]
  have h1 := Decidable.not_not.1 h1
  obtain ⟨p1, p2, p3⟩ := pGet_inv (Decidable.not_not.1 h2)
  obtain ⟨n1, n2, n3⟩ := pGet_inv (Decidable.not_not.1 h3)
  obtain ⟨P, hP⟩ : ∃ P, P = pGet (pBegin q).rest := ⟨_, rfl⟩
  rw [← hP] at p1 p2 p3 n1 n2 n3 ⊢
  obtain ⟨N, hN⟩ : ∃ N, N = pGet P.rest := ⟨_, rfl⟩
  rw [← hN] at n1 n2 n3 ⊢
  clear hP hN h h2 h3
  unfold pBegin at h1 p1 ⊢
  by_cases b1 : q.length < 8
  · rw [if_pos b1] at h1; cases h1
  rw [if_neg b1] at h1 p1 ⊢
  by_cases b2 : val (q.take 8) % 32 ≠ 0
  · rw [if_pos b2] at h1; cases h1
  rw [if_neg b2] at h1 p1 ⊢
  by_cases b3 : (pS (q.drop 8)).err ≠ 0
  · rw [if_pos b3] at h1; exact absurd h1 b3
  rw [if_neg b3] at h1 p1 ⊢
  by_cases b4 : shapeE (pS (q.drop 8)).val ≠ 0
  · rw [if_pos b4] at h1; exact absurd h1 b4
  rw [if_neg b4] at h1 p1 ⊢
  by_cases b5 : (parseT (pS (q.drop 8)).rest).1 ≠ 0
  · rw [if_pos b5] at h1; exact absurd h1 b5
  rw [if_neg b5] at p1 ⊢
  have b2 := Decidable.not_not.1 b2
  obtain ⟨s1, s2, s3⟩ := pS_inv (Decidable.not_not.1 b3)
  obtain ⟨t1, t2, t3⟩ := parseT_inv (Decidable.not_not.1 b5)
  have tin := parseT_in (pS (q.drop 8)).rest
  obtain ⟨Z, hZ⟩ : ∃ Z, Z = parseT (pS (q.drop 8)).rest := ⟨_, rfl⟩
  rw [← hZ] at t1 t2 t3 tin p1 ⊢
  have hl8 : (q.take 8).length = 8 := by rw [List.length_take]; omega
  have e8 : nb (val (q.take 8)) 8 = q.take 8 := by have := nb_val (q.take 8); rwa [hl8] at this
  have hlt := val_lt8 q
  obtain ⟨f, hf⟩ : ∃ f, f = val (q.take 8) := ⟨_, rfl⟩
  rw [← hf] at b2 e8 hlt ⊢
  have b4 := Decidable.not_not.1 b4
  simp only at p1 ⊢
  have hff : (2 * ((f / 64 : Nat) : Int).toNat + ((f / 32 % 2 : Nat) : Int).toNat) * 32 = f := by
    rw [Int.toNat_natCast, Int.toNat_natCast]
    omega
  refine ⟨?_, ?_, ?_, tin⟩
  · simp only [encH]
    rw [hff, e8, List.append_assoc, List.append_assoc, List.append_assoc, List.append_assoc, ← n1, ← p1, ← t1, ← s1, List.take_append_drop]
  · simp only [encH]
    rw [hff, e8]
    simp only [List.length_append, hl8]
    omega
  · have h1 : (¬ (((f / 32 % 2 : Nat) : Int) ≠ 0 ∧ ((f / 32 % 2 : Nat) : Int) ≠ 1)) := by omega
    have h2 : (¬ (((f / 64 : Nat) : Int) < 0 ∨ 3 < ((f / 64 : Nat) : Int))) := by omega
    unfold headErr
    simp only
    rw [if_neg h1, if_neg h2, if_neg (by simpa using b4), if_neg (by rw [t3]; decide), if_neg (by simpa using p3)]
    exact n3
end Go.Proofs.YtjfekjbmgckkcaaGreatDoor.HeadK
