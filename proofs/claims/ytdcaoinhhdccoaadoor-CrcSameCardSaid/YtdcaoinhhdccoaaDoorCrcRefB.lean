/- the reference of layer 23: Burst. -/
import Derived.Test.YtdcaoinhhdccoaaDoorCrcRef
import Derived.Test.YtdcaoinhhdccoaaDoorCrcTurn
namespace Go.Proofs.YtdcaoinhhdccoaaDoor.CrcRefB
open Go.RowKit Go.Proofs.YtdcaoinhhdccoaaDoorW.PrintWords
open Go.Proofs.YtdcaoinhhdccoaaDoor.Bits Go.Proofs.YtdcaoinhhdccoaaDoor.Base Go.Proofs.YtdcaoinhhdccoaaDoor.Ref01 Go.Proofs.YtdcaoinhhdccoaaDoor.CrcPure Go.Proofs.YtdcaoinhhdccoaaDoor.CrcRef Go.Proofs.YtdcaoinhhdccoaaDoor.CrcTurn

theorem rb_msb (t : BitVec 32) (i : Nat) (h : i < 32) (h' : i < (rb t).length) : (rb t)[i]'h' = t.getMsbD i := by
  rw [rb_at t i h, BitVec.getMsbD]
  simp [h]
/-- are all the bits there that are named? -/
def fits (p n : Nat) (t : BitVec 32) : Prop := ∀ k, k < 32 → t.getMsbD k = true → p + k < n

set_option maxHeartbeats 400000 in
theorem burst_neg (s : ByteArray) (p : Int) (t : BitVec 32) (w : World) (hm : s.size ≤ 1000000) (hp : p < 0) :
    Calls Tryd.prog 19 #[.string s, .int .i64 p, .int .u32 (t.toNat : Int)] w fun e w' => e = .returned (.tuple #[.string ⟨#[]⟩, .int .i64 0]) ∧ w = w' := by
  have ht := text_calls s (8 * s.size) w (Nat.le_refl _) (by omega)
  have h8 : ((8 * s.size : Nat) : Int) = 8 * (s.size : Int) := by omega
  rw [h8] at ht
  have htl := t.isLt
  have hn := number_calls t.toNat 32 w (by omega) (by omega)
  have HT := Lib.hid ht
  have HN := Lib.hid hn
  obtain ⟨q, hq⟩ : ∃ q, q = t.toNat := ⟨_, rfl⟩
  rw [← hq] at HN htl ⊢
  have hql : (q : Int) ≤ 4294967295 := by omega
  have hd : decide (p < 0) = true := by simp; omega
  clear ht hn h8 htl hq
  go_enter Tryd.func19, Tryd.ntmps19
  go_wp2_with (first | (go_at_call 20; refine HT.out.mono ?_; rintro e w' ⟨rfl, rfl⟩) | (go_at_call 16; refine HN.out.mono ?_; rintro e w' ⟨rfl, rfl⟩))
  go_ret2
  exact ⟨rfl, rfl⟩

set_option maxHeartbeats 3200000 in
theorem burst_calls (s : ByteArray) (p : Nat) (t : BitVec 32) (w : World) (hm : s.size ≤ 1000000) (hp : p ≤ 9223372036854775807) :
    Calls Tryd.prog 19 #[.string s, .int .i64 p, .int .u32 (t.toNat : Int)] w fun e w' =>
      (∀ _ : fits p (8 * s.size) t, e = .returned (.tuple #[.string (str (burst s.data.toList p t)), .int .i64 1])) ∧ (∀ _ : ¬ fits p (8 * s.size) t, e = .returned (.tuple #[.string ⟨#[]⟩, .int .i64 0])) ∧ Below w.heap.size w w' := by
  have hlen : (bts s.data.toList).length = 8 * s.size := by rw [bts_length, data_size]
  have ht := text_calls s (8 * s.size) w (Nat.le_refl _) (by omega)
  rw [List.take_of_length_le (by omega)] at ht
  obtain ⟨l, hl⟩ : ∃ l, l = bts s.data.toList := ⟨_, rfl⟩
  rw [← hl] at ht hlen
  have h8 : ((8 * s.size : Nat) : Int) = 8 * (s.size : Int) := by omega
  rw [h8] at ht
  have htl := t.isLt
  have hn := number_calls t.toNat 32 w (by omega) (by omega)
  obtain ⟨U, hU⟩ : ∃ U, U = nb t.toNat 32 := ⟨_, rfl⟩
  rw [← hU] at hn
  have hUl : U.length = 32 := by rw [hU]; exact nb_length _ _
  have hUa : ∀ i (h : i < U.length), U[i] = t.getMsbD i := by subst hU; intro i h; exact rb_msb t i (by omega) h
  have HT := Lib.hid ht
  have HN := Lib.hid hn
  have HL := Lib.hid hl
  have HLEN := Lib.hid hlen
  have HUA := Lib.hid hUa
  obtain ⟨q, hq⟩ : ∃ q, q = t.toNat := ⟨_, rfl⟩
  rw [← hq] at HN htl ⊢
  have hql : (q : Int) ≤ 4294967295 := by omega
  have hll : l.length ≤ 8000000 := by omega
  have hd : decide ((p : Int) < 0) = false := by simp
  have hlsz := txt_size l
  have hUsz : (txt U).size = 32 := by rw [txt_size, hUl]
  clear ht hn h8 htl hq hU hUa hl hlen
  go_enter Tryd.func19, Tryd.ntmps19
  go_wp2_with (first | (go_at_call 20; refine HT.out.mono ?_; rintro e w' ⟨rfl, rfl⟩) | (go_at_call 16; refine HN.out.mono ?_; rintro e w' ⟨rfl, rfl⟩))
  go_loopw [10, 11] (fun x i wr => ∃ k : Nat, k ≤ l.length ∧ i = .int .i64 k ∧ x = .string (txt ((turned l p t 32).take k)) ∧ Below w.heap.size w wr) (fun _ i _ => l.length - (intOf i).toNat)
  case atStart => exact ⟨0, by omega, rfl, rfl, Below.refl _ _⟩
  case round =>
    obtain ⟨k, hk, rfl, rfl, hb⟩ := hrel
    have HB := Lib.hid hb
    have hb0 := hb.size
    clear hb
    by_cases hlt : k < l.length
    · have hx1 := fun w => index_txt (P := Tryd.prog) 9 Tryd.underlying9 l k hlt w
      have hts : (txt ((turned l p t 32).take k)).size ≤ k := by rw [txt_size, List.length_take]; omega
      have hone := fun b => one_txt b wr
      have hos : ∀ b, (txt [b]).size = 1 := fun b => txt_size [b]
      have htg := turned_get l p t 32 k hlt
      have hgd : l.getD k false = l[k] := by simp [List.getD_eq_getElem?_getD, hlt]
      rw [hgd] at htg
      by_cases hpk : p ≤ k
      · have hd1 : decide ((k : Int) ≥ (p : Int)) = true := by simp; omega
        have hd1' : decide ((p : Int) ≤ (k : Int)) = true := by simp; omega
        by_cases h32 : k - p < 32
        · obtain ⟨j, hj⟩ : ∃ j, p + j = k := ⟨k - p, by omega⟩
          have hd2 : decide ((k : Int) - (p : Int) < 32) = true := by simp; omega
          have hidx : (k : Int) - (p : Int) = (j : Int) := by omega
          have hx2 : ∀ w, (Instr.index 9 (.string (txt U)) (.int .i64 ((k : Int) - (p : Int)))).run Tryd.prog w = .ok (.int .u8 (sg (t.getMsbD j))) w := fun w => by
            rw [hidx, ← HUA.out j (by omega)]
            exact index_txt 9 Tryd.underlying9 U j (by omega) w
          have hkj : k - p = j := by omega
          have e1 : (decide (p ≤ k) && decide (k < p + 32) && t.getMsbD (k - p)) = t.getMsbD j := by
            rw [hkj]
            have : decide (p ≤ k) = true := by simp; omega
            have h2 : decide (k < p + 32) = true := by simp; omega
            rw [this, h2]; rfl
          rw [e1] at htg
          have hs9 := sg_eq49 (t.getMsbD j)
          cases hv : t.getMsbD j with
          | true =>
            rw [hv] at htg hx2 hs9
            have HG := Lib.hid (take_bit htg)
            clear htg hgd e1 hkj hv hidx hj
            go_wp2_with (go_at_call 21; refine (turn_calls _ _).mono ?_; rintro e w' ⟨rfl, rfl⟩)
            go_roundw
            case rel => exact ⟨k + 1, by omega, by go_num, by rw [HG.out, txt_append, Bool.xor_true], below_alloc HB.out _⟩
            case measure => simp [intOf]; omega
          | false =>
            rw [hv] at htg hx2 hs9
            have HG := Lib.hid (take_bit htg)
            clear htg hgd e1 hkj hv hidx hj
            go_wp2
            go_roundw
            case rel => exact ⟨k + 1, by omega, by go_num, by rw [HG.out, txt_append, Bool.xor_false], below_alloc HB.out _⟩
            case measure => simp [intOf]; omega
        · have hd2 : decide ((k : Int) - (p : Int) < 32) = false := by simp; omega
          have e1 : (decide (p ≤ k) && decide (k < p + 32) && t.getMsbD (k - p)) = false := by
            have h2 : decide (k < p + 32) = false := by simp; omega
            rw [h2]; simp
          rw [e1] at htg
          have HG := Lib.hid (take_bit htg)
          clear htg hgd e1
          go_wp2
          go_roundw
          case rel => exact ⟨k + 1, by omega, by go_num, by rw [HG.out, txt_append, Bool.xor_false], below_alloc HB.out _⟩
          case measure => simp [intOf]; omega
      · have hd1 : decide ((k : Int) ≥ (p : Int)) = false := by simp; omega
        have hd1' : decide ((p : Int) ≤ (k : Int)) = false := by simp; omega
        have e1 : (decide (p ≤ k) && decide (k < p + 32) && t.getMsbD (k - p)) = false := by
          have h2 : decide (p ≤ k) = false := by simp; omega
          rw [h2]; simp
        rw [e1] at htg
        have HG := Lib.hid (take_bit htg)
        clear htg hgd e1
        go_wp2
        go_roundw
        case rel => exact ⟨k + 1, by omega, by go_num, by rw [HG.out, txt_append, Bool.xor_false], below_alloc HB.out _⟩
        case measure => simp [intOf]; omega
    · rw [List.take_of_length_le (by rw [turned_length]; omega)]
      go_wp2
      go_loop [13] (fun i => ∃ j : Nat, j ≤ 32 ∧ i = .int .i64 j ∧ Hid (∀ n, n < j → t.getMsbD n = true → p + n < l.length)) (fun i => 32 - (intOf i).toNat)
      case atStart => exact ⟨0, by omega, rfl, fun n hn => absurd hn (by omega)⟩
      case round =>
        obtain ⟨j, hj, rfl, hfit⟩ := hrel
        by_cases hj32 : j < 32
        · have hx2 : ∀ w, (Instr.index 9 (.string (txt U)) (.int .i64 (j : Int))).run Tryd.prog w = .ok (.int .u8 (sg (t.getMsbD j))) w := fun w => by
            rw [← HUA.out j (by omega)]
            exact index_txt 9 Tryd.underlying9 U j (by omega) w
          have hs9 := sg_eq49 (t.getMsbD j)
          cases hv : t.getMsbD j with
          | false =>
            rw [hv] at hx2 hs9
            have HF : Hid (∀ n, n < j + 1 → t.getMsbD n = true → p + n < l.length) := fun n hn h => by
              by_cases he : n = j
              · subst he; rw [hv] at h; cases h
              · exact hfit n (by omega) h
            clear hv
            go_wp2
            go_round
            case rel => exact ⟨j + 1, by omega, by go_num, HF⟩
            case measure => simp [intOf]; omega
          | true =>
            rw [hv] at hx2 hs9
            by_cases hin : p + j < l.length
            · have hd3 : decide ((j : Int) ≥ (l.length : Int) - (p : Int)) = false := by simp; omega
              have hd3' : decide ((l.length : Int) - (p : Int) ≤ (j : Int)) = false := by simp; omega
              have HF : Hid (∀ n, n < j + 1 → t.getMsbD n = true → p + n < l.length) := fun n hn h => by
                by_cases he : n = j
                · subst he; exact hin
                · exact hfit n (by omega) h
              clear hv
              go_wp2
              go_round
              case rel => exact ⟨j + 1, by omega, by go_num, HF⟩
              case measure => simp [intOf]; omega
            · have hd3 : decide ((j : Int) ≥ (l.length : Int) - (p : Int)) = true := by simp; omega
              have hd3' : decide ((l.length : Int) - (p : Int) ≤ (j : Int)) = true := by simp; omega
              have HNF : Hid (¬ fits p (8 * s.size) t) := fun hf => by
                have := hf j hj32 hv
                have := HLEN.out
                omega
              clear hv
              go_wp2
              go_ret2
              exact ⟨fun h => absurd h HNF.out, fun _ => rfl, HB.out⟩
        · obtain rfl : j = 32 := by omega
          have HF : Hid (fits p (8 * s.size) t) := fun n hn h => by
            have := hfit n hn h
            have := HLEN.out
            omega
          have hby := bytes_calls (turned l p t 32) wr (by rw [turned_length]; omega)
          have HBY := Lib.hid hby
          have hbu : pack (turned l p t 32) = burst s.data.toList p t := by rw [burst, HL.out]
          rw [hbu] at HBY
          clear hby hbu
          go_wp2_with (go_at_call 15; refine HBY.out.mono ?_; rintro e w3 ⟨rfl, hb3⟩; have HB3 := Lib.hid hb3; clear hb3)
          go_ret2
          exact ⟨fun _ => rfl, fun h => absurd HF.out h, below_then HB.out hb0 HB3.out⟩
end Go.Proofs.YtdcaoinhhdccoaaDoor.CrcRefB
