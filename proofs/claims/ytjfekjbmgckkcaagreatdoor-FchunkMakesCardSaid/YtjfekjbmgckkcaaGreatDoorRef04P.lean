/- the reference of layer 4: the number at the beginning of a text of bits. -/
import Derived.Test.YtjfekjbmgckkcaaGreatDoorRef04
import Derived.Deep.RegionHeld3
namespace Go.Proofs.YtjfekjbmgckkcaaGreatDoor.Ref04
open Go.RowKit Go.Proofs.YtjfekjbmgckkcaaGreatDoorW.PrintWords
open Go.Proofs.YtjfekjbmgckkcaaGreatDoor.Bits Go.Proofs.YtjfekjbmgckkcaaGreatDoor.Base Go.Proofs.YtjfekjbmgckkcaaGreatDoor.VarPure Go.Proofs.YtjfekjbmgckkcaaGreatDoor.Ref01

theorem lead_spec (l : List Bool) : (∀ j, j < lead 8 l → ∃ h : j < l.length, l[j] = true) ∧ lead 8 l ≤ l.length ∧ (lead 8 l < 8 → lead 8 l < l.length → ∃ h : lead 8 l < l.length, l[lead 8 l] = false) := by
  have hh : ∀ (n : Nat) (y : List Bool), l = List.replicate n true ++ y → (∀ j, j < n → ∃ h : j < l.length, l[j] = true) ∧ n ≤ l.length := by
    intro n y hy
    have hl : l.length = n + y.length := by rw [hy, List.length_append, List.length_replicate]
    refine ⟨fun j hj => ⟨by omega, ?_⟩, by omega⟩
    have : l[j]? = some true := by rw [hy, List.getElem?_append_left (by simpa using hj), List.getElem?_replicate, if_pos hj]
    exact (List.getElem?_eq_some_iff.1 this).2
  rcases lead_split 8 l with ⟨h1, h2⟩ | ⟨y, hy⟩
  · obtain ⟨h3, h4⟩ := hh _ [] (by rw [List.append_nil]; exact h1)
    refine ⟨h3, h4, fun _ h5 => ?_⟩
    have := congrArg List.length h1
    rw [List.length_replicate] at this
    omega
  · obtain ⟨h3, h4⟩ := hh _ _ hy
    refine ⟨h3, h4, fun h5 h6 => ⟨h6, ?_⟩⟩
    obtain ⟨K, hK⟩ : ∃ K, K = lead 8 l := ⟨_, rfl⟩
    simp only [← hK] at hy h5 ⊢
    have : l[K]? = some false := by
      rw [hy, List.getElem?_append_right (by simp), List.length_replicate, if_pos h5, Nat.sub_self]
      rfl
    exact (List.getElem?_eq_some_iff.1 this).2

theorem cut_str {P : Program} (t : TypeId) (ht : P.underlying t = some .string) (s : ByteArray) (i j : Int) (h0 : 0 ≤ i) (h1 : i ≤ j) (h2 : j ≤ s.size) (w : World) :
    (Instr.slice t (.string s) (some (.int .i64 i)) (some (.int .i64 j)) none).run P w = .ok (.string (s.extract i.toNat j.toNat)) w := by
  exact run_slice_string w t s .i64 .i64 i j ht h0 h1 h2

set_option maxHeartbeats 1600000 in
theorem Parse_calls (l : List Bool) (w : World) (hl : l.length ≤ 1000000) :
    Calls Tryz.prog 164 #[.string (txt l)] w fun e w' => Below w.heap.size w w' ∧
      ((parse l = none ∧ e = .returned (.tuple #[.int .i64 (-1), .string (txt [])])) ∨ ∃ k x t, parse l = some (k, x, t) ∧ e = .returned (.tuple #[.int .i64 (front k + behind k : Nat), .string (txt x)])) := by
  obtain ⟨hl1, hl2, hl3⟩ := lead_spec l
  have hl8 := lead_le 8 l
  obtain ⟨K, hK⟩ : ∃ K, K = lead 8 l := ⟨_, rfl⟩
  have HPZ : Hid (parse l = if l.length < front K + behind K then none else some (K, (l.drop (front K)).take (behind K), l.drop (front K + behind K))) := by rw [hK]; rfl
  rw [← hK] at hl1 hl2 hl3 hl8
  have hs := txt_size l
  obtain ⟨s, hS⟩ : ∃ s, s = txt l := ⟨_, rfl⟩
  have HIX := Lib.hid (fun (k : Nat) (h : k < l.length) => index_txt (P := Tryz.prog) 9 Tryz.underlying9 l k h)
  rw [← hS] at hs HIX ⊢
  have HL1 := Lib.hid hl1
  have HL3 := Lib.hid hl3
  have HS := Lib.hid hS
  clear hl1 hl3 hK hS
  go_enter Tryz.func164, Tryz.ntmps164
  go_wp2
  go_loop [4] (fun i => ∃ k : Nat, k ≤ K ∧ i = .int .i64 k) (fun i => 9 - (intOf i).toNat)
  case atStart => exact ⟨0, by omega, rfl⟩
  case round =>
    obtain ⟨k, hk, rfl⟩ := hrel
    by_cases hlt : k < K
    · obtain ⟨hkl, hb⟩ := HL1.out k hlt
      have hix := HIX.out k hkl w
      rw [hb] at hix
      have d1 : decide ((k : Int) < 8) = true := by simp; omega
      have d1n : decide (k < 8) = true := by simp; omega
      have d2 : decide ((k : Int) < (l.length : Int)) = true := by simp; omega
      have d2n : decide (k < l.length) = true := by simp; omega
      have d3 : (sg true == 49) = true := rfl
      clear hb
      go_wp2
      go_round
      case rel => exact ⟨k + 1, by omega, by go_num⟩
      case measure => simp [intOf]; omega
    · obtain rfl : k = K := by omega
      have HB := Lib.hid (fun w1 (hb1 : Below w.heap.size w w1) => (behind_calls k w1 (by omega)).mono fun e w2 ⟨he, hb2⟩ => (⟨he, below_then hb1 hb1.size hb2⟩ : e = Ending.returned (.int .i64 (behind k)) ∧ Below w.heap.size w w2))
      have hb0 := Below.refl w.heap.size w
      have hb64 := behind_le (g := k)
      obtain ⟨b, hbb⟩ : ∃ b, b = behind k := ⟨_, rfl⟩
      rw [← hbb] at HB HPZ hb64
      have HBB := Lib.hid hbb
      clear hbb
      by_cases h8 : k < 8
      · have hf : front k = k + 1 := by rw [front, if_pos h8]
        have HF := Lib.hid hf
        have d1 : decide ((k : Int) < 8) = true := by simp; omega
        have d1n : decide (k < 8) = true := by simp; omega
        have d8 : ((k : Int) == 8) = false := by simp; omega
        clear hf
        by_cases hin : k < l.length
        · obtain ⟨hkl, hz⟩ := HL3.out h8 hin
          have hix := HIX.out k hkl w
          rw [hz] at hix
          have d2 : decide ((k : Int) < (l.length : Int)) = true := by simp; omega
          have d2n : decide (k < l.length) = true := by simp; omega
          have d3 : (sg false == 49) = false := rfl
          clear hz
          by_cases hfew : l.length < k + 1 + b
          · have e1 : decide ((l.length : Int) < (k : Int) + 1 + (b : Int)) = true := by simp; omega
            have e1n : decide (l.length < k + 1 + b) = true := by simp; omega
            go_wp2_with (go_at_call 154; refine (HB.out _ (by assumption)).mono ?_; rintro e w1 ⟨rfl, hb⟩)
            go_ret2
            refine ⟨by assumption, .inl ⟨?_, rfl⟩⟩
            rw [HPZ.out, HF.out, if_pos hfew]
          · have e1 : decide ((l.length : Int) < (k : Int) + 1 + (b : Int)) = false := by simp; omega
            have e1n : decide (l.length < k + 1 + b) = false := by simp; omega
            go_wp2_with (go_at_call 154; refine (HB.out _ (by assumption)).mono ?_; rintro e w1 ⟨rfl, hb⟩)
            have hle : (k : Int) + 1 + (b : Int) ≤ (l.length : Int) := by omega
            have hsl := fun W : World => cut_str (P := Tryz.prog) 9 Tryz.underlying9 s ((k : Int) + 1) ((k : Int) + 1 + b) (by omega) (by omega) (by omega) W
            have hsum : IntKind.i64.wrap ((k : Int) + 1 + (b : Int)) = (k : Int) + 1 + (b : Int) := by rw [IntKind.wrap_i64]; omega
            go_region_held3 (fun W => Below w.heap.size w W)
              (first | exact below_drew hb | assumption)
              (first | (go_at_call 154; refine (HB.out _ (by assumption)).mono ?_; rintro e w2 ⟨rfl, hb2⟩))
            all_goals
              go_wp2
              go_ret2
              refine ⟨by assumption, .inr ⟨_, _, _, by rw [HPZ.out, HF.out, if_neg hfew], ?_⟩⟩
              rw [← HBB.out]
              have hex := extract_txt l (k + 1) (k + 1 + b)
              rw [Nat.add_sub_cancel_left, ← HS.out] at hex
              rw [← hex, HF.out]
              rfl
        · have d2 : decide ((k : Int) < (l.length : Int)) = false := by simp; omega
          have d2n : decide (k < l.length) = false := by simp; omega
          have hfew : l.length < k + 1 + b := by omega
          have e1 : decide ((l.length : Int) < (k : Int) + 1 + (b : Int)) = true := by simp; omega
          have e1n : decide (l.length < k + 1 + b) = true := by simp; omega
          go_wp2_with (go_at_call 154; refine (HB.out _ (by assumption)).mono ?_; rintro e w1 ⟨rfl, hb⟩)
          go_ret2
          refine ⟨by assumption, .inl ⟨?_, rfl⟩⟩
          rw [HPZ.out, HF.out, if_pos hfew]
      · obtain rfl : k = 8 := by omega
        by_cases hfew : l.length < 8 + b
        · have e1 : decide ((l.length : Int) < 8 + (b : Int)) = true := by simp; omega
          have e1n : decide (l.length < 8 + b) = true := by simp; omega
          go_wp2_with (go_at_call 154; refine (HB.out _ (by assumption)).mono ?_; rintro e w1 ⟨rfl, hb⟩)
          go_ret2
          refine ⟨by assumption, .inl ⟨?_, rfl⟩⟩
          rw [HPZ.out, show front 8 = 8 from rfl, if_pos hfew]
        · have e1 : decide ((l.length : Int) < 8 + (b : Int)) = false := by simp; omega
          have e1n : decide (l.length < 8 + b) = false := by simp; omega
          go_wp2_with (go_at_call 154; refine (HB.out _ (by assumption)).mono ?_; rintro e w1 ⟨rfl, hb⟩)
          have hle : (8 : Int) + (b : Int) ≤ (l.length : Int) := by omega
          have hsl := fun W : World => cut_str (P := Tryz.prog) 9 Tryz.underlying9 s ((8 : Int)) ((8 : Int) + b) (by omega) (by omega) (by omega) W
          have hsum : IntKind.i64.wrap ((8 : Int) + (b : Int)) = (8 : Int) + (b : Int) := by rw [IntKind.wrap_i64]; omega
          go_region_held3 (fun W => Below w.heap.size w W)
            (first | exact below_drew hb | assumption)
            (first | (go_at_call 154; refine (HB.out _ (by assumption)).mono ?_; rintro e w2 ⟨rfl, hb2⟩))
          all_goals
            go_wp2
            go_ret2
            refine ⟨by assumption, .inr ⟨_, _, _, by rw [HPZ.out, show front 8 = 8 from rfl, if_neg hfew], ?_⟩⟩
            rw [← HBB.out]
            have hex := extract_txt l (8) (8 + b)
            rw [Nat.add_sub_cancel_left, ← HS.out] at hex
            rw [← hex, show front 8 = 8 from rfl]
            rfl
end Go.Proofs.YtjfekjbmgckkcaaGreatDoor.Ref04
