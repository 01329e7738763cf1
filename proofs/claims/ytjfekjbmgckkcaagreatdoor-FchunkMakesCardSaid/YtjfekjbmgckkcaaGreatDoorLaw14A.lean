/- law 14: what its functions have in common: spans, few, bits, same, tells. -/
import Derived.Test.YtjfekjbmgckkcaaGreatDoorHeadK
import Derived.Test.YtjfekjbmgckkcaaGreatDoorHeadC
import Derived.Test.YtjfekjbmgckkcaaGreatDoorHeadG
import Derived.Test.YtjfekjbmgckkcaaGreatDoorVarKit
import Derived.Test.YtjfekjbmgckkcaaGreatDoorFailE
import Derived.Test.YtjfekjbmgckkcaaGreatDoorRef01
namespace Go.Proofs.YtjfekjbmgckkcaaGreatDoor.Law14A
open Go.RowKit Go.Proofs.YtjfekjbmgckkcaaGreatDoorW.PrintWords
open Go.Proofs.YtjfekjbmgckkcaaGreatDoor.Bits Go.Proofs.YtjfekjbmgckkcaaGreatDoor.Base Go.Proofs.YtjfekjbmgckkcaaGreatDoor.VarPure Go.Proofs.YtjfekjbmgckkcaaGreatDoor.VarKit Go.Proofs.YtjfekjbmgckkcaaGreatDoor.StreamA Go.Proofs.YtjfekjbmgckkcaaGreatDoor.StreamR Go.Proofs.YtjfekjbmgckkcaaGreatDoor.SpanPure Go.Proofs.YtjfekjbmgckkcaaGreatDoor.SpanBase Go.Proofs.YtjfekjbmgckkcaaGreatDoor.FailAs Go.Proofs.YtjfekjbmgckkcaaGreatDoor.FailB Go.Proofs.YtjfekjbmgckkcaaGreatDoor.FailC Go.Proofs.YtjfekjbmgckkcaaGreatDoor.HeadA Go.Proofs.YtjfekjbmgckkcaaGreatDoor.HeadB Go.Proofs.YtjfekjbmgckkcaaGreatDoor.HeadE Go.Proofs.YtjfekjbmgckkcaaGreatDoor.Ref01

theorem infoRs : (Tryz.prog.info? 214).map (fun i => (i.zero, i.size, i.bytes)) = some (some (.agg #[.int .i64 0, .int .i64 0]), 2, 16) := by kernel_rfl
set_option maxRecDepth 100000 in
set_option maxHeartbeats 800000 in
theorem spans_calls (A : Option Addr) (c : Nat) (l : List Sp) (w : World) (hr : RdSp w A l) (hm : l.length ≤ 1000000) :
    Calls Tryz.prog 78 #[.slice A l.length c] w fun e w' => ∃ v, e = .returned v ∧ OwSp 214 w' w.heap.size v l ∧ Below w.heap.size w w' := by
  have HR := Lib.hid hr
  clear hr
  go_enter Tryz.func78, Tryz.ntmps78
  go_wp2
  go_loopw [3, 8] (fun v i wr => ∃ (k : Nat), k ≤ l.length ∧ i = .int .i64 k ∧ OwSp 214 wr w.heap.size v (l.take k) ∧ Below w.heap.size w wr) (fun _ i _ => l.length - (intOf i).toNat)
  case atStart => exact ⟨0, by omega, rfl, OwSp.nil _ _ _, Below.refl _ _⟩
  case round =>
    obtain ⟨k, hk, rfl, ho, hb⟩ := hrel
    have HO := Lib.hid ho
    have HB := Lib.hid hb
    have hsz := hb.size
    by_cases hlt : k < l.length
    · obtain ⟨ad, hA, c0, c1⟩ := (HR.out.below hb).at_ k hlt
      subst hA
      have HT := Lib.hid (show l.take (k + 1) = l.take k ++ [l[k]] from List.take_succ_eq_append_getElem hlt)
      obtain ⟨s, hs⟩ : ∃ s, s = l[k] := ⟨_, rfl⟩
      rw [← hs] at c0 c1 HT
      obtain ⟨o, q⟩ := s
      simp only at c0 c1
      have hlk : (l.take k).length ≤ 1000000 := by rw [List.length_take]; omega
      obtain ⟨L, hL⟩ : ∃ L, L = l.take k := ⟨_, rfl⟩
      rw [← hL] at HO HT hlk
      clear hs ho hb hL
      go_wp2_with (at_builtin; refine append_span_at (w0 := w) w.heap.size rfl (.tmp 12) (.tmp 18) 39 214 16 rfl Tryz.underlying39 infoRs _ L o q rfl (wr.heap.size + 1) (by simp) rfl (by exact HO.out.below (below_alloc (Below.refl _ _) _)) (by exact below_alloc HB.out _) (by simp; omega) (by omega) (by omega) ?_; intro g cap w1 ho1 hb1 _ _; have HO1 := Lib.hid ho1; have HB1 := Lib.hid hb1; clear ho1 hb1)
      go_roundw
      case rel => exact ⟨k + 1, by omega, by go_num, by rw [HT.out]; exact HO1.out, HB1.out⟩
      case measure => simp [intOf]; omega
    · obtain rfl : k = l.length := by omega
      rw [List.take_length] at HO
      obtain ⟨A1, c1, rfl, -, -, -⟩ := HO.out.reads
      clear ho hb
      go_wp2
      go_ret
      exact ⟨_, rfl, HO.out, HB.out⟩

/-- what few counts. -/
def sizeF : Int → List Sp → Int
  | n, [] => n
  | n, s :: t => sizeF (n + (if 0 < s.2 then 1 + min s.2 5000 / 10 else 0) + 1) t
def fewF : Int → List Sp → Bool
  | _, [] => true
  | n, s :: t => decide (n + (if 0 < s.2 then 1 + min s.2 5000 / 10 else 0) + 1 ≤ 400) && fewF (n + (if 0 < s.2 then 1 + min s.2 5000 / 10 else 0) + 1) t
def few (l : List Sp) : Bool := fewF 0 l
theorem fewF_len (l : List Sp) : ∀ n, fewF n l = true → 0 ≤ n → n ≤ 400 → n + (l.length : Int) ≤ 400 := by
  induction l with
  | nil => intro n _ _ h; simpa using h
  | cons s t ih =>
    intro n h h0 h6
    simp only [fewF, Bool.and_eq_true, decide_eq_true_eq] at h
    have h1 : 0 ≤ (if 0 < s.2 then 1 + min s.2 5000 / 10 else 0) := by split <;> omega
    have := ih _ h.2 (by omega) h.1
    simp only [List.length_cons]
    omega
theorem few_len {l : List Sp} (h : few l = true) : l.length ≤ 400 := by
  have := fewF_len l 0 h (by decide) (by decide)
  omega
set_option maxHeartbeats 1600000 in
theorem few_calls (A : Option Addr) (c : Nat) (l : List Sp) (w : World) (hr : RdSp w A l) (hm : l.length ≤ 9223372036854775807) :
    Calls Tryz.prog 14 #[.slice A l.length c] w fun e w' => e = .returned (.bool (few l)) ∧ Below w.heap.size w w' := by
  have HR := Lib.hid hr
  clear hr
  go_enter Tryz.func14, Tryz.ntmps14
  go_wp2
  go_loopw [3, 8] (fun n i wr => ∃ (k : Nat) (m : Int), k ≤ l.length ∧ i = .int .i64 k ∧ n = .int .i64 m ∧ 0 ≤ m ∧ m ≤ 400 ∧ Hid (few l = fewF m (l.drop k)) ∧ Below w.heap.size w wr) (fun _ i _ => l.length - (intOf i).toNat)
  case atStart => exact ⟨0, 0, by omega, rfl, rfl, by omega, by omega, Lib.hid rfl, Below.refl _ _⟩
  case round =>
    obtain ⟨k, m, hk, rfl, rfl, hm0, hm6, ht, hb⟩ := hrel
    have HB := Lib.hid hb
    have hsz := hb.size
    by_cases hlt : k < l.length
    · obtain ⟨ad, hA, c0, c1⟩ := (HR.out.below hb).at_ k hlt
      subst hA
      have HD := Lib.hid (show l.drop k = l[k] :: l.drop (k + 1) from List.drop_eq_getElem_cons hlt)
      obtain ⟨s, hs⟩ : ∃ s, s = l[k] := ⟨_, rfl⟩
      rw [← hs] at c0 c1 HD
      obtain ⟨o, q⟩ := s
      simp only at c0 c1
      clear hs hb
      by_cases hq : 0 < q
      · have d1 : decide (q > 0) = true := by simpa using hq
        have d1' : decide (0 < q) = true := by simpa using hq
        by_cases hq5 : q ≤ 5000
        · have e5 : min q 5000 = q := by omega
          have HS : Hid (few l = (decide (m + (1 + q / 10) + 1 ≤ 400) && fewF (m + (1 + q / 10) + 1) (l.drop (k + 1)))) := Lib.hid (by rw [ht.out, HD.out, fewF, if_pos hq, e5])
          go_wp2
          all_goals first
            | (have HF : few l = false := by rw [HS.out, decide_eq_false (by omega)]; rfl
               go_ret
               exact ⟨by rw [HF]; rfl, HB.out.alloc hsz _⟩)
            | (have HF : few l = fewF (m + (1 + q / 10) + 1) (l.drop (k + 1)) := by rw [HS.out, decide_eq_true (by omega)]; rfl
               go_roundw
               case rel => exact ⟨k + 1, _, by omega, by go_num, rfl, by omega, by omega, Lib.hid HF, HB.out.alloc hsz _⟩
               case measure => simp [intOf]; omega)
        · have hq6 : 5000 < q := by omega
          have e5 : min q 5000 = 5000 := by omega
          have HS : Hid (few l = (decide (m + 501 + 1 ≤ 400) && fewF (m + 501 + 1) (l.drop (k + 1)))) := Lib.hid (by rw [ht.out, HD.out, fewF, if_pos hq, e5]; rfl)
          clear hq5
          go_wp2
          all_goals first
            | (have HF : few l = false := by rw [HS.out, decide_eq_false (by omega)]; rfl
               go_ret
               exact ⟨by rw [HF]; rfl, HB.out.alloc hsz _⟩)
            | (have HF : few l = fewF (m + 501 + 1) (l.drop (k + 1)) := by rw [HS.out, decide_eq_true (by omega)]; rfl
               go_roundw
               case rel => exact ⟨k + 1, _, by omega, by go_num, rfl, by omega, by omega, Lib.hid HF, HB.out.alloc hsz _⟩
               case measure => simp [intOf]; omega)
      · have d1 : decide (q > 0) = false := by simpa using hq
        have d1' : decide (0 < q) = false := by simpa using hq
        have HS : Hid (few l = (decide (m + 1 ≤ 400) && fewF (m + 1) (l.drop (k + 1)))) := Lib.hid (by rw [ht.out, HD.out, fewF, if_neg hq, Int.add_zero])
        clear hq
        go_wp2
        all_goals first
          | (have HF : few l = false := by rw [HS.out, decide_eq_false (by omega)]; rfl
             go_ret
             exact ⟨by rw [HF]; rfl, HB.out.alloc hsz _⟩)
          | (have HF : few l = fewF (m + 1) (l.drop (k + 1)) := by rw [HS.out, decide_eq_true (by omega)]; rfl
             go_roundw
             case rel => exact ⟨k + 1, _, by omega, by go_num, rfl, by omega, by omega, Lib.hid HF, HB.out.alloc hsz _⟩
             case measure => simp [intOf]; omega)
    · obtain rfl : k = l.length := by omega
      have HF : Hid (few l = true) := Lib.hid (by rw [ht.out, List.drop_length]; rfl)
      clear ht hb
      go_wp2
      go_ret
      exact ⟨by rw [HF.out]; rfl, HB.out⟩
theorem text_pack (l : List Bool) : (bts (str (pack l)).data.toList).take l.length = l := by
  rw [show (str (pack l)).data.toList = pack l from by simp [str], bts_pack _ _ rfl, List.take_left' rfl]

set_option maxHeartbeats 800000 in
theorem bits_calls (g : Nat) (S : Nat → Prop) (l : List Bool) (w : World) (h : Wr w g S l) (hm : l.length ≤ 1000000) :
    Calls Tryz.prog 24 #[.pointer (some ⟨g, 0, none⟩)] w fun e w' => e = .returned (.string (txt l)) ∧ Below w.heap.size w w' := by
  have HH := Lib.hid h
  have HBY := Lib.hid (bytes_calls g S l w h (by omega))
  have hpl := pack_length l
  have hss := str_size (pack l)
  have HTX := Lib.hid (text_pack l)
  have HLEN := Lib.hid (fun W (hb : Below w.heap.size w W) => len_calls g S l W (h.below hb))
  have HTE := Lib.hid (fun W => text_calls (str (pack l)) l.length W (by rw [hss, hpl]; omega) (by rw [hss, hpl]; omega))
  obtain ⟨s, hs⟩ : ∃ s, s = str (pack l) := ⟨_, rfl⟩
  rw [← hs] at HTX HTE hss
  have d1 : decide ((l.length : Int) < 0) = false := by simp
  have d2 : decide ((l.length : Int) > 8 * (s.size : Int)) = false := by simp; omega
  have d2' : decide (8 * (s.size : Int) < (l.length : Int)) = false := by simp; omega
  have HS := Lib.hid hs
  have hsz : s.size ≤ 1000000 := by omega
  clear h hs hss hpl
  go_enter Tryz.func24, Tryz.ntmps24
  go_wp2_with (fail)
  refine HBY.out.mono ?_
  rintro e w1 ⟨v, rfl, ho, hb⟩
  obtain ⟨D, d, rfl, hd, hr⟩ := ho.reads
  have hcv := RdB.string (P := Tryz.prog) (src := 51) (dst := 9) (e := 5) (c := d) hr rfl Tryz.underlying51 Tryz.underlying5 Tryz.underlying9
  rw [← HS.out] at hcv
  clear ho hr hd
  go_wp2_with (first | (go_at_call 21; refine (HLEN.out _ hb).mono ?_; rintro e w' ⟨rfl, rfl⟩) | (go_at_call 32; refine (HTE.out _).mono ?_; rintro e w' ⟨rfl, rfl⟩))
  go_ret
  exact ⟨by rw [HTX.out]; rfl, hb⟩

end Go.Proofs.YtjfekjbmgckkcaaGreatDoor.Law14A
