/- crc's walks: Concat, Seal. -/
import Derived.Test.YtdcaoinhhdccoaaDoorCrcEq
namespace Go.Proofs.YtdcaoinhhdccoaaDoor.CrcConcat
open Go.RowKit Go.Proofs.YtdcaoinhhdccoaaDoorW.PrintWords
open Go.Proofs.YtdcaoinhhdccoaaDoor.Bits Go.Proofs.YtdcaoinhhdccoaaDoor.Base Go.Proofs.YtdcaoinhhdccoaaDoor.CrcPure Go.Proofs.YtdcaoinhhdccoaaDoor.CrcStep Go.Proofs.YtdcaoinhhdccoaaDoor.CrcGo Go.Proofs.YtdcaoinhhdccoaaDoor.CrcOpen Go.Proofs.YtdcaoinhhdccoaaDoor.CrcEq

abbrev Part := Option Addr × Nat × List UInt8
def tot (ps : List Part) : Nat := (ps.map fun p => p.2.2.length).sum
def joined (ps : List Part) : List UInt8 := ps.flatMap fun p => p.2.2
theorem tot_take (ps : List Part) (k : Nat) : tot (ps.take k) ≤ tot ps := by
  have h : tot (ps.take k) + tot (ps.drop k) = tot ps := by
    unfold tot
    rw [← List.sum_append, ← List.map_append, List.take_append_drop]
  omega
theorem tot_step (ps : List Part) (k : Nat) (h : k < ps.length) : tot (ps.take (k + 1)) = tot (ps.take k) + ps[k].2.2.length := by
  rw [List.take_succ_eq_append_getElem h]
  simp only [tot, List.map_append, List.sum_append, List.map_cons, List.map_nil, List.sum_cons, List.sum_nil, Nat.add_zero]
theorem joined_step (ps : List Part) (k : Nat) (h : k < ps.length) : joined (ps.take (k + 1)) = joined (ps.take k) ++ ps[k].2.2 := by
  rw [List.take_succ_eq_append_getElem h]
  simp only [joined, List.flatMap_append, List.flatMap_cons, List.flatMap_nil, List.append_nil]
theorem joined_length (ps : List Part) : (joined ps).length = tot ps := by simp [joined, tot, List.length_flatMap]

/-- a row of rows that is read. -/
def Rows2 (w : World) (ad : Addr) (ps : List Part) : Prop := ∀ j (h : j < ps.length), w.cell? (ad.add j) = some (.slice ps[j].1 ps[j].2.2.length ps[j].2.1) ∧ RdB w ps[j].1 ps[j].2.2
theorem Rows2.below {w w1 : World} {ad : Addr} {ps : List Part} (h : Rows2 w ad ps) (hb : Below w.heap.size w w1) : Rows2 w1 ad ps := fun j hj => ⟨pw_cell_below hb (h j hj).1, (h j hj).2.below hb⟩

set_option maxHeartbeats 800000 in
theorem concat_calls (ad : Addr) (c : Nat) (ps : List Part) (w : World) (hr : Rows2 w ad ps) (ht : tot ps ≤ 70368744177664) (hp : ps.length ≤ 1000) :
    Calls Tryd.prog 24 #[.slice (some ad) ps.length c] w fun e w' => ∃ v, e = .returned v ∧ OwB 5 w' w.heap.size v (joined ps) ∧ Below w.heap.size w w' := by
  have HR := Lib.hid hr
  clear hr
  go_enter Tryd.func24, Tryd.ntmps24
  go_wp2
  go_loop [3, 11] (fun x i => ∃ k : Nat, k ≤ ps.length ∧ i = .int .i64 k ∧ x = .int .i64 (tot (ps.take k))) (fun _ i => ps.length - (intOf i).toNat)
  case atStart => exact ⟨0, by omega, rfl, rfl⟩
  case round =>
    obtain ⟨k, hk, rfl, rfl⟩ := hrel
    by_cases hlt : k < ps.length
    · have hc := (HR.out k hlt).1
      have h1 := tot_take ps (k + 1)
      have HT := Lib.hid (tot_step ps k hlt)
      have h3 : tot (ps.take k) + ps[k].2.2.length ≤ 70368744177664 := by have := HT.out; omega
      obtain ⟨q, hq⟩ : ∃ q, q = tot (ps.take k) := ⟨_, rfl⟩
      obtain ⟨p, hpp⟩ : ∃ p, p = ps[k] := ⟨_, rfl⟩
      rw [← hq, ← hpp] at h3 HT
      rw [← hpp] at hc
      rw [← hq]
      clear hq hpp h1
      have h2 : decide ((q : Int) + (p.2.2.length : Int) < 0) = false := by simp; omega
      go_wp2
      go_round
      case rel => exact ⟨k + 1, by omega, by go_num, by rw [HT.out]; go_num⟩
      case measure => simp [intOf]; omega
    · obtain rfl : k = ps.length := by omega
      rw [List.take_length]
      clear hlt hk
      go_wp2_with (go_at_call 29; refine (grow_nil _ _ (by omega)).mono ?_; rintro e w1 ⟨v1, rfl, ho, hb⟩)
      have HO := Lib.hid ho
      have HB := Lib.hid hb
      clear ho hb
      go_loopw [6, 27] (fun v i wr => ∃ k : Nat, k ≤ ps.length ∧ i = .int .i64 k ∧ OwB 5 wr w.heap.size v (joined (ps.take k)) ∧ Below w.heap.size w wr) (fun _ i _ => ps.length - (intOf i).toNat)
      case atStart => exact ⟨0, by omega, rfl, HO.out, HB.out⟩
      case round =>
        clear HO HB
        obtain ⟨k, hk, rfl, ho, hb⟩ := hrel
        have HO := Lib.hid ho
        have HB := Lib.hid hb
        clear ho hb
        by_cases hlt : k < ps.length
        · have hr2 := HR.out.below HB.out
          have hc := (hr2 k hlt).1
          have HQ := Lib.hid (hr2 k hlt).2
          have h1 := tot_take ps (k + 1)
          have h4 := tot_step ps k hlt
          have h5 := joined_length (ps.take k)
          have h3 : (joined (ps.take k)).length + ps[k].2.2.length ≤ 70368744177664 := by omega
          have HJ := Lib.hid (joined_step ps k hlt)
          have hbs := HB.out.size
          clear h1 h4 h5 hr2
          obtain ⟨q, hq⟩ : ∃ q, q = joined (ps.take k) := ⟨_, rfl⟩
          obtain ⟨p, hpp⟩ : ∃ p, p = ps[k] := ⟨_, rfl⟩
          rw [← hq, ← hpp] at HJ h3
          rw [← hq] at HO
          rw [← hpp] at HQ hc
          clear hq hpp
          go_wp2_with (at_builtin; refine print_append_row (w0 := w) w.heap.size rfl _ _ 22 5 .u8 1 rfl Tryd.underlying22 info (by decide) _ (ints q) (ints p.2.2) p.1 p.2.2.length p.2.1 rfl rfl ?c1 ?c2 ?c3 ?c4 ?c5 ?_)
          case c1 => exact HO.out
          case c2 => exact HQ.out.rd
          case c3 => exact HB.out
          case c4 => omega
          case c5 => rw [ints_length]; omega
          intro v2 w2 ho2 hb2 _ _
          have HO2 := Lib.hid ho2
          have HB2 := Lib.hid hb2
          clear ho2 hb2
          go_wp2
          go_roundw
          case rel => exact ⟨k + 1, by omega, by go_num, by rw [HJ.out]; have := HO2.out; simpa [OwB, OwI, ints_append] using this, HB2.out⟩
          case measure => simp [intOf]; omega
        · obtain rfl : k = ps.length := by omega
          rw [List.take_length] at HO
          go_wp2
          go_ret
          exact ⟨_, rfl, HO.out, HB.out⟩

/-- bytes, and their sum. -/
def sealed (l : List UInt8) : List UInt8 := l ++ four (sum l)

theorem rows2_pair {w : World} {A B : Option Addr} {c d : Nat} {l m : List UInt8} (ha : RdB w A l) (hb : RdB w B m) :
    Rows2 (w.alloc (.cells #[.slice A l.length c, .slice B m.length d] 22)) ⟨w.heap.size, 0, none⟩ [(A, c, l), (B, d, m)] := by
  intro j hj
  have hn := blk_new w (.cells #[.slice A l.length c, .slice B m.length d] 22)
  match j, hj with
  | 0, _ => exact ⟨by rw [add_plain]; exact blk_cell hn 0, ha.alloc _⟩
  | 1, _ => exact ⟨by rw [add_plain]; exact blk_cell hn 1, hb.alloc _⟩

set_option maxHeartbeats 400000 in
theorem seal_calls (A : Option Addr) (c : Nat) (l : List UInt8) (w : World) (hr : RdB w A l) (hm : l.length ≤ 1000000) :
    Calls Tryd.prog 14 #[.slice A l.length c] w fun e w' => ∃ v, e = .returned v ∧ OwB 5 w' w.heap.size v (sealed l) ∧ Below w.heap.size w w' := by
  have HR := Lib.hid hr
  clear hr
  go_enter Tryd.func14, Tryd.ntmps14
  go_wp2_with fail
  refine (sum_calls A c l w HR.out (by omega)).mono ?_
  rintro e w' ⟨rfl, rfl⟩
  go_wp2_with fail
  refine (four_calls _ w).mono ?_
  rintro e w1 ⟨v, rfl, ho, hb⟩
  obtain ⟨B, d, rfl, hd, hq⟩ := ho.reads
  have HB := Lib.hid hb
  have HQ := Lib.hid hq
  clear ho hb hq hd
  have h4 : (four (sum l)).length = 4 := rfl
  have H4 := Lib.hid h4
  clear h4
  go_wp2_with fail
  refine (concat_calls ⟨w1.heap.size, 0, none⟩ 2 [(A, c, l), (B, d, four (sum l))] _ (rows2_pair (HR.out.below HB.out) HQ.out) (by have := H4.out; simp [tot]; omega) (by simp)).mono ?_
  rintro e w2 ⟨v, rfl, ho, hb⟩
  have hs := HB.out.size
  go_wp2
  go_ret
  refine ⟨_, rfl, ?_, ?_⟩
  · have := ho.lower (base' := w.heap.size) (by simp; omega)
    simpa [joined, sealed] using this
  · exact below_then (below_alloc HB.out _) (by simp; omega) hb
end Go.Proofs.YtdcaoinhhdccoaaDoor.CrcConcat
