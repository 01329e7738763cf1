/- what FchunkAppends stands on, part 4. -/
import Derived.Test.YtjfekjbmgckkcaaGreatDoorPartFchunkAppendsC
import Derived.Test.YtjfekjbmgckkcaaGreatDoorPartFchunkAppendsB
import Derived.Test.YtjfekjbmgckkcaaGreatDoorPartFchunkAppendsA
import Derived.Test.YtjfekjbmgckkcaaGreatDoorProg
import Derived.ProofKit
import Derived.LaidMore
import Derived.Lib.LaidTab
import Derived.Test.YtjfekjbmgckkcaaGreatDoorRows
import Derived.Stop.LaidErr
namespace Go.Proofs.YtjfekjbmgckkcaaGreatDoor.Ref18B
open Go.RowKit Go.Proofs.YtjfekjbmgckkcaaGreatDoorW.PrintWords
open Go.Proofs.YtjfekjbmgckkcaaGreatDoor.Bits Go.Proofs.YtjfekjbmgckkcaaGreatDoor.Base Go.Proofs.YtjfekjbmgckkcaaGreatDoor.VarPure Go.Proofs.YtjfekjbmgckkcaaGreatDoor.VarbitA Go.Proofs.YtjfekjbmgckkcaaGreatDoor.VarKit Go.Proofs.YtjfekjbmgckkcaaGreatDoor.StreamA Go.Proofs.YtjfekjbmgckkcaaGreatDoor.SpanPure Go.Proofs.YtjfekjbmgckkcaaGreatDoor.SpanBase Go.Proofs.YtjfekjbmgckkcaaGreatDoor.FailAs Go.Proofs.YtjfekjbmgckkcaaGreatDoor.FailB Go.Proofs.YtjfekjbmgckkcaaGreatDoor.FailC Go.Proofs.YtjfekjbmgckkcaaGreatDoor.HeadA Go.Proofs.YtjfekjbmgckkcaaGreatDoor.HeadB Go.Proofs.YtjfekjbmgckkcaaGreatDoor.HeadC Go.Proofs.YtjfekjbmgckkcaaGreatDoor.HeadE Go.Proofs.YtjfekjbmgckkcaaGreatDoor.HeadPure Go.Proofs.YtjfekjbmgckkcaaGreatDoor.Ref01 Go.Proofs.YtjfekjbmgckkcaaGreatDoor.Ref12 Go.Proofs.YtjfekjbmgckkcaaGreatDoor.Ref13 Go.Proofs.YtjfekjbmgckkcaaGreatDoor.TimesPure Go.Proofs.YtjfekjbmgckkcaaGreatDoor.TimesA Go.Proofs.YtjfekjbmgckkcaaGreatDoor.XorPure Go.Proofs.YtjfekjbmgckkcaaGreatDoor.XorA Go.Proofs.YtjfekjbmgckkcaaGreatDoor.XorB Go.Proofs.YtjfekjbmgckkcaaGreatDoor.FcPure Go.Proofs.YtjfekjbmgckkcaaGreatDoor.FcObj Go.Proofs.YtjfekjbmgckkcaaGreatDoor.FsArg Go.Proofs.YtjfekjbmgckkcaaGreatDoor.FcC Go.Proofs.YtjfekjbmgckkcaaGreatDoor.FcD Go.Proofs.YtjfekjbmgckkcaaGreatDoor.FcI Go.Proofs.YtjfekjbmgckkcaaGreatDoor.HdArg Go.Proofs.YtjfekjbmgckkcaaGreatDoor.Ref14A Go.Proofs.YtjfekjbmgckkcaaGreatDoor.Ref14B Go.Proofs.YtjfekjbmgckkcaaGreatDoor.Ref18A Go.Proofs.YtjfekjbmgckkcaaGreatDoor.Law18D Go.Proofs.YtjfekjbmgckkcaaGreatDoor.Law14A
theorem enc_le {q : Hd} (he : (headErr q).1 = 0) : (encH q).length ≤ 400000 := by
  obtain ⟨-, -, -, -, -, -, g7, g8⟩ := err_zero he
  have h1 := encSp_le q.pos
  have h2 := encSp_le q.neg
  have h3 := encS_le q.schema
  have h4 := ThrPure.encT_length q.zero
  have h5 := (sides_in g7).1
  have h6 := (sides_in g8).1
  simp only [encH, List.length_append, nb_length]
  omega
set_option maxRecDepth 100000 in
set_option maxHeartbeats 3200000 in
theorem bits_calls (q : Hd) (p : Lc) (X : Option Addr) (cx : Nat) (xs : List FsX) (P N : Nat) (w : World) (hx : HdIn w q p) (he : (headErr q).1 = 0) (h : FsL w X xs) (hc : xs.length ≤ cx) (hcx : cx ≤ 9223372036854775807) (hw : ∀ y ∈ xs, (fsOf y).h.pc.length = P ∧ (fsOf y).h.nc.length = N) (hP : P ≤ 8192) (hN : N ≤ 8192) :
    Calls Tryz.prog 102 #[.agg (hcs q p).toArray, .slice X xs.length cx] w fun e w' => e = .returned (.string (txt (allBits q (xs.map fsOf)))) ∧ Below w.heap.size w w' := by
  obtain ⟨l, hl⟩ : ∃ l, l = xs.map fsOf := ⟨_, rfl⟩
  have hln : l.length = xs.length := by rw [hl, List.length_map]
  have HTX : Hid (txt (allBits q l) = txt (nb l.length 16 ++ encH q ++ bitsB l)) := Lib.hid (by unfold allBits chunkB; rw [List.append_assoc])
  rw [← hl, HTX.out]
  have h64 : ∀ s ∈ l, In64S s := fun s hs => by
    rw [hl] at hs
    obtain ⟨z, hz, rfl⟩ := List.mem_map.1 hs
    exact (h.el z hz).2.2
  have hvl : ∀ s ∈ l, (vals s.h).length ≤ 3 + P + N := fun s hs => by
    rw [hl] at hs
    obtain ⟨z, hz, rfl⟩ := List.mem_map.1 hs
    rw [vals_length, (hw z hz).1, (hw z hz).2]
    omega
  have hle := h.len
  have HSZ : Hid (∀ k, k ≤ l.length → (txt (nb l.length 16 ++ encH q ++ bitsB (l.take k))).size ≤ 2000000000) := Lib.hid (fun k hk => by
    have h1 := enc_le he
    have h2 := bitsB_le (m := 3 + P + N) (l.take k) (fun s hs => h64 s (List.mem_of_mem_take hs)) (fun s hs => hvl s (List.mem_of_mem_take hs))
    rw [List.length_take, Nat.min_eq_left hk] at h2
    have h3 : k * (72 + 77 * (3 + P + N)) ≤ 1000 * (72 + 77 * (3 + P + N)) := Nat.mul_le_mul_right _ (by omega)
    rw [txt_size, List.length_append, List.length_append, nb_length]
    omega)
  have HLS : Hid (∀ k, (hk : k < xs.length) → (txt (lastB (l.take k) (fsOf xs[k]))).size ≤ 2000000) := Lib.hid (fun k hk => by
    rw [txt_size]
    have hm : fsOf xs[k] ∈ l := by rw [hl]; exact List.mem_map_of_mem (List.getElem_mem hk)
    have h1 := lastB_le (l := l.take k) (s := fsOf xs[k]) (fun s hs => h64 s (List.mem_of_mem_take hs)) (h64 _ hm)
    have h2 := hvl _ hm
    omega)
  have HBS : Hid (∀ k, (hk : k < xs.length) → bitsB (l.take (k + 1)) = bitsB (l.take k) ++ lastB (l.take k) (fsOf xs[k])) := Lib.hid (fun k hk => by
    rw [List.take_succ_eq_append_getElem (by rw [hln]; exact hk), bitsB_snoc]
    congr 2
    simp only [hl, List.getElem_map])
  have HLC : Hid (∀ W, Below w.heap.size w W → ∀ k, (hk : k < xs.length) → Calls Tryz.prog 167 #[.slice X (k + 1 : Nat) cx] W fun e w' => e = .returned (.string (txt (lastB (l.take k) (fsOf xs[k])))) ∧ Below w.heap.size w w') := Lib.hid (fun W hb k hk => by
    have hf := (h.below hb).take (k + 1)
    rw [List.take_succ_eq_append_getElem hk] at hf
    have := last_calls X cx (xs.take k) xs[k] P N W hf (fun y hy => by
      rcases List.mem_append.1 hy with hy | hy
      · exact hw y (List.mem_of_mem_take hy)
      · rw [List.mem_singleton.1 hy]; exact hw _ (List.getElem_mem hk)) hP hN
    rw [show ((xs.take k).length + 1 : Nat) = k + 1 from by rw [List.length_take]; omega] at this
    refine this.mono ?_
    rintro e w' ⟨rfl, hb'⟩
    exact ⟨by rw [hl, List.map_take], below_then hb hb.size hb'⟩)
  have HB := Lib.hid (fun W (h : Below w.heap.size w W) => Bits14_calls q p W (hx.below h) he)
  obtain ⟨n, hn⟩ : ∃ n, n = xs.length := ⟨_, rfl⟩
  have hnl : l.length = n := by omega
  rw [hnl] at HSZ ⊢
  have hn1000 : n ≤ 1000 := by omega
  have HNU : Hid (∀ W, Calls Tryz.prog 80 #[.int .u64 n, .int .i64 16] W fun e w' => e = .returned (.string (txt (nb n 16))) ∧ W = w') := Lib.hid (fun W => number_calls n 16 W (by omega) (by decide))
  have hu := wrap_u64n (n := n) (by omega)
  have hXA : n ≠ 0 → ∃ ad, X = some ad := fun h0 => by
    obtain ⟨ad, hA, -⟩ := h.elem 0 (by omega)
    exact ⟨ad, hA⟩
  have HXA := Lib.hid hXA
  have HT0 : Hid (txt (nb n 16 ++ encH q ++ bitsB (l.take 0)) = txt (nb n 16) ++ txt (encH q)) := Lib.hid (by
    rw [List.take_zero, bitsB_nil, List.append_nil, txt_append])
  have z1 : (txt (nb n 16)).size ≤ 16 := by rw [txt_size, nb_length]; omega
  have z2 : (txt (encH q)).size ≤ 400000 := by rw [txt_size]; exact enc_le he
  rw [← hn]
  rw [← hn] at hc
  have HN2 := Lib.hid hn
  have HCX := Lib.hid hcx
  obtain ⟨sN, hsN⟩ : ∃ s, s = txt (nb n 16) := ⟨_, rfl⟩
  obtain ⟨sE, hsE⟩ : ∃ s, s = txt (encH q) := ⟨_, rfl⟩
  rw [← hsN] at z1 HNU HT0
  rw [← hsE] at z2 HB HT0
  have n1 : ¬ (9223372036854775807 < sN.size + sE.size) := by omega
  have HNL := Lib.hid hnl
  obtain ⟨F, hF⟩ : ∃ F : Nat → ByteArray, F = fun k => txt (nb n 16 ++ encH q ++ bitsB (l.take k)) := ⟨_, rfl⟩
  have HF0 : Hid (F 0 = sN ++ sE) := Lib.hid (by rw [hF]; exact HT0.out)
  have HFS : Hid (∀ k, (hk : k < xs.length) → F (k + 1) = F k ++ txt (lastB (l.take k) (fsOf xs[k]))) := Lib.hid (fun k hk => by
    rw [hF]
    show txt _ = txt _ ++ txt _
    rw [HBS.out k hk, ← txt_append, List.append_assoc, List.append_assoc, List.append_assoc])
  have HFZ : Hid (∀ k, k ≤ n → (F k).size ≤ 2000000000) := Lib.hid (fun k hk => by rw [hF]; exact HSZ.out k hk)
  have HFN : Hid (txt (nb n 16 ++ encH q ++ bitsB l) = F n) := Lib.hid (by
    rw [hF]
    show _ = txt (_ ++ _ ++ bitsB (l.take n))
    rw [List.take_of_length_le (by rw [HNL.out]; exact Nat.le_refl _)])
  rw [HFN.out]
  obtain ⟨vr, hint, schema, zt, pos, neg⟩ := q
  obtain ⟨A, c, B, d⟩ := p
  obtain ⟨W0, hW0, hbk, hal⟩ : ∃ W : World, W = w.alloc (.cells #[.int .i64 vr, .int .i64 hint, .int .i64 schema, .int .u64 zt, .slice A pos.length c, .slice B neg.length d] 41) ∧ W.heap[w.heap.size]? = some (.cells #[.int .i64 vr, .int .i64 hint, .int .i64 schema, .int .u64 zt, .slice A pos.length c, .slice B neg.length d] 41 (0, 0)) ∧ Below w.heap.size w W := ⟨_, rfl, blk_last w _, below_alloc (Below.refl _ _) _⟩
  have HS : Hid (∀ W : World, Below W0.heap.size W0 W → (Below W0.heap.size W0 W ∧ W.cell? ⟨w.heap.size, 0, none⟩ = some (.int .i64 vr) ∧ W.cell? ⟨w.heap.size, 1, none⟩ = some (.int .i64 hint) ∧ W.cell? ⟨w.heap.size, 2, none⟩ = some (.int .i64 schema) ∧ W.cell? ⟨w.heap.size, 3, none⟩ = some (.int .u64 zt) ∧ W.cell? ⟨w.heap.size, 4, none⟩ = some (.slice A pos.length c) ∧ W.cell? ⟨w.heap.size, 5, none⟩ = some (.slice B neg.length d))) := Lib.hid (fun W h => by
    have hb := (h.block _ (blk_lt hbk)).trans hbk
    exact ⟨h, obj_cell hb rfl, obj_cell hb rfl, obj_cell hb rfl, obj_cell hb rfl, obj_cell hb rfl, obj_cell hb rfl⟩)
  have HB : Hid (∀ W, Below W0.heap.size W0 W → Calls Tryz.prog 23 #[.agg #[.int .i64 vr, .int .i64 hint, .int .i64 schema, .int .u64 zt, .slice A pos.length c, .slice B neg.length d]] W fun e w' => e = .returned (.string sE) ∧ Below W0.heap.size W0 w') := Lib.hid (fun W h => lift h h.size (HB.out W (below_then hal hal.size h)))
  have HW0 := Lib.hid hW0
  have HAL := Lib.hid hal
  have hs0 := HS.out W0 (Below.refl _ _)
  clear hx he hsN hsE hbk hal hW0 z1 z2 HTX HSZ HBS hw hP hN h64 hvl h hF hXA hln hn hcx hnl hle hl
  show Calls Tryz.prog 102 #[.agg #[.int .i64 vr, .int .i64 hint, .int .i64 schema, .int .u64 zt, .slice A pos.length c, .slice B neg.length d], .slice X n cx] w _
  go_enter Tryz.func102, Tryz.ntmps102
  go_wp2_with (fail)
  rw [← HW0.out]
  go_region_held3 (fun W => Below W0.heap.size W0 W ∧ W.cell? ⟨w.heap.size, 0, none⟩ = some (.int .i64 vr) ∧ W.cell? ⟨w.heap.size, 1, none⟩ = some (.int .i64 hint) ∧ W.cell? ⟨w.heap.size, 2, none⟩ = some (.int .i64 schema) ∧ W.cell? ⟨w.heap.size, 3, none⟩ = some (.int .u64 zt) ∧ W.cell? ⟨w.heap.size, 4, none⟩ = some (.slice A pos.length c) ∧ W.cell? ⟨w.heap.size, 5, none⟩ = some (.slice B neg.length d))
    (first | (with_reducible exact HS.out _ (below_drew (Below.refl _ _))) | (with_reducible exact HS.out _ hb2) | assumption)
    (first
    | (go_at_call 80; refine (HNU.out _).mono ?_; rintro e w1 ⟨rfl, rfl⟩)
    | (go_at_call 23; refine (HB.out _ (And.left (by assumption))).mono ?_; rintro e w2 ⟨rfl, hb2⟩; have hs2 := HS.out _ hb2))
  have B2 := Lib.hid (below_then HAL.out HAL.out.size hb2)
  clear hb2 hs2 hs0
  rw [← HF0.out]
  go_wp2
  go_loopw [5, 6] (fun t i wr => ∃ k : Nat, k ≤ n ∧ i = .int .i64 k ∧ t = .string (F k) ∧ Hid (Below w.heap.size w wr)) (fun _ i _ => n - (intOf i).toNat)
  case atStart => exact ⟨0, by omega, rfl, rfl, B2⟩
  case round =>
    obtain ⟨k, hk, rfl, rfl, HBK⟩ := hrel
    by_cases hlt : k < n
    · have hkx : k < xs.length := by rw [← HN2.out]; exact hlt
      obtain ⟨ad, hA⟩ := HXA.out (by omega)
      subst hA
      have HL := Lib.hid (HLC.out _ HBK.out k hkx)
      have HFK := Lib.hid (HFS.out k hkx)
      have hz := HLS.out k hkx
      have hz2 := HFZ.out k (by omega)
      go_wp2_with (fail)
      refine HL.out.mono ?_
      rintro e w3 ⟨rfl, hb3⟩
      have B3 := Lib.hid hb3
      clear hb3
      go_wp2_with (fail)
      go_roundw
      case rel => exact ⟨k + 1, by omega, by go_num, by rw [HFK.out], B3⟩
      case measure => simp [intOf]; omega
    · obtain rfl : k = n := by omega
      go_wp2
      go_ret
      exact ⟨rfl, HBK.out⟩
end Go.Proofs.YtjfekjbmgckkcaaGreatDoor.Ref18B
namespace Go.Proofs.YtjfekjbmgckkcaaGreatDoor.Ref10E
open Go.RowKit Go.Proofs.YtjfekjbmgckkcaaGreatDoorW.PrintWords
open Go.Proofs.YtjfekjbmgckkcaaGreatDoor.Bits Go.Proofs.YtjfekjbmgckkcaaGreatDoor.Base Go.Proofs.YtjfekjbmgckkcaaGreatDoor.VarPure Go.Proofs.YtjfekjbmgckkcaaGreatDoor.VarbitA Go.Proofs.YtjfekjbmgckkcaaGreatDoor.VarKit Go.Proofs.YtjfekjbmgckkcaaGreatDoor.StreamA Go.Proofs.YtjfekjbmgckkcaaGreatDoor.SpanPure Go.Proofs.YtjfekjbmgckkcaaGreatDoor.SpanBase Go.Proofs.YtjfekjbmgckkcaaGreatDoor.FailAs Go.Proofs.YtjfekjbmgckkcaaGreatDoor.FailB Go.Proofs.YtjfekjbmgckkcaaGreatDoor.FailC Go.Proofs.YtjfekjbmgckkcaaGreatDoor.HeadA Go.Proofs.YtjfekjbmgckkcaaGreatDoor.HeadB Go.Proofs.YtjfekjbmgckkcaaGreatDoor.HeadC Go.Proofs.YtjfekjbmgckkcaaGreatDoor.HeadE Go.Proofs.YtjfekjbmgckkcaaGreatDoor.HeadPure Go.Proofs.YtjfekjbmgckkcaaGreatDoor.Ref01 Go.Proofs.YtjfekjbmgckkcaaGreatDoor.Ref12 Go.Proofs.YtjfekjbmgckkcaaGreatDoor.Ref13 Go.Proofs.YtjfekjbmgckkcaaGreatDoor.FcPure Go.Proofs.YtjfekjbmgckkcaaGreatDoor.FcObj Go.Proofs.YtjfekjbmgckkcaaGreatDoor.XorA
set_option maxHeartbeats 1600000 in
theorem at_calls (A C : Option Addr) (ca cc : Nat) (l n : List Int) (i : Nat) (w : World) (h1 : RdI .i64 w A l) (h2 : RdI .u64 w C n) (hl : l.length = n.length) (hm : l.length ≤ 1000000000) (hi : i < l.length) (hnd : l.Nodup) :
    Calls Tryz.prog 212 #[.slice A l.length ca, .slice C n.length cc, .int .i64 l[i]] w fun e w' => e = .returned (.int .u64 (n.getD i 0)) ∧ w = w' := by
  have HND : Hid (∀ k, (hk : k < l.length) → k ≠ i → (l[k] == l[i]) = false) := Lib.hid (fun k hk hne => by
    rw [beq_eq_false_iff_ne]
    intro he
    exact hne ((List.getElem_inj hnd).1 he))
  have H1 : Hid (∀ k, (hk : k < l.length) → ∃ ad, A = some ad ∧ w.cell? (ad.add k) = some (.int .i64 l[k])) := Lib.hid (fun k hk => RdI.at_ h1 k hk)
  obtain ⟨bd, hB, hc2⟩ := RdI.at_ h2 i (by omega)
  subst hB
  obtain ⟨x, hx⟩ : ∃ x, x = l[i] := ⟨_, rfl⟩
  obtain ⟨y, hy⟩ : ∃ y, y = n.getD i 0 := ⟨_, rfl⟩
  rw [← hx, ← hy]
  rw [show n[i]'(by omega) = y from by rw [hy, List.getD_eq_getElem?_getD, List.getElem?_eq_getElem (by omega)]; rfl] at hc2
  have HX := Lib.hid hx
  rw [← hl]
  obtain ⟨q, hq⟩ : ∃ q, q = l.length := ⟨_, rfl⟩
  have HQ := Lib.hid hq
  rw [← hq] at hm hi ⊢
  have i1 : (i : Int) < (q : Int) := by omega
  clear h1 h2 hl hnd hx hy hq
  go_enter Tryz.func212, Tryz.ntmps212
  go_wp2
  go_loop [7] (fun t => ∃ k : Nat, k ≤ i ∧ t = .int .i64 k) (fun t => i - (intOf t).toNat)
  case atStart => exact ⟨0, by omega, rfl⟩
  case round =>
    obtain ⟨k, hk, rfl⟩ := hrel
    have hkl : k < l.length := by rw [← HQ.out]; omega
    have hkq : k < q := by omega
    have hkq2 : (k : Int) < (q : Int) := by omega
    obtain ⟨ad, hA, c0⟩ := H1.out k hkl
    subst hA
    by_cases he : k = i
    · subst he
      rw [← HX.out] at c0
      have e1 : (x == x) = true := by simp
      go_wp2
      go_ret
      exact ⟨rfl, rfl⟩
    · have e1 := HND.out k hkl he
      rw [← HX.out] at e1
      obtain ⟨z, hz⟩ : ∃ z, z = l[k] := ⟨_, rfl⟩
      rw [← hz] at c0 e1
      clear hz
      go_wp2
      go_round
      case rel => exact ⟨k + 1, by omega, by go_num⟩
      case measure => simp [intOf]; omega
theorem dr_more {w W : World} (h : Drawn0 w W) (n : Nat) : Drawn0 w (W.drewN n) := by
  obtain ⟨m, rfl⟩ := h
  exact ⟨m + n, by rw [World.drewN_drewN]⟩
set_option maxHeartbeats 1600000 in
theorem same_calls (A B C D : Option Addr) (ca cb cc cd : Nat) (l n : List Int) (w : World) (h1 : RdI .i64 w A l) (h2 : RdI .u64 w C n) (h3 : RdI .i64 w B l) (h4 : RdI .u64 w D n) (hl : l.length = n.length) (hm : l.length ≤ 1000000000) (hnd : l.Nodup) :
    Calls Tryz.prog 168 #[.slice A l.length ca, .slice C n.length cc, .slice B l.length cb, .slice D n.length cd] w fun e w' => e = .returned (.bool true) ∧ Drawn0 w w' := by
  have H1 := Lib.hid h1
  have H2 := Lib.hid h2
  have H3 := Lib.hid h3
  have H4 := Lib.hid h4
  have HL := Lib.hid hl
  have HAT1 : Hid (∀ W, Drawn0 w W → ∀ i, (hi : i < l.length) → Calls Tryz.prog 212 #[.slice B l.length cb, .slice D n.length cd, .int .i64 l[i]] W fun e w' => e = .returned (.int .u64 (n.getD i 0)) ∧ W = w') := Lib.hid (fun W ⟨m, hW⟩ i hi => by
    subst hW
    exact at_calls B D cb cd l n i _ (h3.drewN m) (h4.drewN m) hl hm hi hnd)
  have HAT2 : Hid (∀ W, Drawn0 w W → ∀ i, (hi : i < l.length) → Calls Tryz.prog 212 #[.slice A l.length ca, .slice C n.length cc, .int .i64 l[i]] W fun e w' => e = .returned (.int .u64 (n.getD i 0)) ∧ W = w') := Lib.hid (fun W ⟨m, hW⟩ i hi => by
    subst hW
    exact at_calls A C ca cc l n i _ (h1.drewN m) (h2.drewN m) hl hm hi hnd)
  rw [← hl] at HAT1 HAT2 ⊢
  obtain ⟨q, hq⟩ : ∃ q, q = l.length := ⟨_, rfl⟩
  have HQ := Lib.hid hq
  have HAT1 : Hid (∀ W, Drawn0 w W → ∀ i, (hi : i < l.length) → Calls Tryz.prog 212 #[.slice B q cb, .slice D q cd, .int .i64 l[i]] W fun e w' => e = .returned (.int .u64 (n.getD i 0)) ∧ W = w') := Lib.hid (by rw [hq]; exact HAT1.out)
  have HAT2 : Hid (∀ W, Drawn0 w W → ∀ i, (hi : i < l.length) → Calls Tryz.prog 212 #[.slice A q ca, .slice C q cc, .int .i64 l[i]] W fun e w' => e = .returned (.int .u64 (n.getD i 0)) ∧ W = w') := Lib.hid (by rw [hq]; exact HAT2.out)
  have HGD : Hid (∀ k, (hk : k < n.length) → n.getD k 0 = n[k]) := Lib.hid (fun k hk => by rw [List.getD_eq_getElem?_getD, List.getElem?_eq_getElem hk]; rfl)
  rw [← hq] at hm ⊢
  have HRD : Hid (∀ W, Drawn0 w W → RdI .i64 W A l ∧ RdI .u64 W C n ∧ RdI .i64 W B l ∧ RdI .u64 W D n) := Lib.hid (fun W ⟨m, hW⟩ => by
    subst hW
    exact ⟨h1.drewN m, h2.drewN m, h3.drewN m, h4.drewN m⟩)
  clear h1 h2 h3 h4 hl hq hnd H1 H2 H3 H4
  go_enter Tryz.func168, Tryz.ntmps168
  go_wp2
  go_loopw [9] (fun i wr => ∃ k : Nat, k ≤ q ∧ i = .int .i64 k ∧ Hid (Drawn0 w wr)) (fun i _ => q - (intOf i).toNat)
  case atStart => exact ⟨0, by omega, rfl, Lib.hid (Drawn0.refl _)⟩
  case round =>
    obtain ⟨k, hk, rfl, HD⟩ := hrel
    by_cases hlt : k < q
    · have hkl : k < l.length := by rw [← HQ.out]; exact hlt
      have hkn : k < n.length := by rw [← HL.out]; exact hkl
      obtain ⟨ad, hA, c0⟩ := RdI.at_ (HRD.out _ HD.out).1 k hkl
      obtain ⟨bd, hB, c1⟩ := RdI.at_ (HRD.out _ HD.out).2.1 k hkn
      subst hA hB
      have HAT := Lib.hid (fun j => HAT1.out (wr.drewN j) (dr_more HD.out j) k hkl)
      rw [HGD.out k hkn] at HAT
      have b1 : (k : Int) < (q : Int) := by omega
      obtain ⟨x, hx⟩ : ∃ x, x = l[k] := ⟨_, rfl⟩
      obtain ⟨y, hy⟩ : ∃ y, y = n[k] := ⟨_, rfl⟩
      rw [← hx] at c0 HAT
      rw [← hy] at c1 HAT
      have e1 : (y != y) = false := by simp
      clear hx hy
      go_wp2_with (fail)
      go_quiet (first | (go_at_call 212; exact q_same (HAT.out _)))
      go_wp2
      go_roundw
      case rel => exact ⟨k + 1, by omega, by go_num, Lib.hid (dr_more HD.out nq)⟩
      case measure => simp [intOf]; omega
    · obtain rfl : k = q := by omega
      go_wp2_with (fail)
      go_loopw [10] (fun i wr => ∃ j : Nat, j ≤ k ∧ i = .int .i64 j ∧ Hid (Drawn0 w wr)) (fun i _ => k - (intOf i).toNat)
      case atStart => exact ⟨0, by omega, rfl, HD⟩
      case round =>
        obtain ⟨j, hj, rfl, HD2⟩ := hrel
        by_cases hlt2 : j < k
        · have hkl : j < l.length := by rw [← HQ.out]; exact hlt2
          have hkn : j < n.length := by rw [← HL.out]; exact hkl
          obtain ⟨ad, hA, c0⟩ := RdI.at_ (HRD.out _ HD2.out).2.2.1 j hkl
          obtain ⟨bd, hB, c1⟩ := RdI.at_ (HRD.out _ HD2.out).2.2.2 j hkn
          subst hA hB
          have HAT := Lib.hid (fun i => HAT2.out (wr.drewN i) (dr_more HD2.out i) j hkl)
          rw [HGD.out j hkn] at HAT
          have b1 : (j : Int) < (k : Int) := by omega
          obtain ⟨x, hx⟩ : ∃ x, x = l[j] := ⟨_, rfl⟩
          obtain ⟨y, hy⟩ : ∃ y, y = n[j] := ⟨_, rfl⟩
          rw [← hx] at c0 HAT
          rw [← hy] at c1 HAT
          have e1 : (y != y) = false := by simp
          clear hx hy
          go_wp2_with (fail)
          go_quiet (first | (go_at_call 212; exact q_same (HAT.out _)))
          go_wp2
          go_roundw
          case rel => exact ⟨j + 1, by omega, by go_num, Lib.hid (dr_more HD2.out nq)⟩
          case measure => simp [intOf]; omega
        · obtain rfl : j = k := by omega
          go_wp2
          go_ret
          exact ⟨rfl, HD2.out⟩
end Go.Proofs.YtjfekjbmgckkcaaGreatDoor.Ref10E
namespace Go.Proofs.YtjfekjbmgckkcaaGreatDoor.Ref10F
open Go.RowKit Go.Proofs.YtjfekjbmgckkcaaGreatDoorW.PrintWords
open Go.Proofs.YtjfekjbmgckkcaaGreatDoor.Bits Go.Proofs.YtjfekjbmgckkcaaGreatDoor.Base Go.Proofs.YtjfekjbmgckkcaaGreatDoor.VarPure Go.Proofs.YtjfekjbmgckkcaaGreatDoor.VarbitA Go.Proofs.YtjfekjbmgckkcaaGreatDoor.VarKit Go.Proofs.YtjfekjbmgckkcaaGreatDoor.StreamA Go.Proofs.YtjfekjbmgckkcaaGreatDoor.SpanPure Go.Proofs.YtjfekjbmgckkcaaGreatDoor.SpanBase Go.Proofs.YtjfekjbmgckkcaaGreatDoor.FailAs Go.Proofs.YtjfekjbmgckkcaaGreatDoor.FailB Go.Proofs.YtjfekjbmgckkcaaGreatDoor.FailC Go.Proofs.YtjfekjbmgckkcaaGreatDoor.HeadA Go.Proofs.YtjfekjbmgckkcaaGreatDoor.HeadB Go.Proofs.YtjfekjbmgckkcaaGreatDoor.HeadC Go.Proofs.YtjfekjbmgckkcaaGreatDoor.HeadE Go.Proofs.YtjfekjbmgckkcaaGreatDoor.HeadPure Go.Proofs.YtjfekjbmgckkcaaGreatDoor.Ref01 Go.Proofs.YtjfekjbmgckkcaaGreatDoor.Ref12 Go.Proofs.YtjfekjbmgckkcaaGreatDoor.Ref13 Go.Proofs.YtjfekjbmgckkcaaGreatDoor.FcPure Go.Proofs.YtjfekjbmgckkcaaGreatDoor.FcObj Go.Proofs.YtjfekjbmgckkcaaGreatDoor.Ref10E
structure St (w : World) (o1 o2 : Obj) (W : World) : Prop where
  b : Below w.heap.size w W
  o : W.heap[w.heap.size]? = some o1
  s : W.heap[w.heap.size + 1]? = some o2
theorem St.below {w W W2 : World} {o1 o2 : Obj} (h : St w o1 o2 W) (hb : Below W.heap.size W W2) : St w o1 o2 W2 :=
  ⟨below_then h.b h.b.size hb, (hb.block _ (blk_lt h.o)).trans h.o, (hb.block _ (blk_lt h.s)).trans h.s⟩
theorem St.make (w : World) (c1 c2 : Array Value) (t : Nat) : St w (.cells c1 t (0, 0)) (.cells c2 t (0, 0)) ((w.alloc (.cells c1 t)).alloc (.cells c2 t)) := by
  have x0 := blk_last w (.cells c1 t)
  have x1 := blk_last (w.alloc (.cells c1 t)) (.cells c2 t)
  rw [show (w.alloc (.cells c1 t)).heap.size = w.heap.size + 1 from by simp] at x1
  exact ⟨below_alloc (below_alloc (Below.refl _ _) _) _, blk_alloc x0 _, x1⟩
theorem rising_nodup {l : List Sp} (h : chk l = 0) : (places l).Nodup := by
  have h1 := places_rise (SpanQ.right_of h)
  exact List.Pairwise.imp (fun hlt he => by omega) h1
set_option maxRecDepth 100000 in
set_option maxHeartbeats 6400000 in
theorem equal_calls (a : FH) (p : Lh) (bp bn : List Sp) (r : Lh) (w : World) (ha : FhIn w a p) (hb : FhIn w { a with pos := bp, neg := bn } r) (ea : errF a = 0) (eb : errF { a with pos := bp, neg := bn } = 0) (h1 : places a.pos = places bp) (h2 : places a.neg = places bn) :
    Calls Tryz.prog 105 #[.agg (fcs a p).toArray, .agg (fcs { a with pos := bp, neg := bn } r).toArray] w fun e w' => e = .returned (.bool true) ∧ Below w.heap.size w w' := by
  obtain ⟨W0, hW0, hst⟩ : ∃ W : World, W = (w.alloc (.cells #[.int .i64 a.schema, .int .u64 a.zero, .int .u64 a.zc, .int .u64 a.cnt, .int .u64 a.sum, .slice p.A a.pos.length p.c, .slice p.B a.neg.length p.d, .slice p.C a.pc.length p.cc, .slice p.D a.nc.length p.dd] 80)).alloc (.cells #[.int .i64 a.schema, .int .u64 a.zero, .int .u64 a.zc, .int .u64 a.cnt, .int .u64 a.sum, .slice r.A bp.length r.c, .slice r.B bn.length r.d, .slice r.C a.pc.length r.cc, .slice r.D a.nc.length r.dd] 80) ∧ St w (.cells #[.int .i64 a.schema, .int .u64 a.zero, .int .u64 a.zc, .int .u64 a.cnt, .int .u64 a.sum, .slice p.A a.pos.length p.c, .slice p.B a.neg.length p.d, .slice p.C a.pc.length p.cc, .slice p.D a.nc.length p.dd] 80 (0, 0)) (.cells #[.int .i64 a.schema, .int .u64 a.zero, .int .u64 a.zc, .int .u64 a.cnt, .int .u64 a.sum, .slice r.A bp.length r.c, .slice r.B bn.length r.d, .slice r.C a.pc.length r.cc, .slice r.D a.nc.length r.dd] 80 (0, 0)) W := ⟨_, rfl, St.make w _ _ _⟩
  obtain ⟨o1, ho1⟩ : ∃ o : Obj, o = (.cells #[.int .i64 a.schema, .int .u64 a.zero, .int .u64 a.zc, .int .u64 a.cnt, .int .u64 a.sum, .slice p.A a.pos.length p.c, .slice p.B a.neg.length p.d, .slice p.C a.pc.length p.cc, .slice p.D a.nc.length p.dd] 80 (0, 0)) := ⟨_, rfl⟩
  obtain ⟨o2, ho2⟩ : ∃ o : Obj, o = (.cells #[.int .i64 a.schema, .int .u64 a.zero, .int .u64 a.zc, .int .u64 a.cnt, .int .u64 a.sum, .slice r.A bp.length r.c, .slice r.B bn.length r.d, .slice r.C a.pc.length r.cc, .slice r.D a.nc.length r.dd] 80 (0, 0)) := ⟨_, rfl⟩
  have HCL : Hid (∀ W, St w (.cells #[.int .i64 a.schema, .int .u64 a.zero, .int .u64 a.zc, .int .u64 a.cnt, .int .u64 a.sum, .slice p.A a.pos.length p.c, .slice p.B a.neg.length p.d, .slice p.C a.pc.length p.cc, .slice p.D a.nc.length p.dd] 80 (0, 0)) (.cells #[.int .i64 a.schema, .int .u64 a.zero, .int .u64 a.zc, .int .u64 a.cnt, .int .u64 a.sum, .slice r.A bp.length r.c, .slice r.B bn.length r.d, .slice r.C a.pc.length r.cc, .slice r.D a.nc.length r.dd] 80 (0, 0)) W → ((W.cell? ⟨w.heap.size, 0, none⟩ = some (.int .i64 a.schema) ∧ W.cell? ⟨w.heap.size, 1, none⟩ = some (.int .u64 a.zero) ∧ W.cell? ⟨w.heap.size, 2, none⟩ = some (.int .u64 a.zc) ∧ W.cell? ⟨w.heap.size, 3, none⟩ = some (.int .u64 a.cnt) ∧ W.cell? ⟨w.heap.size, 4, none⟩ = some (.int .u64 a.sum) ∧ W.cell? ⟨w.heap.size, 5, none⟩ = some (.slice p.A a.pos.length p.c) ∧ W.cell? ⟨w.heap.size, 6, none⟩ = some (.slice p.B a.neg.length p.d) ∧ W.cell? ⟨w.heap.size, 7, none⟩ = some (.slice p.C a.pc.length p.cc) ∧ W.cell? ⟨w.heap.size, 8, none⟩ = some (.slice p.D a.nc.length p.dd)) ∧ W.cell? ⟨w.heap.size + 1, 0, none⟩ = some (.int .i64 a.schema) ∧ W.cell? ⟨w.heap.size + 1, 1, none⟩ = some (.int .u64 a.zero) ∧ W.cell? ⟨w.heap.size + 1, 2, none⟩ = some (.int .u64 a.zc) ∧ W.cell? ⟨w.heap.size + 1, 3, none⟩ = some (.int .u64 a.cnt) ∧ W.cell? ⟨w.heap.size + 1, 4, none⟩ = some (.int .u64 a.sum) ∧ W.cell? ⟨w.heap.size + 1, 5, none⟩ = some (.slice r.A bp.length r.c) ∧ W.cell? ⟨w.heap.size + 1, 6, none⟩ = some (.slice r.B bn.length r.d) ∧ W.cell? ⟨w.heap.size + 1, 7, none⟩ = some (.slice r.C a.pc.length r.cc) ∧ W.cell? ⟨w.heap.size + 1, 8, none⟩ = some (.slice r.D a.nc.length r.dd))) := Lib.hid (fun W h => ⟨⟨obj_cell h.o rfl, obj_cell h.o rfl, obj_cell h.o rfl, obj_cell h.o rfl, obj_cell h.o rfl, obj_cell h.o rfl, obj_cell h.o rfl, obj_cell h.o rfl, obj_cell h.o rfl⟩, obj_cell h.s rfl, obj_cell h.s rfl, obj_cell h.s rfl, obj_cell h.s rfl, obj_cell h.s rfl, obj_cell h.s rfl, obj_cell h.s rfl, obj_cell h.s rfl, obj_cell h.s rfl⟩)
  rw [← ho1, ← ho2] at hst HCL
  have HC1 : Hid (∀ W, St w o1 o2 W → Calls Tryz.prog 46 #[.agg #[.int .i64 a.schema, .int .u64 a.zero, .int .u64 a.zc, .int .u64 a.cnt, .int .u64 a.sum, .slice p.A a.pos.length p.c, .slice p.B a.neg.length p.d, .slice p.C a.pc.length p.cc, .slice p.D a.nc.length p.dd]] W fun e w' => e = .returned (.int .i64 0) ∧ St w o1 o2 w') := Lib.hid (fun W h => by
    refine (Ref10.check_calls a p W (ha.below h.b)).mono ?_
    rintro e w' ⟨rfl, hb'⟩
    exact ⟨by rw [ea]; rfl, h.below hb'⟩)
  have HC2 : Hid (∀ W, St w o1 o2 W → Calls Tryz.prog 46 #[.agg #[.int .i64 a.schema, .int .u64 a.zero, .int .u64 a.zc, .int .u64 a.cnt, .int .u64 a.sum, .slice r.A bp.length r.c, .slice r.B bn.length r.d, .slice r.C a.pc.length r.cc, .slice r.D a.nc.length r.dd]] W fun e w' => e = .returned (.int .i64 0) ∧ St w o1 o2 w') := Lib.hid (fun W h => by
    refine (Ref10.check_calls { a with pos := bp, neg := bn } r W (hb.below h.b)).mono ?_
    rintro e w' ⟨rfl, hb'⟩
    exact ⟨by rw [eb]; rfl, h.below hb'⟩)
  have xa := errF_zero ea
  have xb := errF_zero eb
  have HP : Hid (∀ (A' : Option Addr) (c' : Nat) (l' : List Sp), Spl w A' c' l' → chk l' = 0 → ∀ W, St w o1 o2 W → Calls Tryz.prog 115 #[.slice A' l'.length c'] W fun e w' => ∃ A1 c1, e = .returned (.slice A1 (places l').length c1) ∧ RdI .i64 w' A1 (places l') ∧ Below W.heap.size W w' ∧ St w o1 o2 w') := Lib.hid (fun A' c' l' hl' h0 W hW => by
    refine (Ref06P.places_calls A' c' l' W (hl'.below hW.b).rd (by have := hl'.len; omega) h0).mono ?_
    rintro e w' ⟨v, rfl, ho, hb⟩
    obtain ⟨A1, c1, rfl, -, hr⟩ := ho.reads
    exact ⟨A1, c1, rfl, hr, hb, hW.below hb⟩)
  have HSM : Hid (∀ (A B C D : Option Addr) (ca cb cc cd : Nat) (l : List Sp) (n : List Nat) W, chk l = 0 → (places l).length = n.length → RdI .i64 W A (places l) → RdI .i64 W B (places l) → Nul W C cc n → Nul W D cd n → St w o1 o2 W →
      Calls Tryz.prog 168 #[.slice A (places l).length ca, .slice C n.length cc, .slice B (places l).length cb, .slice D n.length cd] W fun e w' => e = .returned (.bool true) ∧ St w o1 o2 w') := Lib.hid (fun A B C D ca cb cc cd l n W h0 hl r1 r2 r3 r4 hW => by
    have := Ref10E.same_calls A B C D ca cb cc cd (places l) (nats n) W r1 r3.rd r2 r4.rd (by rw [nats_length]; exact hl) (by have := places_len (SpanQ.right_of h0); omega) (rising_nodup h0)
    rw [nats_length] at this
    refine this.mono ?_
    rintro e w' ⟨rfl, ⟨m, rfl⟩⟩
    exact ⟨rfl, hW.below (pw_below_drewN (Below.refl _ _) m)⟩)
  have HA := Lib.hid ha
  have HB := Lib.hid hb
  have HXA := Lib.hid (sideF_zero xa.2.2.2.2.2.1)
  have HYA := Lib.hid (sideF_zero xa.2.2.2.2.2.2)
  have HXB := Lib.hid (sideF_zero xb.2.2.2.2.2.1).1
  have HYB := Lib.hid (sideF_zero xb.2.2.2.2.2.2).1
  have HPE := Lib.hid h1
  have HNE := Lib.hid h2
  have HPN1 := Lib.hid (congrArg List.length h1)
  have HPN2 := Lib.hid (congrArg List.length h2)
  have HW0 := Lib.hid hW0
  have HS0 := Lib.hid hst
  obtain ⟨⟨a0, a1, a2, a3, a4, a5, a6, a7, a8⟩, b0, b1, b2, b3, b4, b5, b6, b7, b8⟩ := HCL.out _ hst
  show Calls Tryz.prog 105 #[.agg #[.int .i64 a.schema, .int .u64 a.zero, .int .u64 a.zc, .int .u64 a.cnt, .int .u64 a.sum, .slice p.A a.pos.length p.c, .slice p.B a.neg.length p.d, .slice p.C a.pc.length p.cc, .slice p.D a.nc.length p.dd], .agg #[.int .i64 a.schema, .int .u64 a.zero, .int .u64 a.zc, .int .u64 a.cnt, .int .u64 a.sum, .slice r.A bp.length r.c, .slice r.B bn.length r.d, .slice r.C a.pc.length r.cc, .slice r.D a.nc.length r.dd]] w _
  clear ha hb ea eb h1 h2 hst hW0 ho1 ho2 xa xb
  go_enter Tryz.func105, Tryz.ntmps105
  go_wp2_with (fail)
  rw [← HW0.out]
  refine (HC1.out _ HS0.out).mono ?_
  rintro e w1 ⟨rfl, hs⟩
  have HS1 := Lib.hid hs
  clear hs a0 a1 a2 a3 a4 a5 a6 a7 a8 b0 b1 b2 b3 b4 b5 b6 b7 b8
  obtain ⟨⟨a0, a1, a2, a3, a4, a5, a6, a7, a8⟩, b0, b1, b2, b3, b4, b5, b6, b7, b8⟩ := HCL.out _ HS1.out
  go_wp2_with (fail)
  refine (HC2.out _ HS1.out).mono ?_
  rintro e w2 ⟨rfl, hs⟩
  have HS2 := Lib.hid hs
  clear hs a0 a1 a2 a3 a4 a5 a6 a7 a8 b0 b1 b2 b3 b4 b5 b6 b7 b8
  obtain ⟨⟨a0, a1, a2, a3, a4, a5, a6, a7, a8⟩, b0, b1, b2, b3, b4, b5, b6, b7, b8⟩ := HCL.out _ HS2.out
  go_wp2_with (fail)
  have HSd := Lib.hid (HS2.out.below (below_drew (Below.refl _ _)))
  have hq0 : w2.drew.cell? ⟨w.heap.size, 5, none⟩ = some (.slice p.A a.pos.length p.c) ∧ w2.drew.cell? ⟨w.heap.size, 7, none⟩ = some (.slice p.C a.pc.length p.cc) ∧ w2.drew.cell? ⟨w.heap.size + 1, 5, none⟩ = some (.slice r.A bp.length r.c) ∧ w2.drew.cell? ⟨w.heap.size + 1, 7, none⟩ = some (.slice r.C a.pc.length r.cc) := ⟨a5, a7, b5, b7⟩
  clear a0 a1 a2 a3 a4 a5 a6 a7 a8 b0 b1 b2 b3 b4 b5 b6 b7 b8
  go_region_held3 (fun W => W.cell? ⟨w.heap.size, 5, none⟩ = some (.slice p.A a.pos.length p.c) ∧ W.cell? ⟨w.heap.size, 7, none⟩ = some (.slice p.C a.pc.length p.cc) ∧ W.cell? ⟨w.heap.size + 1, 5, none⟩ = some (.slice r.A bp.length r.c) ∧ W.cell? ⟨w.heap.size + 1, 7, none⟩ = some (.slice r.C a.pc.length r.cc))
    (first | (with_reducible exact hq0) | (with_reducible exact hq1) | (with_reducible exact hq2) | (with_reducible exact hq3))
    (first
    | (go_at_call 115; (with_reducible show Calls _ _ #[Value.slice p.A a.pos.length p.c] _ _); refine (HP.out _ _ _ HA.out.pos HXA.out.1 _ HSd.out).mono ?_; rintro e w3 ⟨A1, c1, rfl, hr1, hb3, hst3⟩; have hq1 : w3.cell? ⟨w.heap.size, 5, none⟩ = some (.slice p.A a.pos.length p.c) ∧ w3.cell? ⟨w.heap.size, 7, none⟩ = some (.slice p.C a.pc.length p.cc) ∧ w3.cell? ⟨w.heap.size + 1, 5, none⟩ = some (.slice r.A bp.length r.c) ∧ w3.cell? ⟨w.heap.size + 1, 7, none⟩ = some (.slice r.C a.pc.length r.cc) := ⟨(HCL.out _ hst3).1.2.2.2.2.2.1, (HCL.out _ hst3).1.2.2.2.2.2.2.2.1, (HCL.out _ hst3).2.2.2.2.2.2.1, (HCL.out _ hst3).2.2.2.2.2.2.2.2.1⟩)
    | (go_at_call 115; refine (HP.out _ _ _ HB.out.pos HXB.out _ hst3).mono ?_; rintro e w4 ⟨A2, c2, rfl, hr2, hb4, hst4⟩; have hq2 : w4.cell? ⟨w.heap.size, 5, none⟩ = some (.slice p.A a.pos.length p.c) ∧ w4.cell? ⟨w.heap.size, 7, none⟩ = some (.slice p.C a.pc.length p.cc) ∧ w4.cell? ⟨w.heap.size + 1, 5, none⟩ = some (.slice r.A bp.length r.c) ∧ w4.cell? ⟨w.heap.size + 1, 7, none⟩ = some (.slice r.C a.pc.length r.cc) := ⟨(HCL.out _ hst4).1.2.2.2.2.2.1, (HCL.out _ hst4).1.2.2.2.2.2.2.2.1, (HCL.out _ hst4).2.2.2.2.2.2.1, (HCL.out _ hst4).2.2.2.2.2.2.2.2.1⟩)
    | (go_at_call 168; rw [← HPN1.out]; refine (HSM.out A1 A2 p.C r.C c1 c2 p.cc r.cc a.pos a.pc _ HXA.out.1 HXA.out.2.1 (hr1.below hb4) (by rw [HPE.out]; exact hr2) (HA.out.pc.below hst4.b) (HB.out.pc.below hst4.b) hst4).mono ?_; rintro e w5 ⟨rfl, hst5⟩; have hq3 : w5.cell? ⟨w.heap.size, 5, none⟩ = some (.slice p.A a.pos.length p.c) ∧ w5.cell? ⟨w.heap.size, 7, none⟩ = some (.slice p.C a.pc.length p.cc) ∧ w5.cell? ⟨w.heap.size + 1, 5, none⟩ = some (.slice r.A bp.length r.c) ∧ w5.cell? ⟨w.heap.size + 1, 7, none⟩ = some (.slice r.C a.pc.length r.cc) := ⟨(HCL.out _ hst5).1.2.2.2.2.2.1, (HCL.out _ hst5).1.2.2.2.2.2.2.2.1, (HCL.out _ hst5).2.2.2.2.2.2.1, (HCL.out _ hst5).2.2.2.2.2.2.2.2.1⟩))
  have HS5 := Lib.hid hst5
  clear hq0 hq1 hq2 hq3 hr1 hr2 hb3 hb4 hst3 hst4 hst5
  obtain ⟨⟨a0, a1, a2, a3, a4, a5, a6, a7, a8⟩, b0, b1, b2, b3, b4, b5, b6, b7, b8⟩ := HCL.out _ HS5.out
  go_wp2_with (fail)
  have HSd := Lib.hid (HS5.out.below (below_drew (Below.refl _ _)))
  have hq0 : w5.drew.cell? ⟨w.heap.size, 6, none⟩ = some (.slice p.B a.neg.length p.d) ∧ w5.drew.cell? ⟨w.heap.size, 8, none⟩ = some (.slice p.D a.nc.length p.dd) ∧ w5.drew.cell? ⟨w.heap.size + 1, 6, none⟩ = some (.slice r.B bn.length r.d) ∧ w5.drew.cell? ⟨w.heap.size + 1, 8, none⟩ = some (.slice r.D a.nc.length r.dd) := ⟨a6, a8, b6, b8⟩
  clear a0 a1 a2 a3 a4 a5 a6 a7 a8 b0 b1 b2 b3 b4 b5 b6 b7 b8
  go_region_held3 (fun W => W.cell? ⟨w.heap.size, 6, none⟩ = some (.slice p.B a.neg.length p.d) ∧ W.cell? ⟨w.heap.size, 8, none⟩ = some (.slice p.D a.nc.length p.dd) ∧ W.cell? ⟨w.heap.size + 1, 6, none⟩ = some (.slice r.B bn.length r.d) ∧ W.cell? ⟨w.heap.size + 1, 8, none⟩ = some (.slice r.D a.nc.length r.dd))
    (first | (with_reducible exact hq0) | (with_reducible exact hq1) | (with_reducible exact hq2) | (with_reducible exact hq3))
    (first
    | (go_at_call 115; (with_reducible show Calls _ _ #[Value.slice p.B a.neg.length p.d] _ _); refine (HP.out _ _ _ HA.out.neg HYA.out.1 _ HSd.out).mono ?_; rintro e w6 ⟨A3, c3, rfl, hr1, hb3, hst3⟩; have hq1 : w6.cell? ⟨w.heap.size, 6, none⟩ = some (.slice p.B a.neg.length p.d) ∧ w6.cell? ⟨w.heap.size, 8, none⟩ = some (.slice p.D a.nc.length p.dd) ∧ w6.cell? ⟨w.heap.size + 1, 6, none⟩ = some (.slice r.B bn.length r.d) ∧ w6.cell? ⟨w.heap.size + 1, 8, none⟩ = some (.slice r.D a.nc.length r.dd) := ⟨(HCL.out _ hst3).1.2.2.2.2.2.2.1, (HCL.out _ hst3).1.2.2.2.2.2.2.2.2, (HCL.out _ hst3).2.2.2.2.2.2.2.1, (HCL.out _ hst3).2.2.2.2.2.2.2.2.2⟩)
    | (go_at_call 115; refine (HP.out _ _ _ HB.out.neg HYB.out _ hst3).mono ?_; rintro e w7 ⟨A4, c4, rfl, hr2, hb4, hst4⟩; have hq2 : w7.cell? ⟨w.heap.size, 6, none⟩ = some (.slice p.B a.neg.length p.d) ∧ w7.cell? ⟨w.heap.size, 8, none⟩ = some (.slice p.D a.nc.length p.dd) ∧ w7.cell? ⟨w.heap.size + 1, 6, none⟩ = some (.slice r.B bn.length r.d) ∧ w7.cell? ⟨w.heap.size + 1, 8, none⟩ = some (.slice r.D a.nc.length r.dd) := ⟨(HCL.out _ hst4).1.2.2.2.2.2.2.1, (HCL.out _ hst4).1.2.2.2.2.2.2.2.2, (HCL.out _ hst4).2.2.2.2.2.2.2.1, (HCL.out _ hst4).2.2.2.2.2.2.2.2.2⟩)
    | (go_at_call 168; rw [← HPN2.out]; refine (HSM.out A3 A4 p.D r.D c3 c4 p.dd r.dd a.neg a.nc _ HYA.out.1 HYA.out.2.1 (hr1.below hb4) (by rw [HNE.out]; exact hr2) (HA.out.nc.below hst4.b) (HB.out.nc.below hst4.b) hst4).mono ?_; rintro e w8 ⟨rfl, hst5⟩; have hq3 : w8.cell? ⟨w.heap.size, 6, none⟩ = some (.slice p.B a.neg.length p.d) ∧ w8.cell? ⟨w.heap.size, 8, none⟩ = some (.slice p.D a.nc.length p.dd) ∧ w8.cell? ⟨w.heap.size + 1, 6, none⟩ = some (.slice r.B bn.length r.d) ∧ w8.cell? ⟨w.heap.size + 1, 8, none⟩ = some (.slice r.D a.nc.length r.dd) := ⟨(HCL.out _ hst5).1.2.2.2.2.2.2.1, (HCL.out _ hst5).1.2.2.2.2.2.2.2.2, (HCL.out _ hst5).2.2.2.2.2.2.2.1, (HCL.out _ hst5).2.2.2.2.2.2.2.2.2⟩))
  have HS8 := Lib.hid hst5
  clear hq0 hq1 hq2 hq3 hr1 hr2 hb3 hb4 hst3 hst4 hst5
  go_wp2
  go_ret
  exact ⟨rfl, HS8.out.b⟩
end Go.Proofs.YtjfekjbmgckkcaaGreatDoor.Ref10F
namespace Go.Proofs.YtjfekjbmgckkcaaGreatDoor.Law18G
open Go.RowKit Go.Proofs.YtjfekjbmgckkcaaGreatDoorW.PrintWords
open Go.Proofs.YtjfekjbmgckkcaaGreatDoor.Bits Go.Proofs.YtjfekjbmgckkcaaGreatDoor.Base Go.Proofs.YtjfekjbmgckkcaaGreatDoor.VarPure Go.Proofs.YtjfekjbmgckkcaaGreatDoor.VarbitA Go.Proofs.YtjfekjbmgckkcaaGreatDoor.VarKit Go.Proofs.YtjfekjbmgckkcaaGreatDoor.StreamA Go.Proofs.YtjfekjbmgckkcaaGreatDoor.SpanPure Go.Proofs.YtjfekjbmgckkcaaGreatDoor.SpanBase Go.Proofs.YtjfekjbmgckkcaaGreatDoor.FailAs Go.Proofs.YtjfekjbmgckkcaaGreatDoor.FailB Go.Proofs.YtjfekjbmgckkcaaGreatDoor.FailC Go.Proofs.YtjfekjbmgckkcaaGreatDoor.HeadA Go.Proofs.YtjfekjbmgckkcaaGreatDoor.HeadB Go.Proofs.YtjfekjbmgckkcaaGreatDoor.HeadC Go.Proofs.YtjfekjbmgckkcaaGreatDoor.HeadE Go.Proofs.YtjfekjbmgckkcaaGreatDoor.HeadPure Go.Proofs.YtjfekjbmgckkcaaGreatDoor.Ref01 Go.Proofs.YtjfekjbmgckkcaaGreatDoor.Ref12 Go.Proofs.YtjfekjbmgckkcaaGreatDoor.Ref13 Go.Proofs.YtjfekjbmgckkcaaGreatDoor.TimesPure Go.Proofs.YtjfekjbmgckkcaaGreatDoor.TimesA Go.Proofs.YtjfekjbmgckkcaaGreatDoor.XorPure Go.Proofs.YtjfekjbmgckkcaaGreatDoor.XorA Go.Proofs.YtjfekjbmgckkcaaGreatDoor.XorB Go.Proofs.YtjfekjbmgckkcaaGreatDoor.FcPure Go.Proofs.YtjfekjbmgckkcaaGreatDoor.FcObj Go.Proofs.YtjfekjbmgckkcaaGreatDoor.FsArg Go.Proofs.YtjfekjbmgckkcaaGreatDoor.FcA Go.Proofs.YtjfekjbmgckkcaaGreatDoor.FcB Go.Proofs.YtjfekjbmgckkcaaGreatDoor.FcC Go.Proofs.YtjfekjbmgckkcaaGreatDoor.FcD Go.Proofs.YtjfekjbmgckkcaaGreatDoor.FcH Go.Proofs.YtjfekjbmgckkcaaGreatDoor.FcI Go.Proofs.YtjfekjbmgckkcaaGreatDoor.HdArg Go.Proofs.YtjfekjbmgckkcaaGreatDoor.Law14A Go.Proofs.YtjfekjbmgckkcaaGreatDoor.Law18A Go.Proofs.YtjfekjbmgckkcaaGreatDoor.Law18D Go.Proofs.YtjfekjbmgckkcaaGreatDoor.Law18E Go.Proofs.YtjfekjbmgckkcaaGreatDoor.Law18F Go.Proofs.YtjfekjbmgckkcaaGreatDoor.Ref14A Go.Proofs.YtjfekjbmgckkcaaGreatDoor.Ref18A Go.Proofs.YtjfekjbmgckkcaaGreatDoor.Ref18B Go.Proofs.YtjfekjbmgckkcaaGreatDoor.Ref10F
open Go.Proofs.YtjfekjbmgckkcaaGreatDoor.HeadC
theorem on_right {q : Hd} {h : FH} (he : (headErr q).1 = 0) (h0 : errF h = 0) (h1 : places h.pos = places q.pos) (h2 : places h.neg = places q.neg) : errF { h with pos := q.pos, neg := q.neg } = 0 := by
  obtain ⟨a1, a2, a3, a4, a5, a6, a7⟩ := errF_zero h0
  obtain ⟨b1, b2, b3⟩ := sideF_zero a6
  obtain ⟨d1, d2, d3⟩ := sideF_zero a7
  obtain ⟨c1, c2⟩ := okq_chk he
  have side : ∀ (l : List Sp) (c : List Nat), chk l = 0 → (places l).length = c.length → (∀ v ∈ c, v < inf) → sideF l c = 0 := fun l c g1 g2 g3 => by
    unfold sideF
    rw [if_neg (by omega), if_neg (by omega), if_neg]
    simp only [List.any_eq_true, decide_eq_true_eq, not_exists, not_and, Nat.not_le]
    exact g3
  unfold errF
  simp only
  rw [if_neg (by omega), if_neg (by omega), if_neg (by omega), side q.pos h.pc c1 (by rw [← h1]; exact b2) b3, if_neg (by decide)]
  exact side q.neg h.nc c2 (by rw [← h2]; exact d2) d3
set_option maxRecDepth 100000 in
set_option maxHeartbeats 3200000 in
theorem is1_calls (g : Nat) (S : Nat → Prop) (q : Hd) (p : Lc) (X : Option Addr) (cx : Nat) (xs : List FsX) (y : FsX) (w : World) (hk : Ck w g S q ((xs ++ [y]).map fsOf)) (hx : HdIn w q p) (he : (headErr q).1 = 0) (h : FsL w X (xs ++ [y])) (hc : (xs ++ [y]).length ≤ cx) (hcx : cx ≤ 9223372036854775807) (hw1 : (places q.pos).length ≤ 8192) (hw2 : (places q.neg).length ≤ 8192) (hcb : (chunkB q ((xs ++ [y]).map fsOf)).length ≤ 100000000) :
    Calls Tryz.prog 39 #[.pointer (some ⟨g, 0, none⟩), .agg (hcs q p).toArray, .slice X (xs ++ [y]).length cx] w fun e w' => e = .returned (.bool true) ∧ Below w.heap.size w w' := by
  obtain ⟨ys, hys⟩ : ∃ ys, ys = xs ++ [y] := ⟨_, rfl⟩
  obtain ⟨l, hl⟩ : ∃ l, l = ys.map fsOf := ⟨_, rfl⟩
  obtain ⟨s, hs⟩ : ∃ s, s = fsOf y := ⟨_, rfl⟩
  have hlz : l = xs.map fsOf ++ [s] := by rw [hl, hys, hs]; simp
  rw [← hys] at hk h hc hcb ⊢
  rw [← hl] at hk hcb
  obtain ⟨x, hF⟩ := hk
  have hgood := good_at hF.good (s := s) (by rw [hlz]; simp)
  obtain ⟨e0, e1', e2', e3', e4', e5', e6'⟩ := hgood
  have hwid : ∀ z ∈ ys, (fsOf z).h.pc.length = (places q.pos).length ∧ (fsOf z).h.nc.length = (places q.neg).length := fun z hz => by
    obtain ⟨-, -, -, -, -, g6, g7⟩ := good_at hF.good (s := fsOf z) (by rw [hl]; exact List.mem_map_of_mem hz)
    exact ⟨g6, g7⟩
  have hln : l.length = ys.length := by rw [hl, List.length_map]
  have hn1000 := h.len
  have hLS : lastS q l = ⟨s.t, { s.h with pos := q.pos, neg := q.neg }⟩ := by rw [hlz, lastS_snoc]
  have hpos : 0 < l.length := by rw [hlz]; simp
  have hab : (allBits q l).length = 16 + (chunkB q l).length := by unfold allBits; rw [List.length_append, nb_length]
  have hsz := txt_size (allBits q l)
  have HHD := Lib.hid (fun W (h : Below w.heap.size w W) => Law18B.heads_calls q p W (hx.below h))
  have HBT := Lib.hid (fun W (hb : Below w.heap.size w W) (r : Lc) (hr : HdIn W q r) => Ref18B.bits_calls q r X cx ys _ _ W hr he (h.below hb) hc hcx hwid hw1 hw2)
  rw [← hl] at HBT
  have HLA := Lib.hid (fun W (h : Below w.heap.size w W) => FcH.last_calls g S q l x W (hF.below h))
  have HLE := Lib.hid (fun W (h : Below w.heap.size w W) => FcD.len_calls g S q l x W (hF.below h))
  have HBI := Lib.hid (fun W (h : Below w.heap.size w W) => FcD.bits_calls g S q l x W (hF.below h) (by omega))
  have HBY := Lib.hid (fun W (h : Below w.heap.size w W) => FcI.bytes_calls g S q l x W (hF.below h) (by omega) (by omega))
  have HRB := Lib.hid (fun W => Ref01.bytes_calls (allBits q l) W (by omega))
  have HHE := Lib.hid (fun W (h : Below w.heap.size w W) => head_calls g S q l x W (hF.below h))
  have HEQ := Lib.hid (fun W (h : Below w.heap.size w W) (r : Lc) (hr : HdIn W q r) => Equal_calls q q r p W hr (hx.below h))
  rw [show eqH q q = true from decide_eq_true rfl] at HEQ
  have HE10 : Hid (∀ W (p2 r2 : Lh), FhIn W { s.h with pos := q.pos, neg := q.neg } p2 → FhIn W s.h r2 → Calls Tryz.prog 105 #[.agg (fcs { s.h with pos := q.pos, neg := q.neg } p2).toArray, .agg (fcs s.h r2).toArray] W fun e w' => e = .returned (.bool true) ∧ Below W.heap.size W w') :=
    Lib.hid (fun W p2 r2 g1 g2 => Ref10F.equal_calls { s.h with pos := q.pos, neg := q.neg } p2 s.h.pos s.h.neg r2 W g1 g2 (on_right he e0 e3' e4') e0 e3'.symm e4'.symm)
  have HSA : Hid (∀ W (p2 : Lh), FhIn W { s.h with pos := q.pos, neg := q.neg } p2 → Calls Tryz.prog 44 #[.agg (scs ⟨s.t, { s.h with pos := q.pos, neg := q.neg }⟩ p2).toArray] W fun e w' => ∃ A1 c1 A2 c2, e = .returned (.agg (scs ⟨s.t, { s.h with pos := q.pos, neg := q.neg }⟩ ⟨A1, c1, A2, c2, p2.C, p2.cc, p2.D, p2.dd⟩).toArray) ∧ FhIn w' { s.h with pos := q.pos, neg := q.neg } ⟨A1, c1, A2, c2, p2.C, p2.cc, p2.D, p2.dd⟩ ∧ Below W.heap.size W w') := Lib.hid (fun W p2 g1 => by
    refine (samples_calls ⟨s.t, { s.h with pos := q.pos, neg := q.neg }⟩ p2 W g1).mono ?_
    rintro e w' ⟨A1, c1, A2, c2, rfl, g2, -, -, g3⟩
    exact ⟨A1, c1, A2, c2, rfl, g2, g3⟩)
  have HAK : Hid (∀ W (A1 B1 : Option Addr) (c1 d1 : Nat) (l' : List Sp), Spl W A1 c1 l' → Spl W B1 d1 l' → Calls Tryz.prog 106 #[.slice A1 l'.length c1, .slice B1 l'.length d1] W fun e w' => e = .returned (.bool true) ∧ Below W.heap.size W w') := Lib.hid (fun W A1 B1 c1 d1 l' g1 g2 => by
    refine (alike_calls A1 B1 c1 d1 l' l' W g1.rd g2.rd (by have := g1.len; omega) (by have := g1.len; omega)).mono ?_
    rintro e w' ⟨rfl, ⟨m, rfl⟩⟩
    exact ⟨by rw [decide_eq_true rfl], pw_below_drewN (Below.refl _ _) m⟩)
  have HML : Hid (∃ ad mi, mi + 1 = ys.length ∧ X = some ad ∧ ∀ W, Below w.heap.size w W → W.cell? (ad.add (mi * 10)) = some (.int .i64 s.t) ∧ W.cell? ⟨(ad.add (mi * 10)).block, (ad.add (mi * 10)).off + 1, none⟩ = some (.int .i64 s.h.schema) ∧ W.cell? ⟨(ad.add (mi * 10)).block, (ad.add (mi * 10)).off + 2, none⟩ = some (.int .u64 s.h.zero) ∧ W.cell? ⟨(ad.add (mi * 10)).block, (ad.add (mi * 10)).off + 3, none⟩ = some (.int .u64 s.h.zc) ∧ W.cell? ⟨(ad.add (mi * 10)).block, (ad.add (mi * 10)).off + 4, none⟩ = some (.int .u64 s.h.cnt) ∧ W.cell? ⟨(ad.add (mi * 10)).block, (ad.add (mi * 10)).off + 5, none⟩ = some (.int .u64 s.h.sum) ∧ W.cell? ⟨(ad.add (mi * 10)).block, (ad.add (mi * 10)).off + 6, none⟩ = some (.slice (lhOf y.2).A s.h.pos.length (lhOf y.2).c) ∧ W.cell? ⟨(ad.add (mi * 10)).block, (ad.add (mi * 10)).off + 7, none⟩ = some (.slice (lhOf y.2).B s.h.neg.length (lhOf y.2).d) ∧ W.cell? ⟨(ad.add (mi * 10)).block, (ad.add (mi * 10)).off + 8, none⟩ = some (.slice (lhOf y.2).C s.h.pc.length (lhOf y.2).cc) ∧ W.cell? ⟨(ad.add (mi * 10)).block, (ad.add (mi * 10)).off + 9, none⟩ = some (.slice (lhOf y.2).D s.h.nc.length (lhOf y.2).dd)) := Lib.hid (by
    obtain ⟨m, hm⟩ : ∃ m, m + 1 = ys.length := ⟨ys.length - 1, by omega⟩
    have hmy : ys[m]'(by omega) = y := by
      simp only [hys]
      rw [List.getElem_append_right (by rw [hys, List.length_append, List.length_singleton] at hm; omega)]
      simp
    obtain ⟨ad, hA, -⟩ := h.elem m (by omega)
    refine ⟨ad, m, hm, hA, fun W hb => ?_⟩
    obtain ⟨ad', hA', hrow⟩ := FsL.row (h.below hb) m (by omega)
    rw [hA] at hA'
    injection hA' with hA'
    subst hA'
    rw [hmy, ← hs] at hrow
    exact hrow)
  have HMI : Hid (∀ W, Below w.heap.size w W → FhIn W s.h (lhOf y.2)) := Lib.hid (fun W hb => by
    rw [hs]
    exact ((h.below hb).el y (by rw [hys]; simp)).2.1)
  obtain ⟨ad, mi, hmi, hXA, hMR⟩ := HML.out
  have HMR := Lib.hid hMR
  obtain ⟨m, hmm⟩ : ∃ m, m = lhOf y.2 := ⟨_, rfl⟩
  rw [← hmm] at HMR HMI
  have hnn : ys.length ≤ 1000 := hn1000
  obtain ⟨n, hn⟩ : ∃ n, n = ys.length := ⟨_, rfl⟩
  rw [← hn] at hln hnn hmi hc HBT ⊢
  rw [hln] at HLE
  have HLA2 : Hid (∀ W, Below w.heap.size w W → Calls Tryz.prog 95 #[.pointer (some ⟨g, 0, none⟩)] W fun e w' => ∃ r : Lh, e = .returned (.tuple #[.agg (scs ⟨s.t, { s.h with pos := q.pos, neg := q.neg }⟩ r).toArray, .bool true]) ∧ FhIn w' { s.h with pos := q.pos, neg := q.neg } r ∧ Below W.heap.size W w') := Lib.hid (fun W hb => by
    refine (HLA.out W hb).mono ?_
    rintro e w' ⟨r, rfl, g1, -, g3⟩
    rw [hLS] at g1 ⊢
    rw [decide_eq_true hpos]
    exact ⟨r, rfl, g1, g3⟩)
  obtain ⟨cb, hcb2⟩ : ∃ n, n = (chunkB q l).length := ⟨_, rfl⟩
  rw [← hcb2] at HBI hab hcb
  rw [hab] at hsz
  obtain ⟨sT, hT⟩ : ∃ s, s = txt (allBits q l) := ⟨_, rfl⟩
  obtain ⟨sB, hB⟩ : ∃ s, s = str (pack (allBits q l)) := ⟨_, rfl⟩
  have HRS := Lib.hid (fun (A : Option Addr) (c : Nat) W (hr : RdB W A (pack (allBits q l))) => RdB.string (P := Tryz.prog) (src := 51) (dst := 9) (e := 5) (c := c) hr rfl Tryz.underlying51 Tryz.underlying5 Tryz.underlying9)
  rw [← hT] at HBT HRB hsz
  rw [← hB] at HRB HRS
  obtain ⟨m16, hm16⟩ : ∃ m, m = 16 + cb := ⟨_, rfl⟩
  rw [← hm16] at HBI hsz
  have d1 : ((m16 : Int) != (sT.size : Int)) = false := by rw [hsz]; simp
  have d1' : ((m16 : Int) == (sT.size : Int)) = true := by rw [hsz]; simp
  have hm17 : m16 ≤ 100000016 := by omega
  have HD1 := Lib.hid hsz
  have hn0 : 0 < n := by omega
  have d2 : decide ((0 : Int) < n) = true := decide_eq_true (by omega)
  have d2n : decide (0 < n) = true := decide_eq_true (by omega)
  have hqs : q.pos.length ≤ 1000000 ∧ q.neg.length ≤ 1000000 := ⟨hx.pos.len, hx.neg.len⟩
  clear hab hcb2 hT hB hm16 he hF hsz HLA hLS hpos hlz hys hl hs hwid e0 e1' e2' e3' e4' e5' e6' hw1 hw2 h hn hln hn1000 hMR hmm HML
  subst hXA
  obtain ⟨vr, hint, schema, zt, pos, neg⟩ := q
  obtain ⟨A, c, B, d⟩ := p
  obtain ⟨W0, hW0, hbk, hal⟩ : ∃ W : World, W = w.alloc (.cells #[.int .i64 vr, .int .i64 hint, .int .i64 schema, .int .u64 zt, .slice A pos.length c, .slice B neg.length d] 25) ∧ W.heap[w.heap.size]? = some (.cells #[.int .i64 vr, .int .i64 hint, .int .i64 schema, .int .u64 zt, .slice A pos.length c, .slice B neg.length d] 25 (0, 0)) ∧ Below w.heap.size w W := ⟨_, rfl, blk_last w _, below_alloc (Below.refl _ _) _⟩
  have HCEL : Hid (∀ W : World, Below W0.heap.size W0 W → (W.cell? ⟨w.heap.size, 0, none⟩ = some (.int .i64 vr) ∧ W.cell? ⟨w.heap.size, 1, none⟩ = some (.int .i64 hint) ∧ W.cell? ⟨w.heap.size, 2, none⟩ = some (.int .i64 schema) ∧ W.cell? ⟨w.heap.size, 3, none⟩ = some (.int .u64 zt) ∧ W.cell? ⟨w.heap.size, 4, none⟩ = some (.slice A pos.length c) ∧ W.cell? ⟨w.heap.size, 5, none⟩ = some (.slice B neg.length d))) := Lib.hid (fun W h => by
    have hb := (h.block _ (blk_lt hbk)).trans hbk
    exact ⟨obj_cell hb rfl, obj_cell hb rfl, obj_cell hb rfl, obj_cell hb rfl, obj_cell hb rfl, obj_cell hb rfl⟩)
  have HEND := Lib.hid (fun W (hb : Below W0.heap.size W0 W) => below_then hal hal.size hb)
  have HW0 := Lib.hid hW0
  have HAL := Lib.hid hal
  have HXX := Lib.hid hx
  obtain ⟨k0, k1, k2, k3, k4, k5⟩ := HCEL.out W0 (Below.refl _ _)
  clear hx hbk hal hW0
  show Calls Tryz.prog 39 #[.pointer (some ⟨g, 0, none⟩), .agg #[.int .i64 vr, .int .i64 hint, .int .i64 schema, .int .u64 zt, .slice A pos.length c, .slice B neg.length d], .slice (some ad) n cx] w _
  go_enter Tryz.func39, Tryz.ntmps39
  go_wp2_with (fail)
  rw [← HW0.out]
  refine (HHD.out _ HAL.out).mono ?_
  rintro e w1 ⟨r, rfl, hr, hb1⟩
  obtain ⟨A1, c1, B1, d1⟩ := r
  have X1 := Lib.hid hb1
  have HBX := Lib.hid (HBT.out w1 (HEND.out _ hb1) _ hr)
  clear hr hb1 k0 k1 k2 k3 k4 k5
  dsimp only [hcs]
  go_wp2_with (fail)
  refine HBX.out.mono ?_
  rintro e w2 ⟨rfl, hb2⟩
  have X2 := Lib.hid (below_then X1.out X1.out.size hb2)
  clear hb2 HBX
  go_wp2_with (fail)
  refine (HLA2.out _ (HEND.out _ X2.out)).mono ?_
  rintro e w3 ⟨r, rfl, hfr, hb3⟩
  dsimp only [scs, fcs]
  obtain ⟨W3, hW3, hg3, hb3'⟩ : ∃ W : World, W = w3.alloc (.cells #[.int .i64 s.t, .int .i64 s.h.schema, .int .u64 s.h.zero, .int .u64 s.h.zc, .int .u64 s.h.cnt, .int .u64 s.h.sum, .slice r.A pos.length r.c, .slice r.B neg.length r.d, .slice r.C s.h.pc.length r.cc, .slice r.D s.h.nc.length r.dd] 74) ∧ W.heap[w3.heap.size]? = some (.cells #[.int .i64 s.t, .int .i64 s.h.schema, .int .u64 s.h.zero, .int .u64 s.h.zc, .int .u64 s.h.cnt, .int .u64 s.h.sum, .slice r.A pos.length r.c, .slice r.B neg.length r.d, .slice r.C s.h.pc.length r.cc, .slice r.D s.h.nc.length r.dd] 74 (0, 0)) ∧ Below w3.heap.size w3 W := ⟨_, rfl, blk_last w3 _, below_alloc (Below.refl _ _) _⟩
  have HW3 := Lib.hid hW3
  have X3 := Lib.hid (below_then X2.out X2.out.size (below_then hb3 hb3.size hb3'))
  have HG3 := Lib.hid hg3
  have HFR := Lib.hid (hfr.below hb3')
  have HS : Hid (∀ W : World, Below W3.heap.size W3 W → (Below W3.heap.size W3 W ∧ W.cell? ⟨w.heap.size, 0, none⟩ = some (.int .i64 vr) ∧ W.cell? ⟨w.heap.size, 1, none⟩ = some (.int .i64 hint) ∧ W.cell? ⟨w.heap.size, 2, none⟩ = some (.int .i64 schema) ∧ W.cell? ⟨w.heap.size, 3, none⟩ = some (.int .u64 zt) ∧ W.cell? ⟨w.heap.size, 4, none⟩ = some (.slice A pos.length c) ∧ W.cell? ⟨w.heap.size, 5, none⟩ = some (.slice B neg.length d))) := Lib.hid (fun W h => ⟨h, HCEL.out W (below_then X3.out X3.out.size h)⟩)
  have HEN3 := Lib.hid (fun W (h : Below W3.heap.size W3 W) => HEND.out W (below_then X3.out X3.out.size h))
  have hs0 := HS.out W3 (Below.refl _ _)
  have HLE := Lib.hid (fun W (h : Below W3.heap.size W3 W) => HLE.out W (HEN3.out W h))
  have HBI := Lib.hid (fun W (h : Below W3.heap.size W3 W) => HBI.out W (HEN3.out W h))
  have HBY := Lib.hid (fun W (h : Below W3.heap.size W3 W) => HBY.out W (HEN3.out W h))
  have HHE := Lib.hid (fun W (h : Below W3.heap.size W3 W) => HHE.out W (HEN3.out W h))
  have HEQ := Lib.hid (fun W (h : Below W3.heap.size W3 W) r hr => HEQ.out W (HEN3.out W h) r hr)
  clear hb3 hW3 hg3 hb3' hfr
  go_wp2_with (fail)
  rw [← HW3.out]
  go_region_held_law (fun W => Below W3.heap.size W3 W ∧ W.cell? ⟨w.heap.size, 0, none⟩ = some (.int .i64 vr) ∧ W.cell? ⟨w.heap.size, 1, none⟩ = some (.int .i64 hint) ∧ W.cell? ⟨w.heap.size, 2, none⟩ = some (.int .i64 schema) ∧ W.cell? ⟨w.heap.size, 3, none⟩ = some (.int .u64 zt) ∧ W.cell? ⟨w.heap.size, 4, none⟩ = some (.slice A pos.length c) ∧ W.cell? ⟨w.heap.size, 5, none⟩ = some (.slice B neg.length d))
    (first | (with_reducible exact HS.out _ (below_drew (Below.refl _ _))) | (with_reducible exact HS.out _ hb63) | (with_reducible exact HS.out _ hb62) | (with_reducible exact HS.out _ hb61) | (with_reducible exact HS.out _ hb60) | assumption)
    (first
    | (go_at_call 48; refine (HLE.out _ (And.left (by assumption))).mono ?_; rintro e w58 ⟨rfl, rfl⟩)
    | (go_at_call 40; refine (HBI.out _ (And.left (by assumption))).mono ?_; rintro e w59 ⟨rfl, rfl⟩)
    | (go_at_call 51; refine (HBY.out _ (And.left (by assumption))).mono ?_; rintro e w60 ⟨v, rfl, ho, hbx⟩; have hb60 : Below W3.heap.size W3 w60 := below_then (And.left (by assumption)) (And.left (by assumption) : Below W3.heap.size W3 _).size hbx; obtain ⟨Dv, dv, rfl, -, hrv⟩ := ho.reads; have hcv := fun W (h : Below w60.heap.size w60 W) => HRS.out Dv dv W (hrv.below h); have hb6060 := Below.refl w60.heap.size w60)
    | (go_at_call 103; refine (HRB.out _).mono ?_; rintro e w61 ⟨rfl, hby⟩; have hb61 : Below W3.heap.size W3 w61 := below_then hb60 hb60.size hby)
    | (go_at_call 104; refine (HHE.out _ hb61).mono ?_; rintro e w62 ⟨⟨A5, c5, B5, d5⟩, rfl, hr62, hbz⟩; have hb62 : Below W3.heap.size W3 w62 := below_then hb61 hb61.size hbz)
    | (go_at_call 29; refine (HEQ.out _ hb62 _ hr62).mono ?_; rintro e w63 ⟨rfl, hbu⟩; have hb63 : Below W3.heap.size W3 w63 := below_then hb62 hb62.size hbu))
  all_goals
    have X9 := Lib.hid hb63
    obtain ⟨m0, m1, m2, m3, m4, m5, m6, m7, m8, m9⟩ := HMR.out _ (HEN3.out _ X9.out)
    clear hb63 hb62 hb61 hb60 hbx hby hbz hbu hr62 hcv hb6060 hrv ho
    obtain ⟨W4, hW4, hg4, hb4⟩ : ∃ W : World, W = w63.alloc (.cells #[.int .i64 s.t, .int .i64 s.h.schema, .int .u64 s.h.zero, .int .u64 s.h.zc, .int .u64 s.h.cnt, .int .u64 s.h.sum, .slice m.A s.h.pos.length m.c, .slice m.B s.h.neg.length m.d, .slice m.C s.h.pc.length m.cc, .slice m.D s.h.nc.length m.dd] 82) ∧ W.heap[w63.heap.size]? = some (.cells #[.int .i64 s.t, .int .i64 s.h.schema, .int .u64 s.h.zero, .int .u64 s.h.zc, .int .u64 s.h.cnt, .int .u64 s.h.sum, .slice m.A s.h.pos.length m.c, .slice m.B s.h.neg.length m.d, .slice m.C s.h.pc.length m.cc, .slice m.D s.h.nc.length m.dd] 82 (0, 0)) ∧ Below w63.heap.size w63 W := ⟨_, rfl, blk_last w63 _, below_alloc (Below.refl _ _) _⟩
    have HW4 := Lib.hid hW4
    have X4 := Lib.hid (below_then X9.out X9.out.size hb4)
    have HS4 : Hid (∀ W : World, Below W4.heap.size W4 W → (W.cell? ⟨w.heap.size, 4, none⟩ = some (.slice A pos.length c) ∧ W.cell? ⟨w.heap.size, 5, none⟩ = some (.slice B neg.length d) ∧ W.cell? ⟨w3.heap.size, 0, none⟩ = some (.int .i64 s.t) ∧ W.cell? ⟨w3.heap.size, 1, none⟩ = some (.int .i64 s.h.schema) ∧ W.cell? ⟨w3.heap.size, 2, none⟩ = some (.int .u64 s.h.zero) ∧ W.cell? ⟨w3.heap.size, 3, none⟩ = some (.int .u64 s.h.zc) ∧ W.cell? ⟨w3.heap.size, 4, none⟩ = some (.int .u64 s.h.cnt) ∧ W.cell? ⟨w3.heap.size, 5, none⟩ = some (.int .u64 s.h.sum) ∧ W.cell? ⟨w3.heap.size, 6, none⟩ = some (.slice r.A pos.length r.c) ∧ W.cell? ⟨w3.heap.size, 7, none⟩ = some (.slice r.B neg.length r.d) ∧ W.cell? ⟨w3.heap.size, 8, none⟩ = some (.slice r.C s.h.pc.length r.cc) ∧ W.cell? ⟨w3.heap.size, 9, none⟩ = some (.slice r.D s.h.nc.length r.dd) ∧ W.cell? ⟨w63.heap.size, 0, none⟩ = some (.int .i64 s.t) ∧ W.cell? ⟨w63.heap.size, 1, none⟩ = some (.int .i64 s.h.schema) ∧ W.cell? ⟨w63.heap.size, 2, none⟩ = some (.int .u64 s.h.zero) ∧ W.cell? ⟨w63.heap.size, 3, none⟩ = some (.int .u64 s.h.zc) ∧ W.cell? ⟨w63.heap.size, 4, none⟩ = some (.int .u64 s.h.cnt) ∧ W.cell? ⟨w63.heap.size, 5, none⟩ = some (.int .u64 s.h.sum) ∧ W.cell? ⟨w63.heap.size, 6, none⟩ = some (.slice m.A s.h.pos.length m.c) ∧ W.cell? ⟨w63.heap.size, 7, none⟩ = some (.slice m.B s.h.neg.length m.d) ∧ W.cell? ⟨w63.heap.size, 8, none⟩ = some (.slice m.C s.h.pc.length m.cc) ∧ W.cell? ⟨w63.heap.size, 9, none⟩ = some (.slice m.D s.h.nc.length m.dd))) := Lib.hid (fun W h => by
      have hb := (h.block _ (blk_lt hg4)).trans hg4
      have hc := ((below_then X4.out X4.out.size h).block _ (blk_lt HG3.out)).trans HG3.out
      obtain ⟨-, -, -, -, k4, k5⟩ := HCEL.out W (below_then X3.out X3.out.size (below_then X4.out X4.out.size h))
      exact ⟨k4, k5, obj_cell hc rfl, obj_cell hc rfl, obj_cell hc rfl, obj_cell hc rfl, obj_cell hc rfl, obj_cell hc rfl, obj_cell hc rfl, obj_cell hc rfl, obj_cell hc rfl, obj_cell hc rfl, obj_cell hb rfl, obj_cell hb rfl, obj_cell hb rfl, obj_cell hb rfl, obj_cell hb rfl, obj_cell hb rfl, obj_cell hb rfl, obj_cell hb rfl, obj_cell hb rfl, obj_cell hb rfl⟩)
    have HSA4 : Hid (∀ W, Below W4.heap.size W4 W → Calls Tryz.prog 44 #[.agg #[.int .i64 s.t, .int .i64 s.h.schema, .int .u64 s.h.zero, .int .u64 s.h.zc, .int .u64 s.h.cnt, .int .u64 s.h.sum, .slice r.A pos.length r.c, .slice r.B neg.length r.d, .slice r.C s.h.pc.length r.cc, .slice r.D s.h.nc.length r.dd]] W fun e w' => ∃ A7 c7 B7 d7, e = .returned (.agg #[.int .i64 s.t, .int .i64 s.h.schema, .int .u64 s.h.zero, .int .u64 s.h.zc, .int .u64 s.h.cnt, .int .u64 s.h.sum, .slice A7 pos.length c7, .slice B7 neg.length d7, .slice r.C s.h.pc.length r.cc, .slice r.D s.h.nc.length r.dd]) ∧ FhIn w' { s.h with pos := pos, neg := neg } ⟨A7, c7, B7, d7, r.C, r.cc, r.D, r.dd⟩ ∧ Below W4.heap.size W4 w') := Lib.hid (fun W h => by
      refine (HSA.out W r (HFR.out.below (below_then X4.out X4.out.size h))).mono ?_
      rintro e w' ⟨A7, c7, B7, d7, rfl, g1, g2⟩
      exact ⟨A7, c7, B7, d7, rfl, g1, below_then h h.size g2⟩)
    have HEQ4 : Hid (∀ W A7 c7 B7 d7, FhIn W { s.h with pos := pos, neg := neg } ⟨A7, c7, B7, d7, r.C, r.cc, r.D, r.dd⟩ → Below W4.heap.size W4 W → Calls Tryz.prog 105 #[.agg #[.int .i64 s.h.schema, .int .u64 s.h.zero, .int .u64 s.h.zc, .int .u64 s.h.cnt, .int .u64 s.h.sum, .slice A7 pos.length c7, .slice B7 neg.length d7, .slice r.C s.h.pc.length r.cc, .slice r.D s.h.nc.length r.dd], .agg #[.int .i64 s.h.schema, .int .u64 s.h.zero, .int .u64 s.h.zc, .int .u64 s.h.cnt, .int .u64 s.h.sum, .slice m.A s.h.pos.length m.c, .slice m.B s.h.neg.length m.d, .slice m.C s.h.pc.length m.cc, .slice m.D s.h.nc.length m.dd]] W fun e w' => e = .returned (.bool true) ∧ Below W4.heap.size W4 w') := Lib.hid (fun W A7 c7 B7 d7 h1 h => by
      refine (HE10.out W ⟨A7, c7, B7, d7, r.C, r.cc, r.D, r.dd⟩ m h1 (HMI.out W (HEN3.out _ (below_then X4.out X4.out.size h)))).mono ?_
      rintro e w' ⟨rfl, g2⟩
      exact ⟨rfl, below_then h h.size g2⟩)
    have HAP : Hid (∀ W, Below W4.heap.size W4 W → Calls Tryz.prog 106 #[.slice r.A pos.length r.c, .slice A pos.length c] W fun e w' => e = .returned (.bool true) ∧ Below W4.heap.size W4 w') := Lib.hid (fun W h => by
      refine (HAK.out W r.A A r.c c pos (HFR.out.pos.below (below_then X4.out X4.out.size h)) (HXX.out.pos.below (HEN3.out _ (below_then X4.out X4.out.size h)))).mono ?_
      rintro e w' ⟨rfl, g2⟩
      exact ⟨rfl, below_then h h.size g2⟩)
    have HAN : Hid (∀ W, Below W4.heap.size W4 W → Calls Tryz.prog 106 #[.slice r.B neg.length r.d, .slice B neg.length d] W fun e w' => e = .returned (.bool true) ∧ Below W4.heap.size W4 w') := Lib.hid (fun W h => by
      refine (HAK.out W r.B B r.d d neg (HFR.out.neg.below (below_then X4.out X4.out.size h)) (HXX.out.neg.below (HEN3.out _ (below_then X4.out X4.out.size h)))).mono ?_
      rintro e w' ⟨rfl, g2⟩
      exact ⟨rfl, below_then h h.size g2⟩)
    have n1 : (n : Int) - 1 = (mi : Int) := by omega
    have n2 : IntKind.i64.wrap (mi : Int) = mi := by rw [IntKind.wrap_i64]; omega
    have n3 : (mi : Int) < (n : Int) := by omega
    have n4 : mi < n := by omega
    have hq0 := HS4.out _ (below_drew (Below.refl _ _))
    clear hW4 hg4 hb4
    go_wp2_with (fail)
    rw [← HW4.out]
    clear m0 m1 m2 m3 m4 m5 m6 m7 m8 m9
    go_region_held3 (fun W => W.cell? ⟨w.heap.size, 4, none⟩ = some (.slice A pos.length c) ∧ W.cell? ⟨w.heap.size, 5, none⟩ = some (.slice B neg.length d) ∧ W.cell? ⟨w3.heap.size, 0, none⟩ = some (.int .i64 s.t) ∧ W.cell? ⟨w3.heap.size, 1, none⟩ = some (.int .i64 s.h.schema) ∧ W.cell? ⟨w3.heap.size, 2, none⟩ = some (.int .u64 s.h.zero) ∧ W.cell? ⟨w3.heap.size, 3, none⟩ = some (.int .u64 s.h.zc) ∧ W.cell? ⟨w3.heap.size, 4, none⟩ = some (.int .u64 s.h.cnt) ∧ W.cell? ⟨w3.heap.size, 5, none⟩ = some (.int .u64 s.h.sum) ∧ W.cell? ⟨w3.heap.size, 6, none⟩ = some (.slice r.A pos.length r.c) ∧ W.cell? ⟨w3.heap.size, 7, none⟩ = some (.slice r.B neg.length r.d) ∧ W.cell? ⟨w3.heap.size, 8, none⟩ = some (.slice r.C s.h.pc.length r.cc) ∧ W.cell? ⟨w3.heap.size, 9, none⟩ = some (.slice r.D s.h.nc.length r.dd) ∧ W.cell? ⟨w63.heap.size, 0, none⟩ = some (.int .i64 s.t) ∧ W.cell? ⟨w63.heap.size, 1, none⟩ = some (.int .i64 s.h.schema) ∧ W.cell? ⟨w63.heap.size, 2, none⟩ = some (.int .u64 s.h.zero) ∧ W.cell? ⟨w63.heap.size, 3, none⟩ = some (.int .u64 s.h.zc) ∧ W.cell? ⟨w63.heap.size, 4, none⟩ = some (.int .u64 s.h.cnt) ∧ W.cell? ⟨w63.heap.size, 5, none⟩ = some (.int .u64 s.h.sum) ∧ W.cell? ⟨w63.heap.size, 6, none⟩ = some (.slice m.A s.h.pos.length m.c) ∧ W.cell? ⟨w63.heap.size, 7, none⟩ = some (.slice m.B s.h.neg.length m.d) ∧ W.cell? ⟨w63.heap.size, 8, none⟩ = some (.slice m.C s.h.pc.length m.cc) ∧ W.cell? ⟨w63.heap.size, 9, none⟩ = some (.slice m.D s.h.nc.length m.dd))
      (first | (with_reducible exact hq0) | (with_reducible exact hq1) | (with_reducible exact hq2) | (with_reducible exact hq3) | (with_reducible exact hq4))
      (first
      | (go_at_call 44; refine (HSA4.out _ (below_drew (Below.refl _ _))).mono ?_; rintro e w64 ⟨A7, c7, B7, d7, rfl, hf7, hb64⟩; have hq1 := HS4.out _ hb64; have hfl : ∀ W : World, (Instr.field 82 (.agg #[.int .i64 s.t, .int .i64 s.h.schema, .int .u64 s.h.zero, .int .u64 s.h.zc, .int .u64 s.h.cnt, .int .u64 s.h.sum, .slice A7 pos.length c7, .slice B7 neg.length d7, .slice r.C s.h.pc.length r.cc, .slice r.D s.h.nc.length r.dd]) 1).run Tryz.prog W = .ok (.agg #[.int .i64 s.h.schema, .int .u64 s.h.zero, .int .u64 s.h.zc, .int .u64 s.h.cnt, .int .u64 s.h.sum, .slice A7 pos.length c7, .slice B7 neg.length d7, .slice r.C s.h.pc.length r.cc, .slice r.D s.h.nc.length r.dd]) W := fun _ => by kernel_rfl)
      | (go_at_call 105; refine (HEQ4.out _ _ _ _ _ hf7 hb64).mono ?_; rintro e w65 ⟨rfl, hb65⟩; have hq2 := HS4.out _ hb65)
      | (go_at_call 106; (with_reducible show Calls _ _ #[Value.slice r.A _ _, _] _ _); refine (HAP.out _ hb65).mono ?_; rintro e w66 ⟨rfl, hb66⟩; have hq3 := HS4.out _ hb66)
      | (go_at_call 106; refine (HAN.out _ hb66).mono ?_; rintro e w67 ⟨rfl, hb67⟩; have hq4 := HS4.out _ hb67))
    have X10 := Lib.hid (HEN3.out _ (below_then X4.out X4.out.size hb67))
    clear hq0 hq1 hq2 hq3 hq4 hb64 hb65 hb66 hb67 hf7 hfl
    go_wp2
    go_ret
    exact ⟨rfl, X10.out⟩
end Go.Proofs.YtjfekjbmgckkcaaGreatDoor.Law18G
namespace Go.Proofs.YtjfekjbmgckkcaaGreatDoor.Law18H
open Go.RowKit Go.Proofs.YtjfekjbmgckkcaaGreatDoorW.PrintWords
open Go.Proofs.YtjfekjbmgckkcaaGreatDoor.Bits Go.Proofs.YtjfekjbmgckkcaaGreatDoor.Base Go.Proofs.YtjfekjbmgckkcaaGreatDoor.VarPure Go.Proofs.YtjfekjbmgckkcaaGreatDoor.VarbitA Go.Proofs.YtjfekjbmgckkcaaGreatDoor.VarKit Go.Proofs.YtjfekjbmgckkcaaGreatDoor.StreamA Go.Proofs.YtjfekjbmgckkcaaGreatDoor.SpanPure Go.Proofs.YtjfekjbmgckkcaaGreatDoor.SpanBase Go.Proofs.YtjfekjbmgckkcaaGreatDoor.FailAs Go.Proofs.YtjfekjbmgckkcaaGreatDoor.FailB Go.Proofs.YtjfekjbmgckkcaaGreatDoor.FailC Go.Proofs.YtjfekjbmgckkcaaGreatDoor.HeadA Go.Proofs.YtjfekjbmgckkcaaGreatDoor.HeadB Go.Proofs.YtjfekjbmgckkcaaGreatDoor.HeadC Go.Proofs.YtjfekjbmgckkcaaGreatDoor.HeadE Go.Proofs.YtjfekjbmgckkcaaGreatDoor.HeadPure Go.Proofs.YtjfekjbmgckkcaaGreatDoor.Ref01 Go.Proofs.YtjfekjbmgckkcaaGreatDoor.Ref12 Go.Proofs.YtjfekjbmgckkcaaGreatDoor.Ref13 Go.Proofs.YtjfekjbmgckkcaaGreatDoor.TimesPure Go.Proofs.YtjfekjbmgckkcaaGreatDoor.TimesA Go.Proofs.YtjfekjbmgckkcaaGreatDoor.XorPure Go.Proofs.YtjfekjbmgckkcaaGreatDoor.XorA Go.Proofs.YtjfekjbmgckkcaaGreatDoor.XorB Go.Proofs.YtjfekjbmgckkcaaGreatDoor.FcPure Go.Proofs.YtjfekjbmgckkcaaGreatDoor.FcObj Go.Proofs.YtjfekjbmgckkcaaGreatDoor.FsArg Go.Proofs.YtjfekjbmgckkcaaGreatDoor.FcA Go.Proofs.YtjfekjbmgckkcaaGreatDoor.FcB Go.Proofs.YtjfekjbmgckkcaaGreatDoor.FcC Go.Proofs.YtjfekjbmgckkcaaGreatDoor.FcD Go.Proofs.YtjfekjbmgckkcaaGreatDoor.FcF Go.Proofs.YtjfekjbmgckkcaaGreatDoor.FcH Go.Proofs.YtjfekjbmgckkcaaGreatDoor.FcI Go.Proofs.YtjfekjbmgckkcaaGreatDoor.HdArg Go.Proofs.YtjfekjbmgckkcaaGreatDoor.Law14A Go.Proofs.YtjfekjbmgckkcaaGreatDoor.Law18A Go.Proofs.YtjfekjbmgckkcaaGreatDoor.Law18D Go.Proofs.YtjfekjbmgckkcaaGreatDoor.Law18E Go.Proofs.YtjfekjbmgckkcaaGreatDoor.Law18F Go.Proofs.YtjfekjbmgckkcaaGreatDoor.Ref14A Go.Proofs.YtjfekjbmgckkcaaGreatDoor.Ref18A Go.Proofs.YtjfekjbmgckkcaaGreatDoor.Ref18B
open Go.Proofs.YtjfekjbmgckkcaaGreatDoor.HeadD (rd_lt)
theorem On.and {T T' : Nat → Prop} {A : Option Addr} {n : Nat} (h : On T A n) (h' : On T' A n) : On (fun k => T k ∧ T' k) A n := fun ad h1 h2 => ⟨h ad h1 h2, h' ad h1 h2⟩
theorem OnH.and {T T' : Nat → Prop} {h : FH} {p : Lh} (a : OnH T h p) (b : OnH T' h p) : OnH (fun k => T k ∧ T' k) h p := ⟨On.and a.pos b.pos, On.and a.neg b.neg, On.and a.pc b.pc, On.and a.nc b.nc⟩
theorem nul_lt {w : World} {A : Option Addr} {c : Nat} {l : List Nat} (h : Nul w A c l) : On (fun k => k < w.heap.size) A l.length := fun ad hA hp => by
  obtain ⟨ad', he, hc0⟩ := RdI.at_ h.rd 0 (by rw [nats_length]; exact hp)
  rw [hA] at he
  injection he with he
  subst he
  have hl := World.block_lt_of_cell? w _ hc0
  have hbk : (ad.add 0).block = ad.block := by unfold Addr.add; split <;> rfl
  rwa [hbk] at hl
theorem fh_lt {w : World} {h : FH} {p : Lh} (x : FhIn w h p) : OnH (fun k => k < w.heap.size) h p := ⟨fun ad hA hp => rd_lt x.pos.rd ad hA hp, fun ad hA hp => rd_lt x.neg.rd ad hA hp, nul_lt x.pc, nul_lt x.nc⟩
def mkX (x : FsX) (A : Option Addr) (c : Nat) (B : Option Addr) (d : Nat) : FsX := (x.1, x.2.1, x.2.2.1, x.2.2.2.1, x.2.2.2.2.1, x.2.2.2.2.2.1, ⟨A, c, x.2.2.2.2.2.2.1.l⟩, ⟨B, d, x.2.2.2.2.2.2.2.1.l⟩, x.2.2.2.2.2.2.2.2.1, x.2.2.2.2.2.2.2.2.2)
theorem mkX_fs (x : FsX) (A : Option Addr) (c : Nat) (B : Option Addr) (d : Nat) : fsOf (mkX x A c B d) = fsOf x := rfl
theorem mkX_lh (x : FsX) (A : Option Addr) (c : Nat) (B : Option Addr) (d : Nat) : lhOf (mkX x A c B d).2 = ⟨A, c, B, d, (lhOf x.2).C, (lhOf x.2).cc, (lhOf x.2).D, (lhOf x.2).dd⟩ := rfl
theorem mkX_enc {w : World} {x : FsX} (h : rFs.ok w x) (A : Option Addr) (c : Nat) (B : Option Addr) (d : Nat) : rFs.enc (mkX x A c B d) = scs (fsOf (mkX x A c B d)) (lhOf (mkX x A c B d).2) := by
  obtain ⟨t, s, z, zc, cn, su, p, n, pc, nc⟩ := x
  obtain ⟨-, -, h2, h3, h4, h5, -⟩ := h
  have e2 := (u64_in h2).1
  have e3 := (u64_in h3).1
  have e4 := (u64_in h4).1
  have e5 := (u64_in h5).1
  show [Value.int .i64 t, .int .i64 s, .int .u64 z, .int .u64 zc, .int .u64 cn, .int .u64 su, .slice A p.l.length c, .slice B n.l.length d, .slice pc.at_ pc.l.length pc.cap, .slice nc.at_ nc.l.length nc.cap] =
    [Value.int .i64 t, .int .i64 s, .int .u64 (z.toNat : Int), .int .u64 (zc.toNat : Int), .int .u64 (cn.toNat : Int), .int .u64 (su.toNat : Int), .slice A p.l.length c, .slice B n.l.length d, .slice pc.at_ (un pc.l).length pc.cap, .slice nc.at_ (un nc.l).length nc.cap]
  simp only at e2 e3 e4 e5
  rw [un_length, un_length, Int.toNat_of_nonneg e2, Int.toNat_of_nonneg e3, Int.toNat_of_nonneg e4, Int.toNat_of_nonneg e5]
theorem room_of {q : Hd} (he : (headErr q).1 = 0) {l : List FS} (h64 : ∀ s ∈ l, In64S s) (hg : FcPure.Good q l) (hn : l.length ≤ 16) : Room q l ∧ (chunkB q l).length ≤ 100000000 := by
  obtain ⟨c1, c2⟩ := okq_chk he
  have w1 := places_len (SpanQ.right_of c1)
  have w2 := places_len (SpanQ.right_of c2)
  have h1 := enc_le he
  have h2 := bitsB_le (m := 3 + 4096 + 4096) l h64 (fun s hs => by
    rw [good_width hg hs, width]
    omega)
  have h3 : l.length * (72 + 77 * (3 + 4096 + 4096)) ≤ 16 * (72 + 77 * (3 + 4096 + 4096)) := Nat.mul_le_mul_right _ hn
  unfold Room chunkB width
  rw [List.length_append]
  refine ⟨⟨by omega, by omega⟩, by omega⟩
structure Ak (q : Hd) (g : Nat) (w W : World) (v : Value) (l : List FS) (xs : List FsX) (S : Nat → Prop) : Prop where
  b : Below w.heap.size w W
  ck : Ck W g S q l
  hs : ∀ j, S j → w.heap.size ≤ j
  ow : Rep.OwX rFs 82 W w.heap.size v xs
  os : ∀ b, v.ownBlock = some b → ¬ S b
  el : ∀ x ∈ xs, rFs.enc x = scs (fsOf x) (lhOf x.2) ∧ FhIn W (fsOf x).h (lhOf x.2) ∧ In64S (fsOf x) ∧ OnH (fun k => ¬ S k ∧ v.ownBlock ≠ some k) (fsOf x).h (lhOf x.2)
  nil : xs = [] → v = .slice none 0 0
section
variable {q : Hd} {g : Nat} {w W W2 : World} {v : Value} {l l' : List FS} {xs : List FsX} {S : Nat → Prop}
theorem Ak.below (h : Ak q g w W v l xs S) (hb : Below W.heap.size W W2) : Ak q g w W2 v l xs S :=
  ⟨below_then h.b h.b.size hb, h.ck.below hb, h.hs, h.ow.below hb, h.os, fun x hx => by
    obtain ⟨e1, e2, e3, e4⟩ := h.el x hx
    exact ⟨e1, e2.below hb, e3, e4⟩, h.nil⟩
theorem Ak.turn (h : Ak q g w W v l xs S) (hu : Upd (fun W S => Ck W g S q l') S W W2) : ∃ S', Ak q g w W2 v l' xs S' ∧ Ch S W W2 ∧ ∀ k, S' k → S k ∨ W.heap.size ≤ k := by
  obtain ⟨S', h1, h2, h3⟩ := hu
  refine ⟨S', ⟨h.b.trans (h3.below_of h.b.size h.hs), h1, fun j hj => ?_, ?_, fun b hb hs => ?_, fun x hx => ?_, h.nil⟩, h3, h2⟩
  · rcases h2 j hj with h4 | h4
    · exact h.hs j h4
    · exact Nat.le_trans h.b.size h4
  · exact h.ow.move fun b hb => h3.block b (h.ow.lt_ b hb) (h.os b hb)
  · rcases h2 b hs with h4 | h4
    · exact h.os b hb h4
    · have := h.ow.lt_ b hb
      omega
  · obtain ⟨e1, e2, e3, e4⟩ := h.el x hx
    refine ⟨e1, e2.ch h3 e4 fun k hk => hk.1, e3, (OnH.and e4 (fh_lt e2)).mono fun k ⟨⟨a1, a2⟩, a3⟩ => ⟨fun hs => ?_, a2⟩⟩
    rcases h2 k hs with h4 | h4
    · exact a1 h4
    · omega
theorem Ak.push {y : FsX} {v1 : Value} (h : Ak q g w W v l xs S) (he : rFs.enc y = scs (fsOf y) (lhOf y.2)) (hf : FhIn W (fsOf y).h (lhOf y.2)) (h64 : In64S (fsOf y)) (hon : OnH (fun k => ¬ S k ∧ v.ownBlock ≠ some k) (fsOf y).h (lhOf y.2))
    (hown : Rep.OwX rFs 82 W2 w.heap.size v1 (xs ++ [y])) (hb : Below w.heap.size w W2) (hg : W.grownBy W2 v.ownBlock) (hat : v1.ownBlock = v.ownBlock ∨ ∃ b, v1.ownBlock = some b ∧ W.heap.size ≤ b) : Ak q g w W2 v1 l (xs ++ [y]) S := by
  have hc : Ch (fun k => v.ownBlock = some k) W W2 := (Ch.refl _ W).grown hg fun k hk => .inl hk
  have key : ∀ {h' : FH} {p : Lh}, FhIn W h' p → OnH (fun k => ¬ S k ∧ v.ownBlock ≠ some k) h' p → FhIn W2 h' p ∧ OnH (fun k => ¬ S k ∧ v1.ownBlock ≠ some k) h' p := fun {h' p} e2 e4 => ⟨e2.ch hc e4 fun k hk hh => hk.2 hh, (OnH.and e4 (fh_lt e2)).mono fun k ⟨⟨a1, a2⟩, a3⟩ => ⟨a1, fun hh => by
    rcases hat with h5 | ⟨b, h5, h6⟩
    · exact a2 (h5 ▸ hh)
    · rw [h5] at hh
      injection hh with hh
      omega⟩⟩
  refine ⟨hb, h.ck.ch hc fun k hk hh => h.os k hh hk, h.hs, hown, fun b hb' hs => ?_, fun x hx => ?_, fun hn => absurd hn (by simp)⟩
  · rcases hat with h5 | ⟨b', h5, h6⟩
    · exact h.os b (h5 ▸ hb') hs
    · rw [h5] at hb'
      injection hb' with hb'
      have := h.ck.old b hs
      omega
  · rcases List.mem_append.1 hx with hx | hx
    · obtain ⟨e1, e2, e3, e4⟩ := h.el x hx
      exact ⟨e1, (key e2 e4).1, e3, (key e2 e4).2⟩
    · rw [List.mem_singleton.1 hx]
      exact ⟨he, (key hf hon).1, h64, (key hf hon).2⟩
theorem Ak.fsl (h : Ak q g w W v l xs S) (hn : xs.length ≤ 1000) : ∃ A c, v = .slice A xs.length c ∧ FsL W A xs ∧ xs.length ≤ c ∧ c ≤ 9223372036854775807 := by
  obtain ⟨⟨A, c, l0⟩, e1, e2, e3⟩ := h.ow.reads
  simp only at e1 e2
  subst e2
  exact ⟨A, c, e1, ⟨e3.rd, fun x hx => ⟨(h.el x hx).1, (h.el x hx).2.1, (h.el x hx).2.2.1⟩, hn⟩, e3.le, by have := e3.max; unfold maxLen at this; exact this⟩
end
theorem is_ak {q : Hd} {g : Nat} {w W : World} {v : Value} {xs : List FsX} {S : Nat → Prop} (p : Lc) (h : Ak q g w W v (xs.map fsOf) xs S) (hx : HdIn W q p) (he : (headErr q).1 = 0) (hn : xs.length ≤ 16) :
    Calls Tryz.prog 39 #[.pointer (some ⟨g, 0, none⟩), .agg (hcs q p).toArray, v] W fun e w' => e = .returned (.bool true) ∧ Below W.heap.size W w' := by
  rcases List.eq_nil_or_concat xs with rfl | ⟨ys, y, rfl⟩
  · rw [h.nil rfl]
    exact is0_calls g S q p W h.ck hx he
  · obtain ⟨A, c, rfl, h1, h2, h3⟩ := h.fsl (by omega)
    obtain ⟨c1, c2⟩ := okq_chk he
    have w1 := places_len (SpanQ.right_of c1)
    have w2 := places_len (SpanQ.right_of c2)
    obtain ⟨x, hF⟩ := h.ck
    rw [List.concat_eq_append] at *
    exact Law18G.is1_calls g S q p A c ys y W h.ck hx he h1 h2 h3 (by omega) (by omega) (room_of he hF.n64 hF.good (by rw [List.length_map]; exact hn)).2
end Go.Proofs.YtjfekjbmgckkcaaGreatDoor.Law18H
namespace Go.Proofs.YtjfekjbmgckkcaaGreatDoor.HeadLaid
open Go.RowKit Go.Proofs.YtjfekjbmgckkcaaGreatDoorW.PrintWords
open Go.Proofs.YtjfekjbmgckkcaaGreatDoor.Base Go.Proofs.YtjfekjbmgckkcaaGreatDoor.VarPure Go.Proofs.YtjfekjbmgckkcaaGreatDoor.VarbitA Go.Proofs.YtjfekjbmgckkcaaGreatDoor.FailAs
theorem rt : (Tryz.prog.cutTypes.find? (·.1 == "internal/reflectlite.rtype")).map (·.2) = some 290 := by kernel_rfl
theorem gEt : Tryz.prog.globalNamed "errors.errorType" = some 0 := by kernel_rfl
theorem oneRow : ((List.range 373).filter fun t => Tryz.prog.rowNamed t [101, 114, 114, 111, 114]) = [34] := by kernel_rfl
theorem tySize : Tryz.prog.types.size = 373 := by kernel_rfl
theorem handle_of {w : World} (h : handlesMet Tryz.prog [("errors.errorType", Rows.laid_errors_errorType)] w) : GlE w := by
  have h1 : ∃ name u ty, (Rows.laid_errors_errorType (H := Unit)).handleName? = some name ∧ (Tryz.prog.cutTypes.find? (·.1 == "internal/reflectlite.rtype")).map (·.2) = some u ∧ ty < Tryz.prog.types.size ∧ Tryz.prog.rowNamed ty name = true ∧ w.var? Tryz.prog "errors.errorType" = some #[.iface u (.agg #[typeHandle Tryz.prog ty])] := h _ (List.mem_singleton.2 rfl)
  obtain ⟨name, u, ty, e1, e2, e3, e4, e5⟩ := h1
  have en : name = [101, 114, 114, 111, 114] := (Option.some.inj e1).symm
  subst en
  obtain rfl := Option.some.inj (rt.symm.trans e2)
  have hm : ty ∈ (List.range 373).filter fun t => Tryz.prog.rowNamed t [101, 114, 114, 111, 114] := List.mem_filter.2 ⟨List.mem_range.2 (by rw [← tySize]; exact e3), e4⟩
  rw [oneRow] at hm
  obtain rfl := List.mem_singleton.1 hm
  have hh : typeHandle Tryz.prog 34 = .pointer (some ⟨3, 34, none⟩) := by kernel_rfl
  rw [hh] at e5
  simpa [GlE] using World.var?_cell gEt e5 0
theorem tab_met {w : World} (h2 : laidMet Tryz.prog [("tidepole/varbit.behinds", Lib.tabData .i64 ([0, 3, 6, 9, 12, 18, 25, 56, 64].map Int.ofNat))] w) : Tab w := by
  have hv := Lib.tabIs_of_head gTab tTab Tryz.underlying269 Tryz.underlying3 cEl cTab h2
  intro j hj
  have := World.var?_cell gTab hv j
  rw [this]
  have : j = 0 ∨ j = 1 ∨ j = 2 ∨ j = 3 ∨ j = 4 ∨ j = 5 ∨ j = 6 ∨ j = 7 ∨ j = 8 := by omega
  rcases this with rfl | rfl | rfl | rfl | rfl | rfl | rfl | rfl | rfl <;> rfl
end Go.Proofs.YtjfekjbmgckkcaaGreatDoor.HeadLaid
namespace Go.Proofs.YtjfekjbmgckkcaaGreatDoor.Law18L
open Go.RowKit Go.Proofs.YtjfekjbmgckkcaaGreatDoorW.PrintWords
open Go.Proofs.YtjfekjbmgckkcaaGreatDoor.Base Go.Proofs.YtjfekjbmgckkcaaGreatDoor.VarPure Go.Proofs.YtjfekjbmgckkcaaGreatDoor.VarbitA Go.Proofs.YtjfekjbmgckkcaaGreatDoor.FailAs Go.Proofs.YtjfekjbmgckkcaaGreatDoor.HeadLaid Go.Proofs.YtjfekjbmgckkcaaGreatDoor.XorA
abbrev laidF : List (String × DataW Unit) := [("math/bits.deBruijn64tab", Rows.laid_math_bits_deBruijn64tab), ("errors.errorType", Rows.laid_errors_errorType), ("tidepole/varbit.behinds", Rows.laid_tidepole_varbit_behinds)]
theorem gDb : Tryz.prog.globalNamed "math/bits.deBruijn64tab" = some 2 := by kernel_rfl
theorem tDb : (Tryz.prog.globals[2]?).map (·.type) = some 318 := by kernel_rfl
theorem cDb : Tryz.prog.cellsOf 318 = 64 := by kernel_rfl
theorem cU8 : Tryz.prog.cellsOf 5 = 1 := by kernel_rfl
theorem split_laidF (w : World) : laidMetH Tryz.prog laidF w = (laidMet Tryz.prog [("math/bits.deBruijn64tab", Rows.laid_math_bits_deBruijn64tab), ("tidepole/varbit.behinds", Rows.laid_tidepole_varbit_behinds)] w ∧ handlesMet Tryz.prog [("errors.errorType", Rows.laid_errors_errorType)] w) := by kernel_rfl
theorem db_data : (Rows.laid_math_bits_deBruijn64tab : DataW Unit) = Lib.tabData .u8 (Lib.deBruijn64tab.map Int.ofNat) := by kernel_rfl
theorem tz_met {w : World} (h : laidMet Tryz.prog (("math/bits.deBruijn64tab", Lib.tabData .u8 (Lib.deBruijn64tab.map Int.ofNat)) :: [("tidepole/varbit.behinds", Rows.laid_tidepole_varbit_behinds)]) w) : Tz w := by
  have hv := Lib.tabIs_of_head gDb tDb Tryz.underlying318 Tryz.underlying5 cU8 cDb h
  intro j hj
  have := World.var?_cell gDb hv j
  rw [this]
  have hl : Lib.deBruijn64tab.length = 64 := by decide
  simp [List.getD_eq_getElem?_getD, hl, hj]
theorem of_laidF {w : World} (h : laidMetH Tryz.prog laidF w) : Tab w ∧ GlE w ∧ Tz w := by
  rw [split_laidF] at h
  obtain ⟨h1, h2⟩ := h
  have h3 := h1
  rw [db_data] at h3
  exact ⟨tab_met h1.tail, handle_of h2, tz_met h3⟩
end Go.Proofs.YtjfekjbmgckkcaaGreatDoor.Law18L
namespace Go.Proofs.YtjfekjbmgckkcaaGreatDoor.Ref18C
open Go.RowKit Go.Proofs.YtjfekjbmgckkcaaGreatDoorW.PrintWords
open Go.Proofs.YtjfekjbmgckkcaaGreatDoor.Bits Go.Proofs.YtjfekjbmgckkcaaGreatDoor.Base Go.Proofs.YtjfekjbmgckkcaaGreatDoor.VarPure Go.Proofs.YtjfekjbmgckkcaaGreatDoor.VarbitA Go.Proofs.YtjfekjbmgckkcaaGreatDoor.VarKit Go.Proofs.YtjfekjbmgckkcaaGreatDoor.StreamA Go.Proofs.YtjfekjbmgckkcaaGreatDoor.SpanPure Go.Proofs.YtjfekjbmgckkcaaGreatDoor.SpanBase Go.Proofs.YtjfekjbmgckkcaaGreatDoor.FailAs Go.Proofs.YtjfekjbmgckkcaaGreatDoor.FailB Go.Proofs.YtjfekjbmgckkcaaGreatDoor.FailC Go.Proofs.YtjfekjbmgckkcaaGreatDoor.HeadA Go.Proofs.YtjfekjbmgckkcaaGreatDoor.HeadB Go.Proofs.YtjfekjbmgckkcaaGreatDoor.HeadC Go.Proofs.YtjfekjbmgckkcaaGreatDoor.HeadE Go.Proofs.YtjfekjbmgckkcaaGreatDoor.HeadPure Go.Proofs.YtjfekjbmgckkcaaGreatDoor.Ref01 Go.Proofs.YtjfekjbmgckkcaaGreatDoor.Ref12 Go.Proofs.YtjfekjbmgckkcaaGreatDoor.Ref13 Go.Proofs.YtjfekjbmgckkcaaGreatDoor.TimesPure Go.Proofs.YtjfekjbmgckkcaaGreatDoor.TimesA Go.Proofs.YtjfekjbmgckkcaaGreatDoor.XorPure Go.Proofs.YtjfekjbmgckkcaaGreatDoor.XorA Go.Proofs.YtjfekjbmgckkcaaGreatDoor.XorB Go.Proofs.YtjfekjbmgckkcaaGreatDoor.FcPure Go.Proofs.YtjfekjbmgckkcaaGreatDoor.FcObj Go.Proofs.YtjfekjbmgckkcaaGreatDoor.FsArg Go.Proofs.YtjfekjbmgckkcaaGreatDoor.FcC Go.Proofs.YtjfekjbmgckkcaaGreatDoor.FcD Go.Proofs.YtjfekjbmgckkcaaGreatDoor.HdArg Go.Proofs.YtjfekjbmgckkcaaGreatDoor.Ref14A Go.Proofs.YtjfekjbmgckkcaaGreatDoor.Ref18A
structure St (w : World) (o1 o2 : Obj) (W : World) : Prop where
  b : Below w.heap.size w W
  n : w.heap.size + 3 ≤ W.heap.size
  o : W.heap[w.heap.size]? = some o1
  s : W.heap[w.heap.size + 1]? = some o2
  z : W.heap[w.heap.size + 1 + 1]? = some (.cells #[.int .i64 0, .string ⟨#[]⟩, .int .i64 0] 37 (0, 0))
theorem St.below {w W W2 : World} {o1 o2 : Obj} (h : St w o1 o2 W) (hb : Below W.heap.size W W2) : St w o1 o2 W2 :=
  ⟨below_then h.b h.b.size hb, Nat.le_trans h.n hb.size, (hb.block _ (blk_lt h.o)).trans h.o, (hb.block _ (blk_lt h.s)).trans h.s, (hb.block _ (blk_lt h.z)).trans h.z⟩
theorem St.make (w : World) (c1 c2 : Array Value) : St w (.cells c1 41 (0, 0)) (.cells c2 82 (0, 0)) (((w.alloc (.cells c1 41)).alloc (.cells c2 82)).alloc (.cells #[.int .i64 0, .string ⟨#[]⟩, .int .i64 0] 37)) := by
  have x0 := blk_last w (.cells c1 41)
  have x1 := blk_last (w.alloc (.cells c1 41)) (.cells c2 82)
  have x2 := blk_last ((w.alloc (.cells c1 41)).alloc (.cells c2 82)) (.cells #[.int .i64 0, .string ⟨#[]⟩, .int .i64 0] 37)
  rw [show (w.alloc (.cells c1 41)).heap.size = w.heap.size + 1 from by simp] at x1
  rw [show ((w.alloc (.cells c1 41)).alloc (.cells c2 82)).heap.size = w.heap.size + 1 + 1 from by simp] at x2
  exact ⟨below_alloc (below_alloc (below_alloc (Below.refl _ _) _) _) _, by simp, blk_alloc (blk_alloc x0 _) _, blk_alloc x1 _, x2⟩
theorem lastT_at (xs : List FsX) (m : Nat) (hm : m + 1 = xs.length) : lastT (xs.map fsOf) = (fsOf (xs[m]'(by omega))).t := by
  unfold lastT
  rw [List.getLast?_eq_getElem?, List.length_map, show xs.length - 1 = m from by omega, List.getElem?_map, List.getElem?_eq_getElem (by omega)]
  rfl
theorem below_three {n : Nat} {w w1 : World} {b : Nat} (h : Below n w w1) (hb : n ≤ b) (v0 v1 v2 : Value) : Below n w (((w1.setCell ⟨b, 0, none⟩ v0).setCell ⟨b, 1, none⟩ v1).setCell ⟨b, 2, none⟩ v2) :=
  ((h.setCell hb v0).setCell hb v1).setCell hb v2
set_option maxRecDepth 100000 in
set_option maxHeartbeats 6400000 in
theorem wrong_calls (q : Hd) (p : Lc) (X : Option Addr) (cx : Nat) (xs : List FsX) (s : FS) (r : Lh) (w : World) (hx : HdIn w q p) (he : (headErr q).1 = 0) (h : FsL w X xs) (hs : FhIn w s.h r) :
    Calls Tryz.prog 43 #[.agg (hcs q p).toArray, .slice X xs.length cx, .agg (scs s r).toArray] w fun e w' => e = .returned (wr (wrongF q (xs.map fsOf) s).1 (wrongF q (xs.map fsOf) s).2 xs.length) ∧ Below w.heap.size w w' := by
  obtain ⟨l, hl⟩ : ∃ l, l = xs.map fsOf := ⟨_, rfl⟩
  obtain ⟨n, hn⟩ : ∃ n, n = xs.length := ⟨_, rfl⟩
  have hln : l.length = n := by rw [hl, List.length_map, hn]
  have hlen := h.len
  rw [← hn] at hlen
  have HLT : Hid (0 < n → ∃ ad m, m + 1 = n ∧ X = some ad ∧ ∀ W, Below w.heap.size w W → W.cell? (ad.add (m * 10)) = some (.int .i64 (lastT l))) := Lib.hid (fun h0 => by
    obtain ⟨m, hm⟩ : ∃ m, m + 1 = n := ⟨n - 1, by omega⟩
    obtain ⟨ad, hA, -⟩ := h.elem m (by omega)
    refine ⟨ad, m, hm, hA, fun W hb => ?_⟩
    obtain ⟨ad', hA', hc, -, -⟩ := (h.below hb).elem m (by omega)
    rw [hA] at hA'
    injection hA' with hA'
    subst hA'
    have h5 := hc 0 _ rfl
    have h6 : lastT l = (fsOf (xs[m]'(by omega))).t := hl ▸ lastT_at xs m (by omega)
    rw [h6]
    exact h5)
  rw [← hl, ← hn]
  obtain ⟨cp, cn⟩ := okq_chk he
  obtain ⟨z1, hz1⟩ : ∃ z, z = wrongF q l s := ⟨_, rfl⟩
  have HWF := Lib.hid hz1
  rw [← hz1]
  obtain ⟨vr, hint, schema, zt, pos, neg⟩ := q
  obtain ⟨A, c, B, d⟩ := p
  simp only at cp cn
  have hqp := hx.pos
  have hqn := hx.neg
  simp only at hqp hqn
  obtain ⟨W0, hW0, hst⟩ : ∃ W : World, W = ((w.alloc (.cells #[.int .i64 vr, .int .i64 hint, .int .i64 schema, .int .u64 zt, .slice A pos.length c, .slice B neg.length d] 41)).alloc (.cells #[.int .i64 s.t, .int .i64 s.h.schema, .int .u64 s.h.zero, .int .u64 s.h.zc, .int .u64 s.h.cnt, .int .u64 s.h.sum, .slice r.A s.h.pos.length r.c, .slice r.B s.h.neg.length r.d, .slice r.C s.h.pc.length r.cc, .slice r.D s.h.nc.length r.dd] 82)).alloc (.cells #[.int .i64 0, .string ⟨#[]⟩, .int .i64 0] 37) ∧ St w (.cells #[.int .i64 vr, .int .i64 hint, .int .i64 schema, .int .u64 zt, .slice A pos.length c, .slice B neg.length d] 41 (0, 0)) (.cells #[.int .i64 s.t, .int .i64 s.h.schema, .int .u64 s.h.zero, .int .u64 s.h.zc, .int .u64 s.h.cnt, .int .u64 s.h.sum, .slice r.A s.h.pos.length r.c, .slice r.B s.h.neg.length r.d, .slice r.C s.h.pc.length r.cc, .slice r.D s.h.nc.length r.dd] 82 (0, 0)) W := ⟨_, rfl, St.make w _ _⟩
  obtain ⟨o1, ho1⟩ : ∃ o : Obj, o = (.cells #[.int .i64 vr, .int .i64 hint, .int .i64 schema, .int .u64 zt, .slice A pos.length c, .slice B neg.length d] 41 (0, 0)) := ⟨_, rfl⟩
  obtain ⟨o2, ho2⟩ : ∃ o : Obj, o = (.cells #[.int .i64 s.t, .int .i64 s.h.schema, .int .u64 s.h.zero, .int .u64 s.h.zc, .int .u64 s.h.cnt, .int .u64 s.h.sum, .slice r.A s.h.pos.length r.c, .slice r.B s.h.neg.length r.d, .slice r.C s.h.pc.length r.cc, .slice r.D s.h.nc.length r.dd] 82 (0, 0)) := ⟨_, rfl⟩
  have HCL : Hid (∀ W, St w (.cells #[.int .i64 vr, .int .i64 hint, .int .i64 schema, .int .u64 zt, .slice A pos.length c, .slice B neg.length d] 41 (0, 0)) (.cells #[.int .i64 s.t, .int .i64 s.h.schema, .int .u64 s.h.zero, .int .u64 s.h.zc, .int .u64 s.h.cnt, .int .u64 s.h.sum, .slice r.A s.h.pos.length r.c, .slice r.B s.h.neg.length r.d, .slice r.C s.h.pc.length r.cc, .slice r.D s.h.nc.length r.dd] 82 (0, 0)) W → ((W.cell? ⟨w.heap.size, 0, none⟩ = some (.int .i64 vr) ∧ W.cell? ⟨w.heap.size, 1, none⟩ = some (.int .i64 hint) ∧ W.cell? ⟨w.heap.size, 2, none⟩ = some (.int .i64 schema) ∧ W.cell? ⟨w.heap.size, 3, none⟩ = some (.int .u64 zt) ∧ W.cell? ⟨w.heap.size, 4, none⟩ = some (.slice A pos.length c) ∧ W.cell? ⟨w.heap.size, 5, none⟩ = some (.slice B neg.length d)) ∧ (W.cell? ⟨w.heap.size + 1, 0, none⟩ = some (.int .i64 s.t) ∧ W.cell? ⟨w.heap.size + 1, 1, none⟩ = some (.int .i64 s.h.schema) ∧ W.cell? ⟨w.heap.size + 1, 2, none⟩ = some (.int .u64 s.h.zero) ∧ W.cell? ⟨w.heap.size + 1, 3, none⟩ = some (.int .u64 s.h.zc) ∧ W.cell? ⟨w.heap.size + 1, 4, none⟩ = some (.int .u64 s.h.cnt) ∧ W.cell? ⟨w.heap.size + 1, 5, none⟩ = some (.int .u64 s.h.sum) ∧ W.cell? ⟨w.heap.size + 1, 6, none⟩ = some (.slice r.A s.h.pos.length r.c) ∧ W.cell? ⟨w.heap.size + 1, 7, none⟩ = some (.slice r.B s.h.neg.length r.d) ∧ W.cell? ⟨w.heap.size + 1, 8, none⟩ = some (.slice r.C s.h.pc.length r.cc) ∧ W.cell? ⟨w.heap.size + 1, 9, none⟩ = some (.slice r.D s.h.nc.length r.dd)) ∧ (W.cell? ⟨w.heap.size + 1 + 1, 0, none⟩ = some (.int .i64 0) ∧ W.cell? ⟨w.heap.size + 1 + 1, 1, none⟩ = some (.string ⟨#[]⟩) ∧ W.cell? ⟨w.heap.size + 1 + 1, 2, none⟩ = some (.int .i64 0)) ∧ W.frozen? ⟨w.heap.size + 1 + 1, 0, none⟩ = false ∧ W.frozen? ⟨w.heap.size + 1 + 1, 1, none⟩ = false ∧ W.frozen? ⟨w.heap.size + 1 + 1, 2, none⟩ = false)) := Lib.hid (fun W h => ⟨⟨obj_cell h.o rfl, obj_cell h.o rfl, obj_cell h.o rfl, obj_cell h.o rfl, obj_cell h.o rfl, obj_cell h.o rfl⟩, ⟨obj_cell h.s rfl, obj_cell h.s rfl, obj_cell h.s rfl, obj_cell h.s rfl, obj_cell h.s rfl, obj_cell h.s rfl, obj_cell h.s rfl, obj_cell h.s rfl, obj_cell h.s rfl, obj_cell h.s rfl⟩, ⟨obj_cell h.z rfl, obj_cell h.z rfl, obj_cell h.z rfl⟩, obj_free h.z, obj_free h.z, obj_free h.z⟩)
  rw [← ho1, ← ho2] at hst HCL
  have HCK := Lib.hid (fun W (h : St w o1 o2 W) => Ref10.check_calls s.h r W (hs.below h.b))
  have HP : Hid (∀ (A' : Option Addr) (c' : Nat) (l' : List Sp), Spl w A' c' l' → chk l' = 0 → ∀ W, St w o1 o2 W → Calls Tryz.prog 115 #[.slice A' l'.length c'] W fun e w' => ∃ A1 c1, e = .returned (.slice A1 (places l').length c1) ∧ RdI .i64 w' A1 (places l') ∧ Below W.heap.size W w' ∧ St w o1 o2 w') := Lib.hid (fun A' c' l' hl' h0 W hW => by
    refine (Ref06P.places_calls A' c' l' W (hl'.below hW.b).rd (by have := hl'.len; omega) h0).mono ?_
    rintro e w' ⟨v, rfl, ho, hb⟩
    obtain ⟨A1, c1, rfl, -, hr⟩ := ho.reads
    exact ⟨A1, c1, rfl, hr, hb, hW.below hb⟩)
  have HSM : Hid (∀ (A1 A2 : Option Addr) (c1 c2 : Nat) (x y : List Int) (b : Bool) W, b = decide (x = y) → x.length ≤ 1000000000 → y.length ≤ 1000000000 → RdI .i64 W A1 x → RdI .i64 W A2 y → St w o1 o2 W → Calls Tryz.prog 114 #[.slice A1 x.length c1, .slice A2 y.length c2] W fun e w' => e = .returned (.bool b) ∧ St w o1 o2 w') := Lib.hid (fun A1 A2 c1 c2 x y b W hb h1 h2 r1 r2 hW => by
    refine (Ref06S.same_calls A1 A2 c1 c2 x y W r1 r2 h1 h2).mono ?_
    rintro e w' ⟨rfl, ⟨m, rfl⟩⟩
    exact ⟨by rw [hb], hW.below (pw_below_drewN (Below.refl _ _) m)⟩)
  have HQP := Lib.hid hqp
  have HQN := Lib.hid hqn
  have HSP := Lib.hid hs.pos
  have HSN := Lib.hid hs.neg
  have HCP := Lib.hid cp
  have HCN := Lib.hid cn
  have HW0 := Lib.hid hW0
  obtain ⟨⟨v0, v1, v2, v3, v4, v5⟩, ⟨s0, s1, s2, s3, s4, s5, s6, s7, s8, s9⟩, ⟨z0, zz1, z2⟩, f0, f1, f2⟩ := HCL.out _ hst
  have HB0 := Lib.hid hst
  clear hx he h hs hqp hqn cp cn ho1 ho2 hW0 hz1 hl hn hst
  show Calls Tryz.prog 43 #[.agg #[.int .i64 vr, .int .i64 hint, .int .i64 schema, .int .u64 zt, .slice A pos.length c, .slice B neg.length d], .slice X n cx, .agg #[.int .i64 s.t, .int .i64 s.h.schema, .int .u64 s.h.zero, .int .u64 s.h.zc, .int .u64 s.h.cnt, .int .u64 s.h.sum, .slice r.A s.h.pos.length r.c, .slice r.B s.h.neg.length r.d, .slice r.C s.h.pc.length r.cc, .slice r.D s.h.nc.length r.dd]] w _
  go_enter Tryz.func43, Tryz.ntmps43
  go_wp2_with (fail)
  rw [← HW0.out]
  refine (HCK.out _ HB0.out).mono ?_
  rintro e w1 ⟨rfl, hb1⟩
  have HB := Lib.hid (HB0.out.below hb1)
  clear hb1 HB0 HCK v0 v1 v2 v3 v4 v5 s0 s1 s2 s3 s4 s5 s6 s7 s8 s9 z0 zz1 z2 f0 f1 f2
  obtain ⟨⟨v0, v1, v2, v3, v4, v5⟩, ⟨s0, s1, s2, s3, s4, s5, s6, s7, s8, s9⟩, ⟨z0, zz1, z2⟩, f0, f1, f2⟩ := HCL.out _ HB.out
  by_cases h1 : errF s.h ≠ 0
  · have e1 : (((errF s.h : Nat) : Int) != 0) = true := by simp; exact h1
    have HWR : Hid (wr z1.1 z1.2 n = .agg #[.int .i64 (errF s.h : Nat), .string pHist, .int .i64 n]) := Lib.hid (by
      rw [HWF.out, show wrongF ⟨vr, hint, schema, zt, pos, neg⟩ l s = (errF s.h, pHist) from if_pos h1]
      exact if_neg h1)
    obtain ⟨ef, hef⟩ : ∃ k, k = errF s.h := ⟨_, rfl⟩
    rw [← hef] at e1 HWR ⊢
    clear h1 hef
    go_wp2
    refine bodyPost_ret (v := .agg #[.int .i64 ef, .string ⟨#[104, 105, 115, 116]⟩, .int .i64 n]) (by rw [results_cell1 rfl]; go_simp) rfl ?_
    exact ⟨by rw [HWR.out]; rfl, below_three HB.out.b (by omega) _ _ _⟩
  have HE := Lib.hid (Decidable.not_not.1 h1)
  have e1 : (((errF s.h : Nat) : Int) != 0) = false := by rw [HE.out]; rfl
  clear h1
  have HX := Lib.hid (errF_zero HE.out)
  have HSC := Lib.hid (sideF_zero HX.out.2.2.2.2.2.1).1
  have HSD := Lib.hid (sideF_zero HX.out.2.2.2.2.2.2).1
  have HPL1 := Lib.hid (places_len (SpanQ.right_of HSC.out))
  have HPL2 := Lib.hid (places_len (SpanQ.right_of HSD.out))
  have HPL3 := Lib.hid (places_len (SpanQ.right_of HCP.out))
  have HPL4 := Lib.hid (places_len (SpanQ.right_of HCN.out))
  by_cases h2 : s.h.schema ≠ schema
  · have e2 : (s.h.schema != schema) = true := by simp; exact h2
    have HWR : Hid (wr z1.1 z1.2 n = .agg #[.int .i64 21, .string pSchema, .int .i64 n]) := Lib.hid (by
      rw [HWF.out]
      unfold wrongF
      rw [if_neg (by rw [HE.out]; exact fun h => h rfl), if_pos h2]
      rfl)
    clear h2
    go_wp2
    refine bodyPost_ret (v := .agg #[.int .i64 21, .string ⟨#[115, 99, 104, 101, 109, 97]⟩, .int .i64 n]) (by rw [results_cell1 rfl]; go_simp) rfl ?_
    exact ⟨by rw [HWR.out]; rfl, below_three HB.out.b (by omega) _ _ _⟩
  have h2 := Decidable.not_not.1 h2
  have e2 : (s.h.schema != schema) = false := by rw [h2]; simp
  have HE2 := Lib.hid h2
  clear h2
  by_cases h3 : s.h.zero ≠ zt
  · have e3 : ((s.h.zero : Int) != (zt : Int)) = true := by simp; omega
    have HWR : Hid (wr z1.1 z1.2 n = .agg #[.int .i64 11, .string pZero, .int .i64 n]) := Lib.hid (by
      rw [HWF.out]
      unfold wrongF
      rw [if_neg (by rw [HE.out]; exact fun h => h rfl), if_neg (fun h => h HE2.out), if_pos h3]
      rfl)
    clear h3
    go_wp2
    refine bodyPost_ret (v := .agg #[.int .i64 11, .string ⟨#[122, 101, 114, 111]⟩, .int .i64 n]) (by rw [results_cell1 rfl]; go_simp) rfl ?_
    exact ⟨by rw [HWR.out]; rfl, below_three HB.out.b (by omega) _ _ _⟩
  have h3 := Decidable.not_not.1 h3
  have e3 : ((s.h.zero : Int) != (zt : Int)) = false := by rw [h3]; simp
  have HE3 := Lib.hid h3
  clear h3
  go_wp2_with (fail)
  have hq0 : w1.drew.cell? ⟨w.heap.size + 1, 6, none⟩ = some (.slice r.A s.h.pos.length r.c) ∧ w1.drew.cell? ⟨w.heap.size, 4, none⟩ = some (.slice A pos.length c) := ⟨s6, v4⟩
  obtain ⟨bp, hbp⟩ : ∃ b, b = decide (places s.h.pos = places pos) := ⟨_, rfl⟩
  have HBP := Lib.hid hbp
  have HBd := Lib.hid (HB.out.below (below_drew (Below.refl _ _)))
  clear hbp
  go_region_held3 (fun W => W.cell? ⟨w.heap.size + 1, 6, none⟩ = some (.slice r.A s.h.pos.length r.c) ∧ W.cell? ⟨w.heap.size, 4, none⟩ = some (.slice A pos.length c))
    (first | (with_reducible exact hq0) | (with_reducible exact hq1) | (with_reducible exact hq2) | (with_reducible exact hq3))
    (first
    | (go_at_call 115; (with_reducible show Calls _ _ #[Value.slice r.A s.h.pos.length r.c] _ _); refine (HP.out _ _ _ HSP.out HSC.out _ HBd.out).mono ?_; rintro e w2 ⟨A1, c1, rfl, hr1, hb2, hst2⟩; have hq1 : w2.cell? ⟨w.heap.size + 1, 6, none⟩ = some (.slice r.A s.h.pos.length r.c) ∧ w2.cell? ⟨w.heap.size, 4, none⟩ = some (.slice A pos.length c) := ⟨(HCL.out _ hst2).2.1.2.2.2.2.2.2.1, (HCL.out _ hst2).1.2.2.2.2.1⟩)
    | (go_at_call 115; refine (HP.out _ _ _ HQP.out HCP.out _ hst2).mono ?_; rintro e w3 ⟨A2, c2, rfl, hr2, hb3, hst3⟩; have hq2 : w3.cell? ⟨w.heap.size + 1, 6, none⟩ = some (.slice r.A s.h.pos.length r.c) ∧ w3.cell? ⟨w.heap.size, 4, none⟩ = some (.slice A pos.length c) := ⟨(HCL.out _ hst3).2.1.2.2.2.2.2.2.1, (HCL.out _ hst3).1.2.2.2.2.1⟩)
    | (go_at_call 114; refine (HSM.out _ _ _ _ _ _ bp _ HBP.out (by have := HPL1.out; omega) (by have := HPL3.out; omega) (hr1.below hb3) hr2 hst3).mono ?_; rintro e w4 ⟨rfl, hst4⟩; have hq3 : w4.cell? ⟨w.heap.size + 1, 6, none⟩ = some (.slice r.A s.h.pos.length r.c) ∧ w4.cell? ⟨w.heap.size, 4, none⟩ = some (.slice A pos.length c) := ⟨(HCL.out _ hst4).2.1.2.2.2.2.2.2.1, (HCL.out _ hst4).1.2.2.2.2.1⟩))
  have HB4 := Lib.hid hst4
  clear hq0 hq1 hq2 hq3 hr1 hr2 hb2 hb3 hst2 hst3 hst4 HB HBd v0 v1 v2 v3 v4 v5 s0 s1 s2 s3 s4 s5 s6 s7 s8 s9 z0 zz1 z2 f0 f1 f2
  have HB := Lib.hid HB4.out
  obtain ⟨⟨v0, v1, v2, v3, v4, v5⟩, ⟨s0, s1, s2, s3, s4, s5, s6, s7, s8, s9⟩, ⟨z0, zz1, z2⟩, f0, f1, f2⟩ := HCL.out _ HB.out
  clear HB4
  cases bp with
  | false =>
    have HWR : Hid (wr z1.1 z1.2 n = .agg #[.int .i64 23, .string pPos, .int .i64 n]) := Lib.hid (by
      rw [HWF.out]
      unfold wrongF
      rw [if_neg (by rw [HE.out]; exact fun h => h rfl), if_neg (fun h => h HE2.out), if_neg (fun h => h HE3.out), if_pos (of_decide_eq_false HBP.out.symm)]
      rfl)
    go_wp2
    refine bodyPost_ret (v := .agg #[.int .i64 23, .string ⟨#[112, 111, 115]⟩, .int .i64 n]) (by rw [results_cell1 rfl]; go_simp) rfl ?_
    exact ⟨by rw [HWR.out]; rfl, below_three HB.out.b (by omega) _ _ _⟩
  | true =>
  have HE4 := Lib.hid (of_decide_eq_true HBP.out.symm)
  go_wp2_with (fail)
  have hq0 : w4.drew.cell? ⟨w.heap.size + 1, 7, none⟩ = some (.slice r.B s.h.neg.length r.d) ∧ w4.drew.cell? ⟨w.heap.size, 5, none⟩ = some (.slice B neg.length d) := ⟨s7, v5⟩
  obtain ⟨bn, hbn⟩ : ∃ b, b = decide (places s.h.neg = places neg) := ⟨_, rfl⟩
  have HBN := Lib.hid hbn
  have HBd := Lib.hid (HB.out.below (below_drew (Below.refl _ _)))
  clear hbn
  go_region_held3 (fun W => W.cell? ⟨w.heap.size + 1, 7, none⟩ = some (.slice r.B s.h.neg.length r.d) ∧ W.cell? ⟨w.heap.size, 5, none⟩ = some (.slice B neg.length d))
    (first | (with_reducible exact hq0) | (with_reducible exact hq1) | (with_reducible exact hq2) | (with_reducible exact hq3))
    (first
    | (go_at_call 115; (with_reducible show Calls _ _ #[Value.slice r.B s.h.neg.length r.d] _ _); refine (HP.out _ _ _ HSN.out HSD.out _ HBd.out).mono ?_; rintro e w2 ⟨A1, c1, rfl, hr1, hb2, hst2⟩; have hq1 : w2.cell? ⟨w.heap.size + 1, 7, none⟩ = some (.slice r.B s.h.neg.length r.d) ∧ w2.cell? ⟨w.heap.size, 5, none⟩ = some (.slice B neg.length d) := ⟨(HCL.out _ hst2).2.1.2.2.2.2.2.2.2.1, (HCL.out _ hst2).1.2.2.2.2.2⟩)
    | (go_at_call 115; refine (HP.out _ _ _ HQN.out HCN.out _ hst2).mono ?_; rintro e w3 ⟨A2, c2, rfl, hr2, hb3, hst3⟩; have hq2 : w3.cell? ⟨w.heap.size + 1, 7, none⟩ = some (.slice r.B s.h.neg.length r.d) ∧ w3.cell? ⟨w.heap.size, 5, none⟩ = some (.slice B neg.length d) := ⟨(HCL.out _ hst3).2.1.2.2.2.2.2.2.2.1, (HCL.out _ hst3).1.2.2.2.2.2⟩)
    | (go_at_call 114; refine (HSM.out _ _ _ _ _ _ bn _ HBN.out (by have := HPL2.out; omega) (by have := HPL4.out; omega) (hr1.below hb3) hr2 hst3).mono ?_; rintro e w5 ⟨rfl, hst5⟩; have hq3 : w5.cell? ⟨w.heap.size + 1, 7, none⟩ = some (.slice r.B s.h.neg.length r.d) ∧ w5.cell? ⟨w.heap.size, 5, none⟩ = some (.slice B neg.length d) := ⟨(HCL.out _ hst5).2.1.2.2.2.2.2.2.2.1, (HCL.out _ hst5).1.2.2.2.2.2⟩))
  have HB4 := Lib.hid hst5
  clear hq0 hq1 hq2 hq3 hr1 hr2 hb2 hb3 hst2 hst3 hst5 HB HBd v0 v1 v2 v3 v4 v5 s0 s1 s2 s3 s4 s5 s6 s7 s8 s9 z0 zz1 z2 f0 f1 f2
  have HB := Lib.hid HB4.out
  obtain ⟨⟨v0, v1, v2, v3, v4, v5⟩, ⟨s0, s1, s2, s3, s4, s5, s6, s7, s8, s9⟩, ⟨z0, zz1, z2⟩, f0, f1, f2⟩ := HCL.out _ HB.out
  clear HB4
  cases bn with
  | false =>
    have HWR : Hid (wr z1.1 z1.2 n = .agg #[.int .i64 23, .string pNeg, .int .i64 n]) := Lib.hid (by
      rw [HWF.out]
      unfold wrongF
      rw [if_neg (by rw [HE.out]; exact fun h => h rfl), if_neg (fun h => h HE2.out), if_neg (fun h => h HE3.out), if_neg (fun h => h HE4.out), if_pos (of_decide_eq_false HBN.out.symm)]
      rfl)
    go_wp2
    refine bodyPost_ret (v := .agg #[.int .i64 23, .string ⟨#[110, 101, 103]⟩, .int .i64 n]) (by rw [results_cell1 rfl]; go_simp) rfl ?_
    exact ⟨by rw [HWR.out]; rfl, below_three HB.out.b (by omega) _ _ _⟩
  | true =>
  have HE5 := Lib.hid (of_decide_eq_true HBN.out.symm)
  have g1 : decide ((1024 : Int) ≤ n) = false := decide_eq_false (by omega)
  have g1n : decide (1024 ≤ n) = false := decide_eq_false (by omega)
  have HLN := Lib.hid hln
  clear hln
  by_cases h0 : 0 < n
  · obtain ⟨ad, m, hm, hA, hcell⟩ := HLT.out h0
    subst hA
    have ct := hcell _ HB.out.b
    obtain ⟨lt, hlt⟩ : ∃ t, t = lastT l := ⟨_, rfl⟩
    rw [← hlt] at ct
    have HLTT := Lib.hid hlt
    have t1 : decide ((0 : Int) < n) = true := decide_eq_true (by omega)
    have t1n : decide (0 < n) = true := decide_eq_true (by omega)
    have m1 : (n : Int) - 1 = (m : Int) := by omega
    have m2 : IntKind.i64.wrap (m : Int) = m := by rw [IntKind.wrap_i64]; omega
    have m3 : (m : Int) < (n : Int) := by omega
    have m4 : m < n := by omega
    have HN0 := Lib.hid h0
    clear hcell hm hlt h0
    by_cases h6 : s.t ≤ lt
    · have t2 : decide (s.t ≤ lt) = true := decide_eq_true h6
      have HWR : Hid (wr z1.1 z1.2 n = .agg #[.int .i64 24, .string pTime, .int .i64 n]) := Lib.hid (by
        rw [HWF.out]
        unfold wrongF
        rw [if_neg (by rw [HE.out]; exact fun h => h rfl), if_neg (fun h => h HE2.out), if_neg (fun h => h HE3.out), if_neg (fun h => h HE4.out), if_neg (fun h => h HE5.out), if_pos ⟨by rw [HLN.out]; exact HN0.out, by rw [← HLTT.out]; exact h6⟩]
        rfl)
      clear h6
      go_wp2_with (fail)
      go_quiet (fail)
      go_wp2
      refine bodyPost_ret (v := .agg #[.int .i64 24, .string ⟨#[116, 105, 109, 101]⟩, .int .i64 n]) (by rw [results_cell1 rfl]; go_simp) rfl ?_
      exact ⟨by rw [HWR.out]; rfl, below_three (pw_below_drewN HB.out.b nq) (by omega) _ _ _⟩
    · have t2 : decide (s.t ≤ lt) = false := decide_eq_false h6
      have HWR : Hid (wr z1.1 z1.2 n = .agg #[.int .i64 0, .string ⟨#[]⟩, .int .i64 0]) := Lib.hid (by
        rw [HWF.out]
        unfold wrongF
        rw [if_neg (by rw [HE.out]; exact fun h => h rfl), if_neg (fun h => h HE2.out), if_neg (fun h => h HE3.out), if_neg (fun h => h HE4.out), if_neg (fun h => h HE5.out), if_neg (fun h => h6 (by rw [HLTT.out]; exact h.2))]
        rfl)
      clear h6
      go_wp2_with (fail)
      go_quiet (fail)
      go_wp2
      refine bodyPost_ret (v := .agg #[.int .i64 0, .string ⟨#[]⟩, .int .i64 0]) (by rw [results_cell1 rfl]; go_simp) rfl ?_
      exact ⟨by rw [HWR.out], below_three (pw_below_drewN HB.out.b nq) (by omega) _ _ _⟩
  · have t1 : decide ((0 : Int) < n) = false := decide_eq_false (by omega)
    have t1n : decide (0 < n) = false := decide_eq_false (by omega)
    have HWR : Hid (wr z1.1 z1.2 n = .agg #[.int .i64 0, .string ⟨#[]⟩, .int .i64 0]) := Lib.hid (by
      rw [HWF.out]
      unfold wrongF
      rw [if_neg (by rw [HE.out]; exact fun h => h rfl), if_neg (fun h => h HE2.out), if_neg (fun h => h HE3.out), if_neg (fun h => h HE4.out), if_neg (fun h => h HE5.out), if_neg (fun h => h0 (by rw [← HLN.out]; exact h.1))]
      rfl)
    clear h0
    go_wp2_with (fail)
    go_quiet (fail)
    go_wp2
    refine bodyPost_ret (v := .agg #[.int .i64 0, .string ⟨#[]⟩, .int .i64 0]) (by rw [results_cell1 rfl]; go_simp) rfl ?_
    exact ⟨by rw [HWR.out], below_three (pw_below_drewN HB.out.b nq) (by omega) _ _ _⟩
end Go.Proofs.YtjfekjbmgckkcaaGreatDoor.Ref18C
namespace Go.Proofs.YtjfekjbmgckkcaaGreatDoor.FchunkAppends
open Go.RowKit Go.Proofs.YtjfekjbmgckkcaaGreatDoorW.PrintWords
open Go.Proofs.YtjfekjbmgckkcaaGreatDoor.Bits Go.Proofs.YtjfekjbmgckkcaaGreatDoor.Base Go.Proofs.YtjfekjbmgckkcaaGreatDoor.VarPure Go.Proofs.YtjfekjbmgckkcaaGreatDoor.VarbitA Go.Proofs.YtjfekjbmgckkcaaGreatDoor.VarKit Go.Proofs.YtjfekjbmgckkcaaGreatDoor.StreamA Go.Proofs.YtjfekjbmgckkcaaGreatDoor.SpanPure Go.Proofs.YtjfekjbmgckkcaaGreatDoor.SpanBase Go.Proofs.YtjfekjbmgckkcaaGreatDoor.FailAs Go.Proofs.YtjfekjbmgckkcaaGreatDoor.FailB Go.Proofs.YtjfekjbmgckkcaaGreatDoor.FailC Go.Proofs.YtjfekjbmgckkcaaGreatDoor.HeadA Go.Proofs.YtjfekjbmgckkcaaGreatDoor.HeadB Go.Proofs.YtjfekjbmgckkcaaGreatDoor.HeadC Go.Proofs.YtjfekjbmgckkcaaGreatDoor.HeadE Go.Proofs.YtjfekjbmgckkcaaGreatDoor.HeadPure Go.Proofs.YtjfekjbmgckkcaaGreatDoor.Ref01 Go.Proofs.YtjfekjbmgckkcaaGreatDoor.Ref12 Go.Proofs.YtjfekjbmgckkcaaGreatDoor.Ref13 Go.Proofs.YtjfekjbmgckkcaaGreatDoor.TimesPure Go.Proofs.YtjfekjbmgckkcaaGreatDoor.TimesA Go.Proofs.YtjfekjbmgckkcaaGreatDoor.XorPure Go.Proofs.YtjfekjbmgckkcaaGreatDoor.XorA Go.Proofs.YtjfekjbmgckkcaaGreatDoor.XorB Go.Proofs.YtjfekjbmgckkcaaGreatDoor.FcPure Go.Proofs.YtjfekjbmgckkcaaGreatDoor.FcObj Go.Proofs.YtjfekjbmgckkcaaGreatDoor.FsArg Go.Proofs.YtjfekjbmgckkcaaGreatDoor.FcA Go.Proofs.YtjfekjbmgckkcaaGreatDoor.FcB Go.Proofs.YtjfekjbmgckkcaaGreatDoor.FcC Go.Proofs.YtjfekjbmgckkcaaGreatDoor.FcD Go.Proofs.YtjfekjbmgckkcaaGreatDoor.FcF Go.Proofs.YtjfekjbmgckkcaaGreatDoor.FcG Go.Proofs.YtjfekjbmgckkcaaGreatDoor.FcH Go.Proofs.YtjfekjbmgckkcaaGreatDoor.FcI Go.Proofs.YtjfekjbmgckkcaaGreatDoor.HdArg Go.Proofs.YtjfekjbmgckkcaaGreatDoor.Law14A Go.Proofs.YtjfekjbmgckkcaaGreatDoor.Law18A Go.Proofs.YtjfekjbmgckkcaaGreatDoor.Law18C Go.Proofs.YtjfekjbmgckkcaaGreatDoor.Law18D Go.Proofs.YtjfekjbmgckkcaaGreatDoor.Law18E Go.Proofs.YtjfekjbmgckkcaaGreatDoor.Law18F Go.Proofs.YtjfekjbmgckkcaaGreatDoor.Law18H Go.Proofs.YtjfekjbmgckkcaaGreatDoor.Law18L Go.Proofs.YtjfekjbmgckkcaaGreatDoor.Ref14A Go.Proofs.YtjfekjbmgckkcaaGreatDoor.Ref18A Go.Proofs.YtjfekjbmgckkcaaGreatDoor.Ref18B Go.Proofs.YtjfekjbmgckkcaaGreatDoor.Ref18C Go.Proofs.YtjfekjbmgckkcaaGreatDoor.HeadLaid
theorem wp_cut7 {P : Program} {c : Code} {K : Exit → Act → World → Prop} {a0 : Act} {w0 : World} (F : Nat → World → Prop)
    (h : Code.wp P c (fun e a w' => e = Exit.normal ∧ ∃ u1 u2 u3 u4 u5 u6 b, a = (((((((a0.put (some 61) u1).put (some 62) u2).put (some 63) u3).put (some 64) u4).put (some 65) u5).put (some 66) u6).put (some 14) (.pointer (some ⟨b, 0, none⟩))) ∧ F b w') a0 w0)
    (k : ∀ u1 u2 u3 u4 u5 u6 b w', F b w' → K Exit.normal (((((((a0.put (some 61) u1).put (some 62) u2).put (some 63) u3).put (some 64) u4).put (some 65) u5).put (some 66) u6).put (some 14) (.pointer (some ⟨b, 0, none⟩))) w') : Code.wp P c K a0 w0 :=
  Code.wp_mono (fun e a w' ⟨he, u1, u2, u3, u4, u5, u6, b, ha, hf⟩ => by subst he ha; exact k u1 u2 u3 u4 u5 u6 b w' hf) h
theorem below_three {w W : World} {g : Nat} (h : Below w.heap.size w W) (hg : w.heap.size ≤ g) (v0 v1 v2 : Value) : Below w.heap.size w (((W.setCell ⟨g, 0, none⟩ v0).setCell ⟨g, 1, none⟩ v1).setCell ⟨g, 2, none⟩ v2) := ((h.setCell hg v0).setCell hg v1).setCell hg v2
theorem infoSm : (Tryz.prog.info? 82).map (fun i => (i.zero, i.size, i.bytes)) = some (some (.agg #[.int .i64 0, .int .i64 0, .int .u64 0, .int .u64 0, .int .u64 0, .int .u64 0, .slice none 0 0, .slice none 0 0, .slice none 0 0, .slice none 0 0]), rFs.k, 144) := by kernel_rfl
set_option maxRecDepth 100000 in
set_option maxHeartbeats 6400000 in
theorem core (q : Hd) (p : Lc) (X : Option Addr) (cx : Nat) (xs0 : List FsX) (w : World) (hT : Tab w) (hE : GlE w) (hZ : Tz w) (hd : HdRd w q p) (hin : q.pos.length ≤ 400 → q.neg.length ≤ 400 → HdIn w q p) (hr : FsR w X xs0) (hm : xs0.length ≤ 9223372036854775807) :
    Calls Tryz.prog 6 #[.agg (hcs q p).toArray, .slice X xs0.length cx] w fun e w' => e = .returned (.bool true) ∧ Below w.heap.size w w' := by
  obtain ⟨vr, hint, schema, zt, pos, neg⟩ := q
  obtain ⟨A, c, B, d⟩ := p
  simp only at hin
  obtain ⟨W0, hW0, hbk, hal⟩ : ∃ W : World, W = w.alloc (.cells #[.int .i64 vr, .int .i64 hint, .int .i64 schema, .int .u64 zt, .slice A pos.length c, .slice B neg.length d] 25) ∧ W.heap[w.heap.size]? = some (.cells #[.int .i64 vr, .int .i64 hint, .int .i64 schema, .int .u64 zt, .slice A pos.length c, .slice B neg.length d] 25 (0, 0)) ∧ Below w.heap.size w W := ⟨_, rfl, blk_last w _, below_alloc (Below.refl _ _) _⟩
  have HCEL : Hid (∀ W : World, Below W0.heap.size W0 W → (W.cell? ⟨w.heap.size, 0, none⟩ = some (.int .i64 vr) ∧ W.cell? ⟨w.heap.size, 1, none⟩ = some (.int .i64 hint) ∧ W.cell? ⟨w.heap.size, 2, none⟩ = some (.int .i64 schema) ∧ W.cell? ⟨w.heap.size, 3, none⟩ = some (.int .u64 zt) ∧ W.cell? ⟨w.heap.size, 4, none⟩ = some (.slice A pos.length c) ∧ W.cell? ⟨w.heap.size, 5, none⟩ = some (.slice B neg.length d))) := Lib.hid (fun W h => by
    have hb := (h.block _ (blk_lt hbk)).trans hbk
    exact ⟨obj_cell hb rfl, obj_cell hb rfl, obj_cell hb rfl, obj_cell hb rfl, obj_cell hb rfl, obj_cell hb rfl⟩)
  have HEND := Lib.hid (fun W (hb : Below W0.heap.size W0 W) => below_then hal hal.size hb)
  have HSM := Lib.hid (small_calls ⟨vr, hint, schema, zt, pos, neg⟩ ⟨A, c, B, d⟩ X cx xs0 W0 (hd.below hal) (hr.below hal) hm)
  have HAW := Lib.hid (fun W (hb : Below w.heap.size w W) => Law18C.awake_calls W (hT.below hb) (gle_below hE hb) (hZ.below hb))
  have HTE := Lib.hid (fun W (hb : Below w.heap.size w W) => (⟨hT.below hb, gle_below hE hb, hZ.below hb⟩ : Tab W ∧ GlE W ∧ Tz W))
  have HGB := Lib.hid (Nat.lt_of_lt_of_le hT.lt hal.size)
  have HGD := Lib.hid (Nat.lt_of_lt_of_le hZ.lt hal.size)
  have HW0 := Lib.hid hW0
  have HIN := Lib.hid hin
  have HR := Lib.hid (fun W (hb : Below W0.heap.size W0 W) => hr.below (below_then hal hal.size hb))
  have HHI := Lib.hid (fun (hI : HdIn w ⟨vr, hint, schema, zt, pos, neg⟩ ⟨A, c, B, d⟩) W (hb : Below W0.heap.size W0 W) => hI.below (below_then hal hal.size hb))
  obtain ⟨n, hn⟩ : ∃ n, n = xs0.length := ⟨_, rfl⟩
  have HN := Lib.hid hn
  rw [← hn] at HSM hm ⊢
  obtain ⟨k0, k1, k2, k3, k4, k5⟩ := HCEL.out _ (Below.refl _ _)
  clear hd hbk hal hW0 hT hE hZ hin hr hn
  show Calls Tryz.prog 6 #[.agg #[.int .i64 vr, .int .i64 hint, .int .i64 schema, .int .u64 zt, .slice A pos.length c, .slice B neg.length d], .slice X n cx] w _
  go_enter Tryz.func6, Tryz.ntmps6
  go_wp2_with (fail)
  rw [← HW0.out]
  refine HSM.out.mono ?_
  rintro e w1 ⟨⟨b, rfl, hsm⟩, hb⟩
  have B1 := Lib.hid hb
  have HSS := Lib.hid hsm
  clear hb HSM hsm k0 k1 k2 k3 k4 k5
  cases b with
  | false =>
    go_wp2_with (fail)
    refine (HAW.out _ (HEND.out _ B1.out)).mono ?_
    rintro e wa ⟨rfl, hb⟩
    have BA := Lib.hid (below_then (HEND.out _ B1.out) (HEND.out _ B1.out).size hb)
    clear hb
    go_wp2
    go_ret
    exact ⟨rfl, BA.out⟩
  | true =>
  have HS := Lib.hid (HSS.out rfl)
  clear HSS
  have hn16 : n ≤ 16 := by rw [HN.out]; exact HS.out.len
  have HI := Lib.hid (HHI.out (HIN.out (few_len HS.out.pos) (few_len HS.out.neg)))
  have HNEW := Lib.hid (new_calls ⟨vr, hint, schema, zt, pos, neg⟩ ⟨A, c, B, d⟩ w1 (HI.out _ B1.out) (HTE.out _ (HEND.out _ B1.out)).2.1 (HTE.out _ (HEND.out _ B1.out)).1)
  have HHD := Lib.hid (fun W (h : Below W0.heap.size W0 W) => Law18B.heads_calls ⟨vr, hint, schema, zt, pos, neg⟩ ⟨A, c, B, d⟩ W (HI.out _ h))
  have hf0 : ∀ (W : World) (x : Int) (y : ByteArray) (z : Int), (Instr.field 37 (.agg #[.int .i64 x, .string y, .int .i64 z]) 0).run Tryz.prog W = .ok (.int .i64 x) W := fun _ _ _ _ => by kernel_rfl
  obtain ⟨k0, k1, k2, k3, k4, k5⟩ := HCEL.out _ B1.out
  go_wp2_with (fail)
  refine HNEW.out.mono ?_
  rintro e w2 ⟨hb2, hcase⟩
  have B2 := Lib.hid (below_then B1.out B1.out.size hb2)
  clear hb2 HNEW k0 k1 k2 k3 k4 k5
  rcases hcase with ⟨h0, v, rfl, he⟩ | ⟨h0, hv, v, rfl, he⟩ | ⟨h0, hv, g, S, rfl, hk, hS⟩
  · obtain ⟨ge, rfl⟩ := err_some (by omega) he
    obtain ⟨ec, hec⟩ : ∃ k, k = (headErr ⟨vr, hint, schema, zt, pos, neg⟩).1 := ⟨_, rfl⟩
    have d0 : ((ec : Int) != 0) = true := by rw [hec]; simp; omega
    have HEC := Lib.hid hec
    have H0 := Lib.hid h0
    clear he h0 hec
    have HRE := Lib.hid (HHD.out _ B2.out)
    obtain ⟨k0, k1, k2, k3, k4, k5⟩ := HCEL.out _ B2.out
    go_wp2_with (fail)
    refine HRE.out.mono ?_
    rintro e w3 ⟨⟨qa, qc, qb, qd⟩, rfl, hq, hb⟩
    have B3 := Lib.hid (below_then B2.out B2.out.size hb)
    have HC := Lib.hid (Check14_calls ⟨vr, hint, schema, zt, pos, neg⟩ ⟨qa, qc, qb, qd⟩ w3 hq)
    clear hq hb HRE k0 k1 k2 k3 k4 k5
    dsimp only [hcs]
    go_wp2_with (fail)
    refine HC.out.mono ?_
    rintro e w4 ⟨rfl, hb⟩
    have B4 := Lib.hid (below_then B3.out B3.out.size hb)
    clear hb HC
    rw [show Ref14A.wr (headErr ⟨vr, hint, schema, zt, pos, neg⟩).1 (headErr ⟨vr, hint, schema, zt, pos, neg⟩).2 0 = .agg #[.int .i64 (headErr ⟨vr, hint, schema, zt, pos, neg⟩).1, .string (headErr ⟨vr, hint, schema, zt, pos, neg⟩).2, .int .i64 (0 : Nat)] from if_neg H0.out, ← HEC.out]
    go_wp2_with (fail)
    refine (HAW.out _ (HEND.out _ B4.out)).mono ?_
    rintro e wa ⟨rfl, hb⟩
    have BA := Lib.hid (below_then (HEND.out _ B4.out) (HEND.out _ B4.out).size hb)
    clear hb
    go_wp2
    go_ret
    exact ⟨rfl, BA.out⟩
  · obtain ⟨ge, rfl⟩ := err_some (by decide) he
    have e1 : (vr != 1) = true := by simpa using hv
    have H0 := Lib.hid h0
    clear he h0 hv
    have HRE := Lib.hid (HHD.out _ B2.out)
    obtain ⟨k0, k1, k2, k3, k4, k5⟩ := HCEL.out _ B2.out
    go_wp2_with (fail)
    refine HRE.out.mono ?_
    rintro e w3 ⟨⟨qa, qc, qb, qd⟩, rfl, hq, hb⟩
    have B3 := Lib.hid (below_then B2.out B2.out.size hb)
    have HC := Lib.hid (Check14_calls ⟨vr, hint, schema, zt, pos, neg⟩ ⟨qa, qc, qb, qd⟩ w3 hq)
    clear hq hb HRE k0 k1 k2 k3 k4 k5
    dsimp only [hcs]
    go_wp2_with (fail)
    refine HC.out.mono ?_
    rintro e w4 ⟨rfl, hb⟩
    have B4 := Lib.hid (below_then B3.out B3.out.size hb)
    clear hb HC
    rw [H0.out, show Ref14A.wr 0 (headErr ⟨vr, hint, schema, zt, pos, neg⟩).2 0 = .agg #[.int .i64 0, .string ⟨#[]⟩, .int .i64 0] from rfl]
    obtain ⟨k0, k1, k2, k3, k4, k5⟩ := HCEL.out _ B4.out
    go_wp2_with (fail)
    refine (HAW.out _ (HEND.out _ B4.out)).mono ?_
    rintro e wa ⟨rfl, hb⟩
    have BA := Lib.hid (below_then (HEND.out _ B4.out) (HEND.out _ B4.out).size hb)
    clear hb
    go_wp2
    go_ret
    exact ⟨rfl, BA.out⟩
  have H0 := Lib.hid h0
  have A2 : Hid (Ak ⟨vr, hint, schema, zt, pos, neg⟩ g W0 w2 (.slice none 0 0) [] [] S) := Lib.hid ⟨B2.out, hk, fun j hj => Nat.le_trans B1.out.size (hS j hj), Rep.OwX.nil _ _ _ _, fun b hb => (by cases hb), fun x hx => (by cases hx), fun _ => rfl⟩
  clear hk hS h0 hv
  go_wp2_with (fail)
  go_loopw [7, 9, 10, 11, 12, 13, 14, 46] (fun v _ _ _ _ _ _ i wr => ∃ (k : Nat) (xs : List FsX) (S : Nat → Prop), k ≤ n ∧ i = .int .i64 k ∧ Hid (Ak ⟨vr, hint, schema, zt, pos, neg⟩ g W0 wr v (xs.map fsOf) xs S) ∧ Hid (xs.length ≤ k)) (fun _ _ _ _ _ _ _ i _ => n - (intOf i).toNat)
  case atStart => exact ⟨0, [], S, by omega, rfl, A2, Lib.hid (Nat.zero_le _)⟩
  case round =>
    obtain ⟨k, xs, S2, hk, rfl, AK, HXK⟩ := hrel
    by_cases hlt : k < n
    · have hkx : k < xs0.length := by rw [← HN.out]; exact hlt
      obtain ⟨XA, xc, rfl, hFL, hxc1, hxc2⟩ := AK.out.fsl (by have := HXK.out; omega)
      clear hFL hxc1 hxc2
      obtain ⟨x0, hx0⟩ : ∃ x, x = xs0[k] := ⟨_, rfl⟩
      obtain ⟨ad, hA, c0, c1, c2, c3, c4, c5, c6, c7, c8, c9⟩ := (HR.out _ AK.out.b).row k hkx
      have hok := (HR.out _ AK.out.b).ok _ (List.getElem_mem hkx)
      have hok0 := (HR.out _ (Below.refl _ _)).ok _ (List.getElem_mem hkx)
      have hsm := HS.out.all _ (List.getElem_mem hkx)
      rw [← hx0] at c0 c1 c2 c3 c4 c5 c6 c7 c8 c9 hok hok0 hsm
      subst hA
      have hfs := fh_in hok.2 hsm.short
      have hon := fh_lt (fh_in hok0.2 hsm.short)
      have h64 := fs64 hok hsm.short
      have HX0 := Lib.hid hok
      obtain ⟨s, hs⟩ : ∃ s, s = fsOf x0 := ⟨_, rfl⟩
      obtain ⟨r, hrr⟩ : ∃ r, r = lhOf x0.2 := ⟨_, rfl⟩
      have hfs : FhIn wr s.h r := by rw [hs, hrr]; exact hfs
      have hon : OnH (fun k => k < W0.heap.size) s.h r := by rw [hs, hrr]; exact hon
      rw [← hs] at c0 c1 c2 c3 c4 c5 c6 c7 c8 c9 h64
      rw [← hrr] at c6 c7 c8 c9
      have HSX := Lib.hid hs
      have HRX := Lib.hid hrr
      obtain ⟨W1, hW1, hbk, hal⟩ : ∃ W : World, W = wr.alloc (.cells #[.int .i64 s.t, .int .i64 s.h.schema, .int .u64 s.h.zero, .int .u64 s.h.zc, .int .u64 s.h.cnt, .int .u64 s.h.sum, .slice r.A s.h.pos.length r.c, .slice r.B s.h.neg.length r.d, .slice r.C s.h.pc.length r.cc, .slice r.D s.h.nc.length r.dd] 74) ∧ W.heap[wr.heap.size]? = some (.cells #[.int .i64 s.t, .int .i64 s.h.schema, .int .u64 s.h.zero, .int .u64 s.h.zc, .int .u64 s.h.cnt, .int .u64 s.h.sum, .slice r.A s.h.pos.length r.c, .slice r.B s.h.neg.length r.d, .slice r.C s.h.pc.length r.cc, .slice r.D s.h.nc.length r.dd] 74 (0, 0)) ∧ Below wr.heap.size wr W := ⟨_, rfl, blk_last wr _, below_alloc (Below.refl _ _) _⟩
      have HCS : Hid (∀ W : World, Below W1.heap.size W1 W → (W.cell? ⟨wr.heap.size, 0, none⟩ = some (.int .i64 s.t) ∧ W.cell? ⟨wr.heap.size, 1, none⟩ = some (.int .i64 s.h.schema) ∧ W.cell? ⟨wr.heap.size, 2, none⟩ = some (.int .u64 s.h.zero) ∧ W.cell? ⟨wr.heap.size, 3, none⟩ = some (.int .u64 s.h.zc) ∧ W.cell? ⟨wr.heap.size, 4, none⟩ = some (.int .u64 s.h.cnt) ∧ W.cell? ⟨wr.heap.size, 5, none⟩ = some (.int .u64 s.h.sum) ∧ W.cell? ⟨wr.heap.size, 6, none⟩ = some (.slice r.A s.h.pos.length r.c) ∧ W.cell? ⟨wr.heap.size, 7, none⟩ = some (.slice r.B s.h.neg.length r.d) ∧ W.cell? ⟨wr.heap.size, 8, none⟩ = some (.slice r.C s.h.pc.length r.cc) ∧ W.cell? ⟨wr.heap.size, 9, none⟩ = some (.slice r.D s.h.nc.length r.dd))) := Lib.hid (fun W h => by
        have hb := (h.block _ (blk_lt hbk)).trans hbk
        exact ⟨obj_cell hb rfl, obj_cell hb rfl, obj_cell hb rfl, obj_cell hb rfl, obj_cell hb rfl, obj_cell hb rfl, obj_cell hb rfl, obj_cell hb rfl, obj_cell hb rfl, obj_cell hb rfl⟩)
      obtain ⟨l, hl⟩ : ∃ l, l = xs.map fsOf := ⟨_, rfl⟩
      have HLX := Lib.hid hl
      have AK1 := Lib.hid (AK.out.below hal)
      rw [← hl] at AK1
      obtain ⟨x, hF⟩ := AK1.out.ck
      have hln : l.length = xs.length := by rw [hl, List.length_map]
      have hl16 : l.length ≤ 15 := by have := HXK.out; omega
      obtain ⟨hrm, hcb⟩ := room_of H0.out hF.n64 hF.good (show l.length ≤ 16 by omega)
      have HBI := Lib.hid (FcD.bits_calls g S2 ⟨vr, hint, schema, zt, pos, neg⟩ l x W1 hF (by omega))
      have hte := HTE.out _ (HEND.out _ AK1.out.b)
      have HCO : Hid (Calls Tryz.prog 41 #[.pointer (some ⟨g, 0, none⟩), .agg #[.int .i64 s.t, .int .i64 s.h.schema, .int .u64 s.h.zero, .int .u64 s.h.zc, .int .u64 s.h.cnt, .int .u64 s.h.sum, .slice r.A s.h.pos.length r.c, .slice r.B s.h.neg.length r.d, .slice r.C s.h.pc.length r.cc, .slice r.D s.h.nc.length r.dd]] W1 (CostPost ⟨vr, hint, schema, zt, pos, neg⟩ l s W1)) := Lib.hid (cost_calls g S2 ⟨vr, hint, schema, zt, pos, neg⟩ l x s r W1 hF (hfs.below hal) h64 hrm hte.2.1 hte.1 hte.2.2)
      have HAP : Hid (∀ W, Below W1.heap.size W1 W → Calls Tryz.prog 42 #[.pointer (some ⟨g, 0, none⟩), .agg #[.int .i64 s.t, .int .i64 s.h.schema, .int .u64 s.h.zero, .int .u64 s.h.zc, .int .u64 s.h.cnt, .int .u64 s.h.sum, .slice r.A s.h.pos.length r.c, .slice r.B s.h.neg.length r.d, .slice r.C s.h.pc.length r.cc, .slice r.D s.h.nc.length r.dd]] W (AppPost g S2 ⟨vr, hint, schema, zt, pos, neg⟩ l s W)) := Lib.hid (fun W hb => by
        have hte := HTE.out _ (HEND.out _ (AK1.out.below hb).b)
        exact append_calls g S2 ⟨vr, hint, schema, zt, pos, neg⟩ l x s r W (hF.below hb) ((hfs.below hal).below hb) (hon.mono fun j hj hs => by have := AK1.out.hs j hs; omega) h64 hrm hte.2.1 hte.1 hte.2.2
          (fun hc => by have := AK1.out.hs _ hc; have := HGB.out; omega) (fun hc => by have := AK1.out.hs _ hc; have := HGD.out; omega))
      obtain ⟨cb, hcbb⟩ : ∃ n, n = (chunkB ⟨vr, hint, schema, zt, pos, neg⟩ l).length := ⟨_, rfl⟩
      rw [← hcbb] at HBI hcb
      have HCB := Lib.hid hcbb
      have HFS := Lib.hid (hfs.below hal)
      have HON := Lib.hid hon
      have H64 := Lib.hid h64
      have HW1 := Lib.hid hW1
      have HBK := Lib.hid hbk
      have AK0 := Lib.hid AK.out
      have HLL := Lib.hid hl16
      obtain ⟨s0, s1, s2, s3, s4, s5, s6, s7, s8, s9⟩ := HCS.out _ (Below.refl _ _)
      clear hok hok0 hsm hfs hon h64 hs hrr hbk hal hW1 hl hF hln hl16 hrm hte hcbb hx0 AK
      go_wp2_with (fail)
      rw [← HW1.out]
      refine HBI.out.mono ?_
      rintro e wx ⟨rfl, rfl⟩
      clear HBI c0 c1 c2 c3 c4 c5 c6 c7 c8 c9
      go_wp2_with (fail)
      refine HCO.out.mono ?_
      rintro e w3 ⟨hb3, hcase⟩
      have B3 := Lib.hid hb3
      have AK3 := Lib.hid (AK1.out.below hb3)
      clear hb3 HCO s0 s1 s2 s3 s4 s5 s6 s7 s8 s9
      obtain ⟨s0, s1, s2, s3, s4, s5, s6, s7, s8, s9⟩ := HCS.out _ B3.out
      have HAP3 := Lib.hid (HAP.out _ B3.out)
      clear HAP
      rcases hcase with ⟨hw0, v1, rfl, he1⟩ | ⟨hw0, rfl⟩
      · go_wp2_with (fail)
        refine HAP3.out.mono ?_
        rintro e w4 hap
        obtain ⟨⟨v2, rfl, he2⟩, hb4⟩ : (∃ v, e = .returned v ∧ Err w4 v (plc (wrongF ⟨vr, hint, schema, zt, pos, neg⟩ l s).1 (wrongF ⟨vr, hint, schema, zt, pos, neg⟩ l s).2 l.length) .nilIface) ∧ Below w3.heap.size w3 w4 := by
          rcases hap with ⟨-, h1, h2⟩ | ⟨h1, -⟩
          · exact ⟨h1, h2⟩
          · exact absurd h1 hw0
        have B4 := Lib.hid (below_then B3.out B3.out.size hb4)
        have AK4 := Lib.hid (AK3.out.below hb4)
        have E1 := Lib.hid (he1.below hb4)
        have E2 := Lib.hid he2
        have HW0Z := Lib.hid hw0
        obtain ⟨ge1, rfl⟩ := err_some (by omega) he1
        obtain ⟨ge2, rfl⟩ := err_some (by omega) he2
        clear hap he1 he2 hb4 hw0 HAP3 s0 s1 s2 s3 s4 s5 s6 s7 s8 s9
        obtain ⟨ec, hec⟩ : ∃ k, k = (wrongF ⟨vr, hint, schema, zt, pos, neg⟩ l s).1 := ⟨_, rfl⟩
        obtain ⟨en, hen⟩ : ∃ k, k = (wrongF ⟨vr, hint, schema, zt, pos, neg⟩ l s).2 := ⟨_, rfl⟩
        rw [← hec, ← hen] at E1 E2
        rw [← hec] at HW0Z
        have HLN := Lib.hid (show l.length = xs.length by rw [HLX.out, List.length_map])
        rw [HLN.out] at E1 E2
        have HHD4 : Hid (∀ W, Below w4.heap.size w4 W → Calls Tryz.prog 37 #[.agg #[.int .i64 vr, .int .i64 hint, .int .i64 schema, .int .u64 zt, .slice A pos.length c, .slice B neg.length d]] W fun e w' => ∃ h1 h2 h3 h4, e = .returned (.agg #[.int .i64 vr, .int .i64 hint, .int .i64 schema, .int .u64 zt, .slice h1 pos.length h2, .slice h3 neg.length h4]) ∧ HdIn w' ⟨vr, hint, schema, zt, pos, neg⟩ ⟨h1, h2, h3, h4⟩ ∧ Below W.heap.size W w') := Lib.hid (fun W hb => by
          refine (HHD.out W (AK4.out.below hb).b).mono ?_
          rintro e w' ⟨⟨h1, h2, h3, h4⟩, rfl, g1, g2⟩
          exact ⟨h1, h2, h3, h4, rfl, g1, g2⟩)
        have HSA4 : Hid (∀ W, Below w4.heap.size w4 W → Calls Tryz.prog 44 #[.agg #[.int .i64 s.t, .int .i64 s.h.schema, .int .u64 s.h.zero, .int .u64 s.h.zc, .int .u64 s.h.cnt, .int .u64 s.h.sum, .slice r.A s.h.pos.length r.c, .slice r.B s.h.neg.length r.d, .slice r.C s.h.pc.length r.cc, .slice r.D s.h.nc.length r.dd]] W fun e w' => ∃ A1 c1 A2 c2, e = .returned (.agg #[.int .i64 s.t, .int .i64 s.h.schema, .int .u64 s.h.zero, .int .u64 s.h.zc, .int .u64 s.h.cnt, .int .u64 s.h.sum, .slice A1 s.h.pos.length c1, .slice A2 s.h.neg.length c2, .slice r.C s.h.pc.length r.cc, .slice r.D s.h.nc.length r.dd]) ∧ FhIn w' s.h ⟨A1, c1, A2, c2, r.C, r.cc, r.D, r.dd⟩ ∧ Below W.heap.size W w') := Lib.hid (fun W hb => by
          refine (samples_calls s r W (HFS.out.below (below_then B4.out B4.out.size hb))).mono ?_
          rintro e w' ⟨A1, c1, A2, c2, rfl, g1, -, -, g2⟩
          exact ⟨A1, c1, A2, c2, rfl, g1, g2⟩)
        have HWC4 : Hid (∀ W h1 h2 h3 h4 A1 c1 A2 c2, HdIn W ⟨vr, hint, schema, zt, pos, neg⟩ ⟨h1, h2, h3, h4⟩ → FhIn W s.h ⟨A1, c1, A2, c2, r.C, r.cc, r.D, r.dd⟩ → Below w4.heap.size w4 W → Calls Tryz.prog 43 #[.agg #[.int .i64 vr, .int .i64 hint, .int .i64 schema, .int .u64 zt, .slice h1 pos.length h2, .slice h3 neg.length h4], .slice XA xs.length xc, .agg #[.int .i64 s.t, .int .i64 s.h.schema, .int .u64 s.h.zero, .int .u64 s.h.zc, .int .u64 s.h.cnt, .int .u64 s.h.sum, .slice A1 s.h.pos.length c1, .slice A2 s.h.neg.length c2, .slice r.C s.h.pc.length r.cc, .slice r.D s.h.nc.length r.dd]] W fun e w' => e = .returned (.agg #[.int .i64 ec, .string en, .int .i64 xs.length]) ∧ Below W.heap.size W w') := Lib.hid (fun W h1 h2 h3 h4 A1 c1 A2 c2 g1 g2 hb => by
          obtain ⟨XA', xc', e1, hFL, -, -⟩ := (AK4.out.below hb).fsl (by have := HXK.out; omega)
          injection e1 with e1 e2 e3
          subst e1 e3
          refine (Ref18C.wrong_calls ⟨vr, hint, schema, zt, pos, neg⟩ ⟨h1, h2, h3, h4⟩ XA xc xs s ⟨A1, c1, A2, c2, r.C, r.cc, r.D, r.dd⟩ W g1 H0.out hFL g2).mono ?_
          rintro e w' ⟨rfl, hb'⟩
          rw [← HLX.out, ← hec, ← hen]
          exact ⟨by rw [show Ref14A.wr ec en xs.length = .agg #[.int .i64 ec, .string en, .int .i64 xs.length] from if_neg HW0Z.out], hb'⟩)
        have HS4 : Hid (∀ W, Below w4.heap.size w4 W → (Below w4.heap.size w4 W ∧ (W.cell? ⟨w.heap.size, 0, none⟩ = some (.int .i64 vr) ∧ W.cell? ⟨w.heap.size, 1, none⟩ = some (.int .i64 hint) ∧ W.cell? ⟨w.heap.size, 2, none⟩ = some (.int .i64 schema) ∧ W.cell? ⟨w.heap.size, 3, none⟩ = some (.int .u64 zt) ∧ W.cell? ⟨w.heap.size, 4, none⟩ = some (.slice A pos.length c) ∧ W.cell? ⟨w.heap.size, 5, none⟩ = some (.slice B neg.length d)) ∧ W.cell? ⟨wr.heap.size, 0, none⟩ = some (.int .i64 s.t) ∧ W.cell? ⟨wr.heap.size, 1, none⟩ = some (.int .i64 s.h.schema) ∧ W.cell? ⟨wr.heap.size, 2, none⟩ = some (.int .u64 s.h.zero) ∧ W.cell? ⟨wr.heap.size, 3, none⟩ = some (.int .u64 s.h.zc) ∧ W.cell? ⟨wr.heap.size, 4, none⟩ = some (.int .u64 s.h.cnt) ∧ W.cell? ⟨wr.heap.size, 5, none⟩ = some (.int .u64 s.h.sum) ∧ W.cell? ⟨wr.heap.size, 6, none⟩ = some (.slice r.A s.h.pos.length r.c) ∧ W.cell? ⟨wr.heap.size, 7, none⟩ = some (.slice r.B s.h.neg.length r.d) ∧ W.cell? ⟨wr.heap.size, 8, none⟩ = some (.slice r.C s.h.pc.length r.cc) ∧ W.cell? ⟨wr.heap.size, 9, none⟩ = some (.slice r.D s.h.nc.length r.dd))) := Lib.hid (fun W hb => ⟨hb, HCEL.out W (AK4.out.below hb).b, HCS.out W (below_then B4.out B4.out.size hb)⟩)
        have HZN := Lib.hid (show ec ≠ 0 from HW0Z.out)
        have d0 : ((ec : Int) != 0) = true := by have := HZN.out; simp; omega
        clear hec hen
        go_wp2_with (fail)
        have bd0 : Below w4.heap.size w4 w4.drew := below_drew (Below.refl _ _)
        have bdz : Below w4.heap.size w4 (w4.alloc (.cells #[.int .i64 0, .string ⟨#[]⟩, .int .i64 0] 37)).drew := below_drew (below_alloc (Below.refl _ _) _)
        refine wp_cut7 (fun b W => Below w4.heap.size w4 W ∧ W.heap[b]? = some (.cells #[.int .i64 ec, .string en, .int .i64 xs.length] 37 (0, 0))) ?reg1 ?more1
        case reg1 =>
          go_region_held3 (fun W => Below w4.heap.size w4 W ∧ (W.cell? ⟨w.heap.size, 0, none⟩ = some (.int .i64 vr) ∧ W.cell? ⟨w.heap.size, 1, none⟩ = some (.int .i64 hint) ∧ W.cell? ⟨w.heap.size, 2, none⟩ = some (.int .i64 schema) ∧ W.cell? ⟨w.heap.size, 3, none⟩ = some (.int .u64 zt) ∧ W.cell? ⟨w.heap.size, 4, none⟩ = some (.slice A pos.length c) ∧ W.cell? ⟨w.heap.size, 5, none⟩ = some (.slice B neg.length d)) ∧ W.cell? ⟨wr.heap.size, 0, none⟩ = some (.int .i64 s.t) ∧ W.cell? ⟨wr.heap.size, 1, none⟩ = some (.int .i64 s.h.schema) ∧ W.cell? ⟨wr.heap.size, 2, none⟩ = some (.int .u64 s.h.zero) ∧ W.cell? ⟨wr.heap.size, 3, none⟩ = some (.int .u64 s.h.zc) ∧ W.cell? ⟨wr.heap.size, 4, none⟩ = some (.int .u64 s.h.cnt) ∧ W.cell? ⟨wr.heap.size, 5, none⟩ = some (.int .u64 s.h.sum) ∧ W.cell? ⟨wr.heap.size, 6, none⟩ = some (.slice r.A s.h.pos.length r.c) ∧ W.cell? ⟨wr.heap.size, 7, none⟩ = some (.slice r.B s.h.neg.length r.d) ∧ W.cell? ⟨wr.heap.size, 8, none⟩ = some (.slice r.C s.h.pc.length r.cc) ∧ W.cell? ⟨wr.heap.size, 9, none⟩ = some (.slice r.D s.h.nc.length r.dd))
            (first | (with_reducible exact HS4.out _ bd0) | (with_reducible exact HS4.out _ hb45) | (with_reducible exact HS4.out _ hb46) | (with_reducible exact HS4.out _ hb47) | (with_reducible exact HS4.out _ bdz) | (with_reducible exact HS4.out _ (below_alloc hb45 _)) | (with_reducible exact HS4.out _ (below_alloc hb46 _)) | (with_reducible exact HS4.out _ (below_alloc hb47 _)) | (with_reducible exact HS4.out _ (below_three hb47 hle _ _ _)))
            (first
            | (go_at_call 37; (with_reducible show Calls _ _ _ (World.drew w4) _); refine (HHD4.out _ bd0).mono ?_; rintro e w5 ⟨h1, h2, h3, h4, rfl, hq5, hb5⟩; have hb45 : Below w4.heap.size w4 w5 := below_then bd0 bd0.size hb5)
            | (go_at_call 37; refine (HHD4.out _ bdz).mono ?_; rintro e w5 ⟨h1, h2, h3, h4, rfl, hq5, hb5⟩; have hb45 : Below w4.heap.size w4 w5 := below_then bdz bdz.size hb5; have hz5 : w5.heap[w4.heap.size]? = some (.cells #[.int .i64 0, .string ⟨#[]⟩, .int .i64 0] 37 (0, 0)) := (hb5.block _ (blk_lt (blk_last w4 (.cells #[.int .i64 0, .string ⟨#[]⟩, .int .i64 0] 37)))).trans (blk_last w4 (.cells #[.int .i64 0, .string ⟨#[]⟩, .int .i64 0] 37)); have hle : w4.heap.size ≤ w4.heap.size := Nat.le_refl _)
            | (go_at_call 44; (with_reducible show Calls _ _ _ w5 _); refine (HSA4.out w5 hb45).mono ?_; rintro e w6 ⟨A1, c1, A2, c2, rfl, hf6, hb56⟩; have hq6 := hq5.below hb56; have hb46 : Below w4.heap.size w4 w6 := below_then hb45 hb45.size hb56; (try (have hz6 := (hb56.block _ (blk_lt hz5)).trans hz5)))
            | (go_at_call 44; refine (HSA4.out _ (below_alloc hb45 _)).mono ?_; rintro e w6 ⟨A1, c1, A2, c2, rfl, hf6, hb56z⟩; have hb56 : Below w5.heap.size w5 w6 := below_then (below_alloc (Below.refl _ _) _) (below_alloc (Below.refl _ _) _).size hb56z; have hq6 := hq5.below hb56; have hb46 : Below w4.heap.size w4 w6 := below_then hb45 hb45.size hb56; have hz6 : w6.heap[w5.heap.size]? = some (.cells #[.int .i64 0, .string ⟨#[]⟩, .int .i64 0] 37 (0, 0)) := (hb56z.block _ (blk_lt (blk_last w5 (.cells #[.int .i64 0, .string ⟨#[]⟩, .int .i64 0] 37)))).trans (blk_last w5 (.cells #[.int .i64 0, .string ⟨#[]⟩, .int .i64 0] 37)); have hle : w4.heap.size ≤ w5.heap.size := hb45.size)
            | (go_at_call 43; (with_reducible show Calls _ _ _ w6 _); refine (HWC4.out w6 _ _ _ _ _ _ _ _ hq6 hf6 hb46).mono ?_; rintro e w7 ⟨rfl, hb67⟩; have hb47 : Below w4.heap.size w4 w7 := below_then hb46 hb46.size hb67; (try (have hz7 := (hb67.block _ (blk_lt hz6)).trans hz6; have z0 := obj_cell (i := 0) hz7 rfl; have z1 := obj_cell (i := 1) hz7 rfl; have z2 := obj_cell (i := 2) hz7 rfl; have y0 := obj_free (i := 0) hz7; have y1 := obj_free (i := 1) hz7; have y2 := obj_free (i := 2) hz7)))
            | (go_at_call 43; refine (HWC4.out _ _ _ _ _ _ _ _ _ (hq6.below (below_alloc (Below.refl _ _) _)) (hf6.below (below_alloc (Below.refl _ _) _)) (below_alloc hb46 _)).mono ?_; rintro e w7 ⟨rfl, hb67z⟩; have hb67 : Below w6.heap.size w6 w7 := below_then (below_alloc (Below.refl _ _) _) (below_alloc (Below.refl _ _) _).size hb67z; have hb47 : Below w4.heap.size w4 w7 := below_then hb46 hb46.size hb67; have hz7 : w7.heap[w6.heap.size]? = some (.cells #[.int .i64 0, .string ⟨#[]⟩, .int .i64 0] 37 (0, 0)) := (hb67z.block _ (blk_lt (blk_last w6 (.cells #[.int .i64 0, .string ⟨#[]⟩, .int .i64 0] 37)))).trans (blk_last w6 (.cells #[.int .i64 0, .string ⟨#[]⟩, .int .i64 0] 37)); have hle : w4.heap.size ≤ w6.heap.size := hb46.size; have z0 := obj_cell (i := 0) hz7 rfl; have z1 := obj_cell (i := 1) hz7 rfl; have z2 := obj_cell (i := 2) hz7 rfl; have y0 := obj_free (i := 0) hz7; have y1 := obj_free (i := 1) hz7; have y2 := obj_free (i := 2) hz7))
          all_goals
            refine ⟨rfl, _, _, _, _, _, _, _, rfl, ?_, ?_⟩
            · first | exact below_alloc hb47 _ | exact below_three hb47 hle _ _ _
            · first | exact blk_last w7 _ | exact blk_set (blk_set (blk_set hz7 0 _) 1 _) 2 _
        rintro u61 u62 u63 u64 u65 u66 b8 w8 ⟨hb8, hk8⟩
        have AK8 := Lib.hid (AK4.out.below hb8)
        have B8 := Lib.hid (below_then B4.out B4.out.size hb8)
        have E18 := Lib.hid (E1.out.below hb8)
        have E28 := Lib.hid (E2.out.below hb8)
        have HK8 : Hid (∀ W, Below w8.heap.size w8 W → (W.cell? ⟨b8, 0, none⟩ = some (.int .i64 ec) ∧ W.cell? ⟨b8, 1, none⟩ = some (.string en) ∧ W.cell? ⟨b8, 2, none⟩ = some (.int .i64 xs.length))) := Lib.hid (fun W hb => by
          have h := (hb.block _ (blk_lt hk8)).trans hk8
          exact ⟨obj_cell h rfl, obj_cell h rfl, obj_cell h rfl⟩)
        obtain ⟨q0, q1, q2⟩ := HK8.out w8 (Below.refl _ _)
        clear hb8 hk8 HHD4 HSA4 HWC4 HS4
        go_wp2_with (fail)
        refine (Law18A.tells_calls _ ec en xs.length w8 E28.out HZN.out).mono ?_
        rintro e w9 ⟨rfl, hb9⟩
        have HB9 := Lib.hid hb9
        have E19 := Lib.hid (E18.out.below hb9)
        obtain ⟨r0, r1, r2⟩ := HK8.out w9 hb9
        clear hb9 q0 q1 q2
        go_wp2_with (fail)
        refine (Law18A.tells_calls _ ec en xs.length w9 E19.out HZN.out).mono ?_
        rintro e w10 ⟨rfl, hb10⟩
        have AK10 := Lib.hid (AK8.out.below (below_then HB9.out HB9.out.size hb10))
        rw [HLX.out] at AK10
        obtain ⟨k0, k1, k2, k3, k4, k5⟩ := HCEL.out _ AK10.out.b
        have HIS := Lib.hid (is_ak ⟨A, c, B, d⟩ AK10.out (HI.out _ AK10.out.b) H0.out (by have := HXK.out; omega))
        clear hb10 r0 r1 r2
        dsimp only [hcs] at HIS
        go_wp2_with (fail)
        refine HIS.out.mono ?_
        rintro e w11 ⟨rfl, hb11⟩
        have AK11 := Lib.hid (AK10.out.below hb11)
        have HXK1 : Hid (xs.length ≤ k + 1) := Lib.hid (by have := HXK.out; omega)
        clear hb11 HIS k0 k1 k2 k3 k4 k5
        go_wp2_with (fail)
        go_roundw
        case rel => exact ⟨k + 1, xs, S2, by omega, by go_num, AK11, HXK1⟩
        case measure => simp [intOf]; omega
      · obtain ⟨lb, hlb⟩ : ∃ n, n = (lastB l s).length := ⟨_, rfl⟩
        rw [← hlb]
        have HLB := Lib.hid hlb
        have HW0Z := Lib.hid hw0
        clear hlb
        go_wp2_with (fail)
        refine HAP3.out.mono ?_
        rintro e w4 hap
        obtain ⟨rfl, hu⟩ : e = .returned .nilIface ∧ Upd (fun W S => Ck W g S ⟨vr, hint, schema, zt, pos, neg⟩ (l ++ [s])) S2 w3 w4 := by
          rcases hap with ⟨h1, -⟩ | ⟨-, h1, h2⟩
          · exact absurd hw0 h1
          · exact ⟨h1, h2⟩
        obtain ⟨S4, ak4, hch, hS4⟩ := AK3.out.turn hu
        have AK4 := Lib.hid ak4
        have HBW : Hid (∀ W, Below w4.heap.size w4 W → W.heap[wr.heap.size]? = some (.cells #[.int .i64 s.t, .int .i64 s.h.schema, .int .u64 s.h.zero, .int .u64 s.h.zc, .int .u64 s.h.cnt, .int .u64 s.h.sum, .slice r.A s.h.pos.length r.c, .slice r.B s.h.neg.length r.d, .slice r.C s.h.pc.length r.cc, .slice r.D s.h.nc.length r.dd] 74 (0, 0))) := Lib.hid (fun W hb => by
          have hb3 := (B3.out.block _ (blk_lt HBK.out)).trans HBK.out
          have hb4 := hch.blk hb3 (fun hs => by have := AK1.out.ck.old; have := AK0.out.ck.old _ hs; omega)
          exact (hb.block _ (blk_lt hb4)).trans hb4)
        have HCS4 : Hid (∀ W : World, Below w4.heap.size w4 W → (W.cell? ⟨wr.heap.size, 0, none⟩ = some (.int .i64 s.t) ∧ W.cell? ⟨wr.heap.size, 1, none⟩ = some (.int .i64 s.h.schema) ∧ W.cell? ⟨wr.heap.size, 2, none⟩ = some (.int .u64 s.h.zero) ∧ W.cell? ⟨wr.heap.size, 3, none⟩ = some (.int .u64 s.h.zc) ∧ W.cell? ⟨wr.heap.size, 4, none⟩ = some (.int .u64 s.h.cnt) ∧ W.cell? ⟨wr.heap.size, 5, none⟩ = some (.int .u64 s.h.sum) ∧ W.cell? ⟨wr.heap.size, 6, none⟩ = some (.slice r.A s.h.pos.length r.c) ∧ W.cell? ⟨wr.heap.size, 7, none⟩ = some (.slice r.B s.h.neg.length r.d) ∧ W.cell? ⟨wr.heap.size, 8, none⟩ = some (.slice r.C s.h.pc.length r.cc) ∧ W.cell? ⟨wr.heap.size, 9, none⟩ = some (.slice r.D s.h.nc.length r.dd))) := Lib.hid (fun W h => by
          have hb := HBW.out W h
          exact ⟨obj_cell hb rfl, obj_cell hb rfl, obj_cell hb rfl, obj_cell hb rfl, obj_cell hb rfl, obj_cell hb rfl, obj_cell hb rfl, obj_cell hb rfl, obj_cell hb rfl, obj_cell hb rfl⟩)
        have HFS4 : Hid (FhIn w4 s.h r) := Lib.hid ((HFS.out.below B3.out).ch hch HON.out (fun k hk hs => by have := AK3.out.hs k hs; omega))
        have HLN := Lib.hid (show l.length = xs.length by rw [HLX.out, List.length_map])
        clear hap hu hch hS4 hw0 HAP3 s0 s1 s2 s3 s4 s5 s6 s7 s8 s9 ak4
        have HHD4 : Hid (∀ W, Below w4.heap.size w4 W → Calls Tryz.prog 37 #[.agg #[.int .i64 vr, .int .i64 hint, .int .i64 schema, .int .u64 zt, .slice A pos.length c, .slice B neg.length d]] W fun e w' => ∃ h1 h2 h3 h4, e = .returned (.agg #[.int .i64 vr, .int .i64 hint, .int .i64 schema, .int .u64 zt, .slice h1 pos.length h2, .slice h3 neg.length h4]) ∧ HdIn w' ⟨vr, hint, schema, zt, pos, neg⟩ ⟨h1, h2, h3, h4⟩ ∧ Below W.heap.size W w') := Lib.hid (fun W hb => by
          refine (HHD.out W (AK4.out.below hb).b).mono ?_
          rintro e w' ⟨⟨h1, h2, h3, h4⟩, rfl, g1, g2⟩
          exact ⟨h1, h2, h3, h4, rfl, g1, g2⟩)
        have HSA4 : Hid (∀ W, Below w4.heap.size w4 W → Calls Tryz.prog 44 #[.agg #[.int .i64 s.t, .int .i64 s.h.schema, .int .u64 s.h.zero, .int .u64 s.h.zc, .int .u64 s.h.cnt, .int .u64 s.h.sum, .slice r.A s.h.pos.length r.c, .slice r.B s.h.neg.length r.d, .slice r.C s.h.pc.length r.cc, .slice r.D s.h.nc.length r.dd]] W fun e w' => ∃ A1 c1 A2 c2, e = .returned (.agg #[.int .i64 s.t, .int .i64 s.h.schema, .int .u64 s.h.zero, .int .u64 s.h.zc, .int .u64 s.h.cnt, .int .u64 s.h.sum, .slice A1 s.h.pos.length c1, .slice A2 s.h.neg.length c2, .slice r.C s.h.pc.length r.cc, .slice r.D s.h.nc.length r.dd]) ∧ FhIn w' s.h ⟨A1, c1, A2, c2, r.C, r.cc, r.D, r.dd⟩ ∧ Below W.heap.size W w') := Lib.hid (fun W hb => by
          refine (samples_calls s r W (HFS4.out.below hb)).mono ?_
          rintro e w' ⟨A1, c1, A2, c2, rfl, g1, -, -, g2⟩
          exact ⟨A1, c1, A2, c2, rfl, g1, g2⟩)
        have HWC4 : Hid (∀ W h1 h2 h3 h4 A1 c1 A2 c2, HdIn W ⟨vr, hint, schema, zt, pos, neg⟩ ⟨h1, h2, h3, h4⟩ → FhIn W s.h ⟨A1, c1, A2, c2, r.C, r.cc, r.D, r.dd⟩ → Below w4.heap.size w4 W → Calls Tryz.prog 43 #[.agg #[.int .i64 vr, .int .i64 hint, .int .i64 schema, .int .u64 zt, .slice h1 pos.length h2, .slice h3 neg.length h4], .slice XA xs.length xc, .agg #[.int .i64 s.t, .int .i64 s.h.schema, .int .u64 s.h.zero, .int .u64 s.h.zc, .int .u64 s.h.cnt, .int .u64 s.h.sum, .slice A1 s.h.pos.length c1, .slice A2 s.h.neg.length c2, .slice r.C s.h.pc.length r.cc, .slice r.D s.h.nc.length r.dd]] W fun e w' => e = .returned (.agg #[.int .i64 0, .string ⟨#[]⟩, .int .i64 0]) ∧ Below W.heap.size W w') := Lib.hid (fun W h1 h2 h3 h4 A1 c1 A2 c2 g1 g2 hb => by
          obtain ⟨XA', xc', e1, hFL, -, -⟩ := (AK4.out.below hb).fsl (by have := HXK.out; omega)
          injection e1 with e1 e2 e3
          subst e1 e3
          refine (Ref18C.wrong_calls ⟨vr, hint, schema, zt, pos, neg⟩ ⟨h1, h2, h3, h4⟩ XA xc xs s ⟨A1, c1, A2, c2, r.C, r.cc, r.D, r.dd⟩ W g1 H0.out hFL g2).mono ?_
          rintro e w' ⟨rfl, hb'⟩
          rw [← HLX.out, HW0Z.out]
          exact ⟨rfl, hb'⟩)
        have HS4 : Hid (∀ W, Below w4.heap.size w4 W → (Below w4.heap.size w4 W ∧ (W.cell? ⟨w.heap.size, 0, none⟩ = some (.int .i64 vr) ∧ W.cell? ⟨w.heap.size, 1, none⟩ = some (.int .i64 hint) ∧ W.cell? ⟨w.heap.size, 2, none⟩ = some (.int .i64 schema) ∧ W.cell? ⟨w.heap.size, 3, none⟩ = some (.int .u64 zt) ∧ W.cell? ⟨w.heap.size, 4, none⟩ = some (.slice A pos.length c) ∧ W.cell? ⟨w.heap.size, 5, none⟩ = some (.slice B neg.length d)) ∧ W.cell? ⟨wr.heap.size, 0, none⟩ = some (.int .i64 s.t) ∧ W.cell? ⟨wr.heap.size, 1, none⟩ = some (.int .i64 s.h.schema) ∧ W.cell? ⟨wr.heap.size, 2, none⟩ = some (.int .u64 s.h.zero) ∧ W.cell? ⟨wr.heap.size, 3, none⟩ = some (.int .u64 s.h.zc) ∧ W.cell? ⟨wr.heap.size, 4, none⟩ = some (.int .u64 s.h.cnt) ∧ W.cell? ⟨wr.heap.size, 5, none⟩ = some (.int .u64 s.h.sum) ∧ W.cell? ⟨wr.heap.size, 6, none⟩ = some (.slice r.A s.h.pos.length r.c) ∧ W.cell? ⟨wr.heap.size, 7, none⟩ = some (.slice r.B s.h.neg.length r.d) ∧ W.cell? ⟨wr.heap.size, 8, none⟩ = some (.slice r.C s.h.pc.length r.cc) ∧ W.cell? ⟨wr.heap.size, 9, none⟩ = some (.slice r.D s.h.nc.length r.dd))) := Lib.hid (fun W hb => ⟨hb, HCEL.out W (AK4.out.below hb).b, HCS4.out W hb⟩)
        go_wp2_with (fail)
        have bd0 : Below w4.heap.size w4 w4.drew := below_drew (Below.refl _ _)
        have bdz : Below w4.heap.size w4 (w4.alloc (.cells #[.int .i64 0, .string ⟨#[]⟩, .int .i64 0] 37)).drew := below_drew (below_alloc (Below.refl _ _) _)
        refine wp_cut7 (fun b W => Below w4.heap.size w4 W ∧ W.heap[b]? = some (.cells #[.int .i64 0, .string ⟨#[]⟩, .int .i64 0] 37 (0, 0))) ?reg2 ?more2
        case reg2 =>
          go_region_held3 (fun W => Below w4.heap.size w4 W ∧ (W.cell? ⟨w.heap.size, 0, none⟩ = some (.int .i64 vr) ∧ W.cell? ⟨w.heap.size, 1, none⟩ = some (.int .i64 hint) ∧ W.cell? ⟨w.heap.size, 2, none⟩ = some (.int .i64 schema) ∧ W.cell? ⟨w.heap.size, 3, none⟩ = some (.int .u64 zt) ∧ W.cell? ⟨w.heap.size, 4, none⟩ = some (.slice A pos.length c) ∧ W.cell? ⟨w.heap.size, 5, none⟩ = some (.slice B neg.length d)) ∧ W.cell? ⟨wr.heap.size, 0, none⟩ = some (.int .i64 s.t) ∧ W.cell? ⟨wr.heap.size, 1, none⟩ = some (.int .i64 s.h.schema) ∧ W.cell? ⟨wr.heap.size, 2, none⟩ = some (.int .u64 s.h.zero) ∧ W.cell? ⟨wr.heap.size, 3, none⟩ = some (.int .u64 s.h.zc) ∧ W.cell? ⟨wr.heap.size, 4, none⟩ = some (.int .u64 s.h.cnt) ∧ W.cell? ⟨wr.heap.size, 5, none⟩ = some (.int .u64 s.h.sum) ∧ W.cell? ⟨wr.heap.size, 6, none⟩ = some (.slice r.A s.h.pos.length r.c) ∧ W.cell? ⟨wr.heap.size, 7, none⟩ = some (.slice r.B s.h.neg.length r.d) ∧ W.cell? ⟨wr.heap.size, 8, none⟩ = some (.slice r.C s.h.pc.length r.cc) ∧ W.cell? ⟨wr.heap.size, 9, none⟩ = some (.slice r.D s.h.nc.length r.dd))
            (first | (with_reducible exact HS4.out _ bd0) | (with_reducible exact HS4.out _ hb45) | (with_reducible exact HS4.out _ hb46) | (with_reducible exact HS4.out _ hb47) | (with_reducible exact HS4.out _ bdz) | (with_reducible exact HS4.out _ (below_alloc hb45 _)) | (with_reducible exact HS4.out _ (below_alloc hb46 _)) | (with_reducible exact HS4.out _ (below_alloc hb47 _)) | (with_reducible exact HS4.out _ (below_three hb47 hle _ _ _)))
            (first
            | (go_at_call 37; (with_reducible show Calls _ _ _ (World.drew w4) _); refine (HHD4.out _ bd0).mono ?_; rintro e w5 ⟨h1, h2, h3, h4, rfl, hq5, hb5⟩; have hb45 : Below w4.heap.size w4 w5 := below_then bd0 bd0.size hb5)
            | (go_at_call 37; refine (HHD4.out _ bdz).mono ?_; rintro e w5 ⟨h1, h2, h3, h4, rfl, hq5, hb5⟩; have hb45 : Below w4.heap.size w4 w5 := below_then bdz bdz.size hb5; have hz5 : w5.heap[w4.heap.size]? = some (.cells #[.int .i64 0, .string ⟨#[]⟩, .int .i64 0] 37 (0, 0)) := (hb5.block _ (blk_lt (blk_last w4 (.cells #[.int .i64 0, .string ⟨#[]⟩, .int .i64 0] 37)))).trans (blk_last w4 (.cells #[.int .i64 0, .string ⟨#[]⟩, .int .i64 0] 37)); have hle : w4.heap.size ≤ w4.heap.size := Nat.le_refl _)
            | (go_at_call 44; (with_reducible show Calls _ _ _ w5 _); refine (HSA4.out w5 hb45).mono ?_; rintro e w6 ⟨A1, c1, A2, c2, rfl, hf6, hb56⟩; have hq6 := hq5.below hb56; have hb46 : Below w4.heap.size w4 w6 := below_then hb45 hb45.size hb56; (try (have hz6 := (hb56.block _ (blk_lt hz5)).trans hz5)))
            | (go_at_call 44; refine (HSA4.out _ (below_alloc hb45 _)).mono ?_; rintro e w6 ⟨A1, c1, A2, c2, rfl, hf6, hb56z⟩; have hb56 : Below w5.heap.size w5 w6 := below_then (below_alloc (Below.refl _ _) _) (below_alloc (Below.refl _ _) _).size hb56z; have hq6 := hq5.below hb56; have hb46 : Below w4.heap.size w4 w6 := below_then hb45 hb45.size hb56; have hz6 : w6.heap[w5.heap.size]? = some (.cells #[.int .i64 0, .string ⟨#[]⟩, .int .i64 0] 37 (0, 0)) := (hb56z.block _ (blk_lt (blk_last w5 (.cells #[.int .i64 0, .string ⟨#[]⟩, .int .i64 0] 37)))).trans (blk_last w5 (.cells #[.int .i64 0, .string ⟨#[]⟩, .int .i64 0] 37)); have hle : w4.heap.size ≤ w5.heap.size := hb45.size)
            | (go_at_call 43; (with_reducible show Calls _ _ _ w6 _); refine (HWC4.out w6 _ _ _ _ _ _ _ _ hq6 hf6 hb46).mono ?_; rintro e w7 ⟨rfl, hb67⟩; have hb47 : Below w4.heap.size w4 w7 := below_then hb46 hb46.size hb67; (try (have hz7 := (hb67.block _ (blk_lt hz6)).trans hz6; have z0 := obj_cell (i := 0) hz7 rfl; have z1 := obj_cell (i := 1) hz7 rfl; have z2 := obj_cell (i := 2) hz7 rfl; have y0 := obj_free (i := 0) hz7; have y1 := obj_free (i := 1) hz7; have y2 := obj_free (i := 2) hz7)))
            | (go_at_call 43; refine (HWC4.out _ _ _ _ _ _ _ _ _ (hq6.below (below_alloc (Below.refl _ _) _)) (hf6.below (below_alloc (Below.refl _ _) _)) (below_alloc hb46 _)).mono ?_; rintro e w7 ⟨rfl, hb67z⟩; have hb67 : Below w6.heap.size w6 w7 := below_then (below_alloc (Below.refl _ _) _) (below_alloc (Below.refl _ _) _).size hb67z; have hb47 : Below w4.heap.size w4 w7 := below_then hb46 hb46.size hb67; have hz7 : w7.heap[w6.heap.size]? = some (.cells #[.int .i64 0, .string ⟨#[]⟩, .int .i64 0] 37 (0, 0)) := (hb67z.block _ (blk_lt (blk_last w6 (.cells #[.int .i64 0, .string ⟨#[]⟩, .int .i64 0] 37)))).trans (blk_last w6 (.cells #[.int .i64 0, .string ⟨#[]⟩, .int .i64 0] 37)); have hle : w4.heap.size ≤ w6.heap.size := hb46.size; have z0 := obj_cell (i := 0) hz7 rfl; have z1 := obj_cell (i := 1) hz7 rfl; have z2 := obj_cell (i := 2) hz7 rfl; have y0 := obj_free (i := 0) hz7; have y1 := obj_free (i := 1) hz7; have y2 := obj_free (i := 2) hz7))
          all_goals
            refine ⟨rfl, _, _, _, _, _, _, _, rfl, ?_, ?_⟩
            · first | exact below_alloc hb47 _ | exact below_three hb47 hle _ _ _
            · first | exact blk_last w7 _ | exact blk_set (blk_set (blk_set hz7 0 _) 1 _) 2 _
        rintro u61 u62 u63 u64 u65 u66 b8 w8 ⟨hb8, hk8⟩
        have AK8 := Lib.hid (AK4.out.below hb8)
        have HFS8 := Lib.hid (HFS4.out.below hb8)
        obtain ⟨s0, s1, s2, s3, s4, s5, s6, s7, s8, s9⟩ := HCS4.out _ hb8
        have q0 : w8.cell? ⟨b8, 0, none⟩ = some (.int .i64 0) := obj_cell hk8 rfl
        have HSA8 := Lib.hid (samples_calls s r w8 HFS8.out)
        dsimp only [scs, fcs] at HSA8
        clear hb8 hk8 HHD4 HSA4 HWC4 HS4 HBW HCS4
        go_wp2_with (fail)
        refine HSA8.out.mono ?_
        rintro e w9 ⟨A1, c1, A2, c2, rfl, hf9, hoA, hoB, hb9⟩
        have AK9 := Lib.hid (AK8.out.below hb9)
        have HYE := Lib.hid (mkX_enc HX0.out A1 c1 A2 c2)
        obtain ⟨y, hy⟩ : ∃ y, y = mkX x0 A1 c1 A2 c2 := ⟨_, rfl⟩
        have hys : fsOf y = s := by rw [hy, mkX_fs, HSX.out]
        have hyl : lhOf y.2 = ⟨A1, c1, A2, c2, r.C, r.cc, r.D, r.dd⟩ := by rw [hy, mkX_lh, HRX.out]
        rw [← hy, hys, hyl] at HYE
        have HYS := Lib.hid hys
        have HYL := Lib.hid hyl
        have HF9 := Lib.hid hf9
        have HONY : Hid (OnH (fun k => ¬ S4 k ∧ (Value.slice XA xs.length xc).ownBlock ≠ some k) s.h ⟨A1, c1, A2, c2, r.C, r.cc, r.D, r.dd⟩) := Lib.hid (by
          have hnew : ∀ k, w8.heap.size ≤ k → ¬ S4 k ∧ (Value.slice XA xs.length xc).ownBlock ≠ some k := fun k hk => ⟨fun hs => by have := AK8.out.ck.old k hs; omega, fun hs => by have := AK8.out.ow.lt_ k hs; omega⟩
          have hold : ∀ k, k < W0.heap.size → ¬ S4 k ∧ (Value.slice XA xs.length xc).ownBlock ≠ some k := fun k hk => ⟨fun hs => by have := AK8.out.hs k hs; omega, fun hs => by have := AK8.out.ow.base_ k hs; omega⟩
          exact ⟨hoA.mono hnew, hoB.mono hnew, HON.out.pc.mono hold, HON.out.nc.mono hold⟩)
        have HB9 := Lib.hid hb9
        have hx10 : xs.length ≤ 15 := by have := HXK.out; omega
        clear hf9 hoA hoB hb9 hy hys hyl HSA8 q0 s0 s1 s2 s3 s4 s5 s6 s7 s8 s9
        go_wp2_with (at_builtin; refine Rep.append_any_at (r := rFs) (w0 := W0) (W := w9) W0.heap.size rfl (.tmp 99) (.tmp 102) 69 82 _ 144 rfl Tryz.underlying69 infoSm rfl (by decide) _ xs y _ (by rw [HYE.out]; rfl) rfl w9.heap.size rfl rfl AK9.out.ow AK9.out.b AK9.out.b.size (by omega) (by omega) ?_; intro v1 w10 ho1 hb1 hg1 hat1)
        have AKP := Lib.hid (AK9.out.push (y := y) (by rw [HYS.out, HYL.out]; exact HYE.out) (by rw [HYS.out, HYL.out]; exact HF9.out) (by rw [HYS.out]; exact H64.out) (by rw [HYS.out, HYL.out]; exact HONY.out) ho1 hb1 hg1 (by
          rcases hat1 with h | h
          · exact .inl h
          · exact .inr ⟨_, h, by omega⟩))
        have HXL : Hid ((xs ++ [y]).length ≤ k + 1) := Lib.hid (by rw [List.length_append, List.length_singleton]; have := HXK.out; omega)
        have HLM : Hid (l ++ [s] = (xs ++ [y]).map fsOf) := Lib.hid (by rw [List.map_append, ← HLX.out, List.map_singleton, HYS.out])
        obtain ⟨xs1, hxs1⟩ : ∃ z, z = xs ++ [y] := ⟨_, rfl⟩
        rw [← hxs1] at AKP HXL HLM
        obtain ⟨x10, hF10⟩ := AKP.out.ck
        have hl2 : (l ++ [s]).length ≤ 16 := by rw [List.length_append, List.length_singleton]; have := HLL.out; omega
        obtain ⟨-, hcb2⟩ := room_of H0.out hF10.n64 hF10.good hl2
        have hcbl : (chunkB ⟨vr, hint, schema, zt, pos, neg⟩ (l ++ [s])).length = cb + lb := by rw [HCB.out, HLB.out, chunkB, bitsB_snoc, ← List.append_assoc, List.length_append]; rfl
        have HBI2 := Lib.hid (FcD.bits_calls g S4 ⟨vr, hint, schema, zt, pos, neg⟩ (l ++ [s]) x10 w10 hF10 (by omega))
        rw [hcbl, show ((16 + (cb + lb) : Nat) : Int) = 16 + (cb : Int) + (lb : Int) from by omega] at HBI2
        rw [hcbl] at hcb2
        obtain ⟨k0, k1, k2, k3, k4, k5⟩ := HCEL.out _ AKP.out.b
        rw [HLM.out] at AKP
        have HIS := Lib.hid (is_ak ⟨A, c, B, d⟩ AKP.out (HI.out _ AKP.out.b) H0.out (by have := HXL.out; omega))
        dsimp only [hcs] at HIS
        have hcx : cb ≤ 200000000 := by omega
        have hlx : lb ≤ 200000000 := by omega
        obtain ⟨XB, xd, rfl, -, -, -⟩ := AKP.out.fsl (by have := HXL.out; omega)
        clear hF10 hl2 hcb2 hcbl ho1 hb1 hg1 hat1 hxs1
        go_wp2_with (fail)
        refine HBI2.out.mono ?_
        rintro e wx ⟨rfl, rfl⟩
        clear HBI2
        go_wp2_with (fail)
        refine HIS.out.mono ?_
        rintro e w11 ⟨rfl, hb11⟩
        have AK11 := Lib.hid (AKP.out.below hb11)
        clear hb11 HIS k0 k1 k2 k3 k4 k5
        go_wp2_with (fail)
        go_roundw
        case rel => exact ⟨k + 1, xs1, S4, by omega, by go_num, AK11, HXL⟩
        case measure => simp [intOf]; omega
    · obtain rfl : k = n := by omega
      have BW := Lib.hid AK.out.b
      go_wp2_with (fail)
      refine (HAW.out _ (HEND.out _ BW.out)).mono ?_
      rintro e wa ⟨rfl, hb⟩
      have BA := Lib.hid (below_then (HEND.out _ BW.out) (HEND.out _ BW.out).size hb)
      clear hb
      go_wp2
      go_ret
      exact ⟨rfl, BA.out⟩
theorem hdin_len {w : World} {x : Int × Int × Int × Int × Rep.Sl (Int × Int) × Rep.Sl (Int × Int)} (h : rHd.ok w x) (h1 : (hdOf x).pos.length ≤ 400) (h2 : (hdOf x).neg.length ≤ 400) : HdIn w (hdOf x) (lcOf x) := by
  obtain ⟨-, ⟨g1, g2, -, -⟩, g5, g6, g7⟩ := enc_hd h
  exact ⟨⟨g1, by omega, g6.1, g6.2⟩, ⟨g2, by omega, g7.1, g7.2⟩, g5⟩
theorem walk (x : Int × Int × Int × Int × Rep.Sl (Int × Int) × Rep.Sl (Int × Int)) (y : Rep.Sl FsX) (w : World) (hx : rHd.ok w x) (hy : (Rep.slice rFs).ok w y) (hL : laidMetH Tryz.prog laidF w) :
    Calls Tryz.prog 6 #[.agg (rHd.enc x).toArray, .slice y.at_ y.l.length y.cap] w fun e w' => e = .returned (.bool true) ∧ Below w.heap.size w w' := by
  obtain ⟨hT, hE, hZ⟩ := of_laidF hL
  obtain ⟨e1, x1, -⟩ := enc_hd hx
  rw [e1]
  have h1 := hy.1.le
  have h2 := hy.1.max
  unfold maxLen at h2
  exact core (hdOf x) (lcOf x) y.at_ y.cap y.l w hT hE hZ x1 (fun h1 h2 => hdin_len hx h1 h2) ⟨hy.1.rd, hy.2⟩ (by omega)
end Go.Proofs.YtjfekjbmgckkcaaGreatDoor.FchunkAppends
