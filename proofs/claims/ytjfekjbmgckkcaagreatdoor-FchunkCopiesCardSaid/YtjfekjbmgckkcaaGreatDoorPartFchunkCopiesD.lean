/- what FchunkCopies stands on, part 4. -/
import Derived.Test.YtjfekjbmgckkcaaGreatDoorPartFchunkCopiesC
import Derived.Test.YtjfekjbmgckkcaaGreatDoorPartFchunkCopiesB
import Derived.Test.YtjfekjbmgckkcaaGreatDoorPartFchunkCopiesA
import Derived.Test.YtjfekjbmgckkcaaGreatDoorProg
import Derived.ProofKit
import Derived.LaidMore
import Derived.Lib.LaidTab
import Derived.Test.YtjfekjbmgckkcaaGreatDoorRows
import Derived.Stop.LaidErr
namespace Go.Proofs.YtjfekjbmgckkcaaGreatDoor.Ref10E
open Go.RowKit Go.Proofs.YtjfekjbmgckkcaaGreatDoorW.PrintWords
open Go.Proofs.YtjfekjbmgckkcaaGreatDoor.Bits Go.Proofs.YtjfekjbmgckkcaaGreatDoor.Base Go.Proofs.YtjfekjbmgckkcaaGreatDoor.VarPure Go.Proofs.YtjfekjbmgckkcaaGreatDoor.VarbitA Go.Proofs.YtjfekjbmgckkcaaGreatDoor.VarKit Go.Proofs.YtjfekjbmgckkcaaGreatDoor.StreamA Go.Proofs.YtjfekjbmgckkcaaGreatDoor.SpanPure Go.Proofs.YtjfekjbmgckkcaaGreatDoor.SpanBase Go.Proofs.YtjfekjbmgckkcaaGreatDoor.FailAs Go.Proofs.YtjfekjbmgckkcaaGreatDoor.FailB Go.Proofs.YtjfekjbmgckkcaaGreatDoor.FailC Go.Proofs.YtjfekjbmgckkcaaGreatDoor.HeadA Go.Proofs.YtjfekjbmgckkcaaGreatDoor.HeadB Go.Proofs.YtjfekjbmgckkcaaGreatDoor.HeadC Go.Proofs.YtjfekjbmgckkcaaGreatDoor.HeadE Go.Proofs.YtjfekjbmgckkcaaGreatDoor.HeadPure Go.Proofs.YtjfekjbmgckkcaaGreatDoor.Ref01 Go.Proofs.YtjfekjbmgckkcaaGreatDoor.Ref12 Go.Proofs.YtjfekjbmgckkcaaGreatDoor.Ref13 Go.Proofs.YtjfekjbmgckkcaaGreatDoor.FcPure Go.Proofs.YtjfekjbmgckkcaaGreatDoor.FcObj Go.Proofs.YtjfekjbmgckkcaaGreatDoor.XorA
set_option maxHeartbeats 1600000 in
theorem at_calls (A C : Option Addr) (ca cc : Nat) (l n : List Int) (i : Nat) (w : World) (h1 : RdI .i64 w A l) (h2 : RdI .u64 w C n) (hl : l.length = n.length) (hm : l.length ≤ 1000000000) (hi : i < l.length) (hnd : l.Nodup) :
    Calls Tryz.prog 212 #[.slice A l.length ca, .slice C n.length cc, .int .i64 l[i]] w fun e w' => e = .returned (.int .u64 (n.getD i 0)) ∧ w = w' := by
  have HND : Hid (∀ k, (hk : k < l.length) → k ≠ i → (l[k] == l[i]) = false) := Lib.hid (fun k hk hne => by
    rw [beq_eq_false_iff_ne]
    intro he
    exact hne ((List.getElem_inj hnd).1 he))
  have H1 : Hid (∀ k, (hk : k < l.length) → ∃ ad, A = some ad ∧ w.cell? (ad.add k) = some (.int .i64 l[k])) := Lib.hid (fun k hk => RdI.at_ h1 k hk)
  obtain ⟨bd, hB, hc2⟩ := RdI.at_ h2 i (by omega)
  subst hB
  obtain ⟨x, hx⟩ : ∃ x, x = l[i] := ⟨_, rfl⟩
  obtain ⟨y, hy⟩ : ∃ y, y = n.getD i 0 := ⟨_, rfl⟩
  rw [← hx, ← hy]
  rw [show n[i]'(by omega) = y from by rw [hy, List.getD_eq_getElem?_getD, List.getElem?_eq_getElem (by omega)]; rfl] at hc2
  have HX := Lib.hid hx
  rw [← hl]
  obtain ⟨q, hq⟩ : ∃ q, q = l.length := ⟨_, rfl⟩
  have HQ := Lib.hid hq
  rw [← hq] at hm hi ⊢
  have i1 : (i : Int) < (q : Int) := by omega
  clear h1 h2 hl hnd hx hy hq
  go_enter Tryz.func212, Tryz.ntmps212
  go_wp2
  go_loop [7] (fun t => ∃ k : Nat, k ≤ i ∧ t = .int .i64 k) (fun t => i - (intOf t).toNat)
  case atStart => exact ⟨0, by omega, rfl⟩
  case round =>
    obtain ⟨k, hk, rfl⟩ := hrel
    have hkl : k < l.length := by rw [← HQ.out]; omega
    have hkq : k < q := by omega
    have hkq2 : (k : Int) < (q : Int) := by omega
    obtain ⟨ad, hA, c0⟩ := H1.out k hkl
    subst hA
    by_cases he : k = i
    · subst he
      rw [← HX.out] at c0
      have e1 : (x == x) = true := by simp
      go_wp2
      go_ret
      exact ⟨rfl, rfl⟩
    · have e1 := HND.out k hkl he
      rw [← HX.out] at e1
      obtain ⟨z, hz⟩ : ∃ z, z = l[k] := ⟨_, rfl⟩
      rw [← hz] at c0 e1
      clear hz
      go_wp2
      go_round
      case rel => exact ⟨k + 1, by omega, by go_num⟩
      case measure => simp [intOf]; omega
theorem dr_more {w W : World} (h : Drawn0 w W) (n : Nat) : Drawn0 w (W.drewN n) := by
  obtain ⟨m, rfl⟩ := h
  exact ⟨m + n, by rw [World.drewN_drewN]⟩
set_option maxHeartbeats 1600000 in
theorem same_calls (A B C D : Option Addr) (ca cb cc cd : Nat) (l n : List Int) (w : World) (h1 : RdI .i64 w A l) (h2 : RdI .u64 w C n) (h3 : RdI .i64 w B l) (h4 : RdI .u64 w D n) (hl : l.length = n.length) (hm : l.length ≤ 1000000000) (hnd : l.Nodup) :
    Calls Tryz.prog 168 #[.slice A l.length ca, .slice C n.length cc, .slice B l.length cb, .slice D n.length cd] w fun e w' => e = .returned (.bool true) ∧ Drawn0 w w' := by
  have H1 := Lib.hid h1
  have H2 := Lib.hid h2
  have H3 := Lib.hid h3
  have H4 := Lib.hid h4
  have HL := Lib.hid hl
  have HAT1 : Hid (∀ W, Drawn0 w W → ∀ i, (hi : i < l.length) → Calls Tryz.prog 212 #[.slice B l.length cb, .slice D n.length cd, .int .i64 l[i]] W fun e w' => e = .returned (.int .u64 (n.getD i 0)) ∧ W = w') := Lib.hid (fun W ⟨m, hW⟩ i hi => by
    subst hW
    exact at_calls B D cb cd l n i _ (h3.drewN m) (h4.drewN m) hl hm hi hnd)
  have HAT2 : Hid (∀ W, Drawn0 w W → ∀ i, (hi : i < l.length) → Calls Tryz.prog 212 #[.slice A l.length ca, .slice C n.length cc, .int .i64 l[i]] W fun e w' => e = .returned (.int .u64 (n.getD i 0)) ∧ W = w') := Lib.hid (fun W ⟨m, hW⟩ i hi => by
    subst hW
    exact at_calls A C ca cc l n i _ (h1.drewN m) (h2.drewN m) hl hm hi hnd)
  rw [← hl] at HAT1 HAT2 ⊢
  obtain ⟨q, hq⟩ : ∃ q, q = l.length := ⟨_, rfl⟩
  have HQ := Lib.hid hq
  have HAT1 : Hid (∀ W, Drawn0 w W → ∀ i, (hi : i < l.length) → Calls Tryz.prog 212 #[.slice B q cb, .slice D q cd, .int .i64 l[i]] W fun e w' => e = .returned (.int .u64 (n.getD i 0)) ∧ W = w') := Lib.hid (by rw [hq]; exact HAT1.out)
  have HAT2 : Hid (∀ W, Drawn0 w W → ∀ i, (hi : i < l.length) → Calls Tryz.prog 212 #[.slice A q ca, .slice C q cc, .int .i64 l[i]] W fun e w' => e = .returned (.int .u64 (n.getD i 0)) ∧ W = w') := Lib.hid (by rw [hq]; exact HAT2.out)
  have HGD : Hid (∀ k, (hk : k < n.length) → n.getD k 0 = n[k]) := Lib.hid (fun k hk => by rw [List.getD_eq_getElem?_getD, List.getElem?_eq_getElem hk]; rfl)
  rw [← hq] at hm ⊢
  have HRD : Hid (∀ W, Drawn0 w W → RdI .i64 W A l ∧ RdI .u64 W C n ∧ RdI .i64 W B l ∧ RdI .u64 W D n) := Lib.hid (fun W ⟨m, hW⟩ => by
    subst hW
    exact ⟨h1.drewN m, h2.drewN m, h3.drewN m, h4.drewN m⟩)
  clear h1 h2 h3 h4 hl hq hnd H1 H2 H3 H4
  go_enter Tryz.func168, Tryz.ntmps168
  go_wp2
  go_loopw [9] (fun i wr => ∃ k : Nat, k ≤ q ∧ i = .int .i64 k ∧ Hid (Drawn0 w wr)) (fun i _ => q - (intOf i).toNat)
  case atStart => exact ⟨0, by omega, rfl, Lib.hid (Drawn0.refl _)⟩
  case round =>
    obtain ⟨k, hk, rfl, HD⟩ := hrel
    by_cases hlt : k < q
    · have hkl : k < l.length := by rw [← HQ.out]; exact hlt
      have hkn : k < n.length := by rw [← HL.out]; exact hkl
      obtain ⟨ad, hA, c0⟩ := RdI.at_ (HRD.out _ HD.out).1 k hkl
      obtain ⟨bd, hB, c1⟩ := RdI.at_ (HRD.out _ HD.out).2.1 k hkn
      subst hA hB
      have HAT := Lib.hid (fun j => HAT1.out (wr.drewN j) (dr_more HD.out j) k hkl)
      rw [HGD.out k hkn] at HAT
      have b1 : (k : Int) < (q : Int) := by omega
      obtain ⟨x, hx⟩ : ∃ x, x = l[k] := ⟨_, rfl⟩
      obtain ⟨y, hy⟩ : ∃ y, y = n[k] := ⟨_, rfl⟩
      rw [← hx] at c0 HAT
      rw [← hy] at c1 HAT
      have e1 : (y != y) = false := by simp
      clear hx hy
      go_wp2_with (fail)
      go_quiet (first | (go_at_call 212; exact q_same (HAT.out _)))
      go_wp2
      go_roundw
      case rel => exact ⟨k + 1, by omega, by go_num, Lib.hid (dr_more HD.out nq)⟩
      case measure => simp [intOf]; omega
    · obtain rfl : k = q := by omega
      go_wp2_with (fail)
      go_loopw [10] (fun i wr => ∃ j : Nat, j ≤ k ∧ i = .int .i64 j ∧ Hid (Drawn0 w wr)) (fun i _ => k - (intOf i).toNat)
      case atStart => exact ⟨0, by omega, rfl, HD⟩
      case round =>
        obtain ⟨j, hj, rfl, HD2⟩ := hrel
        by_cases hlt2 : j < k
        · have hkl : j < l.length := by rw [← HQ.out]; exact hlt2
          have hkn : j < n.length := by rw [← HL.out]; exact hkl
          obtain ⟨ad, hA, c0⟩ := RdI.at_ (HRD.out _ HD2.out).2.2.1 j hkl
          obtain ⟨bd, hB, c1⟩ := RdI.at_ (HRD.out _ HD2.out).2.2.2 j hkn
          subst hA hB
          have HAT := Lib.hid (fun i => HAT2.out (wr.drewN i) (dr_more HD2.out i) j hkl)
          rw [HGD.out j hkn] at HAT
          have b1 : (j : Int) < (k : Int) := by omega
          obtain ⟨x, hx⟩ : ∃ x, x = l[j] := ⟨_, rfl⟩
          obtain ⟨y, hy⟩ : ∃ y, y = n[j] := ⟨_, rfl⟩
          rw [← hx] at c0 HAT
          rw [← hy] at c1 HAT
          have e1 : (y != y) = false := by simp
          clear hx hy
          go_wp2_with (fail)
          go_quiet (first | (go_at_call 212; exact q_same (HAT.out _)))
          go_wp2
          go_roundw
          case rel => exact ⟨j + 1, by omega, by go_num, Lib.hid (dr_more HD2.out nq)⟩
          case measure => simp [intOf]; omega
        · obtain rfl : j = k := by omega
          go_wp2
          go_ret
          exact ⟨rfl, HD2.out⟩
end Go.Proofs.YtjfekjbmgckkcaaGreatDoor.Ref10E
namespace Go.Proofs.YtjfekjbmgckkcaaGreatDoor.Ref10F
open Go.RowKit Go.Proofs.YtjfekjbmgckkcaaGreatDoorW.PrintWords
open Go.Proofs.YtjfekjbmgckkcaaGreatDoor.Bits Go.Proofs.YtjfekjbmgckkcaaGreatDoor.Base Go.Proofs.YtjfekjbmgckkcaaGreatDoor.VarPure Go.Proofs.YtjfekjbmgckkcaaGreatDoor.VarbitA Go.Proofs.YtjfekjbmgckkcaaGreatDoor.VarKit Go.Proofs.YtjfekjbmgckkcaaGreatDoor.StreamA Go.Proofs.YtjfekjbmgckkcaaGreatDoor.SpanPure Go.Proofs.YtjfekjbmgckkcaaGreatDoor.SpanBase Go.Proofs.YtjfekjbmgckkcaaGreatDoor.FailAs Go.Proofs.YtjfekjbmgckkcaaGreatDoor.FailB Go.Proofs.YtjfekjbmgckkcaaGreatDoor.FailC Go.Proofs.YtjfekjbmgckkcaaGreatDoor.HeadA Go.Proofs.YtjfekjbmgckkcaaGreatDoor.HeadB Go.Proofs.YtjfekjbmgckkcaaGreatDoor.HeadC Go.Proofs.YtjfekjbmgckkcaaGreatDoor.HeadE Go.Proofs.YtjfekjbmgckkcaaGreatDoor.HeadPure Go.Proofs.YtjfekjbmgckkcaaGreatDoor.Ref01 Go.Proofs.YtjfekjbmgckkcaaGreatDoor.Ref12 Go.Proofs.YtjfekjbmgckkcaaGreatDoor.Ref13 Go.Proofs.YtjfekjbmgckkcaaGreatDoor.FcPure Go.Proofs.YtjfekjbmgckkcaaGreatDoor.FcObj Go.Proofs.YtjfekjbmgckkcaaGreatDoor.Ref10E
structure St (w : World) (o1 o2 : Obj) (W : World) : Prop where
  b : Below w.heap.size w W
  o : W.heap[w.heap.size]? = some o1
  s : W.heap[w.heap.size + 1]? = some o2
theorem St.below {w W W2 : World} {o1 o2 : Obj} (h : St w o1 o2 W) (hb : Below W.heap.size W W2) : St w o1 o2 W2 :=
  ⟨below_then h.b h.b.size hb, (hb.block _ (blk_lt h.o)).trans h.o, (hb.block _ (blk_lt h.s)).trans h.s⟩
theorem St.make (w : World) (c1 c2 : Array Value) (t : Nat) : St w (.cells c1 t (0, 0)) (.cells c2 t (0, 0)) ((w.alloc (.cells c1 t)).alloc (.cells c2 t)) := by
  have x0 := blk_last w (.cells c1 t)
  have x1 := blk_last (w.alloc (.cells c1 t)) (.cells c2 t)
  rw [show (w.alloc (.cells c1 t)).heap.size = w.heap.size + 1 from by simp] at x1
  exact ⟨below_alloc (below_alloc (Below.refl _ _) _) _, blk_alloc x0 _, x1⟩
theorem rising_nodup {l : List Sp} (h : chk l = 0) : (places l).Nodup := by
  have h1 := places_rise (SpanQ.right_of h)
  exact List.Pairwise.imp (fun hlt he => by omega) h1
set_option maxRecDepth 100000 in
set_option maxHeartbeats 6400000 in
theorem equal_calls (a : FH) (p : Lh) (bp bn : List Sp) (r : Lh) (w : World) (ha : FhIn w a p) (hb : FhIn w { a with pos := bp, neg := bn } r) (ea : errF a = 0) (eb : errF { a with pos := bp, neg := bn } = 0) (h1 : places a.pos = places bp) (h2 : places a.neg = places bn) :
    Calls Tryz.prog 105 #[.agg (fcs a p).toArray, .agg (fcs { a with pos := bp, neg := bn } r).toArray] w fun e w' => e = .returned (.bool true) ∧ Below w.heap.size w w' := by
  obtain ⟨W0, hW0, hst⟩ : ∃ W : World, W = (w.alloc (.cells #[.int .i64 a.schema, .int .u64 a.zero, .int .u64 a.zc, .int .u64 a.cnt, .int .u64 a.sum, .slice p.A a.pos.length p.c, .slice p.B a.neg.length p.d, .slice p.C a.pc.length p.cc, .slice p.D a.nc.length p.dd] 80)).alloc (.cells #[.int .i64 a.schema, .int .u64 a.zero, .int .u64 a.zc, .int .u64 a.cnt, .int .u64 a.sum, .slice r.A bp.length r.c, .slice r.B bn.length r.d, .slice r.C a.pc.length r.cc, .slice r.D a.nc.length r.dd] 80) ∧ St w (.cells #[.int .i64 a.schema, .int .u64 a.zero, .int .u64 a.zc, .int .u64 a.cnt, .int .u64 a.sum, .slice p.A a.pos.length p.c, .slice p.B a.neg.length p.d, .slice p.C a.pc.length p.cc, .slice p.D a.nc.length p.dd] 80 (0, 0)) (.cells #[.int .i64 a.schema, .int .u64 a.zero, .int .u64 a.zc, .int .u64 a.cnt, .int .u64 a.sum, .slice r.A bp.length r.c, .slice r.B bn.length r.d, .slice r.C a.pc.length r.cc, .slice r.D a.nc.length r.dd] 80 (0, 0)) W := ⟨_, rfl, St.make w _ _ _⟩
  obtain ⟨o1, ho1⟩ : ∃ o : Obj, o = (.cells #[.int .i64 a.schema, .int .u64 a.zero, .int .u64 a.zc, .int .u64 a.cnt, .int .u64 a.sum, .slice p.A a.pos.length p.c, .slice p.B a.neg.length p.d, .slice p.C a.pc.length p.cc, .slice p.D a.nc.length p.dd] 80 (0, 0)) := ⟨_, rfl⟩
  obtain ⟨o2, ho2⟩ : ∃ o : Obj, o = (.cells #[.int .i64 a.schema, .int .u64 a.zero, .int .u64 a.zc, .int .u64 a.cnt, .int .u64 a.sum, .slice r.A bp.length r.c, .slice r.B bn.length r.d, .slice r.C a.pc.length r.cc, .slice r.D a.nc.length r.dd] 80 (0, 0)) := ⟨_, rfl⟩
  have HCL : Hid (∀ W, St w (.cells #[.int .i64 a.schema, .int .u64 a.zero, .int .u64 a.zc, .int .u64 a.cnt, .int .u64 a.sum, .slice p.A a.pos.length p.c, .slice p.B a.neg.length p.d, .slice p.C a.pc.length p.cc, .slice p.D a.nc.length p.dd] 80 (0, 0)) (.cells #[.int .i64 a.schema, .int .u64 a.zero, .int .u64 a.zc, .int .u64 a.cnt, .int .u64 a.sum, .slice r.A bp.length r.c, .slice r.B bn.length r.d, .slice r.C a.pc.length r.cc, .slice r.D a.nc.length r.dd] 80 (0, 0)) W → ((W.cell? ⟨w.heap.size, 0, none⟩ = some (.int .i64 a.schema) ∧ W.cell? ⟨w.heap.size, 1, none⟩ = some (.int .u64 a.zero) ∧ W.cell? ⟨w.heap.size, 2, none⟩ = some (.int .u64 a.zc) ∧ W.cell? ⟨w.heap.size, 3, none⟩ = some (.int .u64 a.cnt) ∧ W.cell? ⟨w.heap.size, 4, none⟩ = some (.int .u64 a.sum) ∧ W.cell? ⟨w.heap.size, 5, none⟩ = some (.slice p.A a.pos.length p.c) ∧ W.cell? ⟨w.heap.size, 6, none⟩ = some (.slice p.B a.neg.length p.d) ∧ W.cell? ⟨w.heap.size, 7, none⟩ = some (.slice p.C a.pc.length p.cc) ∧ W.cell? ⟨w.heap.size, 8, none⟩ = some (.slice p.D a.nc.length p.dd)) ∧ W.cell? ⟨w.heap.size + 1, 0, none⟩ = some (.int .i64 a.schema) ∧ W.cell? ⟨w.heap.size + 1, 1, none⟩ = some (.int .u64 a.zero) ∧ W.cell? ⟨w.heap.size + 1, 2, none⟩ = some (.int .u64 a.zc) ∧ W.cell? ⟨w.heap.size + 1, 3, none⟩ = some (.int .u64 a.cnt) ∧ W.cell? ⟨w.heap.size + 1, 4, none⟩ = some (.int .u64 a.sum) ∧ W.cell? ⟨w.heap.size + 1, 5, none⟩ = some (.slice r.A bp.length r.c) ∧ W.cell? ⟨w.heap.size + 1, 6, none⟩ = some (.slice r.B bn.length r.d) ∧ W.cell? ⟨w.heap.size + 1, 7, none⟩ = some (.slice r.C a.pc.length r.cc) ∧ W.cell? ⟨w.heap.size + 1, 8, none⟩ = some (.slice r.D a.nc.length r.dd))) := Lib.hid (fun W h => ⟨⟨obj_cell h.o rfl, obj_cell h.o rfl, obj_cell h.o rfl, obj_cell h.o rfl, obj_cell h.o rfl, obj_cell h.o rfl, obj_cell h.o rfl, obj_cell h.o rfl, obj_cell h.o rfl⟩, obj_cell h.s rfl, obj_cell h.s rfl, obj_cell h.s rfl, obj_cell h.s rfl, obj_cell h.s rfl, obj_cell h.s rfl, obj_cell h.s rfl, obj_cell h.s rfl, obj_cell h.s rfl⟩)
  rw [← ho1, ← ho2] at hst HCL
  have HC1 : Hid (∀ W, St w o1 o2 W → Calls Tryz.prog 46 #[.agg #[.int .i64 a.schema, .int .u64 a.zero, .int .u64 a.zc, .int .u64 a.cnt, .int .u64 a.sum, .slice p.A a.pos.length p.c, .slice p.B a.neg.length p.d, .slice p.C a.pc.length p.cc, .slice p.D a.nc.length p.dd]] W fun e w' => e = .returned (.int .i64 0) ∧ St w o1 o2 w') := Lib.hid (fun W h => by
    refine (Ref10.check_calls a p W (ha.below h.b)).mono ?_
    rintro e w' ⟨rfl, hb'⟩
    exact ⟨by rw [ea]; rfl, h.below hb'⟩)
  have HC2 : Hid (∀ W, St w o1 o2 W → Calls Tryz.prog 46 #[.agg #[.int .i64 a.schema, .int .u64 a.zero, .int .u64 a.zc, .int .u64 a.cnt, .int .u64 a.sum, .slice r.A bp.length r.c, .slice r.B bn.length r.d, .slice r.C a.pc.length r.cc, .slice r.D a.nc.length r.dd]] W fun e w' => e = .returned (.int .i64 0) ∧ St w o1 o2 w') := Lib.hid (fun W h => by
    refine (Ref10.check_calls { a with pos := bp, neg := bn } r W (hb.below h.b)).mono ?_
    rintro e w' ⟨rfl, hb'⟩
    exact ⟨by rw [eb]; rfl, h.below hb'⟩)
  have xa := errF_zero ea
  have xb := errF_zero eb
  have HP : Hid (∀ (A' : Option Addr) (c' : Nat) (l' : List Sp), Spl w A' c' l' → chk l' = 0 → ∀ W, St w o1 o2 W → Calls Tryz.prog 115 #[.slice A' l'.length c'] W fun e w' => ∃ A1 c1, e = .returned (.slice A1 (places l').length c1) ∧ RdI .i64 w' A1 (places l') ∧ Below W.heap.size W w' ∧ St w o1 o2 w') := Lib.hid (fun A' c' l' hl' h0 W hW => by
    refine (Ref06P.places_calls A' c' l' W (hl'.below hW.b).rd (by have := hl'.len; omega) h0).mono ?_
    rintro e w' ⟨v, rfl, ho, hb⟩
    obtain ⟨A1, c1, rfl, -, hr⟩ := ho.reads
    exact ⟨A1, c1, rfl, hr, hb, hW.below hb⟩)
  have HSM : Hid (∀ (A B C D : Option Addr) (ca cb cc cd : Nat) (l : List Sp) (n : List Nat) W, chk l = 0 → (places l).length = n.length → RdI .i64 W A (places l) → RdI .i64 W B (places l) → Nul W C cc n → Nul W D cd n → St w o1 o2 W →
      Calls Tryz.prog 168 #[.slice A (places l).length ca, .slice C n.length cc, .slice B (places l).length cb, .slice D n.length cd] W fun e w' => e = .returned (.bool true) ∧ St w o1 o2 w') := Lib.hid (fun A B C D ca cb cc cd l n W h0 hl r1 r2 r3 r4 hW => by
    have := Ref10E.same_calls A B C D ca cb cc cd (places l) (nats n) W r1 r3.rd r2 r4.rd (by rw [nats_length]; exact hl) (by have := places_len (SpanQ.right_of h0); omega) (rising_nodup h0)
    rw [nats_length] at this
    refine this.mono ?_
    rintro e w' ⟨rfl, ⟨m, rfl⟩⟩
    exact ⟨rfl, hW.below (pw_below_drewN (Below.refl _ _) m)⟩)
  have HA := Lib.hid ha
  have HB := Lib.hid hb
  have HXA := Lib.hid (sideF_zero xa.2.2.2.2.2.1)
  have HYA := Lib.hid (sideF_zero xa.2.2.2.2.2.2)
  have HXB := Lib.hid (sideF_zero xb.2.2.2.2.2.1).1
  have HYB := Lib.hid (sideF_zero xb.2.2.2.2.2.2).1
  have HPE := Lib.hid h1
  have HNE := Lib.hid h2
  have HPN1 := Lib.hid (congrArg List.length h1)
  have HPN2 := Lib.hid (congrArg List.length h2)
  have HW0 := Lib.hid hW0
  have HS0 := Lib.hid hst
  obtain ⟨⟨a0, a1, a2, a3, a4, a5, a6, a7, a8⟩, b0, b1, b2, b3, b4, b5, b6, b7, b8⟩ := HCL.out _ hst
  show Calls Tryz.prog 105 #[.agg #[.int .i64 a.schema, .int .u64 a.zero, .int .u64 a.zc, .int .u64 a.cnt, .int .u64 a.sum, .slice p.A a.pos.length p.c, .slice p.B a.neg.length p.d, .slice p.C a.pc.length p.cc, .slice p.D a.nc.length p.dd], .agg #[.int .i64 a.schema, .int .u64 a.zero, .int .u64 a.zc, .int .u64 a.cnt, .int .u64 a.sum, .slice r.A bp.length r.c, .slice r.B bn.length r.d, .slice r.C a.pc.length r.cc, .slice r.D a.nc.length r.dd]] w _
  clear ha hb ea eb h1 h2 hst hW0 ho1 ho2 xa xb
  go_enter Tryz.func105, Tryz.ntmps105
  go_wp2_with (fail)
  rw [← HW0.out]
  refine (HC1.out _ HS0.out).mono ?_
  rintro e w1 ⟨rfl, hs⟩
  have HS1 := Lib.hid hs
  clear hs a0 a1 a2 a3 a4 a5 a6 a7 a8 b0 b1 b2 b3 b4 b5 b6 b7 b8
  obtain ⟨⟨a0, a1, a2, a3, a4, a5, a6, a7, a8⟩, b0, b1, b2, b3, b4, b5, b6, b7, b8⟩ := HCL.out _ HS1.out
  go_wp2_with (fail)
  refine (HC2.out _ HS1.out).mono ?_
  rintro e w2 ⟨rfl, hs⟩
  have HS2 := Lib.hid hs
  clear hs a0 a1 a2 a3 a4 a5 a6 a7 a8 b0 b1 b2 b3 b4 b5 b6 b7 b8
  obtain ⟨⟨a0, a1, a2, a3, a4, a5, a6, a7, a8⟩, b0, b1, b2, b3, b4, b5, b6, b7, b8⟩ := HCL.out _ HS2.out
  go_wp2_with (fail)
  have HSd := Lib.hid (HS2.out.below (below_drew (Below.refl _ _)))
  have hq0 : w2.drew.cell? ⟨w.heap.size, 5, none⟩ = some (.slice p.A a.pos.length p.c) ∧ w2.drew.cell? ⟨w.heap.size, 7, none⟩ = some (.slice p.C a.pc.length p.cc) ∧ w2.drew.cell? ⟨w.heap.size + 1, 5, none⟩ = some (.slice r.A bp.length r.c) ∧ w2.drew.cell? ⟨w.heap.size + 1, 7, none⟩ = some (.slice r.C a.pc.length r.cc) := ⟨a5, a7, b5, b7⟩
  clear a0 a1 a2 a3 a4 a5 a6 a7 a8 b0 b1 b2 b3 b4 b5 b6 b7 b8
  go_region_held3 (fun W => W.cell? ⟨w.heap.size, 5, none⟩ = some (.slice p.A a.pos.length p.c) ∧ W.cell? ⟨w.heap.size, 7, none⟩ = some (.slice p.C a.pc.length p.cc) ∧ W.cell? ⟨w.heap.size + 1, 5, none⟩ = some (.slice r.A bp.length r.c) ∧ W.cell? ⟨w.heap.size + 1, 7, none⟩ = some (.slice r.C a.pc.length r.cc))
    (first | (with_reducible exact hq0) | (with_reducible exact hq1) | (with_reducible exact hq2) | (with_reducible exact hq3))
    (first
    | (go_at_call 115; (with_reducible show Calls _ _ #[Value.slice p.A a.pos.length p.c] _ _); refine (HP.out _ _ _ HA.out.pos HXA.out.1 _ HSd.out).mono ?_; rintro e w3 ⟨A1, c1, rfl, hr1, hb3, hst3⟩; have hq1 : w3.cell? ⟨w.heap.size, 5, none⟩ = some (.slice p.A a.pos.length p.c) ∧ w3.cell? ⟨w.heap.size, 7, none⟩ = some (.slice p.C a.pc.length p.cc) ∧ w3.cell? ⟨w.heap.size + 1, 5, none⟩ = some (.slice r.A bp.length r.c) ∧ w3.cell? ⟨w.heap.size + 1, 7, none⟩ = some (.slice r.C a.pc.length r.cc) := ⟨(HCL.out _ hst3).1.2.2.2.2.2.1, (HCL.out _ hst3).1.2.2.2.2.2.2.2.1, (HCL.out _ hst3).2.2.2.2.2.2.1, (HCL.out _ hst3).2.2.2.2.2.2.2.2.1⟩)
    | (go_at_call 115; refine (HP.out _ _ _ HB.out.pos HXB.out _ hst3).mono ?_; rintro e w4 ⟨A2, c2, rfl, hr2, hb4, hst4⟩; have hq2 : w4.cell? ⟨w.heap.size, 5, none⟩ = some (.slice p.A a.pos.length p.c) ∧ w4.cell? ⟨w.heap.size, 7, none⟩ = some (.slice p.C a.pc.length p.cc) ∧ w4.cell? ⟨w.heap.size + 1, 5, none⟩ = some (.slice r.A bp.length r.c) ∧ w4.cell? ⟨w.heap.size + 1, 7, none⟩ = some (.slice r.C a.pc.length r.cc) := ⟨(HCL.out _ hst4).1.2.2.2.2.2.1, (HCL.out _ hst4).1.2.2.2.2.2.2.2.1, (HCL.out _ hst4).2.2.2.2.2.2.1, (HCL.out _ hst4).2.2.2.2.2.2.2.2.1⟩)
    | (go_at_call 168; rw [← HPN1.out]; refine (HSM.out A1 A2 p.C r.C c1 c2 p.cc r.cc a.pos a.pc _ HXA.out.1 HXA.out.2.1 (hr1.below hb4) (by rw [HPE.out]; exact hr2) (HA.out.pc.below hst4.b) (HB.out.pc.below hst4.b) hst4).mono ?_; rintro e w5 ⟨rfl, hst5⟩; have hq3 : w5.cell? ⟨w.heap.size, 5, none⟩ = some (.slice p.A a.pos.length p.c) ∧ w5.cell? ⟨w.heap.size, 7, none⟩ = some (.slice p.C a.pc.length p.cc) ∧ w5.cell? ⟨w.heap.size + 1, 5, none⟩ = some (.slice r.A bp.length r.c) ∧ w5.cell? ⟨w.heap.size + 1, 7, none⟩ = some (.slice r.C a.pc.length r.cc) := ⟨(HCL.out _ hst5).1.2.2.2.2.2.1, (HCL.out _ hst5).1.2.2.2.2.2.2.2.1, (HCL.out _ hst5).2.2.2.2.2.2.1, (HCL.out _ hst5).2.2.2.2.2.2.2.2.1⟩))
  have HS5 := Lib.hid hst5
  clear hq0 hq1 hq2 hq3 hr1 hr2 hb3 hb4 hst3 hst4 hst5
  obtain ⟨⟨a0, a1, a2, a3, a4, a5, a6, a7, a8⟩, b0, b1, b2, b3, b4, b5, b6, b7, b8⟩ := HCL.out _ HS5.out
  go_wp2_with (fail)
  have HSd := Lib.hid (HS5.out.below (below_drew (Below.refl _ _)))
  have hq0 : w5.drew.cell? ⟨w.heap.size, 6, none⟩ = some (.slice p.B a.neg.length p.d) ∧ w5.drew.cell? ⟨w.heap.size, 8, none⟩ = some (.slice p.D a.nc.length p.dd) ∧ w5.drew.cell? ⟨w.heap.size + 1, 6, none⟩ = some (.slice r.B bn.length r.d) ∧ w5.drew.cell? ⟨w.heap.size + 1, 8, none⟩ = some (.slice r.D a.nc.length r.dd) := ⟨a6, a8, b6, b8⟩
  clear a0 a1 a2 a3 a4 a5 a6 a7 a8 b0 b1 b2 b3 b4 b5 b6 b7 b8
  go_region_held3 (fun W => W.cell? ⟨w.heap.size, 6, none⟩ = some (.slice p.B a.neg.length p.d) ∧ W.cell? ⟨w.heap.size, 8, none⟩ = some (.slice p.D a.nc.length p.dd) ∧ W.cell? ⟨w.heap.size + 1, 6, none⟩ = some (.slice r.B bn.length r.d) ∧ W.cell? ⟨w.heap.size + 1, 8, none⟩ = some (.slice r.D a.nc.length r.dd))
    (first | (with_reducible exact hq0) | (with_reducible exact hq1) | (with_reducible exact hq2) | (with_reducible exact hq3))
    (first
    | (go_at_call 115; (with_reducible show Calls _ _ #[Value.slice p.B a.neg.length p.d] _ _); refine (HP.out _ _ _ HA.out.neg HYA.out.1 _ HSd.out).mono ?_; rintro e w6 ⟨A3, c3, rfl, hr1, hb3, hst3⟩; have hq1 : w6.cell? ⟨w.heap.size, 6, none⟩ = some (.slice p.B a.neg.length p.d) ∧ w6.cell? ⟨w.heap.size, 8, none⟩ = some (.slice p.D a.nc.length p.dd) ∧ w6.cell? ⟨w.heap.size + 1, 6, none⟩ = some (.slice r.B bn.length r.d) ∧ w6.cell? ⟨w.heap.size + 1, 8, none⟩ = some (.slice r.D a.nc.length r.dd) := ⟨(HCL.out _ hst3).1.2.2.2.2.2.2.1, (HCL.out _ hst3).1.2.2.2.2.2.2.2.2, (HCL.out _ hst3).2.2.2.2.2.2.2.1, (HCL.out _ hst3).2.2.2.2.2.2.2.2.2⟩)
    | (go_at_call 115; refine (HP.out _ _ _ HB.out.neg HYB.out _ hst3).mono ?_; rintro e w7 ⟨A4, c4, rfl, hr2, hb4, hst4⟩; have hq2 : w7.cell? ⟨w.heap.size, 6, none⟩ = some (.slice p.B a.neg.length p.d) ∧ w7.cell? ⟨w.heap.size, 8, none⟩ = some (.slice p.D a.nc.length p.dd) ∧ w7.cell? ⟨w.heap.size + 1, 6, none⟩ = some (.slice r.B bn.length r.d) ∧ w7.cell? ⟨w.heap.size + 1, 8, none⟩ = some (.slice r.D a.nc.length r.dd) := ⟨(HCL.out _ hst4).1.2.2.2.2.2.2.1, (HCL.out _ hst4).1.2.2.2.2.2.2.2.2, (HCL.out _ hst4).2.2.2.2.2.2.2.1, (HCL.out _ hst4).2.2.2.2.2.2.2.2.2⟩)
    | (go_at_call 168; rw [← HPN2.out]; refine (HSM.out A3 A4 p.D r.D c3 c4 p.dd r.dd a.neg a.nc _ HYA.out.1 HYA.out.2.1 (hr1.below hb4) (by rw [HNE.out]; exact hr2) (HA.out.nc.below hst4.b) (HB.out.nc.below hst4.b) hst4).mono ?_; rintro e w8 ⟨rfl, hst5⟩; have hq3 : w8.cell? ⟨w.heap.size, 6, none⟩ = some (.slice p.B a.neg.length p.d) ∧ w8.cell? ⟨w.heap.size, 8, none⟩ = some (.slice p.D a.nc.length p.dd) ∧ w8.cell? ⟨w.heap.size + 1, 6, none⟩ = some (.slice r.B bn.length r.d) ∧ w8.cell? ⟨w.heap.size + 1, 8, none⟩ = some (.slice r.D a.nc.length r.dd) := ⟨(HCL.out _ hst5).1.2.2.2.2.2.2.1, (HCL.out _ hst5).1.2.2.2.2.2.2.2.2, (HCL.out _ hst5).2.2.2.2.2.2.2.1, (HCL.out _ hst5).2.2.2.2.2.2.2.2.2⟩))
  have HS8 := Lib.hid hst5
  clear hq0 hq1 hq2 hq3 hr1 hr2 hb3 hb4 hst3 hst4 hst5
  go_wp2
  go_ret
  exact ⟨rfl, HS8.out.b⟩
end Go.Proofs.YtjfekjbmgckkcaaGreatDoor.Ref10F
namespace Go.Proofs.YtjfekjbmgckkcaaGreatDoor.Law18G
open Go.RowKit Go.Proofs.YtjfekjbmgckkcaaGreatDoorW.PrintWords
open Go.Proofs.YtjfekjbmgckkcaaGreatDoor.Bits Go.Proofs.YtjfekjbmgckkcaaGreatDoor.Base Go.Proofs.YtjfekjbmgckkcaaGreatDoor.VarPure Go.Proofs.YtjfekjbmgckkcaaGreatDoor.VarbitA Go.Proofs.YtjfekjbmgckkcaaGreatDoor.VarKit Go.Proofs.YtjfekjbmgckkcaaGreatDoor.StreamA Go.Proofs.YtjfekjbmgckkcaaGreatDoor.SpanPure Go.Proofs.YtjfekjbmgckkcaaGreatDoor.SpanBase Go.Proofs.YtjfekjbmgckkcaaGreatDoor.FailAs Go.Proofs.YtjfekjbmgckkcaaGreatDoor.FailB Go.Proofs.YtjfekjbmgckkcaaGreatDoor.FailC Go.Proofs.YtjfekjbmgckkcaaGreatDoor.HeadA Go.Proofs.YtjfekjbmgckkcaaGreatDoor.HeadB Go.Proofs.YtjfekjbmgckkcaaGreatDoor.HeadC Go.Proofs.YtjfekjbmgckkcaaGreatDoor.HeadE Go.Proofs.YtjfekjbmgckkcaaGreatDoor.HeadPure Go.Proofs.YtjfekjbmgckkcaaGreatDoor.Ref01 Go.Proofs.YtjfekjbmgckkcaaGreatDoor.Ref12 Go.Proofs.YtjfekjbmgckkcaaGreatDoor.Ref13 Go.Proofs.YtjfekjbmgckkcaaGreatDoor.TimesPure Go.Proofs.YtjfekjbmgckkcaaGreatDoor.TimesA Go.Proofs.YtjfekjbmgckkcaaGreatDoor.XorPure Go.Proofs.YtjfekjbmgckkcaaGreatDoor.XorA Go.Proofs.YtjfekjbmgckkcaaGreatDoor.XorB Go.Proofs.YtjfekjbmgckkcaaGreatDoor.FcPure Go.Proofs.YtjfekjbmgckkcaaGreatDoor.FcObj Go.Proofs.YtjfekjbmgckkcaaGreatDoor.FsArg Go.Proofs.YtjfekjbmgckkcaaGreatDoor.FcA Go.Proofs.YtjfekjbmgckkcaaGreatDoor.FcB Go.Proofs.YtjfekjbmgckkcaaGreatDoor.FcC Go.Proofs.YtjfekjbmgckkcaaGreatDoor.FcD Go.Proofs.YtjfekjbmgckkcaaGreatDoor.FcH Go.Proofs.YtjfekjbmgckkcaaGreatDoor.FcI Go.Proofs.YtjfekjbmgckkcaaGreatDoor.HdArg Go.Proofs.YtjfekjbmgckkcaaGreatDoor.Law14A Go.Proofs.YtjfekjbmgckkcaaGreatDoor.Law18A Go.Proofs.YtjfekjbmgckkcaaGreatDoor.Law18D Go.Proofs.YtjfekjbmgckkcaaGreatDoor.Law18E Go.Proofs.YtjfekjbmgckkcaaGreatDoor.Law18F Go.Proofs.YtjfekjbmgckkcaaGreatDoor.Ref14A Go.Proofs.YtjfekjbmgckkcaaGreatDoor.Ref18A Go.Proofs.YtjfekjbmgckkcaaGreatDoor.Ref18B Go.Proofs.YtjfekjbmgckkcaaGreatDoor.Ref10F
open Go.Proofs.YtjfekjbmgckkcaaGreatDoor.HeadC
theorem on_right {q : Hd} {h : FH} (he : (headErr q).1 = 0) (h0 : errF h = 0) (h1 : places h.pos = places q.pos) (h2 : places h.neg = places q.neg) : errF { h with pos := q.pos, neg := q.neg } = 0 := by
  obtain ⟨a1, a2, a3, a4, a5, a6, a7⟩ := errF_zero h0
  obtain ⟨b1, b2, b3⟩ := sideF_zero a6
  obtain ⟨d1, d2, d3⟩ := sideF_zero a7
  obtain ⟨c1, c2⟩ := okq_chk he
  have side : ∀ (l : List Sp) (c : List Nat), chk l = 0 → (places l).length = c.length → (∀ v ∈ c, v < inf) → sideF l c = 0 := fun l c g1 g2 g3 => by
    unfold sideF
    rw [if_neg (by omega), if_neg (by omega), if_neg]
    simp only [List.any_eq_true, decide_eq_true_eq, not_exists, not_and, Nat.not_le]
    exact g3
  unfold errF
  simp only
  rw [if_neg (by omega), if_neg (by omega), if_neg (by omega), side q.pos h.pc c1 (by rw [← h1]; exact b2) b3, if_neg (by decide)]
  exact side q.neg h.nc c2 (by rw [← h2]; exact d2) d3
set_option maxRecDepth 100000 in
set_option maxHeartbeats 3200000 in
theorem is1_calls (g : Nat) (S : Nat → Prop) (q : Hd) (p : Lc) (X : Option Addr) (cx : Nat) (xs : List FsX) (y : FsX) (w : World) (hk : Ck w g S q ((xs ++ [y]).map fsOf)) (hx : HdIn w q p) (he : (headErr q).1 = 0) (h : FsL w X (xs ++ [y])) (hc : (xs ++ [y]).length ≤ cx) (hcx : cx ≤ 9223372036854775807) (hw1 : (places q.pos).length ≤ 8192) (hw2 : (places q.neg).length ≤ 8192) (hcb : (chunkB q ((xs ++ [y]).map fsOf)).length ≤ 100000000) :
    Calls Tryz.prog 39 #[.pointer (some ⟨g, 0, none⟩), .agg (hcs q p).toArray, .slice X (xs ++ [y]).length cx] w fun e w' => e = .returned (.bool true) ∧ Below w.heap.size w w' := by
  obtain ⟨ys, hys⟩ : ∃ ys, ys = xs ++ [y] := ⟨_, rfl⟩
  obtain ⟨l, hl⟩ : ∃ l, l = ys.map fsOf := ⟨_, rfl⟩
  obtain ⟨s, hs⟩ : ∃ s, s = fsOf y := ⟨_, rfl⟩
  have hlz : l = xs.map fsOf ++ [s] := by rw [hl, hys, hs]; simp
  rw [← hys] at hk h hc hcb ⊢
  rw [← hl] at hk hcb
  obtain ⟨x, hF⟩ := hk
  have hgood := good_at hF.good (s := s) (by rw [hlz]; simp)
  obtain ⟨e0, e1', e2', e3', e4', e5', e6'⟩ := hgood
  have hwid : ∀ z ∈ ys, (fsOf z).h.pc.length = (places q.pos).length ∧ (fsOf z).h.nc.length = (places q.neg).length := fun z hz => by
    obtain ⟨-, -, -, -, -, g6, g7⟩ := good_at hF.good (s := fsOf z) (by rw [hl]; exact List.mem_map_of_mem hz)
    exact ⟨g6, g7⟩
  have hln : l.length = ys.length := by rw [hl, List.length_map]
  have hn1000 := h.len
  have hLS : lastS q l = ⟨s.t, { s.h with pos := q.pos, neg := q.neg }⟩ := by rw [hlz, lastS_snoc]
  have hpos : 0 < l.length := by rw [hlz]; simp
  have hab : (allBits q l).length = 16 + (chunkB q l).length := by unfold allBits; rw [List.length_append, nb_length]
  have hsz := txt_size (allBits q l)
  have HHD := Lib.hid (fun W (h : Below w.heap.size w W) => Law18B.heads_calls q p W (hx.below h))
  have HBT := Lib.hid (fun W (hb : Below w.heap.size w W) (r : Lc) (hr : HdIn W q r) => Ref18B.bits_calls q r X cx ys _ _ W hr he (h.below hb) hc hcx hwid hw1 hw2)
  rw [← hl] at HBT
  have HLA := Lib.hid (fun W (h : Below w.heap.size w W) => FcH.last_calls g S q l x W (hF.below h))
  have HLE := Lib.hid (fun W (h : Below w.heap.size w W) => FcD.len_calls g S q l x W (hF.below h))
  have HBI := Lib.hid (fun W (h : Below w.heap.size w W) => FcD.bits_calls g S q l x W (hF.below h) (by omega))
  have HBY := Lib.hid (fun W (h : Below w.heap.size w W) => FcI.bytes_calls g S q l x W (hF.below h) (by omega) (by omega))
  have HRB := Lib.hid (fun W => Ref01.bytes_calls (allBits q l) W (by omega))
  have HHE := Lib.hid (fun W (h : Below w.heap.size w W) => head_calls g S q l x W (hF.below h))
  have HEQ := Lib.hid (fun W (h : Below w.heap.size w W) (r : Lc) (hr : HdIn W q r) => Equal_calls q q r p W hr (hx.below h))
  rw [show eqH q q = true from decide_eq_true rfl] at HEQ
  have HE10 : Hid (∀ W (p2 r2 : Lh), FhIn W { s.h with pos := q.pos, neg := q.neg } p2 → FhIn W s.h r2 → Calls Tryz.prog 105 #[.agg (fcs { s.h with pos := q.pos, neg := q.neg } p2).toArray, .agg (fcs s.h r2).toArray] W fun e w' => e = .returned (.bool true) ∧ Below W.heap.size W w') :=
    Lib.hid (fun W p2 r2 g1 g2 => Ref10F.equal_calls { s.h with pos := q.pos, neg := q.neg } p2 s.h.pos s.h.neg r2 W g1 g2 (on_right he e0 e3' e4') e0 e3'.symm e4'.symm)
  have HSA : Hid (∀ W (p2 : Lh), FhIn W { s.h with pos := q.pos, neg := q.neg } p2 → Calls Tryz.prog 44 #[.agg (scs ⟨s.t, { s.h with pos := q.pos, neg := q.neg }⟩ p2).toArray] W fun e w' => ∃ A1 c1 A2 c2, e = .returned (.agg (scs ⟨s.t, { s.h with pos := q.pos, neg := q.neg }⟩ ⟨A1, c1, A2, c2, p2.C, p2.cc, p2.D, p2.dd⟩).toArray) ∧ FhIn w' { s.h with pos := q.pos, neg := q.neg } ⟨A1, c1, A2, c2, p2.C, p2.cc, p2.D, p2.dd⟩ ∧ Below W.heap.size W w') := Lib.hid (fun W p2 g1 => by
    refine (samples_calls ⟨s.t, { s.h with pos := q.pos, neg := q.neg }⟩ p2 W g1).mono ?_
    rintro e w' ⟨A1, c1, A2, c2, rfl, g2, -, -, g3⟩
    exact ⟨A1, c1, A2, c2, rfl, g2, g3⟩)
  have HAK : Hid (∀ W (A1 B1 : Option Addr) (c1 d1 : Nat) (l' : List Sp), Spl W A1 c1 l' → Spl W B1 d1 l' → Calls Tryz.prog 106 #[.slice A1 l'.length c1, .slice B1 l'.length d1] W fun e w' => e = .returned (.bool true) ∧ Below W.heap.size W w') := Lib.hid (fun W A1 B1 c1 d1 l' g1 g2 => by
    refine (alike_calls A1 B1 c1 d1 l' l' W g1.rd g2.rd (by have := g1.len; omega) (by have := g1.len; omega)).mono ?_
    rintro e w' ⟨rfl, ⟨m, rfl⟩⟩
    exact ⟨by rw [decide_eq_true rfl], pw_below_drewN (Below.refl _ _) m⟩)
  have HML : Hid (∃ ad mi, mi + 1 = ys.length ∧ X = some ad ∧ ∀ W, Below w.heap.size w W → W.cell? (ad.add (mi * 10)) = some (.int .i64 s.t) ∧ W.cell? ⟨(ad.add (mi * 10)).block, (ad.add (mi * 10)).off + 1, none⟩ = some (.int .i64 s.h.schema) ∧ W.cell? ⟨(ad.add (mi * 10)).block, (ad.add (mi * 10)).off + 2, none⟩ = some (.int .u64 s.h.zero) ∧ W.cell? ⟨(ad.add (mi * 10)).block, (ad.add (mi * 10)).off + 3, none⟩ = some (.int .u64 s.h.zc) ∧ W.cell? ⟨(ad.add (mi * 10)).block, (ad.add (mi * 10)).off + 4, none⟩ = some (.int .u64 s.h.cnt) ∧ W.cell? ⟨(ad.add (mi * 10)).block, (ad.add (mi * 10)).off + 5, none⟩ = some (.int .u64 s.h.sum) ∧ W.cell? ⟨(ad.add (mi * 10)).block, (ad.add (mi * 10)).off + 6, none⟩ = some (.slice (lhOf y.2).A s.h.pos.length (lhOf y.2).c) ∧ W.cell? ⟨(ad.add (mi * 10)).block, (ad.add (mi * 10)).off + 7, none⟩ = some (.slice (lhOf y.2).B s.h.neg.length (lhOf y.2).d) ∧ W.cell? ⟨(ad.add (mi * 10)).block, (ad.add (mi * 10)).off + 8, none⟩ = some (.slice (lhOf y.2).C s.h.pc.length (lhOf y.2).cc) ∧ W.cell? ⟨(ad.add (mi * 10)).block, (ad.add (mi * 10)).off + 9, none⟩ = some (.slice (lhOf y.2).D s.h.nc.length (lhOf y.2).dd)) := Lib.hid (by
    obtain ⟨m, hm⟩ : ∃ m, m + 1 = ys.length := ⟨ys.length - 1, by omega⟩
    have hmy : ys[m]'(by omega) = y := by
      simp only [hys]
      rw [List.getElem_append_right (by rw [hys, List.length_append, List.length_singleton] at hm; omega)]
      simp
    obtain ⟨ad, hA, -⟩ := h.elem m (by omega)
    refine ⟨ad, m, hm, hA, fun W hb => ?_⟩
    obtain ⟨ad', hA', hrow⟩ := FsL.row (h.below hb) m (by omega)
    rw [hA] at hA'
    injection hA' with hA'
    subst hA'
    rw [hmy, ← hs] at hrow
    exact hrow)
  have HMI : Hid (∀ W, Below w.heap.size w W → FhIn W s.h (lhOf y.2)) := Lib.hid (fun W hb => by
    rw [hs]
    exact ((h.below hb).el y (by rw [hys]; simp)).2.1)
  obtain ⟨ad, mi, hmi, hXA, hMR⟩ := HML.out
  have HMR := Lib.hid hMR
  obtain ⟨m, hmm⟩ : ∃ m, m = lhOf y.2 := ⟨_, rfl⟩
  rw [← hmm] at HMR HMI
  have hnn : ys.length ≤ 1000 := hn1000
  obtain ⟨n, hn⟩ : ∃ n, n = ys.length := ⟨_, rfl⟩
  rw [← hn] at hln hnn hmi hc HBT ⊢
  rw [hln] at HLE
  have HLA2 : Hid (∀ W, Below w.heap.size w W → Calls Tryz.prog 95 #[.pointer (some ⟨g, 0, none⟩)] W fun e w' => ∃ r : Lh, e = .returned (.tuple #[.agg (scs ⟨s.t, { s.h with pos := q.pos, neg := q.neg }⟩ r).toArray, .bool true]) ∧ FhIn w' { s.h with pos := q.pos, neg := q.neg } r ∧ Below W.heap.size W w') := Lib.hid (fun W hb => by
    refine (HLA.out W hb).mono ?_
    rintro e w' ⟨r, rfl, g1, -, g3⟩
    rw [hLS] at g1 ⊢
    rw [decide_eq_true hpos]
    exact ⟨r, rfl, g1, g3⟩)
  obtain ⟨cb, hcb2⟩ : ∃ n, n = (chunkB q l).length := ⟨_, rfl⟩
  rw [← hcb2] at HBI hab hcb
  rw [hab] at hsz
  obtain ⟨sT, hT⟩ : ∃ s, s = txt (allBits q l) := ⟨_, rfl⟩
  obtain ⟨sB, hB⟩ : ∃ s, s = str (pack (allBits q l)) := ⟨_, rfl⟩
  have HRS := Lib.hid (fun (A : Option Addr) (c : Nat) W (hr : RdB W A (pack (allBits q l))) => RdB.string (P := Tryz.prog) (src := 51) (dst := 9) (e := 5) (c := c) hr rfl Tryz.underlying51 Tryz.underlying5 Tryz.underlying9)
  rw [← hT] at HBT HRB hsz
  rw [← hB] at HRB HRS
  obtain ⟨m16, hm16⟩ : ∃ m, m = 16 + cb := ⟨_, rfl⟩
  rw [← hm16] at HBI hsz
  have d1 : ((m16 : Int) != (sT.size : Int)) = false := by rw [hsz]; simp
  have d1' : ((m16 : Int) == (sT.size : Int)) = true := by rw [hsz]; simp
  have hm17 : m16 ≤ 100000016 := by omega
  have HD1 := Lib.hid hsz
  have hn0 : 0 < n := by omega
  have d2 : decide ((0 : Int) < n) = true := decide_eq_true (by omega)
  have d2n : decide (0 < n) = true := decide_eq_true (by omega)
  have hqs : q.pos.length ≤ 1000000 ∧ q.neg.length ≤ 1000000 := ⟨hx.pos.len, hx.neg.len⟩
  clear hab hcb2 hT hB hm16 he hF hsz HLA hLS hpos hlz hys hl hs hwid e0 e1' e2' e3' e4' e5' e6' hw1 hw2 h hn hln hn1000 hMR hmm HML
  subst hXA
  obtain ⟨vr, hint, schema, zt, pos, neg⟩ := q
  obtain ⟨A, c, B, d⟩ := p
  obtain ⟨W0, hW0, hbk, hal⟩ : ∃ W : World, W = w.alloc (.cells #[.int .i64 vr, .int .i64 hint, .int .i64 schema, .int .u64 zt, .slice A pos.length c, .slice B neg.length d] 25) ∧ W.heap[w.heap.size]? = some (.cells #[.int .i64 vr, .int .i64 hint, .int .i64 schema, .int .u64 zt, .slice A pos.length c, .slice B neg.length d] 25 (0, 0)) ∧ Below w.heap.size w W := ⟨_, rfl, blk_last w _, below_alloc (Below.refl _ _) _⟩
  have HCEL : Hid (∀ W : World, Below W0.heap.size W0 W → (W.cell? ⟨w.heap.size, 0, none⟩ = some (.int .i64 vr) ∧ W.cell? ⟨w.heap.size, 1, none⟩ = some (.int .i64 hint) ∧ W.cell? ⟨w.heap.size, 2, none⟩ = some (.int .i64 schema) ∧ W.cell? ⟨w.heap.size, 3, none⟩ = some (.int .u64 zt) ∧ W.cell? ⟨w.heap.size, 4, none⟩ = some (.slice A pos.length c) ∧ W.cell? ⟨w.heap.size, 5, none⟩ = some (.slice B neg.length d))) := Lib.hid (fun W h => by
    have hb := (h.block _ (blk_lt hbk)).trans hbk
    exact ⟨obj_cell hb rfl, obj_cell hb rfl, obj_cell hb rfl, obj_cell hb rfl, obj_cell hb rfl, obj_cell hb rfl⟩)
  have HEND := Lib.hid (fun W (hb : Below W0.heap.size W0 W) => below_then hal hal.size hb)
  have HW0 := Lib.hid hW0
  have HAL := Lib.hid hal
  have HXX := Lib.hid hx
  obtain ⟨k0, k1, k2, k3, k4, k5⟩ := HCEL.out W0 (Below.refl _ _)
  clear hx hbk hal hW0
  show Calls Tryz.prog 39 #[.pointer (some ⟨g, 0, none⟩), .agg #[.int .i64 vr, .int .i64 hint, .int .i64 schema, .int .u64 zt, .slice A pos.length c, .slice B neg.length d], .slice (some ad) n cx] w _
  go_enter Tryz.func39, Tryz.ntmps39
  go_wp2_with (fail)
  rw [← HW0.out]
  refine (HHD.out _ HAL.out).mono ?_
  rintro e w1 ⟨r, rfl, hr, hb1⟩
  obtain ⟨A1, c1, B1, d1⟩ := r
  have X1 := Lib.hid hb1
  have HBX := Lib.hid (HBT.out w1 (HEND.out _ hb1) _ hr)
  clear hr hb1 k0 k1 k2 k3 k4 k5
  dsimp only [hcs]
  go_wp2_with (fail)
  refine HBX.out.mono ?_
  rintro e w2 ⟨rfl, hb2⟩
  have X2 := Lib.hid (below_then X1.out X1.out.size hb2)
  clear hb2 HBX
  go_wp2_with (fail)
  refine (HLA2.out _ (HEND.out _ X2.out)).mono ?_
  rintro e w3 ⟨r, rfl, hfr, hb3⟩
  dsimp only [scs, fcs]
  obtain ⟨W3, hW3, hg3, hb3'⟩ : ∃ W : World, W = w3.alloc (.cells #[.int .i64 s.t, .int .i64 s.h.schema, .int .u64 s.h.zero, .int .u64 s.h.zc, .int .u64 s.h.cnt, .int .u64 s.h.sum, .slice r.A pos.length r.c, .slice r.B neg.length r.d, .slice r.C s.h.pc.length r.cc, .slice r.D s.h.nc.length r.dd] 74) ∧ W.heap[w3.heap.size]? = some (.cells #[.int .i64 s.t, .int .i64 s.h.schema, .int .u64 s.h.zero, .int .u64 s.h.zc, .int .u64 s.h.cnt, .int .u64 s.h.sum, .slice r.A pos.length r.c, .slice r.B neg.length r.d, .slice r.C s.h.pc.length r.cc, .slice r.D s.h.nc.length r.dd] 74 (0, 0)) ∧ Below w3.heap.size w3 W := ⟨_, rfl, blk_last w3 _, below_alloc (Below.refl _ _) _⟩
  have HW3 := Lib.hid hW3
  have X3 := Lib.hid (below_then X2.out X2.out.size (below_then hb3 hb3.size hb3'))
  have HG3 := Lib.hid hg3
  have HFR := Lib.hid (hfr.below hb3')
  have HS : Hid (∀ W : World, Below W3.heap.size W3 W → (Below W3.heap.size W3 W ∧ W.cell? ⟨w.heap.size, 0, none⟩ = some (.int .i64 vr) ∧ W.cell? ⟨w.heap.size, 1, none⟩ = some (.int .i64 hint) ∧ W.cell? ⟨w.heap.size, 2, none⟩ = some (.int .i64 schema) ∧ W.cell? ⟨w.heap.size, 3, none⟩ = some (.int .u64 zt) ∧ W.cell? ⟨w.heap.size, 4, none⟩ = some (.slice A pos.length c) ∧ W.cell? ⟨w.heap.size, 5, none⟩ = some (.slice B neg.length d))) := Lib.hid (fun W h => ⟨h, HCEL.out W (below_then X3.out X3.out.size h)⟩)
  have HEN3 := Lib.hid (fun W (h : Below W3.heap.size W3 W) => HEND.out W (below_then X3.out X3.out.size h))
  have hs0 := HS.out W3 (Below.refl _ _)
  have HLE := Lib.hid (fun W (h : Below W3.heap.size W3 W) => HLE.out W (HEN3.out W h))
  have HBI := Lib.hid (fun W (h : Below W3.heap.size W3 W) => HBI.out W (HEN3.out W h))
  have HBY := Lib.hid (fun W (h : Below W3.heap.size W3 W) => HBY.out W (HEN3.out W h))
  have HHE := Lib.hid (fun W (h : Below W3.heap.size W3 W) => HHE.out W (HEN3.out W h))
  have HEQ := Lib.hid (fun W (h : Below W3.heap.size W3 W) r hr => HEQ.out W (HEN3.out W h) r hr)
  clear hb3 hW3 hg3 hb3' hfr
  go_wp2_with (fail)
  rw [← HW3.out]
  go_region_held_law (fun W => Below W3.heap.size W3 W ∧ W.cell? ⟨w.heap.size, 0, none⟩ = some (.int .i64 vr) ∧ W.cell? ⟨w.heap.size, 1, none⟩ = some (.int .i64 hint) ∧ W.cell? ⟨w.heap.size, 2, none⟩ = some (.int .i64 schema) ∧ W.cell? ⟨w.heap.size, 3, none⟩ = some (.int .u64 zt) ∧ W.cell? ⟨w.heap.size, 4, none⟩ = some (.slice A pos.length c) ∧ W.cell? ⟨w.heap.size, 5, none⟩ = some (.slice B neg.length d))
    (first | (with_reducible exact HS.out _ (below_drew (Below.refl _ _))) | (with_reducible exact HS.out _ hb63) | (with_reducible exact HS.out _ hb62) | (with_reducible exact HS.out _ hb61) | (with_reducible exact HS.out _ hb60) | assumption)
    (first
    | (go_at_call 48; refine (HLE.out _ (And.left (by assumption))).mono ?_; rintro e w58 ⟨rfl, rfl⟩)
    | (go_at_call 40; refine (HBI.out _ (And.left (by assumption))).mono ?_; rintro e w59 ⟨rfl, rfl⟩)
    | (go_at_call 51; refine (HBY.out _ (And.left (by assumption))).mono ?_; rintro e w60 ⟨v, rfl, ho, hbx⟩; have hb60 : Below W3.heap.size W3 w60 := below_then (And.left (by assumption)) (And.left (by assumption) : Below W3.heap.size W3 _).size hbx; obtain ⟨Dv, dv, rfl, -, hrv⟩ := ho.reads; have hcv := fun W (h : Below w60.heap.size w60 W) => HRS.out Dv dv W (hrv.below h); have hb6060 := Below.refl w60.heap.size w60)
    | (go_at_call 103; refine (HRB.out _).mono ?_; rintro e w61 ⟨rfl, hby⟩; have hb61 : Below W3.heap.size W3 w61 := below_then hb60 hb60.size hby)
    | (go_at_call 104; refine (HHE.out _ hb61).mono ?_; rintro e w62 ⟨⟨A5, c5, B5, d5⟩, rfl, hr62, hbz⟩; have hb62 : Below W3.heap.size W3 w62 := below_then hb61 hb61.size hbz)
    | (go_at_call 29; refine (HEQ.out _ hb62 _ hr62).mono ?_; rintro e w63 ⟨rfl, hbu⟩; have hb63 : Below W3.heap.size W3 w63 := below_then hb62 hb62.size hbu))
  all_goals
    have X9 := Lib.hid hb63
    obtain ⟨m0, m1, m2, m3, m4, m5, m6, m7, m8, m9⟩ := HMR.out _ (HEN3.out _ X9.out)
    clear hb63 hb62 hb61 hb60 hbx hby hbz hbu hr62 hcv hb6060 hrv ho
    obtain ⟨W4, hW4, hg4, hb4⟩ : ∃ W : World, W = w63.alloc (.cells #[.int .i64 s.t, .int .i64 s.h.schema, .int .u64 s.h.zero, .int .u64 s.h.zc, .int .u64 s.h.cnt, .int .u64 s.h.sum, .slice m.A s.h.pos.length m.c, .slice m.B s.h.neg.length m.d, .slice m.C s.h.pc.length m.cc, .slice m.D s.h.nc.length m.dd] 82) ∧ W.heap[w63.heap.size]? = some (.cells #[.int .i64 s.t, .int .i64 s.h.schema, .int .u64 s.h.zero, .int .u64 s.h.zc, .int .u64 s.h.cnt, .int .u64 s.h.sum, .slice m.A s.h.pos.length m.c, .slice m.B s.h.neg.length m.d, .slice m.C s.h.pc.length m.cc, .slice m.D s.h.nc.length m.dd] 82 (0, 0)) ∧ Below w63.heap.size w63 W := ⟨_, rfl, blk_last w63 _, below_alloc (Below.refl _ _) _⟩
    have HW4 := Lib.hid hW4
    have X4 := Lib.hid (below_then X9.out X9.out.size hb4)
    have HS4 : Hid (∀ W : World, Below W4.heap.size W4 W → (W.cell? ⟨w.heap.size, 4, none⟩ = some (.slice A pos.length c) ∧ W.cell? ⟨w.heap.size, 5, none⟩ = some (.slice B neg.length d) ∧ W.cell? ⟨w3.heap.size, 0, none⟩ = some (.int .i64 s.t) ∧ W.cell? ⟨w3.heap.size, 1, none⟩ = some (.int .i64 s.h.schema) ∧ W.cell? ⟨w3.heap.size, 2, none⟩ = some (.int .u64 s.h.zero) ∧ W.cell? ⟨w3.heap.size, 3, none⟩ = some (.int .u64 s.h.zc) ∧ W.cell? ⟨w3.heap.size, 4, none⟩ = some (.int .u64 s.h.cnt) ∧ W.cell? ⟨w3.heap.size, 5, none⟩ = some (.int .u64 s.h.sum) ∧ W.cell? ⟨w3.heap.size, 6, none⟩ = some (.slice r.A pos.length r.c) ∧ W.cell? ⟨w3.heap.size, 7, none⟩ = some (.slice r.B neg.length r.d) ∧ W.cell? ⟨w3.heap.size, 8, none⟩ = some (.slice r.C s.h.pc.length r.cc) ∧ W.cell? ⟨w3.heap.size, 9, none⟩ = some (.slice r.D s.h.nc.length r.dd) ∧ W.cell? ⟨w63.heap.size, 0, none⟩ = some (.int .i64 s.t) ∧ W.cell? ⟨w63.heap.size, 1, none⟩ = some (.int .i64 s.h.schema) ∧ W.cell? ⟨w63.heap.size, 2, none⟩ = some (.int .u64 s.h.zero) ∧ W.cell? ⟨w63.heap.size, 3, none⟩ = some (.int .u64 s.h.zc) ∧ W.cell? ⟨w63.heap.size, 4, none⟩ = some (.int .u64 s.h.cnt) ∧ W.cell? ⟨w63.heap.size, 5, none⟩ = some (.int .u64 s.h.sum) ∧ W.cell? ⟨w63.heap.size, 6, none⟩ = some (.slice m.A s.h.pos.length m.c) ∧ W.cell? ⟨w63.heap.size, 7, none⟩ = some (.slice m.B s.h.neg.length m.d) ∧ W.cell? ⟨w63.heap.size, 8, none⟩ = some (.slice m.C s.h.pc.length m.cc) ∧ W.cell? ⟨w63.heap.size, 9, none⟩ = some (.slice m.D s.h.nc.length m.dd))) := Lib.hid (fun W h => by
      have hb := (h.block _ (blk_lt hg4)).trans hg4
      have hc := ((below_then X4.out X4.out.size h).block _ (blk_lt HG3.out)).trans HG3.out
      obtain ⟨-, -, -, -, k4, k5⟩ := HCEL.out W (below_then X3.out X3.out.size (below_then X4.out X4.out.size h))
      exact ⟨k4, k5, obj_cell hc rfl, obj_cell hc rfl, obj_cell hc rfl, obj_cell hc rfl, obj_cell hc rfl, obj_cell hc rfl, obj_cell hc rfl, obj_cell hc rfl, obj_cell hc rfl, obj_cell hc rfl, obj_cell hb rfl, obj_cell hb rfl, obj_cell hb rfl, obj_cell hb rfl, obj_cell hb rfl, obj_cell hb rfl, obj_cell hb rfl, obj_cell hb rfl, obj_cell hb rfl, obj_cell hb rfl⟩)
    have HSA4 : Hid (∀ W, Below W4.heap.size W4 W → Calls Tryz.prog 44 #[.agg #[.int .i64 s.t, .int .i64 s.h.schema, .int .u64 s.h.zero, .int .u64 s.h.zc, .int .u64 s.h.cnt, .int .u64 s.h.sum, .slice r.A pos.length r.c, .slice r.B neg.length r.d, .slice r.C s.h.pc.length r.cc, .slice r.D s.h.nc.length r.dd]] W fun e w' => ∃ A7 c7 B7 d7, e = .returned (.agg #[.int .i64 s.t, .int .i64 s.h.schema, .int .u64 s.h.zero, .int .u64 s.h.zc, .int .u64 s.h.cnt, .int .u64 s.h.sum, .slice A7 pos.length c7, .slice B7 neg.length d7, .slice r.C s.h.pc.length r.cc, .slice r.D s.h.nc.length r.dd]) ∧ FhIn w' { s.h with pos := pos, neg := neg } ⟨A7, c7, B7, d7, r.C, r.cc, r.D, r.dd⟩ ∧ Below W4.heap.size W4 w') := Lib.hid (fun W h => by
      refine (HSA.out W r (HFR.out.below (below_then X4.out X4.out.size h))).mono ?_
      rintro e w' ⟨A7, c7, B7, d7, rfl, g1, g2⟩
      exact ⟨A7, c7, B7, d7, rfl, g1, below_then h h.size g2⟩)
    have HEQ4 : Hid (∀ W A7 c7 B7 d7, FhIn W { s.h with pos := pos, neg := neg } ⟨A7, c7, B7, d7, r.C, r.cc, r.D, r.dd⟩ → Below W4.heap.size W4 W → Calls Tryz.prog 105 #[.agg #[.int .i64 s.h.schema, .int .u64 s.h.zero, .int .u64 s.h.zc, .int .u64 s.h.cnt, .int .u64 s.h.sum, .slice A7 pos.length c7, .slice B7 neg.length d7, .slice r.C s.h.pc.length r.cc, .slice r.D s.h.nc.length r.dd], .agg #[.int .i64 s.h.schema, .int .u64 s.h.zero, .int .u64 s.h.zc, .int .u64 s.h.cnt, .int .u64 s.h.sum, .slice m.A s.h.pos.length m.c, .slice m.B s.h.neg.length m.d, .slice m.C s.h.pc.length m.cc, .slice m.D s.h.nc.length m.dd]] W fun e w' => e = .returned (.bool true) ∧ Below W4.heap.size W4 w') := Lib.hid (fun W A7 c7 B7 d7 h1 h => by
      refine (HE10.out W ⟨A7, c7, B7, d7, r.C, r.cc, r.D, r.dd⟩ m h1 (HMI.out W (HEN3.out _ (below_then X4.out X4.out.size h)))).mono ?_
      rintro e w' ⟨rfl, g2⟩
      exact ⟨rfl, below_then h h.size g2⟩)
    have HAP : Hid (∀ W, Below W4.heap.size W4 W → Calls Tryz.prog 106 #[.slice r.A pos.length r.c, .slice A pos.length c] W fun e w' => e = .returned (.bool true) ∧ Below W4.heap.size W4 w') := Lib.hid (fun W h => by
      refine (HAK.out W r.A A r.c c pos (HFR.out.pos.below (below_then X4.out X4.out.size h)) (HXX.out.pos.below (HEN3.out _ (below_then X4.out X4.out.size h)))).mono ?_
      rintro e w' ⟨rfl, g2⟩
      exact ⟨rfl, below_then h h.size g2⟩)
    have HAN : Hid (∀ W, Below W4.heap.size W4 W → Calls Tryz.prog 106 #[.slice r.B neg.length r.d, .slice B neg.length d] W fun e w' => e = .returned (.bool true) ∧ Below W4.heap.size W4 w') := Lib.hid (fun W h => by
      refine (HAK.out W r.B B r.d d neg (HFR.out.neg.below (below_then X4.out X4.out.size h)) (HXX.out.neg.below (HEN3.out _ (below_then X4.out X4.out.size h)))).mono ?_
      rintro e w' ⟨rfl, g2⟩
      exact ⟨rfl, below_then h h.size g2⟩)
    have n1 : (n : Int) - 1 = (mi : Int) := by omega
    have n2 : IntKind.i64.wrap (mi : Int) = mi := by rw [IntKind.wrap_i64]; omega
    have n3 : (mi : Int) < (n : Int) := by omega
    have n4 : mi < n := by omega
    have hq0 := HS4.out _ (below_drew (Below.refl _ _))
    clear hW4 hg4 hb4
    go_wp2_with (fail)
    rw [← HW4.out]
    clear m0 m1 m2 m3 m4 m5 m6 m7 m8 m9
    go_region_held3 (fun W => W.cell? ⟨w.heap.size, 4, none⟩ = some (.slice A pos.length c) ∧ W.cell? ⟨w.heap.size, 5, none⟩ = some (.slice B neg.length d) ∧ W.cell? ⟨w3.heap.size, 0, none⟩ = some (.int .i64 s.t) ∧ W.cell? ⟨w3.heap.size, 1, none⟩ = some (.int .i64 s.h.schema) ∧ W.cell? ⟨w3.heap.size, 2, none⟩ = some (.int .u64 s.h.zero) ∧ W.cell? ⟨w3.heap.size, 3, none⟩ = some (.int .u64 s.h.zc) ∧ W.cell? ⟨w3.heap.size, 4, none⟩ = some (.int .u64 s.h.cnt) ∧ W.cell? ⟨w3.heap.size, 5, none⟩ = some (.int .u64 s.h.sum) ∧ W.cell? ⟨w3.heap.size, 6, none⟩ = some (.slice r.A pos.length r.c) ∧ W.cell? ⟨w3.heap.size, 7, none⟩ = some (.slice r.B neg.length r.d) ∧ W.cell? ⟨w3.heap.size, 8, none⟩ = some (.slice r.C s.h.pc.length r.cc) ∧ W.cell? ⟨w3.heap.size, 9, none⟩ = some (.slice r.D s.h.nc.length r.dd) ∧ W.cell? ⟨w63.heap.size, 0, none⟩ = some (.int .i64 s.t) ∧ W.cell? ⟨w63.heap.size, 1, none⟩ = some (.int .i64 s.h.schema) ∧ W.cell? ⟨w63.heap.size, 2, none⟩ = some (.int .u64 s.h.zero) ∧ W.cell? ⟨w63.heap.size, 3, none⟩ = some (.int .u64 s.h.zc) ∧ W.cell? ⟨w63.heap.size, 4, none⟩ = some (.int .u64 s.h.cnt) ∧ W.cell? ⟨w63.heap.size, 5, none⟩ = some (.int .u64 s.h.sum) ∧ W.cell? ⟨w63.heap.size, 6, none⟩ = some (.slice m.A s.h.pos.length m.c) ∧ W.cell? ⟨w63.heap.size, 7, none⟩ = some (.slice m.B s.h.neg.length m.d) ∧ W.cell? ⟨w63.heap.size, 8, none⟩ = some (.slice m.C s.h.pc.length m.cc) ∧ W.cell? ⟨w63.heap.size, 9, none⟩ = some (.slice m.D s.h.nc.length m.dd))
      (first | (with_reducible exact hq0) | (with_reducible exact hq1) | (with_reducible exact hq2) | (with_reducible exact hq3) | (with_reducible exact hq4))
      (first
      | (go_at_call 44; refine (HSA4.out _ (below_drew (Below.refl _ _))).mono ?_; rintro e w64 ⟨A7, c7, B7, d7, rfl, hf7, hb64⟩; have hq1 := HS4.out _ hb64; have hfl : ∀ W : World, (Instr.field 82 (.agg #[.int .i64 s.t, .int .i64 s.h.schema, .int .u64 s.h.zero, .int .u64 s.h.zc, .int .u64 s.h.cnt, .int .u64 s.h.sum, .slice A7 pos.length c7, .slice B7 neg.length d7, .slice r.C s.h.pc.length r.cc, .slice r.D s.h.nc.length r.dd]) 1).run Tryz.prog W = .ok (.agg #[.int .i64 s.h.schema, .int .u64 s.h.zero, .int .u64 s.h.zc, .int .u64 s.h.cnt, .int .u64 s.h.sum, .slice A7 pos.length c7, .slice B7 neg.length d7, .slice r.C s.h.pc.length r.cc, .slice r.D s.h.nc.length r.dd]) W := fun _ => by kernel_rfl)
      | (go_at_call 105; refine (HEQ4.out _ _ _ _ _ hf7 hb64).mono ?_; rintro e w65 ⟨rfl, hb65⟩; have hq2 := HS4.out _ hb65)
      | (go_at_call 106; (with_reducible show Calls _ _ #[Value.slice r.A _ _, _] _ _); refine (HAP.out _ hb65).mono ?_; rintro e w66 ⟨rfl, hb66⟩; have hq3 := HS4.out _ hb66)
      | (go_at_call 106; refine (HAN.out _ hb66).mono ?_; rintro e w67 ⟨rfl, hb67⟩; have hq4 := HS4.out _ hb67))
    have X10 := Lib.hid (HEN3.out _ (below_then X4.out X4.out.size hb67))
    clear hq0 hq1 hq2 hq3 hq4 hb64 hb65 hb66 hb67 hf7 hfl
    go_wp2
    go_ret
    exact ⟨rfl, X10.out⟩
end Go.Proofs.YtjfekjbmgckkcaaGreatDoor.Law18G
namespace Go.Proofs.YtjfekjbmgckkcaaGreatDoor.Law18H
open Go.RowKit Go.Proofs.YtjfekjbmgckkcaaGreatDoorW.PrintWords
open Go.Proofs.YtjfekjbmgckkcaaGreatDoor.Bits Go.Proofs.YtjfekjbmgckkcaaGreatDoor.Base Go.Proofs.YtjfekjbmgckkcaaGreatDoor.VarPure Go.Proofs.YtjfekjbmgckkcaaGreatDoor.VarbitA Go.Proofs.YtjfekjbmgckkcaaGreatDoor.VarKit Go.Proofs.YtjfekjbmgckkcaaGreatDoor.StreamA Go.Proofs.YtjfekjbmgckkcaaGreatDoor.SpanPure Go.Proofs.YtjfekjbmgckkcaaGreatDoor.SpanBase Go.Proofs.YtjfekjbmgckkcaaGreatDoor.FailAs Go.Proofs.YtjfekjbmgckkcaaGreatDoor.FailB Go.Proofs.YtjfekjbmgckkcaaGreatDoor.FailC Go.Proofs.YtjfekjbmgckkcaaGreatDoor.HeadA Go.Proofs.YtjfekjbmgckkcaaGreatDoor.HeadB Go.Proofs.YtjfekjbmgckkcaaGreatDoor.HeadC Go.Proofs.YtjfekjbmgckkcaaGreatDoor.HeadE Go.Proofs.YtjfekjbmgckkcaaGreatDoor.HeadPure Go.Proofs.YtjfekjbmgckkcaaGreatDoor.Ref01 Go.Proofs.YtjfekjbmgckkcaaGreatDoor.Ref12 Go.Proofs.YtjfekjbmgckkcaaGreatDoor.Ref13 Go.Proofs.YtjfekjbmgckkcaaGreatDoor.TimesPure Go.Proofs.YtjfekjbmgckkcaaGreatDoor.TimesA Go.Proofs.YtjfekjbmgckkcaaGreatDoor.XorPure Go.Proofs.YtjfekjbmgckkcaaGreatDoor.XorA Go.Proofs.YtjfekjbmgckkcaaGreatDoor.XorB Go.Proofs.YtjfekjbmgckkcaaGreatDoor.FcPure Go.Proofs.YtjfekjbmgckkcaaGreatDoor.FcObj Go.Proofs.YtjfekjbmgckkcaaGreatDoor.FsArg Go.Proofs.YtjfekjbmgckkcaaGreatDoor.FcA Go.Proofs.YtjfekjbmgckkcaaGreatDoor.FcB Go.Proofs.YtjfekjbmgckkcaaGreatDoor.FcC Go.Proofs.YtjfekjbmgckkcaaGreatDoor.FcD Go.Proofs.YtjfekjbmgckkcaaGreatDoor.FcF Go.Proofs.YtjfekjbmgckkcaaGreatDoor.FcH Go.Proofs.YtjfekjbmgckkcaaGreatDoor.FcI Go.Proofs.YtjfekjbmgckkcaaGreatDoor.HdArg Go.Proofs.YtjfekjbmgckkcaaGreatDoor.Law14A Go.Proofs.YtjfekjbmgckkcaaGreatDoor.Law18A Go.Proofs.YtjfekjbmgckkcaaGreatDoor.Law18D Go.Proofs.YtjfekjbmgckkcaaGreatDoor.Law18E Go.Proofs.YtjfekjbmgckkcaaGreatDoor.Law18F Go.Proofs.YtjfekjbmgckkcaaGreatDoor.Ref14A Go.Proofs.YtjfekjbmgckkcaaGreatDoor.Ref18A Go.Proofs.YtjfekjbmgckkcaaGreatDoor.Ref18B
open Go.Proofs.YtjfekjbmgckkcaaGreatDoor.HeadD (rd_lt)
theorem On.and {T T' : Nat → Prop} {A : Option Addr} {n : Nat} (h : On T A n) (h' : On T' A n) : On (fun k => T k ∧ T' k) A n := fun ad h1 h2 => ⟨h ad h1 h2, h' ad h1 h2⟩
theorem OnH.and {T T' : Nat → Prop} {h : FH} {p : Lh} (a : OnH T h p) (b : OnH T' h p) : OnH (fun k => T k ∧ T' k) h p := ⟨On.and a.pos b.pos, On.and a.neg b.neg, On.and a.pc b.pc, On.and a.nc b.nc⟩
theorem nul_lt {w : World} {A : Option Addr} {c : Nat} {l : List Nat} (h : Nul w A c l) : On (fun k => k < w.heap.size) A l.length := fun ad hA hp => by
  obtain ⟨ad', he, hc0⟩ := RdI.at_ h.rd 0 (by rw [nats_length]; exact hp)
  rw [hA] at he
  injection he with he
  subst he
  have hl := World.block_lt_of_cell? w _ hc0
  have hbk : (ad.add 0).block = ad.block := by unfold Addr.add; split <;> rfl
  rwa [hbk] at hl
theorem fh_lt {w : World} {h : FH} {p : Lh} (x : FhIn w h p) : OnH (fun k => k < w.heap.size) h p := ⟨fun ad hA hp => rd_lt x.pos.rd ad hA hp, fun ad hA hp => rd_lt x.neg.rd ad hA hp, nul_lt x.pc, nul_lt x.nc⟩
def mkX (x : FsX) (A : Option Addr) (c : Nat) (B : Option Addr) (d : Nat) : FsX := (x.1, x.2.1, x.2.2.1, x.2.2.2.1, x.2.2.2.2.1, x.2.2.2.2.2.1, ⟨A, c, x.2.2.2.2.2.2.1.l⟩, ⟨B, d, x.2.2.2.2.2.2.2.1.l⟩, x.2.2.2.2.2.2.2.2.1, x.2.2.2.2.2.2.2.2.2)
theorem mkX_fs (x : FsX) (A : Option Addr) (c : Nat) (B : Option Addr) (d : Nat) : fsOf (mkX x A c B d) = fsOf x := rfl
theorem mkX_lh (x : FsX) (A : Option Addr) (c : Nat) (B : Option Addr) (d : Nat) : lhOf (mkX x A c B d).2 = ⟨A, c, B, d, (lhOf x.2).C, (lhOf x.2).cc, (lhOf x.2).D, (lhOf x.2).dd⟩ := rfl
theorem mkX_enc {w : World} {x : FsX} (h : rFs.ok w x) (A : Option Addr) (c : Nat) (B : Option Addr) (d : Nat) : rFs.enc (mkX x A c B d) = scs (fsOf (mkX x A c B d)) (lhOf (mkX x A c B d).2) := by
  obtain ⟨t, s, z, zc, cn, su, p, n, pc, nc⟩ := x
  obtain ⟨-, -, h2, h3, h4, h5, -⟩ := h
  have e2 := (u64_in h2).1
  have e3 := (u64_in h3).1
  have e4 := (u64_in h4).1
  have e5 := (u64_in h5).1
  show [Value.int .i64 t, .int .i64 s, .int .u64 z, .int .u64 zc, .int .u64 cn, .int .u64 su, .slice A p.l.length c, .slice B n.l.length d, .slice pc.at_ pc.l.length pc.cap, .slice nc.at_ nc.l.length nc.cap] =
    [Value.int .i64 t, .int .i64 s, .int .u64 (z.toNat : Int), .int .u64 (zc.toNat : Int), .int .u64 (cn.toNat : Int), .int .u64 (su.toNat : Int), .slice A p.l.length c, .slice B n.l.length d, .slice pc.at_ (un pc.l).length pc.cap, .slice nc.at_ (un nc.l).length nc.cap]
  simp only at e2 e3 e4 e5
  rw [un_length, un_length, Int.toNat_of_nonneg e2, Int.toNat_of_nonneg e3, Int.toNat_of_nonneg e4, Int.toNat_of_nonneg e5]
theorem room_of {q : Hd} (he : (headErr q).1 = 0) {l : List FS} (h64 : ∀ s ∈ l, In64S s) (hg : FcPure.Good q l) (hn : l.length ≤ 16) : Room q l ∧ (chunkB q l).length ≤ 100000000 := by
  obtain ⟨c1, c2⟩ := okq_chk he
  have w1 := places_len (SpanQ.right_of c1)
  have w2 := places_len (SpanQ.right_of c2)
  have h1 := enc_le he
  have h2 := bitsB_le (m := 3 + 4096 + 4096) l h64 (fun s hs => by
    rw [good_width hg hs, width]
    omega)
  have h3 : l.length * (72 + 77 * (3 + 4096 + 4096)) ≤ 16 * (72 + 77 * (3 + 4096 + 4096)) := Nat.mul_le_mul_right _ hn
  unfold Room chunkB width
  rw [List.length_append]
  refine ⟨⟨by omega, by omega⟩, by omega⟩
structure Ak (q : Hd) (g : Nat) (w W : World) (v : Value) (l : List FS) (xs : List FsX) (S : Nat → Prop) : Prop where
  b : Below w.heap.size w W
  ck : Ck W g S q l
  hs : ∀ j, S j → w.heap.size ≤ j
  ow : Rep.OwX rFs 82 W w.heap.size v xs
  os : ∀ b, v.ownBlock = some b → ¬ S b
  el : ∀ x ∈ xs, rFs.enc x = scs (fsOf x) (lhOf x.2) ∧ FhIn W (fsOf x).h (lhOf x.2) ∧ In64S (fsOf x) ∧ OnH (fun k => ¬ S k ∧ v.ownBlock ≠ some k) (fsOf x).h (lhOf x.2)
  nil : xs = [] → v = .slice none 0 0
section
variable {q : Hd} {g : Nat} {w W W2 : World} {v : Value} {l l' : List FS} {xs : List FsX} {S : Nat → Prop}
theorem Ak.below (h : Ak q g w W v l xs S) (hb : Below W.heap.size W W2) : Ak q g w W2 v l xs S :=
  ⟨below_then h.b h.b.size hb, h.ck.below hb, h.hs, h.ow.below hb, h.os, fun x hx => by
    obtain ⟨e1, e2, e3, e4⟩ := h.el x hx
    exact ⟨e1, e2.below hb, e3, e4⟩, h.nil⟩
theorem Ak.turn (h : Ak q g w W v l xs S) (hu : Upd (fun W S => Ck W g S q l') S W W2) : ∃ S', Ak q g w W2 v l' xs S' ∧ Ch S W W2 ∧ ∀ k, S' k → S k ∨ W.heap.size ≤ k := by
  obtain ⟨S', h1, h2, h3⟩ := hu
  refine ⟨S', ⟨h.b.trans (h3.below_of h.b.size h.hs), h1, fun j hj => ?_, ?_, fun b hb hs => ?_, fun x hx => ?_, h.nil⟩, h3, h2⟩
  · rcases h2 j hj with h4 | h4
    · exact h.hs j h4
    · exact Nat.le_trans h.b.size h4
  · exact h.ow.move fun b hb => h3.block b (h.ow.lt_ b hb) (h.os b hb)
  · rcases h2 b hs with h4 | h4
    · exact h.os b hb h4
    · have := h.ow.lt_ b hb
      omega
  · obtain ⟨e1, e2, e3, e4⟩ := h.el x hx
    refine ⟨e1, e2.ch h3 e4 fun k hk => hk.1, e3, (OnH.and e4 (fh_lt e2)).mono fun k ⟨⟨a1, a2⟩, a3⟩ => ⟨fun hs => ?_, a2⟩⟩
    rcases h2 k hs with h4 | h4
    · exact a1 h4
    · omega
theorem Ak.push {y : FsX} {v1 : Value} (h : Ak q g w W v l xs S) (he : rFs.enc y = scs (fsOf y) (lhOf y.2)) (hf : FhIn W (fsOf y).h (lhOf y.2)) (h64 : In64S (fsOf y)) (hon : OnH (fun k => ¬ S k ∧ v.ownBlock ≠ some k) (fsOf y).h (lhOf y.2))
    (hown : Rep.OwX rFs 82 W2 w.heap.size v1 (xs ++ [y])) (hb : Below w.heap.size w W2) (hg : W.grownBy W2 v.ownBlock) (hat : v1.ownBlock = v.ownBlock ∨ ∃ b, v1.ownBlock = some b ∧ W.heap.size ≤ b) : Ak q g w W2 v1 l (xs ++ [y]) S := by
  have hc : Ch (fun k => v.ownBlock = some k) W W2 := (Ch.refl _ W).grown hg fun k hk => .inl hk
  have key : ∀ {h' : FH} {p : Lh}, FhIn W h' p → OnH (fun k => ¬ S k ∧ v.ownBlock ≠ some k) h' p → FhIn W2 h' p ∧ OnH (fun k => ¬ S k ∧ v1.ownBlock ≠ some k) h' p := fun {h' p} e2 e4 => ⟨e2.ch hc e4 fun k hk hh => hk.2 hh, (OnH.and e4 (fh_lt e2)).mono fun k ⟨⟨a1, a2⟩, a3⟩ => ⟨a1, fun hh => by
    rcases hat with h5 | ⟨b, h5, h6⟩
    · exact a2 (h5 ▸ hh)
    · rw [h5] at hh
      injection hh with hh
      omega⟩⟩
  refine ⟨hb, h.ck.ch hc fun k hk hh => h.os k hh hk, h.hs, hown, fun b hb' hs => ?_, fun x hx => ?_, fun hn => absurd hn (by simp)⟩
  · rcases hat with h5 | ⟨b', h5, h6⟩
    · exact h.os b (h5 ▸ hb') hs
    · rw [h5] at hb'
      injection hb' with hb'
      have := h.ck.old b hs
      omega
  · rcases List.mem_append.1 hx with hx | hx
    · obtain ⟨e1, e2, e3, e4⟩ := h.el x hx
      exact ⟨e1, (key e2 e4).1, e3, (key e2 e4).2⟩
    · rw [List.mem_singleton.1 hx]
      exact ⟨he, (key hf hon).1, h64, (key hf hon).2⟩
theorem Ak.fsl (h : Ak q g w W v l xs S) (hn : xs.length ≤ 1000) : ∃ A c, v = .slice A xs.length c ∧ FsL W A xs ∧ xs.length ≤ c ∧ c ≤ 9223372036854775807 := by
  obtain ⟨⟨A, c, l0⟩, e1, e2, e3⟩ := h.ow.reads
  simp only at e1 e2
  subst e2
  exact ⟨A, c, e1, ⟨e3.rd, fun x hx => ⟨(h.el x hx).1, (h.el x hx).2.1, (h.el x hx).2.2.1⟩, hn⟩, e3.le, by have := e3.max; unfold maxLen at this; exact this⟩
end
theorem is_ak {q : Hd} {g : Nat} {w W : World} {v : Value} {xs : List FsX} {S : Nat → Prop} (p : Lc) (h : Ak q g w W v (xs.map fsOf) xs S) (hx : HdIn W q p) (he : (headErr q).1 = 0) (hn : xs.length ≤ 16) :
    Calls Tryz.prog 39 #[.pointer (some ⟨g, 0, none⟩), .agg (hcs q p).toArray, v] W fun e w' => e = .returned (.bool true) ∧ Below W.heap.size W w' := by
  rcases List.eq_nil_or_concat xs with rfl | ⟨ys, y, rfl⟩
  · rw [h.nil rfl]
    exact is0_calls g S q p W h.ck hx he
  · obtain ⟨A, c, rfl, h1, h2, h3⟩ := h.fsl (by omega)
    obtain ⟨c1, c2⟩ := okq_chk he
    have w1 := places_len (SpanQ.right_of c1)
    have w2 := places_len (SpanQ.right_of c2)
    obtain ⟨x, hF⟩ := h.ck
    rw [List.concat_eq_append] at *
    exact Law18G.is1_calls g S q p A c ys y W h.ck hx he h1 h2 h3 (by omega) (by omega) (room_of he hF.n64 hF.good (by rw [List.length_map]; exact hn)).2
end Go.Proofs.YtjfekjbmgckkcaaGreatDoor.Law18H
namespace Go.Proofs.YtjfekjbmgckkcaaGreatDoor.HeadLaid
open Go.RowKit Go.Proofs.YtjfekjbmgckkcaaGreatDoorW.PrintWords
open Go.Proofs.YtjfekjbmgckkcaaGreatDoor.Base Go.Proofs.YtjfekjbmgckkcaaGreatDoor.VarPure Go.Proofs.YtjfekjbmgckkcaaGreatDoor.VarbitA Go.Proofs.YtjfekjbmgckkcaaGreatDoor.FailAs
theorem rt : (Tryz.prog.cutTypes.find? (·.1 == "internal/reflectlite.rtype")).map (·.2) = some 290 := by kernel_rfl
theorem gEt : Tryz.prog.globalNamed "errors.errorType" = some 0 := by kernel_rfl
theorem oneRow : ((List.range 373).filter fun t => Tryz.prog.rowNamed t [101, 114, 114, 111, 114]) = [34] := by kernel_rfl
theorem tySize : Tryz.prog.types.size = 373 := by kernel_rfl
theorem handle_of {w : World} (h : handlesMet Tryz.prog [("errors.errorType", Rows.laid_errors_errorType)] w) : GlE w := by
  have h1 : ∃ name u ty, (Rows.laid_errors_errorType (H := Unit)).handleName? = some name ∧ (Tryz.prog.cutTypes.find? (·.1 == "internal/reflectlite.rtype")).map (·.2) = some u ∧ ty < Tryz.prog.types.size ∧ Tryz.prog.rowNamed ty name = true ∧ w.var? Tryz.prog "errors.errorType" = some #[.iface u (.agg #[typeHandle Tryz.prog ty])] := h _ (List.mem_singleton.2 rfl)
  obtain ⟨name, u, ty, e1, e2, e3, e4, e5⟩ := h1
  have en : name = [101, 114, 114, 111, 114] := (Option.some.inj e1).symm
  subst en
  obtain rfl := Option.some.inj (rt.symm.trans e2)
  have hm : ty ∈ (List.range 373).filter fun t => Tryz.prog.rowNamed t [101, 114, 114, 111, 114] := List.mem_filter.2 ⟨List.mem_range.2 (by rw [← tySize]; exact e3), e4⟩
  rw [oneRow] at hm
  obtain rfl := List.mem_singleton.1 hm
  have hh : typeHandle Tryz.prog 34 = .pointer (some ⟨3, 34, none⟩) := by kernel_rfl
  rw [hh] at e5
  simpa [GlE] using World.var?_cell gEt e5 0
theorem tab_met {w : World} (h2 : laidMet Tryz.prog [("tidepole/varbit.behinds", Lib.tabData .i64 ([0, 3, 6, 9, 12, 18, 25, 56, 64].map Int.ofNat))] w) : Tab w := by
  have hv := Lib.tabIs_of_head gTab tTab Tryz.underlying269 Tryz.underlying3 cEl cTab h2
  intro j hj
  have := World.var?_cell gTab hv j
  rw [this]
  have : j = 0 ∨ j = 1 ∨ j = 2 ∨ j = 3 ∨ j = 4 ∨ j = 5 ∨ j = 6 ∨ j = 7 ∨ j = 8 := by omega
  rcases this with rfl | rfl | rfl | rfl | rfl | rfl | rfl | rfl | rfl <;> rfl
end Go.Proofs.YtjfekjbmgckkcaaGreatDoor.HeadLaid
namespace Go.Proofs.YtjfekjbmgckkcaaGreatDoor.Law18L
open Go.RowKit Go.Proofs.YtjfekjbmgckkcaaGreatDoorW.PrintWords
open Go.Proofs.YtjfekjbmgckkcaaGreatDoor.Base Go.Proofs.YtjfekjbmgckkcaaGreatDoor.VarPure Go.Proofs.YtjfekjbmgckkcaaGreatDoor.VarbitA Go.Proofs.YtjfekjbmgckkcaaGreatDoor.FailAs Go.Proofs.YtjfekjbmgckkcaaGreatDoor.HeadLaid Go.Proofs.YtjfekjbmgckkcaaGreatDoor.XorA
abbrev laidF : List (String × DataW Unit) := [("math/bits.deBruijn64tab", Rows.laid_math_bits_deBruijn64tab), ("errors.errorType", Rows.laid_errors_errorType), ("tidepole/varbit.behinds", Rows.laid_tidepole_varbit_behinds)]
theorem gDb : Tryz.prog.globalNamed "math/bits.deBruijn64tab" = some 2 := by kernel_rfl
theorem tDb : (Tryz.prog.globals[2]?).map (·.type) = some 318 := by kernel_rfl
theorem cDb : Tryz.prog.cellsOf 318 = 64 := by kernel_rfl
theorem cU8 : Tryz.prog.cellsOf 5 = 1 := by kernel_rfl
theorem split_laidF (w : World) : laidMetH Tryz.prog laidF w = (laidMet Tryz.prog [("math/bits.deBruijn64tab", Rows.laid_math_bits_deBruijn64tab), ("tidepole/varbit.behinds", Rows.laid_tidepole_varbit_behinds)] w ∧ handlesMet Tryz.prog [("errors.errorType", Rows.laid_errors_errorType)] w) := by kernel_rfl
theorem db_data : (Rows.laid_math_bits_deBruijn64tab : DataW Unit) = Lib.tabData .u8 (Lib.deBruijn64tab.map Int.ofNat) := by kernel_rfl
theorem tz_met {w : World} (h : laidMet Tryz.prog (("math/bits.deBruijn64tab", Lib.tabData .u8 (Lib.deBruijn64tab.map Int.ofNat)) :: [("tidepole/varbit.behinds", Rows.laid_tidepole_varbit_behinds)]) w) : Tz w := by
  have hv := Lib.tabIs_of_head gDb tDb Tryz.underlying318 Tryz.underlying5 cU8 cDb h
  intro j hj
  have := World.var?_cell gDb hv j
  rw [this]
  have hl : Lib.deBruijn64tab.length = 64 := by decide
  simp [List.getD_eq_getElem?_getD, hl, hj]
theorem of_laidF {w : World} (h : laidMetH Tryz.prog laidF w) : Tab w ∧ GlE w ∧ Tz w := by
  rw [split_laidF] at h
  obtain ⟨h1, h2⟩ := h
  have h3 := h1
  rw [db_data] at h3
  exact ⟨tab_met h1.tail, handle_of h2, tz_met h3⟩
end Go.Proofs.YtjfekjbmgckkcaaGreatDoor.Law18L
namespace Go.Proofs.YtjfekjbmgckkcaaGreatDoor.FchunkAppends
open Go.RowKit Go.Proofs.YtjfekjbmgckkcaaGreatDoorW.PrintWords
open Go.Proofs.YtjfekjbmgckkcaaGreatDoor.Bits Go.Proofs.YtjfekjbmgckkcaaGreatDoor.Base Go.Proofs.YtjfekjbmgckkcaaGreatDoor.VarPure Go.Proofs.YtjfekjbmgckkcaaGreatDoor.VarbitA Go.Proofs.YtjfekjbmgckkcaaGreatDoor.VarKit Go.Proofs.YtjfekjbmgckkcaaGreatDoor.StreamA Go.Proofs.YtjfekjbmgckkcaaGreatDoor.SpanPure Go.Proofs.YtjfekjbmgckkcaaGreatDoor.SpanBase Go.Proofs.YtjfekjbmgckkcaaGreatDoor.FailAs Go.Proofs.YtjfekjbmgckkcaaGreatDoor.FailB Go.Proofs.YtjfekjbmgckkcaaGreatDoor.FailC Go.Proofs.YtjfekjbmgckkcaaGreatDoor.HeadA Go.Proofs.YtjfekjbmgckkcaaGreatDoor.HeadB Go.Proofs.YtjfekjbmgckkcaaGreatDoor.HeadC Go.Proofs.YtjfekjbmgckkcaaGreatDoor.HeadE Go.Proofs.YtjfekjbmgckkcaaGreatDoor.HeadPure Go.Proofs.YtjfekjbmgckkcaaGreatDoor.Ref01 Go.Proofs.YtjfekjbmgckkcaaGreatDoor.Ref12 Go.Proofs.YtjfekjbmgckkcaaGreatDoor.Ref13 Go.Proofs.YtjfekjbmgckkcaaGreatDoor.TimesPure Go.Proofs.YtjfekjbmgckkcaaGreatDoor.TimesA Go.Proofs.YtjfekjbmgckkcaaGreatDoor.XorPure Go.Proofs.YtjfekjbmgckkcaaGreatDoor.XorA Go.Proofs.YtjfekjbmgckkcaaGreatDoor.XorB Go.Proofs.YtjfekjbmgckkcaaGreatDoor.FcPure Go.Proofs.YtjfekjbmgckkcaaGreatDoor.FcObj Go.Proofs.YtjfekjbmgckkcaaGreatDoor.FsArg Go.Proofs.YtjfekjbmgckkcaaGreatDoor.FcA Go.Proofs.YtjfekjbmgckkcaaGreatDoor.FcB Go.Proofs.YtjfekjbmgckkcaaGreatDoor.FcC Go.Proofs.YtjfekjbmgckkcaaGreatDoor.FcD Go.Proofs.YtjfekjbmgckkcaaGreatDoor.FcF Go.Proofs.YtjfekjbmgckkcaaGreatDoor.FcG Go.Proofs.YtjfekjbmgckkcaaGreatDoor.FcH Go.Proofs.YtjfekjbmgckkcaaGreatDoor.FcI Go.Proofs.YtjfekjbmgckkcaaGreatDoor.HdArg Go.Proofs.YtjfekjbmgckkcaaGreatDoor.Law14A Go.Proofs.YtjfekjbmgckkcaaGreatDoor.Law18A Go.Proofs.YtjfekjbmgckkcaaGreatDoor.Law18C Go.Proofs.YtjfekjbmgckkcaaGreatDoor.Law18D Go.Proofs.YtjfekjbmgckkcaaGreatDoor.Law18E Go.Proofs.YtjfekjbmgckkcaaGreatDoor.Law18F Go.Proofs.YtjfekjbmgckkcaaGreatDoor.Law18H Go.Proofs.YtjfekjbmgckkcaaGreatDoor.Law18L Go.Proofs.YtjfekjbmgckkcaaGreatDoor.Ref14A Go.Proofs.YtjfekjbmgckkcaaGreatDoor.Ref18A Go.Proofs.YtjfekjbmgckkcaaGreatDoor.Ref18B Go.Proofs.YtjfekjbmgckkcaaGreatDoor.HeadLaid
theorem infoSm : (Tryz.prog.info? 82).map (fun i => (i.zero, i.size, i.bytes)) = some (some (.agg #[.int .i64 0, .int .i64 0, .int .u64 0, .int .u64 0, .int .u64 0, .int .u64 0, .slice none 0 0, .slice none 0 0, .slice none 0 0, .slice none 0 0]), rFs.k, 144) := by kernel_rfl
theorem hdin_len {w : World} {x : Int × Int × Int × Int × Rep.Sl (Int × Int) × Rep.Sl (Int × Int)} (h : rHd.ok w x) (h1 : (hdOf x).pos.length ≤ 400) (h2 : (hdOf x).neg.length ≤ 400) : HdIn w (hdOf x) (lcOf x) := by
  obtain ⟨-, ⟨g1, g2, -, -⟩, g5, g6, g7⟩ := enc_hd h
  exact ⟨⟨g1, by omega, g6.1, g6.2⟩, ⟨g2, by omega, g7.1, g7.2⟩, g5⟩
end Go.Proofs.YtjfekjbmgckkcaaGreatDoor.FchunkAppends
namespace Go.Proofs.YtjfekjbmgckkcaaGreatDoor.FcJ
open Go.RowKit Go.Proofs.YtjfekjbmgckkcaaGreatDoorW.PrintWords
open Go.Proofs.YtjfekjbmgckkcaaGreatDoor.Bits Go.Proofs.YtjfekjbmgckkcaaGreatDoor.Base Go.Proofs.YtjfekjbmgckkcaaGreatDoor.VarPure Go.Proofs.YtjfekjbmgckkcaaGreatDoor.VarbitA Go.Proofs.YtjfekjbmgckkcaaGreatDoor.VarKit Go.Proofs.YtjfekjbmgckkcaaGreatDoor.StreamA Go.Proofs.YtjfekjbmgckkcaaGreatDoor.SpanPure Go.Proofs.YtjfekjbmgckkcaaGreatDoor.SpanBase Go.Proofs.YtjfekjbmgckkcaaGreatDoor.FailAs Go.Proofs.YtjfekjbmgckkcaaGreatDoor.FailB Go.Proofs.YtjfekjbmgckkcaaGreatDoor.FailC Go.Proofs.YtjfekjbmgckkcaaGreatDoor.HeadA Go.Proofs.YtjfekjbmgckkcaaGreatDoor.HeadB Go.Proofs.YtjfekjbmgckkcaaGreatDoor.HeadC Go.Proofs.YtjfekjbmgckkcaaGreatDoor.HeadE Go.Proofs.YtjfekjbmgckkcaaGreatDoor.HeadPure Go.Proofs.YtjfekjbmgckkcaaGreatDoor.Ref01 Go.Proofs.YtjfekjbmgckkcaaGreatDoor.Ref12 Go.Proofs.YtjfekjbmgckkcaaGreatDoor.Ref13 Go.Proofs.YtjfekjbmgckkcaaGreatDoor.TimesPure Go.Proofs.YtjfekjbmgckkcaaGreatDoor.TimesA Go.Proofs.YtjfekjbmgckkcaaGreatDoor.XorPure Go.Proofs.YtjfekjbmgckkcaaGreatDoor.XorA Go.Proofs.YtjfekjbmgckkcaaGreatDoor.XorB Go.Proofs.YtjfekjbmgckkcaaGreatDoor.FcPure Go.Proofs.YtjfekjbmgckkcaaGreatDoor.FcObj Go.Proofs.YtjfekjbmgckkcaaGreatDoor.FcA Go.Proofs.YtjfekjbmgckkcaaGreatDoor.FcB Go.Proofs.YtjfekjbmgckkcaaGreatDoor.FcC Go.Proofs.YtjfekjbmgckkcaaGreatDoor.FcD Go.Proofs.YtjfekjbmgckkcaaGreatDoor.FcE Go.Proofs.YtjfekjbmgckkcaaGreatDoor.FcF Go.Proofs.YtjfekjbmgckkcaaGreatDoor.FcG Go.Proofs.YtjfekjbmgckkcaaGreatDoor.HeadD
theorem nul_lt {w : World} {A : Option Addr} {c : Nat} {l : List Nat} (h : Nul w A c l) : On (fun k => k < w.heap.size) A l.length := fun ad hA hp => by
  obtain ⟨ad', he, hc0⟩ := RdI.at_ h.rd 0 (by rw [nats_length]; exact hp)
  rw [hA] at he
  injection he with he
  subst he
  have hl := World.block_lt_of_cell? w _ hc0
  have hbk : (ad.add 0).block = ad.block := by unfold Addr.add; split <;> rfl
  rwa [hbk] at hl
theorem fh_lt {w : World} {h : FH} {p : Lh} (x : FhIn w h p) : OnH (fun k => k < w.heap.size) h p := ⟨fun ad hA hp => rd_lt x.pos.rd ad hA hp, fun ad hA hp => rd_lt x.neg.rd ad hA hp, nul_lt x.pc, nul_lt x.nc⟩
set_option maxHeartbeats 1600000 in
theorem wcopy_calls (g : Nat) (S : Nat → Prop) (l : List Bool) (w : World) (h : Wr w g S l) (hm : l.length ≤ 1000000000000) :
    Calls Tryz.prog 120 #[.pointer (some ⟨g, 0, none⟩)] w fun e w' => ∃ g2 S2, e = .returned (.pointer (some ⟨g2, 0, none⟩)) ∧ Wr w' g2 S2 l ∧ (∀ k, S2 k → w.heap.size ≤ k) ∧ Below w.heap.size w w' := by
  have HBY := Lib.hid (fun W (hb : Below w.heap.size w W) => bytes_calls g S l W (h.below hb) hm)
  have HC1 : Hid (∀ W, Below w.heap.size w W → Below w.heap.size w W ∧ W.cell? ⟨g, 1, none⟩ = some (.int .i64 l.length)) := Lib.hid (fun W hb => by
    obtain ⟨v, hg, -⟩ := h.below hb
    exact ⟨hb, obj_cell hg rfl⟩)
  have bd0 : Below w.heap.size w w.drew := below_drew (Below.refl _ _)
  clear h
  go_enter Tryz.func120, Tryz.ntmps120
  go_wp2_with (fail)
  go_region_held3 (fun W => Below w.heap.size w W ∧ W.cell? ⟨g, 1, none⟩ = some (.int .i64 l.length))
    (first | (with_reducible exact HC1.out _ bd0) | (with_reducible exact HC1.out _ hb1) | (with_reducible exact HC1.out _ (below_alloc hb1 _)))
    (first
    | (go_at_call 26; refine (HBY.out _ bd0).mono ?_; rintro e w1 ⟨v, rfl, ho, hbx⟩; have hb1 : Below w.heap.size w w1 := below_then bd0 (Nat.le_refl _) hbx; obtain ⟨D, d, rfl, -, -⟩ := ho.reads))
  have HO := Lib.hid ho
  have HB := Lib.hid hb1
  clear ho hb1 hbx bd0
  go_wp2
  go_ret
  refine ⟨w1.heap.size, fun k => k = w1.heap.size ∨ (Value.slice D (pack l).length d).ownBlock = some k, rfl, ⟨_, blk_last _ _, (HO.out.below (below_alloc (Below.refl _ _) _)).lower (Nat.zero_le _), ?_, fun k => Iff.rfl⟩, ?_, below_alloc HB.out _⟩
  · intro h
    have := HO.out.lt_ _ h
    omega
  · rintro k (rfl | hk)
    · exact HB.out.size
    · exact HO.out.base_ _ hk
set_option maxHeartbeats 400000 in
theorem tcopy_calls (g last step n : Nat) (w : World) (h : TrS w g last step n) :
    Calls Tryz.prog 121 #[.pointer (some ⟨g, 0, none⟩)] w fun e w' => e = .returned (.pointer (some ⟨w.heap.size, 0, none⟩)) ∧ TrS w' w.heap.size last step n ∧ Below w.heap.size w w' := by
  obtain ⟨hg, hx⟩ := h
  have c0 : w.cell? ⟨g, 0, none⟩ = some (.int .i64 (i64 last)) := obj_cell hg rfl
  have c1 : w.cell? ⟨g, 1, none⟩ = some (.int .i64 (i64 step)) := obj_cell hg rfl
  have c2 : w.cell? ⟨g, 2, none⟩ = some (.int .i64 n) := obj_cell hg rfl
  have HX := Lib.hid hx
  clear hg hx
  go_enter Tryz.func121, Tryz.ntmps121
  go_wp2
  go_ret
  exact ⟨rfl, ⟨blk_last _ _, HX.out⟩, below_alloc (Below.refl _ _) _⟩
def cellsL (q : Hd) (n : Nat) (s : FS) (p : Lc) (gw gt : Nat) (r : Lh) (v : Value) : Array Value := #[.int .i64 q.vr, .int .i64 q.hint, .int .i64 q.schema, .int .u64 q.zero, .slice p.A q.pos.length p.c, .slice p.B q.neg.length p.d, .pointer (some ⟨gw, 0, none⟩), .int .i64 n, .pointer (some ⟨gt, 0, none⟩), v,
  .int .i64 s.t, .int .i64 s.h.schema, .int .u64 s.h.zero, .int .u64 s.h.zc, .int .u64 s.h.cnt, .int .u64 s.h.sum, .slice r.A s.h.pos.length r.c, .slice r.B s.h.neg.length r.d, .slice r.C s.h.pc.length r.cc, .slice r.D s.h.nc.length r.dd]
theorem cellsL_set (q : Hd) (n : Nat) (s : FS) (p : Lc) (gw gt : Nat) (r : Lh) (v v1 : Value) : (cellsL q n s p gw gt r v).setIfInBounds 9 v1 = cellsL q n s p gw gt r v1 := by simp [cellsL]
set_option maxHeartbeats 1600000 in
theorem Gk.doneL {g gw gt : Nat} {q : Hd} {l : List FS} {p : Lc} {r : Lh} {Sw : Nat → Prop} {v : Value} {cols : List Nat} {w Wb W : World} (h : Gk g (cellsL q l.length (lastS q l) p gw gt r) (fun k => colX (col l k)) v cols Wb W) (hg : g < Wb.heap.size) (hgb : w.heap.size ≤ g) (hok : (headErr q).1 = 0) (hl : cols.length = width q)
    (hd : HdIn Wb q p) (hp : On (fun k => w.heap.size ≤ k) p.A q.pos.length) (hn : On (fun k => w.heap.size ≤ k) p.B q.neg.length)
    (hw : Wr Wb gw Sw (encH q ++ bitsB l)) (hwb : ∀ k, Sw k → w.heap.size ≤ k) (ht : TrS Wb gt (lastOf (ts l)) (stepOf (ts l)) l.length) (hla : FhIn Wb (lastS q l).h r) (hrb : OnH (fun k => w.heap.size ≤ k) (lastS q l).h r) (hn64 : ∀ s ∈ l, In64S s) (hgood : FcPure.Good q l) (htb : w.heap.size ≤ gt)
    (h1 : ¬ Sw g) (h2 : g ≠ gt) (h3 : ¬ Sw gt) (h4 : On (fun k => ¬ Sw k ∧ k ≠ g ∧ k ≠ gt) p.A q.pos.length) (h5 : On (fun k => ¬ Sw k ∧ k ≠ g ∧ k ≠ gt) p.B q.neg.length) (h6 : OnH (fun k => ¬ Sw k ∧ k ≠ g ∧ k ≠ gt) (lastS q l).h r) :
    ∃ S, Ck W g S q l ∧ ∀ k, S k → w.heap.size ≤ k := by
  have hcl : ∀ c ∈ cols, c < W.heap.size := fun c hc => by
    obtain ⟨j, hj, rfl⟩ := List.getElem_of_mem hc
    exact (h.xs j hj).lt
  have hlen : 0 < cols.length := by rw [hl]; unfold width; omega
  obtain ⟨gv, cap, cur, rfl, hbv, -, hcap, -, -, -⟩ : ∃ g cap cur, v = .slice (some ⟨g, 0, none⟩) cols.length cap ∧ Wb.heap.size ≤ g ∧ W.heap[g]? = some (.cells cur 160 (0, 0)) ∧ cols.length ≤ cap ∧ cap ≤ maxLen ∧ cur.size = cap * 1 ∧ cur.toList.take (cols.length * 1) = Rep.all rPtr cols := by
    rcases h.row.2 with ⟨-, h0⟩ | ⟨g', cap, cur, e1, e2, e3, e4, e5, e6, e7⟩
    · omega
    · exact ⟨g', cap, cur, e1, e2, e3, e4, e5, e6, e7⟩
  have hgvlt : gv < W.heap.size := Rep.OwX.lt_ h.row gv rfl
  have hgvc : gv ∉ cols := fun hc => by
    obtain ⟨j, hj, he⟩ := List.getElem_of_mem hc
    have := row_not h.row (h.xs j hj)
    rw [he] at this
    exact this rfl
  have hch := h.ch
  have hwo := hw.old
  have hto := ht.lt
  have hpo : ∀ ad, p.A = some ad → 0 < q.pos.length → ad.block < Wb.heap.size := fun ad hA hp' => HeadD.rd_lt hd.pos.rd ad hA hp'
  have hno : ∀ ad, p.B = some ad → 0 < q.neg.length → ad.block < Wb.heap.size := fun ad hA hp' => HeadD.rd_lt hd.neg.rd ad hA hp'
  obtain ⟨T, hT⟩ : ∃ T : Nat → Prop, T = fun k => (w.heap.size ≤ k ∧ k < Wb.heap.size ∧ ¬ Sw k ∧ k ≠ g ∧ k ≠ gt) ∨ k = gv := ⟨_, rfl⟩
  have hTA : ∀ ad, p.A = some ad → 0 < q.pos.length → T ad.block := fun ad hA hp' => by rw [hT]; exact .inl ⟨hp ad hA hp', hpo ad hA hp', h4 ad hA hp'⟩
  have hTB : ∀ ad, p.B = some ad → 0 < q.neg.length → T ad.block := fun ad hA hp' => by rw [hT]; exact .inl ⟨hn ad hA hp', hno ad hA hp', h5 ad hA hp'⟩
  have hTall : ∀ {A : Option Addr} {n : Nat}, On (fun k => w.heap.size ≤ k) A n → On (fun k => ¬ Sw k ∧ k ≠ g ∧ k ≠ gt) A n → On (fun k => k < Wb.heap.size) A n → On T A n := fun a1 a2 a3 ad hA hp' => by rw [hT]; exact .inl ⟨a1 ad hA hp', a3 ad hA hp', a2 ad hA hp'⟩
  have hlt' := fh_lt hla
  have hTR : OnH T (lastS q l).h r := ⟨hTall hrb.pos h6.pos hlt'.pos, hTall hrb.neg h6.neg hlt'.neg, hTall hrb.pc h6.pc hlt'.pc, hTall hrb.nc h6.nc hlt'.nc⟩
  have hTv : T gv := by rw [hT]; exact .inr rfl
  have hTn : ∀ k, T k → (w.heap.size ≤ k ∧ k < W.heap.size ∧ ¬ Sw k ∧ k ≠ g ∧ k ≠ gt ∧ k ∉ cols) := fun k hk => by
    rw [hT] at hk
    have hsz := hch.size
    rcases hk with ⟨e1, e2, e3, e4, e5⟩ | hk
    · exact ⟨e1, by omega, e3, e4, e5, fun hc => by have := h.cb k hc; omega⟩
    · subst hk
      have := hch.size
      exact ⟨by omega, hgvlt, fun hs => by have := hwo _ hs; omega, by omega, by omega, hgvc⟩
  have hTno : ∀ k, k < Wb.heap.size → T k → ¬ (fun b => b = g) k := fun k _ hk he => (hTn k hk).2.2.2.1 he
  refine ⟨fun k => k = g ∨ Sw k ∨ k = gt ∨ k ∈ cols ∨ T k, ⟨⟨p, gw, gt, Sw, ⟨gv, 0, none⟩, cap, cols, r, T⟩, ?_⟩, ?_⟩
  · exact {
      obj := by rw [h.obj, kcs_eq, ← hl]; rfl
      hd := ⟨⟨HeadD.rd_ch hd.pos.rd hch fun ad hA hp' => (h4 ad hA hp').2.1, hd.pos.len, hd.pos.cap, hd.pos.nil⟩, ⟨HeadD.rd_ch hd.neg.rd hch fun ad hA hp' => (h5 ad hA hp').2.1, hd.neg.len, hd.neg.cap, hd.neg.nil⟩, hd.z⟩
      wr := hw.ch hch fun k hk he => h1 (he ▸ hk)
      tr := ht.ch hch fun he => h2 he.symm
      cl := hl
      vc := hl ▸ hcap
      vals := fun k hk => by
        obtain ⟨y, e1, e2, e3⟩ := h.row.reads
        injection e1 with e4 e5 e6
        obtain ⟨ad, e7, e8⟩ := Rep.RdC.elem (r := rPtr) e3.rd k (by rw [e2]; exact hk) (by decide)
        rw [← e4] at e7
        injection e7 with e7
        subst e7
        have := e8 0 _ rfl
        simp only [e2] at this
        have hk1 : k * rPtr.k + 0 = k := by show k * 1 + 0 = k; omega
        rwa [hk1] at this
      xs := fun k hk => h.xs k hk
      la := hla.ch hch h6 fun k hk => hk.2.1
      n64 := hn64
      good := hgood
      okq := hok
      onp := hTA
      onn := hTB
      onv := hTv
      onr := hTR
      hS := fun k => Iff.rfl
      old := fun k hk => by
        have hsz := hch.size
        rcases hk with hk | hk | hk | hk | hk
        · omega
        · have := hwo k hk; omega
        · omega
        · exact hcl k hk
        · exact (hTn k hk).2.1
      gw := h1
      gt := h2
      gc := fun hc => by have := h.cb g hc; omega
      gT := fun hk => (hTn g hk).2.2.2.1 rfl
      wt := h3
      wc := fun k hk hs => by have := h.cb k hk; have := hwo k hs; omega
      wT := fun k hk hs => (hTn k hk).2.2.1 hs
      tc := fun hc => by have h9 : Wb.heap.size ≤ gt := h.cb gt hc; omega
      tT := fun hk => (hTn gt hk).2.2.2.2.1 rfl
      cn := h.nd
      cT := fun k hk hT' => (hTn k hT').2.2.2.2.2 hk }
  · intro k hk
    rcases hk with hk | hk | hk | hk | hk
    · omega
    · exact hwb k hk
    · omega
    · have := h.cb k hk
      have := hto
      omega
    · exact (hTn k hk).1
set_option maxRecDepth 100000 in
set_option maxHeartbeats 6400000 in
theorem copy_calls (g : Nat) (S : Nat → Prop) (q : Hd) (l : List FS) (x : FkL) (w : World) (hF : Fk w g S q l x) (hm : (chunkB q l).length ≤ 1000000000) :
    Calls Tryz.prog 49 #[.pointer (some ⟨g, 0, none⟩)] w fun e w' => ∃ g2 S2, e = .returned (.pointer (some ⟨g2, 0, none⟩)) ∧ Ck w' g2 S2 q l ∧ (∀ k, S2 k → w.heap.size ≤ k) ∧ Below w.heap.size w w' := by
  have HFK : Hid (∀ W, Below w.heap.size w W → Fk W g S q l x) := Lib.hid (fun W hb => hF.below hb)
  have HWC := Lib.hid (fun W (hb : Below w.heap.size w W) => wcopy_calls x.gw x.Sw (encH q ++ bitsB l) W (HFK.out W hb).wr (by unfold chunkB at hm; omega))
  have HTC := Lib.hid (fun W (hb : Below w.heap.size w W) => tcopy_calls x.gt (lastOf (ts l)) (stepOf (ts l)) l.length W (HFK.out W hb).tr)
  have HOW := Lib.hid (fun W (hb : Below w.heap.size w W) => FcA.own_calls q x.p W (HFK.out W hb).hd)
  have HON := Lib.hid (fun W (hb : Below w.heap.size w W) => FcB.on_calls (lastS q l) x.r (lastS q l).h.pos (lastS q l).h.neg x.r.A x.r.B x.r.c x.r.d W (HFK.out W hb).la (HFK.out W hb).la.pos (HFK.out W hb).la.neg)
  have HXC := Lib.hid (fun W (hw : Fk W g S q l x) k (hk : k < x.cols.length) => XorB.copy_calls x.cols[k] (colX (col l k)) W (hw.xs k hk))
  have HVP := Lib.hid (fun W (hw : Fk W g S q l x) k (hk : k < x.cols.length) => hw.vals k hk)
  have HCL := Lib.hid hF.cl
  have HVC := Lib.hid hF.vc
  have HN64 := Lib.hid hF.n64
  have HGOOD := Lib.hid hF.good
  have HOK := Lib.hid hF.okq
  have HOLD := Lib.hid hF.old
  obtain ⟨c1, c2⟩ := okq_chk hF.okq
  have hp1 := places_len (SpanQ.right_of c1)
  have hp2 := places_len (SpanQ.right_of c2)
  have hwN : width q ≤ 9000 := by unfold width; omega
  have hOBJ := fun W (hb : Below w.heap.size w W) => (HFK.out W hb).obj
  simp only [kcs_eq] at hOBJ
  obtain ⟨⟨pA, pc, pB, pd⟩, gw, gt, Sw, va, vc, cols, ⟨rA, rc, rB, rd, rC, rcc, rD, rdd⟩, TT⟩ := x
  obtain ⟨s, hs⟩ : ∃ s, s = lastS q l := ⟨_, rfl⟩
  obtain ⟨N, hN⟩ : ∃ N, N = width q := ⟨_, rfl⟩
  simp only [← hs, ← hN] at hOBJ HON
  rw [← hN] at HVC HCL hwN
  have HSX := Lib.hid hs
  have HNN := Lib.hid hN
  have HCE : Hid (∀ W : World, Below w.heap.size w W → (Below w.heap.size w W ∧ (W.cell? ⟨g, 0, none⟩ = some (.int .i64 q.vr) ∧ W.cell? ⟨g, 1, none⟩ = some (.int .i64 q.hint) ∧ W.cell? ⟨g, 2, none⟩ = some (.int .i64 q.schema) ∧ W.cell? ⟨g, 3, none⟩ = some (.int .u64 q.zero) ∧ W.cell? ⟨g, 4, none⟩ = some (.slice pA q.pos.length pc) ∧ W.cell? ⟨g, 5, none⟩ = some (.slice pB q.neg.length pd) ∧ W.cell? ⟨g, 6, none⟩ = some (.pointer (some ⟨gw, 0, none⟩)) ∧ W.cell? ⟨g, 7, none⟩ = some (.int .i64 l.length) ∧ W.cell? ⟨g, 8, none⟩ = some (.pointer (some ⟨gt, 0, none⟩)) ∧ W.cell? ⟨g, 10, none⟩ = some (.int .i64 s.t) ∧ W.cell? ⟨g, 11, none⟩ = some (.int .i64 s.h.schema) ∧ W.cell? ⟨g, 12, none⟩ = some (.int .u64 s.h.zero) ∧ W.cell? ⟨g, 13, none⟩ = some (.int .u64 s.h.zc) ∧ W.cell? ⟨g, 14, none⟩ = some (.int .u64 s.h.cnt) ∧ W.cell? ⟨g, 15, none⟩ = some (.int .u64 s.h.sum) ∧ W.cell? ⟨g, 16, none⟩ = some (.slice rA s.h.pos.length rc) ∧ W.cell? ⟨g, 17, none⟩ = some (.slice rB s.h.neg.length rd) ∧ W.cell? ⟨g, 18, none⟩ = some (.slice rC s.h.pc.length rcc) ∧ W.cell? ⟨g, 19, none⟩ = some (.slice rD s.h.nc.length rdd)) ∧ W.cell? ⟨g, 9, none⟩ = some (.slice (some va) N vc))) := Lib.hid (fun W hb => by
    have h := hOBJ W hb
    exact ⟨hb, ⟨obj_cell h rfl, obj_cell h rfl, obj_cell h rfl, obj_cell h rfl, obj_cell h rfl, obj_cell h rfl, obj_cell h rfl, obj_cell h rfl, obj_cell h rfl, obj_cell h rfl, obj_cell h rfl, obj_cell h rfl, obj_cell h rfl, obj_cell h rfl, obj_cell h rfl, obj_cell h rfl, obj_cell h rfl, obj_cell h rfl, obj_cell h rfl⟩, obj_cell h rfl⟩)
  simp only at HVP HXC HCL HVC HTC HWC HOW
  dsimp only [hcs, scs, fcs] at HOW HON
  have bd0 : Below w.heap.size w w.drew := below_drew (Below.refl _ _)
  clear hF hs hOBJ c1 c2 hp1 hp2 hN
  go_enter Tryz.func49, Tryz.ntmps49
  go_wp2_with (fail)
  go_region_held3 (fun W => Below w.heap.size w W ∧ (W.cell? ⟨g, 0, none⟩ = some (.int .i64 q.vr) ∧ W.cell? ⟨g, 1, none⟩ = some (.int .i64 q.hint) ∧ W.cell? ⟨g, 2, none⟩ = some (.int .i64 q.schema) ∧ W.cell? ⟨g, 3, none⟩ = some (.int .u64 q.zero) ∧ W.cell? ⟨g, 4, none⟩ = some (.slice pA q.pos.length pc) ∧ W.cell? ⟨g, 5, none⟩ = some (.slice pB q.neg.length pd) ∧ W.cell? ⟨g, 6, none⟩ = some (.pointer (some ⟨gw, 0, none⟩)) ∧ W.cell? ⟨g, 7, none⟩ = some (.int .i64 l.length) ∧ W.cell? ⟨g, 8, none⟩ = some (.pointer (some ⟨gt, 0, none⟩)) ∧ W.cell? ⟨g, 10, none⟩ = some (.int .i64 s.t) ∧ W.cell? ⟨g, 11, none⟩ = some (.int .i64 s.h.schema) ∧ W.cell? ⟨g, 12, none⟩ = some (.int .u64 s.h.zero) ∧ W.cell? ⟨g, 13, none⟩ = some (.int .u64 s.h.zc) ∧ W.cell? ⟨g, 14, none⟩ = some (.int .u64 s.h.cnt) ∧ W.cell? ⟨g, 15, none⟩ = some (.int .u64 s.h.sum) ∧ W.cell? ⟨g, 16, none⟩ = some (.slice rA s.h.pos.length rc) ∧ W.cell? ⟨g, 17, none⟩ = some (.slice rB s.h.neg.length rd) ∧ W.cell? ⟨g, 18, none⟩ = some (.slice rC s.h.pc.length rcc) ∧ W.cell? ⟨g, 19, none⟩ = some (.slice rD s.h.nc.length rdd)) ∧ W.cell? ⟨g, 9, none⟩ = some (.slice (some va) N vc))
    (first | (with_reducible exact HCE.out _ bd0) | (with_reducible exact HCE.out _ b2) | (with_reducible exact HCE.out _ b3) | (with_reducible exact HCE.out _ b4) | (with_reducible exact HCE.out _ b5) | (with_reducible exact HCE.out _ (below_alloc b5 _)))
    (first
    | (go_at_call 97; refine (HOW.out _ bd0).mono ?_; rintro e w2 ⟨⟨A1, c1, B1, d1⟩, rfl, hr2, on1, on2, hb2⟩; have b2 : Below w.heap.size w w2 := below_then bd0 (Nat.le_refl _) hb2)
    | (go_at_call 120; refine (HWC.out _ b2).mono ?_; rintro e w3 ⟨gw2, Sw2, rfl, hw3, hsw3, hb3⟩; have b3 : Below w.heap.size w w3 := below_then b2 b2.size hb3)
    | (go_at_call 121; refine (HTC.out _ b3).mono ?_; rintro e w4 ⟨rfl, ht4, hb4⟩; have b4 : Below w.heap.size w w4 := below_then b3 b3.size hb4)
    | (go_at_call 113; refine (HON.out _ b4).mono ?_; rintro e w5 ⟨r5, rfl, hf5, ho5, hb5⟩; have b5 : Below w.heap.size w w5 := below_then b4 b4.size hb5))
  have B5 := Lib.hid b5
  have R2 := Lib.hid hr2
  have OA := Lib.hid on1
  have OB := Lib.hid on2
  have W3' := Lib.hid hw3
  have S3 := Lib.hid hsw3
  have T4 := Lib.hid ht4
  have F5 := Lib.hid hf5
  have O5 := Lib.hid ho5
  have X23 := Lib.hid hb3
  have X34 := Lib.hid hb4
  have X45 := Lib.hid hb5
  have X02 := Lib.hid b2
  obtain ⟨W6, hW6, hb6, hk6⟩ : ∃ W : World, W = w5.alloc (.cells #[.int .i64 q.vr, .int .i64 q.hint, .int .i64 q.schema, .int .u64 q.zero, .slice A1 q.pos.length c1, .slice B1 q.neg.length d1, .pointer (some ⟨gw2, 0, none⟩), .int .i64 l.length, .pointer (some ⟨w3.heap.size, 0, none⟩), .slice none 0 0, .int .i64 s.t, .int .i64 s.h.schema, .int .u64 s.h.zero, .int .u64 s.h.zc, .int .u64 s.h.cnt, .int .u64 s.h.sum, .slice r5.A s.h.pos.length r5.c, .slice r5.B s.h.neg.length r5.d, .slice r5.C s.h.pc.length r5.cc, .slice r5.D s.h.nc.length r5.dd] 158) ∧ Below w5.heap.size w5 W ∧ W.heap[w5.heap.size]? = some (.cells (cellsL q l.length s ⟨A1, c1, B1, d1⟩ gw2 w3.heap.size r5 (.slice none 0 0)) 158 (0, 0)) := ⟨_, rfl, below_alloc (Below.refl _ _) _, blk_last w5 _⟩
  have HW6 := Lib.hid hW6
  have HB6 := Lib.hid hb6
  have HK6 := Lib.hid hk6
  have B6 := Lib.hid (below_then B5.out B5.out.size hb6)
  obtain ⟨g2, hg2⟩ : ∃ g2, g2 = w5.heap.size := ⟨_, rfl⟩
  obtain ⟨gt2, hgt2⟩ : ∃ g2, g2 = w3.heap.size := ⟨_, rfl⟩
  rw [HW6.out.symm]
  rw [← hg2, ← hgt2]
  rw [← hg2, ← hgt2] at HK6
  rw [← hgt2] at T4
  have HG2 := Lib.hid hg2
  have HGT2 := Lib.hid hgt2
  have k9 := (HCE.out _ B6.out).2.2
  have hgl6 := blk_lt HK6.out
  clear hW6 hb6 hk6 hg2 hgt2 hr2 on1 on2 hb2 hw3 hsw3 hb3 ht4 hb4 hf5 ho5 hb5 b2 b3 b4 b5 bd0 HOW HWC HTC HON
  go_wp2_with (fail)
  go_loopw [5, 49] (fun _ i wr => ∃ (k : Nat) (v : Value) (cl2 : List Nat), k ≤ N ∧ i = .int .i64 k ∧ Gk g2 (cellsL q l.length s ⟨A1, c1, B1, d1⟩ gw2 gt2 r5) (fun k => colX (col l k)) v cl2 W6 wr ∧ cl2.length = k) (fun _ i _ => N - (intOf i).toNat)
  case atStart => exact ⟨0, .slice none 0 0, [], by omega, rfl, Gk.start HK6.out, rfl⟩
  case round =>
    clear k9
    obtain ⟨k, v, cl2, hk, rfl, hG, hcl⟩ := hrel
    have HGK := Lib.hid hG
    have HCL2 := Lib.hid hcl
    by_cases hlt : k < N
    · have hb0 := Below.refl wr.heap.size wr
      have hglr := blk_lt hG.obj
      have hbs : W6.heap.size ≤ wr.heap.size := hG.ch.size
      have hFr : Fk wr g S q l ⟨⟨pA, pc, pB, pd⟩, gw, gt, Sw, va, vc, cols, ⟨rA, rc, rB, rd, rC, rcc, rD, rdd⟩, TT⟩ := (HFK.out W6 B6.out).ch hG.ch fun j hj he => by
        have h1 := HOLD.out j hj
        have h2 := HG2.out
        have h3 := B5.out.size
        omega
      have hkc : k < cols.length := by rw [HCL.out]; exact hlt
      have hvk := HVP.out wr hFr k hkc
      have HXK := Lib.hid (HXC.out wr.drew (hFr.below (below_drew (Below.refl _ _))) k hkc)
      obtain ⟨cl, hcl'⟩ : ∃ cl, cl = cols[k] := ⟨_, rfl⟩
      rw [← hcl'] at hvk HXK
      have hkv : k < vc := by have := HVC.out; omega
      have c9 := fun W (h : Below wr.heap.size wr W) => (obj_cell ((h.block g2 hglr).trans hG.obj) rfl : W.cell? ⟨g2, 9, none⟩ = some v)
      have HAP : Hid (∀ wc w3 : World, Below wr.heap.size wr wc → XrS wc wr.heap.size (colX (col l k)) → ∀ v1, Rep.OwX rPtr 160 w3 W6.heap.size v1 (cl2 ++ [wr.heap.size]) → wc.grownBy w3 v.ownBlock → w3.cell? ⟨g2, 9, none⟩ = some v ∧ w3.frozen? ⟨g2, 9, none⟩ = false ∧ Gk g2 (cellsL q l.length s ⟨A1, c1, B1, d1⟩ gw2 gt2 r5) (fun k => colX (col l k)) v1 (cl2 ++ [wr.heap.size]) W6 (w3.setCell ⟨g2, 9, none⟩ v1)) := Lib.hid (by
        intro wc w3 h1 h2 v1 h3 h4
        have hobj := (h1.block g2 hglr).trans hG.obj
        have hne : v.ownBlock ≠ some g2 := fun he => by have := Rep.OwX.base_ hG.row g2 he; omega
        have hobj3 := ((Ch.refl (fun b => v.ownBlock = some b) wc).grown h4 fun k hk => .inl hk).blk hobj hne
        exact ⟨obj_cell hobj3 rfl, obj_free hobj3, hG.push hgl6 (cellsL_set _ _ _ _ _ _ _ _ _) (by rw [hcl]; exact h2) (Nat.le_refl _) h1 h3 h4⟩)
      have HBL := Lib.hid (fun wc (h : Below wr.heap.size wr wc) => Nat.le_trans hbs h.size)
      have HGL := Lib.hid (fun wc (h : Below wr.heap.size wr wc) => Nat.lt_of_lt_of_le hglr h.size)
      have hcl8 : (cl2.length + 1) * 8 ≤ 140737488355328 := by omega
      clear hG hcl hcl' hFr
      go_wp2_with (fail)
      go_region_law (first
        | (refine append_ptr_step (W := wc) W6.heap.size rfl (.tmp 57) (.tmp 60) 156 160 8 rfl Tryz.underlying156 infoPtr (by decide) v cl2 wr.heap.size (by simp [Act.eval]) (by simp [Act.eval]) (HGK.out.row.below hbc) (HBL.out _ hbc) hcl8 ?_; intro v1 w3 ho3 hg3; obtain ⟨c93, f93, hG3⟩ := HAP.out wc w3 hbc hxc v1 ho3 hg3; obtain ⟨x1, rfl, -, -⟩ := ho3.reads)
        | (go_simp; go_at_call 122; refine HXK.out.mono ?_; rintro e wc ⟨rfl, hxd, hbd⟩; have hbc : Below wr.heap.size wr wc := below_then (below_drew (Below.refl _ _)) (Nat.le_refl _) hbd; have hxc : XrS wc wr.heap.size (colX (col l k)) := hxd; have hgc := HGL.out wc hbc; clear hxd hbd))
      all_goals (
        have HG3 := Lib.hid hG3
        clear c93 f93 hG3 ho3 hg3 hxc hbc hgc c9 hb0 hvk
        go_wp2
        go_roundw
        case rel => exact ⟨k + 1, _, _, by omega, by go_num, HG3.out, by rw [List.length_append, HCL2.out]; rfl⟩
        case measure => simp [intOf]; omega)
    · obtain rfl : k = N := by omega
      have hg2' := HG2.out
      have hgt2' := HGT2.out
      have z02 := X02.out.size
      have z23 := X23.out.size
      have z34 := X34.out.size
      have z45 := X45.out.size
      have z56 := HB6.out.size
      have hT := T4.out.lt
      have hWo := W3'.out.old
      have hAlt : ∀ ad, A1 = some ad → 0 < q.pos.length → w.heap.size ≤ ad.block ∧ ad.block < w2.heap.size := fun ad hA hp => ⟨Nat.le_trans (by show w.heap.size ≤ _; simp) (OA.out ad hA hp), rd_lt R2.out.pos.rd ad hA hp⟩
      have hBlt : ∀ ad, B1 = some ad → 0 < q.neg.length → w.heap.size ≤ ad.block ∧ ad.block < w2.heap.size := fun ad hA hp => ⟨Nat.le_trans (by show w.heap.size ≤ _; simp) (OB.out ad hA hp), rd_lt R2.out.neg.rd ad hA hp⟩
      have hno : ∀ b, b < w2.heap.size → ¬ Sw2 b ∧ b ≠ g2 ∧ b ≠ gt2 := fun b h2 => ⟨fun hs => by have := S3.out b hs; omega, by omega, by omega⟩
      have b46 := below_then X45.out X45.out.size HB6.out
      have b36 := below_then X34.out X34.out.size b46
      have b26 := below_then X23.out X23.out.size b36
      have hf6 := fh_lt F5.out
      have hon5 : OnH (fun k => w4.heap.size ≤ k ∧ k < w5.heap.size) s.h r5 := ⟨fun ad h1 h2 => ⟨O5.out.pos ad h1 h2, hf6.pos ad h1 h2⟩, fun ad h1 h2 => ⟨O5.out.neg ad h1 h2, hf6.neg ad h1 h2⟩, fun ad h1 h2 => ⟨O5.out.pc ad h1 h2, hf6.pc ad h1 h2⟩, fun ad h1 h2 => ⟨O5.out.nc ad h1 h2, hf6.nc ad h1 h2⟩⟩
      have hGF := hG
      rw [HSX.out] at hGF hon5
      have hf5 := F5.out
      rw [HSX.out] at hf5
      have HDN := Lib.hid (Gk.doneL (w := w) hGF hgl6 (by omega) HOK.out (hcl.trans HNN.out) (R2.out.below b26) (fun ad hA hp => (hAlt ad hA hp).1) (fun ad hA hp => (hBlt ad hA hp).1)
        (W3'.out.below b36) (fun k hk => Nat.le_trans z02 (S3.out k hk)) (T4.out.below b46) (hf5.below HB6.out) (hon5.mono fun k hk => by omega) HN64.out HGOOD.out (by omega) (fun hs => by have := hWo _ hs; omega) (by omega) (fun hs => by have := hWo _ hs; omega)
        (fun ad hA hp => hno _ (hAlt ad hA hp).2) (fun ad hA hp => hno _ (hBlt ad hA hp).2) (hon5.mono fun k hk => ⟨fun hs => by have := hWo _ hs; omega, by omega, by omega⟩))
      have HBB := Lib.hid (B6.out.trans (hG.ch.below_of B6.out.size fun k hk => by omega))
      clear hG hcl hg2' hgt2' z02 z23 z34 z45 z56 hT hWo hAlt hBlt hno b46 b36 b26 hf6 hon5 hGF hf5
      go_wp2
      go_ret
      obtain ⟨S, hk1, hk2⟩ := HDN.out
      exact ⟨g2, S, rfl, hk1, hk2, HBB.out⟩
end Go.Proofs.YtjfekjbmgckkcaaGreatDoor.FcJ
namespace Go.Proofs.YtjfekjbmgckkcaaGreatDoor.FchunkCopies
open Go.RowKit Go.Proofs.YtjfekjbmgckkcaaGreatDoorW.PrintWords
open Go.Proofs.YtjfekjbmgckkcaaGreatDoor.Bits Go.Proofs.YtjfekjbmgckkcaaGreatDoor.Base Go.Proofs.YtjfekjbmgckkcaaGreatDoor.VarPure Go.Proofs.YtjfekjbmgckkcaaGreatDoor.VarbitA Go.Proofs.YtjfekjbmgckkcaaGreatDoor.VarKit Go.Proofs.YtjfekjbmgckkcaaGreatDoor.StreamA Go.Proofs.YtjfekjbmgckkcaaGreatDoor.SpanPure Go.Proofs.YtjfekjbmgckkcaaGreatDoor.SpanBase Go.Proofs.YtjfekjbmgckkcaaGreatDoor.FailAs Go.Proofs.YtjfekjbmgckkcaaGreatDoor.FailB Go.Proofs.YtjfekjbmgckkcaaGreatDoor.FailC Go.Proofs.YtjfekjbmgckkcaaGreatDoor.HeadA Go.Proofs.YtjfekjbmgckkcaaGreatDoor.HeadB Go.Proofs.YtjfekjbmgckkcaaGreatDoor.HeadC Go.Proofs.YtjfekjbmgckkcaaGreatDoor.HeadE Go.Proofs.YtjfekjbmgckkcaaGreatDoor.HeadPure Go.Proofs.YtjfekjbmgckkcaaGreatDoor.Ref01 Go.Proofs.YtjfekjbmgckkcaaGreatDoor.Ref12 Go.Proofs.YtjfekjbmgckkcaaGreatDoor.Ref13 Go.Proofs.YtjfekjbmgckkcaaGreatDoor.TimesPure Go.Proofs.YtjfekjbmgckkcaaGreatDoor.TimesA Go.Proofs.YtjfekjbmgckkcaaGreatDoor.XorPure Go.Proofs.YtjfekjbmgckkcaaGreatDoor.XorA Go.Proofs.YtjfekjbmgckkcaaGreatDoor.XorB Go.Proofs.YtjfekjbmgckkcaaGreatDoor.FcPure Go.Proofs.YtjfekjbmgckkcaaGreatDoor.FcObj Go.Proofs.YtjfekjbmgckkcaaGreatDoor.FsArg Go.Proofs.YtjfekjbmgckkcaaGreatDoor.FcA Go.Proofs.YtjfekjbmgckkcaaGreatDoor.FcB Go.Proofs.YtjfekjbmgckkcaaGreatDoor.FcC Go.Proofs.YtjfekjbmgckkcaaGreatDoor.FcD Go.Proofs.YtjfekjbmgckkcaaGreatDoor.FcF Go.Proofs.YtjfekjbmgckkcaaGreatDoor.FcG Go.Proofs.YtjfekjbmgckkcaaGreatDoor.FcH Go.Proofs.YtjfekjbmgckkcaaGreatDoor.FcI Go.Proofs.YtjfekjbmgckkcaaGreatDoor.HdArg Go.Proofs.YtjfekjbmgckkcaaGreatDoor.Law14A Go.Proofs.YtjfekjbmgckkcaaGreatDoor.Law18A Go.Proofs.YtjfekjbmgckkcaaGreatDoor.Law18C Go.Proofs.YtjfekjbmgckkcaaGreatDoor.Law18D Go.Proofs.YtjfekjbmgckkcaaGreatDoor.Law18E Go.Proofs.YtjfekjbmgckkcaaGreatDoor.Law18F Go.Proofs.YtjfekjbmgckkcaaGreatDoor.Law18H Go.Proofs.YtjfekjbmgckkcaaGreatDoor.Law18L Go.Proofs.YtjfekjbmgckkcaaGreatDoor.Ref14A Go.Proofs.YtjfekjbmgckkcaaGreatDoor.Ref18A Go.Proofs.YtjfekjbmgckkcaaGreatDoor.HeadLaid Go.Proofs.YtjfekjbmgckkcaaGreatDoor.FchunkAppends
theorem infoFs : (Tryz.prog.info? 74).map (fun i => (i.zero, i.size, i.bytes)) = some (some (.agg #[.int .i64 0, .int .i64 0, .int .u64 0, .int .u64 0, .int .u64 0, .int .u64 0, .slice none 0 0, .slice none 0 0, .slice none 0 0, .slice none 0 0]), 10, 144) := by kernel_rfl
theorem ck_fh {w W : World} {s : FH} {p : Lh} {S : Nat → Prop} {B : Nat} (h : FhIn w s p) (ho : OnH (fun k => k < B) s p) (hc : Ch S w W) (hs : ∀ j, S j → B ≤ j) : FhIn W s p :=
  h.ch hc ho fun k hk hh => by have := hs k hh; omega
theorem Ak.other {q : Hd} {g : Nat} {w W W2 : World} {v : Value} {l : List FS} {xs : List FsX} {S S' : Nat → Prop} (h : Ak q g w W v l xs S) (ho : Ak q g w W v l xs S → ∀ b, v.ownBlock = some b → ¬ S' b) (hel : ∀ x ∈ xs, OnH (fun k => ¬ S' k) (fsOf x).h (lhOf x.2)) (hd : ∀ k, S k → ¬ S' k) (hc : Ch S' W W2) (hs' : ∀ j, S' j → w.heap.size ≤ j) : Ak q g w W2 v l xs S :=
  ⟨h.b.trans (hc.below_of h.b.size hs'), h.ck.ch hc hd, h.hs, h.ow.move fun b hb => hc.block b (h.ow.lt_ b hb) (ho h b hb), h.os, fun x hx => by
    obtain ⟨e1, e2, e3, e4⟩ := h.el x hx
    exact ⟨e1, e2.ch hc (hel x hx) fun k hk => hk, e3, e4⟩, h.nil⟩
theorem Ak.aside {q : Hd} {g g' : Nat} {w W W2 : World} {v : Value} {l l' : List FS} {xs : List FsX} {S S' : Nat → Prop} (h : Ak q g w W v l xs S) (h' : Ak q g' w W v l' xs S') (hd : ∀ k, S k → ¬ S' k) (hc : Ch S' W W2) : Ak q g w W2 v l xs S :=
  Ak.other h (fun _ b hb => h'.os b hb) (fun x hx => (h'.el x hx).2.2.2.mono fun _ hk => hk.1) hd hc h'.hs
theorem Ak.new {q : Hd} {g g' : Nat} {w W W2 : World} {v : Value} {l l' : List FS} {xs : List FsX} {S S' : Nat → Prop} (h : Ak q g w W v l xs S) (hb : Below W.heap.size W W2) (hk : Ck W2 g' S' q l') (hs : ∀ k, S' k → W.heap.size ≤ k) : Ak q g' w W2 v l' xs S' := by
  have h2 := h.below hb
  refine ⟨h2.b, hk, fun j hj => Nat.le_trans h.b.size (hs j hj), h2.ow, fun b hb' hh => ?_, fun x hx => ?_, h.nil⟩
  · have := h.ow.lt_ b hb'
    have := hs b hh
    omega
  · obtain ⟨e1, e2, e3, e4⟩ := h2.el x hx
    obtain ⟨-, f2, -, -⟩ := h.el x hx
    exact ⟨e1, e2, e3, (OnH.and e4 (fh_lt f2)).mono fun k ⟨⟨_, a2⟩, a3⟩ => ⟨fun hh => by have := hs k hh; omega, a2⟩⟩
theorem FsR.drop {w : World} {X : Option Addr} {cx : Nat} {xs : List FsX} (h : FsR w X xs) (t : Nat) (ht : t ≤ xs.length) (hc : xs.length ≤ cx) : FsR w (if cx = t then X else X.map (·.add (t * 10))) (xs.drop t) := by
  refine ⟨fun hp => ?_, fun x hx => h.ok x (List.mem_of_mem_drop hx)⟩
  have hlen : 0 < (xs.drop t).length := by
    rw [Rep.all_length] at hp
    exact Nat.pos_of_mul_pos_right hp
  rw [List.length_drop] at hlen
  obtain ⟨ad, hA, hj⟩ := h.rd (by rw [Rep.all_length]; exact Nat.mul_pos (by omega) (by decide))
  rw [if_neg (by omega), hA]
  refine ⟨ad.add (t * 10), rfl, fun j u hu => ?_⟩
  have hu2 : (Rep.all rFs xs)[t * 10 + j]? = some u := by
    conv => lhs; rw [← List.take_append_drop t xs, Rep.all_append]
    have e : (Rep.all rFs (xs.take t)).length = t * 10 := by rw [Rep.all_length, List.length_take, Nat.min_eq_left ht]; rfl
    rw [List.getElem?_append_right (by rw [e]; omega), e, Nat.add_sub_cancel_left]
    exact hu
  have := hj _ _ hu2
  rwa [← SpanBase.add_add] at this
set_option maxRecDepth 100000 in
set_option maxHeartbeats 12800000 in
theorem core (q : Hd) (p : Lc) (X : Option Addr) (cx : Nat) (xs0 : List FsX) (a : Int) (w : World) (hT : Tab w) (hE : GlE w) (hZ : Tz w) (hd : HdRd w q p) (hin : q.pos.length ≤ 400 → q.neg.length ≤ 400 → HdIn w q p) (hr : FsR w X xs0) (hcx : xs0.length ≤ cx) (hm : cx ≤ 9223372036854775807) (ha : -9223372036854775808 ≤ a ∧ a ≤ 9223372036854775807) :
    Calls Tryz.prog 8 #[.agg (hcs q p).toArray, .slice X xs0.length cx, .int .i64 a] w fun e w' => e = .returned (.bool true) ∧ Below w.heap.size w w' := by
  obtain ⟨vr, hint, schema, zt, pos, neg⟩ := q
  obtain ⟨A, c, B, d⟩ := p
  simp only at hin
  obtain ⟨W0, hW0, hbk, hal⟩ : ∃ W : World, W = w.alloc (.cells #[.int .i64 vr, .int .i64 hint, .int .i64 schema, .int .u64 zt, .slice A pos.length c, .slice B neg.length d] 25) ∧ W.heap[w.heap.size]? = some (.cells #[.int .i64 vr, .int .i64 hint, .int .i64 schema, .int .u64 zt, .slice A pos.length c, .slice B neg.length d] 25 (0, 0)) ∧ Below w.heap.size w W := ⟨_, rfl, blk_last w _, below_alloc (Below.refl _ _) _⟩
  have HCEL : Hid (∀ W : World, Below W0.heap.size W0 W → (W.cell? ⟨w.heap.size, 0, none⟩ = some (.int .i64 vr) ∧ W.cell? ⟨w.heap.size, 1, none⟩ = some (.int .i64 hint) ∧ W.cell? ⟨w.heap.size, 2, none⟩ = some (.int .i64 schema) ∧ W.cell? ⟨w.heap.size, 3, none⟩ = some (.int .u64 zt) ∧ W.cell? ⟨w.heap.size, 4, none⟩ = some (.slice A pos.length c) ∧ W.cell? ⟨w.heap.size, 5, none⟩ = some (.slice B neg.length d))) := Lib.hid (fun W h => by
    have hb := (h.block _ (blk_lt hbk)).trans hbk
    exact ⟨obj_cell hb rfl, obj_cell hb rfl, obj_cell hb rfl, obj_cell hb rfl, obj_cell hb rfl, obj_cell hb rfl⟩)
  have HEND := Lib.hid (fun W (hb : Below W0.heap.size W0 W) => below_then hal hal.size hb)
  have HSM := Lib.hid (small_calls ⟨vr, hint, schema, zt, pos, neg⟩ ⟨A, c, B, d⟩ X cx xs0 W0 (hd.below hal) (hr.below hal) (by omega))
  have HAW := Lib.hid (fun W (hb : Below w.heap.size w W) => Law18C.awake_calls W (hT.below hb) (gle_below hE hb) (hZ.below hb))
  have HTE := Lib.hid (fun W (hb : Below w.heap.size w W) => (⟨hT.below hb, gle_below hE hb, hZ.below hb⟩ : Tab W ∧ GlE W ∧ Tz W))
  have HGB := Lib.hid (Nat.lt_of_lt_of_le hT.lt hal.size)
  have HGD := Lib.hid (Nat.lt_of_lt_of_le hZ.lt hal.size)
  have HW0 := Lib.hid hW0
  have HIN := Lib.hid hin
  have HR := Lib.hid (fun W (hb : Below W0.heap.size W0 W) => hr.below (below_then hal hal.size hb))
  have HHI := Lib.hid (fun (hI : HdIn w ⟨vr, hint, schema, zt, pos, neg⟩ ⟨A, c, B, d⟩) W (hb : Below W0.heap.size W0 W) => hI.below (below_then hal hal.size hb))
  obtain ⟨n, hn⟩ : ∃ n, n = xs0.length := ⟨_, rfl⟩
  have HN := Lib.hid hn
  rw [← hn] at HSM hcx ⊢
  obtain ⟨k0, k1, k2, k3, k4, k5⟩ := HCEL.out _ (Below.refl _ _)
  clear hd hbk hal hW0 hT hE hZ hin hr hn
  show Calls Tryz.prog 8 #[.agg #[.int .i64 vr, .int .i64 hint, .int .i64 schema, .int .u64 zt, .slice A pos.length c, .slice B neg.length d], .slice X n cx, .int .i64 a] w _
  by_cases ha0 : a < 0
  · have d1 : decide (a < 0) = true := by simpa using ha0
    clear ha0 HIN HR HHI HGB HGD HTE
    go_enter Tryz.func8, Tryz.ntmps8
    go_wp2_with (fail)
    rw [← HW0.out]
    refine HSM.out.mono ?_
    rintro e w1 ⟨⟨b, rfl, -⟩, hb⟩
    have B1 := Lib.hid hb
    clear hb HSM k0 k1 k2 k3 k4 k5
    cases b with
    | false =>
      go_wp2_with (fail)
      refine (HAW.out _ (HEND.out _ B1.out)).mono ?_
      rintro e wa ⟨rfl, hb⟩
      have BA := Lib.hid (below_then (HEND.out _ B1.out) (HEND.out _ B1.out).size hb)
      clear hb
      go_wp2
      go_ret
      exact ⟨rfl, BA.out⟩
    | true =>
      go_wp2_with (fail)
      refine (HAW.out _ (HEND.out _ B1.out)).mono ?_
      rintro e wa ⟨rfl, hb⟩
      have BA := Lib.hid (below_then (HEND.out _ B1.out) (HEND.out _ B1.out).size hb)
      clear hb
      go_wp2
      go_ret
      exact ⟨rfl, BA.out⟩
  have d1 : decide (a < 0) = false := by simp; omega
  obtain ⟨t, rfl⟩ := Int.eq_ofNat_of_zero_le (show 0 ≤ a by omega)
  by_cases han : n < t
  · have d2 : decide ((t : Int) > (n : Int)) = true := by simp; omega
    have d2' : decide ((n : Int) < (t : Int)) = true := by simp; omega
    have d2n : decide (n < t) = true := by simp; omega
    clear ha0 han HIN HR HHI HGB HGD HTE
    go_enter Tryz.func8, Tryz.ntmps8
    go_wp2_with (fail)
    rw [← HW0.out]
    refine HSM.out.mono ?_
    rintro e w1 ⟨⟨b, rfl, -⟩, hb⟩
    have B1 := Lib.hid hb
    clear hb HSM k0 k1 k2 k3 k4 k5
    cases b with
    | false =>
      go_wp2_with (fail)
      refine (HAW.out _ (HEND.out _ B1.out)).mono ?_
      rintro e wa ⟨rfl, hb⟩
      have BA := Lib.hid (below_then (HEND.out _ B1.out) (HEND.out _ B1.out).size hb)
      clear hb
      go_wp2
      go_ret
      exact ⟨rfl, BA.out⟩
    | true =>
      go_wp2_with (fail)
      refine (HAW.out _ (HEND.out _ B1.out)).mono ?_
      rintro e wa ⟨rfl, hb⟩
      have BA := Lib.hid (below_then (HEND.out _ B1.out) (HEND.out _ B1.out).size hb)
      clear hb
      go_wp2
      go_ret
      exact ⟨rfl, BA.out⟩
  have htn : t ≤ n := by omega
  have d2 : decide ((t : Int) > (n : Int)) = false := by simp; omega
  have d2' : decide ((n : Int) < (t : Int)) = false := by simp; omega
  have d2n : decide (n < t) = false := by simp; omega
  clear ha ha0 han
  go_enter Tryz.func8, Tryz.ntmps8
  go_wp2_with (fail)
  rw [← HW0.out]
  refine HSM.out.mono ?_
  rintro e w1 ⟨⟨b, rfl, hsm⟩, hb⟩
  have B1 := Lib.hid hb
  have HSS := Lib.hid hsm
  clear hb HSM hsm k0 k1 k2 k3 k4 k5
  cases b with
  | false =>
    go_wp2_with (fail)
    refine (HAW.out _ (HEND.out _ B1.out)).mono ?_
    rintro e wa ⟨rfl, hb⟩
    have BA := Lib.hid (below_then (HEND.out _ B1.out) (HEND.out _ B1.out).size hb)
    clear hb
    go_wp2
    go_ret
    exact ⟨rfl, BA.out⟩
  | true =>
  have HS := Lib.hid (HSS.out rfl)
  clear HSS
  have hn16 : n ≤ 16 := by rw [HN.out]; exact HS.out.len
  have HI := Lib.hid (HHI.out (HIN.out (few_len HS.out.pos) (few_len HS.out.neg)))
  have HNEW := Lib.hid (new_calls ⟨vr, hint, schema, zt, pos, neg⟩ ⟨A, c, B, d⟩ w1 (HI.out _ B1.out) (HTE.out _ (HEND.out _ B1.out)).2.1 (HTE.out _ (HEND.out _ B1.out)).1)
  have HHD := Lib.hid (fun W (h : Below W0.heap.size W0 W) => Law18B.heads_calls ⟨vr, hint, schema, zt, pos, neg⟩ ⟨A, c, B, d⟩ W (HI.out _ h))
  have hf0 : ∀ (W : World) (x : Int) (y : ByteArray) (z : Int), (Instr.field 37 (.agg #[.int .i64 x, .string y, .int .i64 z]) 0).run Tryz.prog W = .ok (.int .i64 x) W := fun _ _ _ _ => by kernel_rfl
  obtain ⟨k0, k1, k2, k3, k4, k5⟩ := HCEL.out _ B1.out
  go_wp2_with (fail)
  refine HNEW.out.mono ?_
  rintro e w2 ⟨hb2, hcase⟩
  have B2 := Lib.hid (below_then B1.out B1.out.size hb2)
  clear hb2 HNEW k0 k1 k2 k3 k4 k5
  rcases hcase with ⟨h0, v, rfl, he⟩ | ⟨h0, hv, v, rfl, he⟩ | ⟨h0, hv, g, S, rfl, hk, hS⟩
  · obtain ⟨ge, rfl⟩ := err_some (by omega) he
    obtain ⟨ec, hec⟩ : ∃ k, k = (headErr ⟨vr, hint, schema, zt, pos, neg⟩).1 := ⟨_, rfl⟩
    have d0 : ((ec : Int) != 0) = true := by rw [hec]; simp; omega
    have HEC := Lib.hid hec
    have H0 := Lib.hid h0
    clear he h0 hec
    have HRE := Lib.hid (HHD.out _ B2.out)
    obtain ⟨k0, k1, k2, k3, k4, k5⟩ := HCEL.out _ B2.out
    go_wp2_with (fail)
    refine HRE.out.mono ?_
    rintro e w3 ⟨⟨qa, qc, qb, qd⟩, rfl, hq, hb⟩
    have B3 := Lib.hid (below_then B2.out B2.out.size hb)
    have HC := Lib.hid (Check14_calls ⟨vr, hint, schema, zt, pos, neg⟩ ⟨qa, qc, qb, qd⟩ w3 hq)
    clear hq hb HRE k0 k1 k2 k3 k4 k5
    dsimp only [hcs]
    go_wp2_with (fail)
    refine HC.out.mono ?_
    rintro e w4 ⟨rfl, hb⟩
    have B4 := Lib.hid (below_then B3.out B3.out.size hb)
    clear hb HC
    rw [show Ref14A.wr (headErr ⟨vr, hint, schema, zt, pos, neg⟩).1 (headErr ⟨vr, hint, schema, zt, pos, neg⟩).2 0 = .agg #[.int .i64 (headErr ⟨vr, hint, schema, zt, pos, neg⟩).1, .string (headErr ⟨vr, hint, schema, zt, pos, neg⟩).2, .int .i64 (0 : Nat)] from if_neg H0.out, ← HEC.out]
    go_wp2_with (fail)
    refine (HAW.out _ (HEND.out _ B4.out)).mono ?_
    rintro e wa ⟨rfl, hb⟩
    have BA := Lib.hid (below_then (HEND.out _ B4.out) (HEND.out _ B4.out).size hb)
    clear hb
    go_wp2
    go_ret
    exact ⟨rfl, BA.out⟩
  · obtain ⟨ge, rfl⟩ := err_some (by decide) he
    have e1 : (vr != 1) = true := by simpa using hv
    have H0 := Lib.hid h0
    clear he h0 hv
    have HRE := Lib.hid (HHD.out _ B2.out)
    obtain ⟨k0, k1, k2, k3, k4, k5⟩ := HCEL.out _ B2.out
    go_wp2_with (fail)
    refine HRE.out.mono ?_
    rintro e w3 ⟨⟨qa, qc, qb, qd⟩, rfl, hq, hb⟩
    have B3 := Lib.hid (below_then B2.out B2.out.size hb)
    have HC := Lib.hid (Check14_calls ⟨vr, hint, schema, zt, pos, neg⟩ ⟨qa, qc, qb, qd⟩ w3 hq)
    clear hq hb HRE k0 k1 k2 k3 k4 k5
    dsimp only [hcs]
    go_wp2_with (fail)
    refine HC.out.mono ?_
    rintro e w4 ⟨rfl, hb⟩
    have B4 := Lib.hid (below_then B3.out B3.out.size hb)
    clear hb HC
    rw [H0.out, show Ref14A.wr 0 (headErr ⟨vr, hint, schema, zt, pos, neg⟩).2 0 = .agg #[.int .i64 0, .string ⟨#[]⟩, .int .i64 0] from rfl]
    obtain ⟨k0, k1, k2, k3, k4, k5⟩ := HCEL.out _ B4.out
    go_wp2_with (fail)
    refine (HAW.out _ (HEND.out _ B4.out)).mono ?_
    rintro e wa ⟨rfl, hb⟩
    have BA := Lib.hid (below_then (HEND.out _ B4.out) (HEND.out _ B4.out).size hb)
    clear hb
    go_wp2
    go_ret
    exact ⟨rfl, BA.out⟩
  have H0 := Lib.hid h0
  have A2 : Hid (Ak ⟨vr, hint, schema, zt, pos, neg⟩ g W0 w2 (.slice none 0 0) [] [] S) := Lib.hid ⟨B2.out, hk, fun j hj => Nat.le_trans B1.out.size (hS j hj), Rep.OwX.nil _ _ _ _, fun b hb => (by cases hb), fun x hx => (by cases hx), fun _ => rfl⟩
  obtain ⟨i0, hi0, hz0, hz1, hz2⟩ := info_parts infoFs
  have hcut1 : ∀ W, (Instr.slice 68 (.slice X n cx) none (some (.int .i64 t)) none).run Tryz.prog W = .ok (.slice X t cx) W := fun W => by
    have := cut_to (P := Tryz.prog) 68 74 .i64 Tryz.underlying68 hi0 X n cx (t : Int) (by omega) (by omega) hcx W
    rwa [Int.toNat_natCast] at this
  obtain ⟨m, hmn⟩ : ∃ m, m = n - t := ⟨_, rfl⟩
  obtain ⟨cm, hcm⟩ : ∃ m, m = cx - t := ⟨_, rfl⟩
  have hmc : m ≤ cm := by omega
  have hmb : t + m = n := by omega
  obtain ⟨Y, hY⟩ : ∃ Y, Y = (if cx = t then X else X.map (·.add (t * 10))) := ⟨_, rfl⟩
  have hcut2 : ∀ W, (Instr.slice 68 (.slice X n cx) (some (.int .i64 t)) none none).run Tryz.prog W = .ok (.slice Y m cm) W := fun W => by
    have := cut_from (P := Tryz.prog) 68 74 .i64 Tryz.underlying68 hi0 10 hz1 X n cx (t : Int) (by omega) (by omega) W
    rwa [Int.toNat_natCast, ← hY, ← hmn, ← hcm] at this
  have HRY := Lib.hid (fun W (hb : Below W0.heap.size W0 W) => FsR.drop (cx := cx) (HR.out W hb) t (by rw [← HN.out]; exact htn) (by rw [← HN.out]; exact hcx))
  rw [← hY] at HRY
  have HC2 := Lib.hid hcut2
  clear hk hS h0 hv hi0 hz0 hz1 hz2 hY hcut2 hmn hcm
  go_wp2_with (fail)
  go_loopw [9, 11, 61] (fun v _ i wr => ∃ (k : Nat) (xs : List FsX) (S : Nat → Prop), k ≤ t ∧ i = .int .i64 k ∧ Hid (Ak ⟨vr, hint, schema, zt, pos, neg⟩ g W0 wr v (xs.map fsOf) xs S) ∧ Hid (xs.length ≤ k)) (fun _ _ i _ => t - (intOf i).toNat)
  case atStart => exact ⟨0, [], S, by omega, rfl, A2, Lib.hid (Nat.zero_le _)⟩
  case round =>
    clear A2
    obtain ⟨k, xs, S2, hk, rfl, AK, HXK⟩ := hrel
    by_cases hlt : k < t
    · have hkx : k < xs0.length := by rw [← HN.out]; omega
      obtain ⟨XA, xc, rfl, hFL, hxc1, hxc2⟩ := AK.out.fsl (by have := HXK.out; omega)
      clear hFL hxc1 hxc2
      obtain ⟨x0, hx0⟩ : ∃ x, x = xs0[k] := ⟨_, rfl⟩
      obtain ⟨ad, hA, c0, c1, c2, c3, c4, c5, c6, c7, c8, c9⟩ := (HR.out _ AK.out.b).row k hkx
      have hok := (HR.out _ AK.out.b).ok _ (List.getElem_mem hkx)
      have hok0 := (HR.out _ (Below.refl _ _)).ok _ (List.getElem_mem hkx)
      have hsm := HS.out.all _ (List.getElem_mem hkx)
      rw [← hx0] at c0 c1 c2 c3 c4 c5 c6 c7 c8 c9 hok hok0 hsm
      subst hA
      have hfs := fh_in hok.2 hsm.short
      have hon := fh_lt (fh_in hok0.2 hsm.short)
      have h64 := fs64 hok hsm.short
      have HX0 := Lib.hid hok
      obtain ⟨s, hs⟩ : ∃ s, s = fsOf x0 := ⟨_, rfl⟩
      obtain ⟨r, hrr⟩ : ∃ r, r = lhOf x0.2 := ⟨_, rfl⟩
      have hfs : FhIn wr s.h r := by rw [hs, hrr]; exact hfs
      have hon : OnH (fun k => k < W0.heap.size) s.h r := by rw [hs, hrr]; exact hon
      rw [← hs] at c0 c1 c2 c3 c4 c5 c6 c7 c8 c9 h64
      rw [← hrr] at c6 c7 c8 c9
      have HSX := Lib.hid hs
      have HRX := Lib.hid hrr
      obtain ⟨W1, hW1, hbk, hal⟩ : ∃ W : World, W = wr.alloc (.cells #[.int .i64 s.t, .int .i64 s.h.schema, .int .u64 s.h.zero, .int .u64 s.h.zc, .int .u64 s.h.cnt, .int .u64 s.h.sum, .slice r.A s.h.pos.length r.c, .slice r.B s.h.neg.length r.d, .slice r.C s.h.pc.length r.cc, .slice r.D s.h.nc.length r.dd] 74) ∧ W.heap[wr.heap.size]? = some (.cells #[.int .i64 s.t, .int .i64 s.h.schema, .int .u64 s.h.zero, .int .u64 s.h.zc, .int .u64 s.h.cnt, .int .u64 s.h.sum, .slice r.A s.h.pos.length r.c, .slice r.B s.h.neg.length r.d, .slice r.C s.h.pc.length r.cc, .slice r.D s.h.nc.length r.dd] 74 (0, 0)) ∧ Below wr.heap.size wr W := ⟨_, rfl, blk_last wr _, below_alloc (Below.refl _ _) _⟩
      have HCS : Hid (∀ W : World, Below W1.heap.size W1 W → (W.cell? ⟨wr.heap.size, 0, none⟩ = some (.int .i64 s.t) ∧ W.cell? ⟨wr.heap.size, 1, none⟩ = some (.int .i64 s.h.schema) ∧ W.cell? ⟨wr.heap.size, 2, none⟩ = some (.int .u64 s.h.zero) ∧ W.cell? ⟨wr.heap.size, 3, none⟩ = some (.int .u64 s.h.zc) ∧ W.cell? ⟨wr.heap.size, 4, none⟩ = some (.int .u64 s.h.cnt) ∧ W.cell? ⟨wr.heap.size, 5, none⟩ = some (.int .u64 s.h.sum) ∧ W.cell? ⟨wr.heap.size, 6, none⟩ = some (.slice r.A s.h.pos.length r.c) ∧ W.cell? ⟨wr.heap.size, 7, none⟩ = some (.slice r.B s.h.neg.length r.d) ∧ W.cell? ⟨wr.heap.size, 8, none⟩ = some (.slice r.C s.h.pc.length r.cc) ∧ W.cell? ⟨wr.heap.size, 9, none⟩ = some (.slice r.D s.h.nc.length r.dd))) := Lib.hid (fun W h => by
        have hb := (h.block _ (blk_lt hbk)).trans hbk
        exact ⟨obj_cell hb rfl, obj_cell hb rfl, obj_cell hb rfl, obj_cell hb rfl, obj_cell hb rfl, obj_cell hb rfl, obj_cell hb rfl, obj_cell hb rfl, obj_cell hb rfl, obj_cell hb rfl⟩)
      obtain ⟨l, hl⟩ : ∃ l, l = xs.map fsOf := ⟨_, rfl⟩
      have HLX := Lib.hid hl
      have AK1 := Lib.hid (AK.out.below hal)
      rw [← hl] at AK1
      obtain ⟨x, hF⟩ := AK1.out.ck
      have hln : l.length = xs.length := by rw [hl, List.length_map]
      have hl16 : l.length ≤ 15 := by have := HXK.out; omega
      obtain ⟨hrm, -⟩ := room_of H0.out hF.n64 hF.good (show l.length ≤ 16 by omega)
      have hte := HTE.out _ (HEND.out _ AK1.out.b)
      have HAP : Hid (Calls Tryz.prog 42 #[.pointer (some ⟨g, 0, none⟩), .agg #[.int .i64 s.t, .int .i64 s.h.schema, .int .u64 s.h.zero, .int .u64 s.h.zc, .int .u64 s.h.cnt, .int .u64 s.h.sum, .slice r.A s.h.pos.length r.c, .slice r.B s.h.neg.length r.d, .slice r.C s.h.pc.length r.cc, .slice r.D s.h.nc.length r.dd]] W1 (AppPost g S2 ⟨vr, hint, schema, zt, pos, neg⟩ l s W1)) := Lib.hid (append_calls g S2 ⟨vr, hint, schema, zt, pos, neg⟩ l x s r W1 hF (hfs.below hal) (hon.mono fun j hj hs => by have := AK1.out.hs j hs; omega) h64 hrm hte.2.1 hte.1 hte.2.2
          (fun hc => by have := AK1.out.hs _ hc; have := HGB.out; omega) (fun hc => by have := AK1.out.hs _ hc; have := HGD.out; omega))
      have HFS := Lib.hid (hfs.below hal)
      have HON := Lib.hid hon
      have H64 := Lib.hid h64
      have HW1 := Lib.hid hW1
      have HBK := Lib.hid hbk
      have AK0 := Lib.hid AK.out
      have HLL := Lib.hid hl16
      obtain ⟨s0, s1, s2, s3, s4, s5, s6, s7, s8, s9⟩ := HCS.out _ (Below.refl _ _)
      clear hok hok0 hsm hfs hon h64 hs hrr hbk hal hW1 hl hF hln hl16 hrm hte hx0 AK
      go_wp2_with (fail)
      rw [← HW1.out]
      refine HAP.out.mono ?_
      rintro e w4 hap
      clear HAP c0 c1 c2 c3 c4 c5 c6 c7 c8 c9 s0 s1 s2 s3 s4 s5 s6 s7 s8 s9
      rcases hap with ⟨hw0, ⟨v2, rfl, he2⟩, hb4⟩ | ⟨hw0, rfl, hu⟩
      · obtain ⟨ge2, rfl⟩ := err_some (by omega) he2
        have AK4 := Lib.hid (AK1.out.below hb4)
        rw [HLX.out] at AK4
        have HXL : Hid (xs.length ≤ k + 1) := Lib.hid (by have := HXK.out; omega)
        clear hw0 he2 hb4
        go_wp2
        go_roundw
        case rel => exact ⟨k + 1, xs, S2, by omega, by go_num, AK4, HXL⟩
        case measure => simp [intOf]; omega
      · obtain ⟨S4, ak4, hch, hS4⟩ := AK1.out.turn hu
        have AK8 := Lib.hid ak4
        have HBW : Hid (∀ W, Below w4.heap.size w4 W → W.heap[wr.heap.size]? = some (.cells #[.int .i64 s.t, .int .i64 s.h.schema, .int .u64 s.h.zero, .int .u64 s.h.zc, .int .u64 s.h.cnt, .int .u64 s.h.sum, .slice r.A s.h.pos.length r.c, .slice r.B s.h.neg.length r.d, .slice r.C s.h.pc.length r.cc, .slice r.D s.h.nc.length r.dd] 74 (0, 0))) := Lib.hid (fun W hb => by
          have hb4 := hch.blk HBK.out (fun hs => by have := AK0.out.ck.old _ hs; omega)
          exact (hb.block _ (blk_lt hb4)).trans hb4)
        obtain ⟨s0, s1, s2, s3, s4, s5, s6, s7, s8, s9⟩ : w4.cell? ⟨wr.heap.size, 0, none⟩ = some (.int .i64 s.t) ∧ w4.cell? ⟨wr.heap.size, 1, none⟩ = some (.int .i64 s.h.schema) ∧ w4.cell? ⟨wr.heap.size, 2, none⟩ = some (.int .u64 s.h.zero) ∧ w4.cell? ⟨wr.heap.size, 3, none⟩ = some (.int .u64 s.h.zc) ∧ w4.cell? ⟨wr.heap.size, 4, none⟩ = some (.int .u64 s.h.cnt) ∧ w4.cell? ⟨wr.heap.size, 5, none⟩ = some (.int .u64 s.h.sum) ∧ w4.cell? ⟨wr.heap.size, 6, none⟩ = some (.slice r.A s.h.pos.length r.c) ∧ w4.cell? ⟨wr.heap.size, 7, none⟩ = some (.slice r.B s.h.neg.length r.d) ∧ w4.cell? ⟨wr.heap.size, 8, none⟩ = some (.slice r.C s.h.pc.length r.cc) ∧ w4.cell? ⟨wr.heap.size, 9, none⟩ = some (.slice r.D s.h.nc.length r.dd) := by
          have hb := HBW.out w4 (Below.refl _ _)
          exact ⟨obj_cell hb rfl, obj_cell hb rfl, obj_cell hb rfl, obj_cell hb rfl, obj_cell hb rfl, obj_cell hb rfl, obj_cell hb rfl, obj_cell hb rfl, obj_cell hb rfl, obj_cell hb rfl⟩
        have HFS8 : Hid (FhIn w4 s.h r) := Lib.hid (ck_fh HFS.out HON.out hch fun j hj => AK1.out.hs j hj)
        have HSA8 := Lib.hid (samples_calls s r w4 HFS8.out)
        dsimp only [scs, fcs] at HSA8
        have HW0Z := Lib.hid hw0
        clear hw0 hu ak4 hch hS4 HBW
        go_wp2_with (fail)
        refine HSA8.out.mono ?_
        rintro e w9 ⟨A1, c1, A2, c2, rfl, hf9, hoA, hoB, hb9⟩
        have AK9 := Lib.hid (AK8.out.below hb9)
        have HYE := Lib.hid (mkX_enc HX0.out A1 c1 A2 c2)
        obtain ⟨y, hy⟩ : ∃ y, y = mkX x0 A1 c1 A2 c2 := ⟨_, rfl⟩
        have hys : fsOf y = s := by rw [hy, mkX_fs, HSX.out]
        have hyl : lhOf y.2 = ⟨A1, c1, A2, c2, r.C, r.cc, r.D, r.dd⟩ := by rw [hy, mkX_lh, HRX.out]
        rw [← hy, hys, hyl] at HYE
        have HYS := Lib.hid hys
        have HYL := Lib.hid hyl
        have HF9 := Lib.hid hf9
        have HONY : Hid (OnH (fun k => ¬ S4 k ∧ (Value.slice XA xs.length xc).ownBlock ≠ some k) s.h ⟨A1, c1, A2, c2, r.C, r.cc, r.D, r.dd⟩) := Lib.hid (by
          have hnew : ∀ k, w4.heap.size ≤ k → ¬ S4 k ∧ (Value.slice XA xs.length xc).ownBlock ≠ some k := fun k hk => ⟨fun hs => by have := AK8.out.ck.old k hs; omega, fun hs => by have := AK8.out.ow.lt_ k hs; omega⟩
          have hold : ∀ k, k < W0.heap.size → ¬ S4 k ∧ (Value.slice XA xs.length xc).ownBlock ≠ some k := fun k hk => ⟨fun hs => by have := AK8.out.hs k hs; omega, fun hs => by have := AK8.out.ow.base_ k hs; omega⟩
          exact ⟨hoA.mono hnew, hoB.mono hnew, HON.out.pc.mono hold, HON.out.nc.mono hold⟩)
        have HB9 := Lib.hid hb9
        have hx10 : xs.length ≤ 15 := by have := HXK.out; omega
        clear hf9 hoA hoB hb9 hy hys hyl HSA8 s0 s1 s2 s3 s4 s5 s6 s7 s8 s9
        go_wp2_with (at_builtin; refine Rep.append_any_at (r := rFs) (w0 := W0) (W := w9) W0.heap.size rfl (.tmp 69) (.tmp 72) 69 82 _ 144 rfl Tryz.underlying69 infoSm rfl (by decide) _ xs y _ (by rw [HYE.out]; rfl) rfl w9.heap.size rfl rfl AK9.out.ow AK9.out.b AK9.out.b.size (by omega) (by omega) ?_; intro v1 w10 ho1 hb1 hg1 hat1)
        have AKP := Lib.hid (AK9.out.push (y := y) (by rw [HYS.out, HYL.out]; exact HYE.out) (by rw [HYS.out, HYL.out]; exact HF9.out) (by rw [HYS.out]; exact H64.out) (by rw [HYS.out, HYL.out]; exact HONY.out) ho1 hb1 hg1 (by
          rcases hat1 with h | h
          · exact .inl h
          · exact .inr ⟨_, h, by omega⟩))
        have HXL : Hid ((xs ++ [y]).length ≤ k + 1) := Lib.hid (by rw [List.length_append, List.length_singleton]; have := HXK.out; omega)
        have HLM : Hid (l ++ [s] = (xs ++ [y]).map fsOf) := Lib.hid (by rw [List.map_append, ← HLX.out, List.map_singleton, HYS.out])
        obtain ⟨xs1, hxs1⟩ : ∃ z, z = xs ++ [y] := ⟨_, rfl⟩
        rw [← hxs1] at AKP HXL HLM
        rw [HLM.out] at AKP
        obtain ⟨XB, xd, rfl, -, -, -⟩ := AKP.out.fsl (by have := HXL.out; omega)
        clear ho1 hb1 hg1 hat1 hxs1
        go_wp2
        go_roundw
        case rel => exact ⟨k + 1, xs1, S4, by omega, by go_num, AKP, HXL⟩
        case measure => simp [intOf]; omega
    · obtain rfl : t = k := by omega
      clear hlt hk
      obtain ⟨XA, xc, rfl, -, -, -⟩ := AK.out.fsl (by have := HXK.out; omega)
      obtain ⟨x, hF⟩ := AK.out.ck
      have hl16 : (xs.map fsOf).length ≤ 16 := by rw [List.length_map]; have := HXK.out; omega
      obtain ⟨-, hcb⟩ := room_of H0.out hF.n64 hF.good hl16
      have HCP := Lib.hid (fun W (hb : Below wr.heap.size wr W) => FcJ.copy_calls g S2 ⟨vr, hint, schema, zt, pos, neg⟩ (xs.map fsOf) x W (hF.below hb) (by omega))
      have hcut2 := HC2.out
      clear hF hl16 hcb
      go_wp2_with (fail)
      refine (HCP.out _ (Below.refl _ _)).mono ?_
      rintro e w3 ⟨gd, Sd, rfl, hkd, hSd, hb3⟩
      have AKC3 := Lib.hid (AK.out.below hb3)
      have AKD3 := Lib.hid (Ak.new AK.out hb3 hkd hSd)
      have X3 := Lib.hid hb3
      have HSD := Lib.hid hSd
      have HOC := Lib.hid AK.out.ck.old
      clear hkd hSd
      go_wp2_with (fail)
      refine (HCP.out _ X3.out).mono ?_
      rintro e w4 ⟨ge, Se, rfl, hke, hSe, hb4⟩
      have AKC4 := Lib.hid (AKC3.out.below hb4)
      have AKD4 := Lib.hid (AKD3.out.below hb4)
      have AKE4 := Lib.hid (Ak.new AKC3.out hb4 hke hSe)
      have HDJ : Hid ((∀ j, S2 j → ¬ Sd j ∧ ¬ Se j) ∧ ∀ j, Sd j → ¬ Se j) := Lib.hid ⟨fun j hj => ⟨fun h => by have := HOC.out j hj; have := HSD.out j h; omega, fun h => by have := HOC.out j hj; have := hSe j h; have := X3.out.size; omega⟩, fun j hj h => by have := AKD3.out.ck.old j hj; have := hSe j h; omega⟩
      clear hke hSe hb3 hb4 HCP AK AKC3 AKD3 X3 HSD HOC
      go_wp2_with (fail)
      go_loopw [15, 16, 17, 89] (fun _ _ _ i wr => ∃ (k : Nat) (l : List FS) (S Sd : Nat → Prop), k ≤ m ∧ i = .int .i64 k ∧ Hid (Ak ⟨vr, hint, schema, zt, pos, neg⟩ g W0 wr (.slice XA xs.length xc) l xs S) ∧ Hid (Ak ⟨vr, hint, schema, zt, pos, neg⟩ gd W0 wr (.slice XA xs.length xc) l xs Sd) ∧ Hid (Ak ⟨vr, hint, schema, zt, pos, neg⟩ ge W0 wr (.slice XA xs.length xc) (xs.map fsOf) xs Se) ∧ Hid ((∀ j, S j → ¬ Sd j ∧ ¬ Se j) ∧ ∀ j, Sd j → ¬ Se j) ∧ Hid (l.length ≤ k + t)) (fun _ _ _ i _ => m - (intOf i).toNat)
      case atStart => exact ⟨0, _, S2, Sd, by omega, rfl, AKC4, AKD4, AKE4, HDJ, Lib.hid (by rw [List.length_map]; have := HXK.out; omega)⟩
      case round =>
        clear AKC4 AKD4 AKE4 HDJ
        obtain ⟨k, l, S, Sd, hk, rfl, AKC, AKD, AKE, HDJ, HLK⟩ := hrel
        by_cases hlt : k < m
        · have hkx : k < (xs0.drop t).length := by rw [List.length_drop, ← HN.out]; omega
          obtain ⟨x0, hx0⟩ : ∃ x, x = (xs0.drop t)[k] := ⟨_, rfl⟩
          obtain ⟨ad, hA, c0, c1, c2, c3, c4, c5, c6, c7, c8, c9⟩ := (HRY.out _ AKC.out.b).row k hkx
          have hok := (HRY.out _ AKC.out.b).ok _ (List.getElem_mem hkx)
          have hok0 := (HRY.out _ (Below.refl _ _)).ok _ (List.getElem_mem hkx)
          have hsm := HS.out.all _ (List.mem_of_mem_drop (List.getElem_mem hkx))
          rw [← hx0] at c0 c1 c2 c3 c4 c5 c6 c7 c8 c9 hok hok0 hsm
          subst hA
          have hfs := fh_in hok.2 hsm.short
          have hon := fh_lt (fh_in hok0.2 hsm.short)
          have h64 := fs64 hok hsm.short
          have HX0 := Lib.hid hok
          obtain ⟨s, hs⟩ : ∃ s, s = fsOf x0 := ⟨_, rfl⟩
          obtain ⟨r, hrr⟩ : ∃ r, r = lhOf x0.2 := ⟨_, rfl⟩
          have hfs : FhIn wr s.h r := by rw [hs, hrr]; exact hfs
          have hon : OnH (fun k => k < W0.heap.size) s.h r := by rw [hs, hrr]; exact hon
          rw [← hs] at c0 c1 c2 c3 c4 c5 c6 c7 c8 c9 h64
          rw [← hrr] at c6 c7 c8 c9
          have HSX := Lib.hid hs
          have HRX := Lib.hid hrr
          obtain ⟨W1, hW1, hbk, hal⟩ : ∃ W : World, W = wr.alloc (.cells #[.int .i64 s.t, .int .i64 s.h.schema, .int .u64 s.h.zero, .int .u64 s.h.zc, .int .u64 s.h.cnt, .int .u64 s.h.sum, .slice r.A s.h.pos.length r.c, .slice r.B s.h.neg.length r.d, .slice r.C s.h.pc.length r.cc, .slice r.D s.h.nc.length r.dd] 74) ∧ W.heap[wr.heap.size]? = some (.cells #[.int .i64 s.t, .int .i64 s.h.schema, .int .u64 s.h.zero, .int .u64 s.h.zc, .int .u64 s.h.cnt, .int .u64 s.h.sum, .slice r.A s.h.pos.length r.c, .slice r.B s.h.neg.length r.d, .slice r.C s.h.pc.length r.cc, .slice r.D s.h.nc.length r.dd] 74 (0, 0)) ∧ Below wr.heap.size wr W := ⟨_, rfl, blk_last wr _, below_alloc (Below.refl _ _) _⟩
          have HCS : Hid (∀ W : World, Below W1.heap.size W1 W → (W.cell? ⟨wr.heap.size, 0, none⟩ = some (.int .i64 s.t) ∧ W.cell? ⟨wr.heap.size, 1, none⟩ = some (.int .i64 s.h.schema) ∧ W.cell? ⟨wr.heap.size, 2, none⟩ = some (.int .u64 s.h.zero) ∧ W.cell? ⟨wr.heap.size, 3, none⟩ = some (.int .u64 s.h.zc) ∧ W.cell? ⟨wr.heap.size, 4, none⟩ = some (.int .u64 s.h.cnt) ∧ W.cell? ⟨wr.heap.size, 5, none⟩ = some (.int .u64 s.h.sum) ∧ W.cell? ⟨wr.heap.size, 6, none⟩ = some (.slice r.A s.h.pos.length r.c) ∧ W.cell? ⟨wr.heap.size, 7, none⟩ = some (.slice r.B s.h.neg.length r.d) ∧ W.cell? ⟨wr.heap.size, 8, none⟩ = some (.slice r.C s.h.pc.length r.cc) ∧ W.cell? ⟨wr.heap.size, 9, none⟩ = some (.slice r.D s.h.nc.length r.dd))) := Lib.hid (fun W h => by
            have hb := (h.block _ (blk_lt hbk)).trans hbk
            exact ⟨obj_cell hb rfl, obj_cell hb rfl, obj_cell hb rfl, obj_cell hb rfl, obj_cell hb rfl, obj_cell hb rfl, obj_cell hb rfl, obj_cell hb rfl, obj_cell hb rfl, obj_cell hb rfl⟩)
          have HFS := Lib.hid (hfs.below hal)
          have HON := Lib.hid hon
          have H64 := Lib.hid h64
          have HW1 := Lib.hid hW1
          have HBK := Lib.hid hbk
          have AKC1 := Lib.hid (AKC.out.below hal)
          have AKD1 := Lib.hid (AKD.out.below hal)
          have AKE1 := Lib.hid (AKE.out.below hal)
          have HOC := Lib.hid AKC.out.ck.old
          have HOD := Lib.hid AKD.out.ck.old
          have hl16 : l.length ≤ 15 := by have := HLK.out; omega
          have HRM : Hid (Room ⟨vr, hint, schema, zt, pos, neg⟩ l) := Lib.hid (by
            obtain ⟨x, hF⟩ := AKC1.out.ck
            exact (room_of H0.out hF.n64 hF.good (show l.length ≤ 16 by omega)).1)
          have HAP : Hid (∀ (g' : Nat) (S' : Nat → Prop) W, Ak ⟨vr, hint, schema, zt, pos, neg⟩ g' W0 W (.slice XA xs.length xc) l xs S' → FhIn W s.h r → Calls Tryz.prog 42 #[.pointer (some ⟨g', 0, none⟩), .agg #[.int .i64 s.t, .int .i64 s.h.schema, .int .u64 s.h.zero, .int .u64 s.h.zc, .int .u64 s.h.cnt, .int .u64 s.h.sum, .slice r.A s.h.pos.length r.c, .slice r.B s.h.neg.length r.d, .slice r.C s.h.pc.length r.cc, .slice r.D s.h.nc.length r.dd]] W (AppPost g' S' ⟨vr, hint, schema, zt, pos, neg⟩ l s W)) := Lib.hid (fun g' S' W hA hs' => by
            obtain ⟨x', hF'⟩ := hA.ck
            have hte := HTE.out _ (HEND.out _ hA.b)
            exact append_calls g' S' ⟨vr, hint, schema, zt, pos, neg⟩ l x' s r W hF' hs' (HON.out.mono fun j hj hs => by have := hA.hs j hs; omega) H64.out HRM.out hte.2.1 hte.1 hte.2.2 (fun hc => by have := hA.hs _ hc; have := HGB.out; omega) (fun hc => by have := hA.hs _ hc; have := HGD.out; omega))
          have hs0 := HCS.out W1.drew (below_drew (Below.refl _ _))
          have AKCd := Lib.hid (AKC1.out.below (below_drew (Below.refl _ _)))
          have AKDd := Lib.hid (AKD1.out.below (below_drew (Below.refl _ _)))
          have AKEd := Lib.hid (AKE1.out.below (below_drew (Below.refl _ _)))
          have HFSd := Lib.hid (HFS.out.below (below_drew (Below.refl _ _)))
          have HBKd : Hid (W1.drew.heap[wr.heap.size]? = some (.cells #[.int .i64 s.t, .int .i64 s.h.schema, .int .u64 s.h.zero, .int .u64 s.h.zc, .int .u64 s.h.cnt, .int .u64 s.h.sum, .slice r.A s.h.pos.length r.c, .slice r.B s.h.neg.length r.d, .slice r.C s.h.pc.length r.cc, .slice r.D s.h.nc.length r.dd] 74 (0, 0))) := HBK
          have HCB : Hid (∀ W : World, W.heap[wr.heap.size]? = some (.cells #[.int .i64 s.t, .int .i64 s.h.schema, .int .u64 s.h.zero, .int .u64 s.h.zc, .int .u64 s.h.cnt, .int .u64 s.h.sum, .slice r.A s.h.pos.length r.c, .slice r.B s.h.neg.length r.d, .slice r.C s.h.pc.length r.cc, .slice r.D s.h.nc.length r.dd] 74 (0, 0)) → (W.cell? ⟨wr.heap.size, 0, none⟩ = some (.int .i64 s.t) ∧ W.cell? ⟨wr.heap.size, 1, none⟩ = some (.int .i64 s.h.schema) ∧ W.cell? ⟨wr.heap.size, 2, none⟩ = some (.int .u64 s.h.zero) ∧ W.cell? ⟨wr.heap.size, 3, none⟩ = some (.int .u64 s.h.zc) ∧ W.cell? ⟨wr.heap.size, 4, none⟩ = some (.int .u64 s.h.cnt) ∧ W.cell? ⟨wr.heap.size, 5, none⟩ = some (.int .u64 s.h.sum) ∧ W.cell? ⟨wr.heap.size, 6, none⟩ = some (.slice r.A s.h.pos.length r.c) ∧ W.cell? ⟨wr.heap.size, 7, none⟩ = some (.slice r.B s.h.neg.length r.d) ∧ W.cell? ⟨wr.heap.size, 8, none⟩ = some (.slice r.C s.h.pc.length r.cc) ∧ W.cell? ⟨wr.heap.size, 9, none⟩ = some (.slice r.D s.h.nc.length r.dd))) := Lib.hid (fun W hb => ⟨obj_cell hb rfl, obj_cell hb rfl, obj_cell hb rfl, obj_cell hb rfl, obj_cell hb rfl, obj_cell hb rfl, obj_cell hb rfl, obj_cell hb rfl, obj_cell hb rfl, obj_cell hb rfl⟩)
          have HZD : Hid (wr.heap.size < W1.drew.heap.size) := Lib.hid (blk_lt HBK.out)
          have HD3 : Hid (∀ (S3 : Nat → Prop), (∀ k, S3 k → S k ∨ W1.drew.heap.size ≤ k) → ∀ k, S3 k → ¬ Sd k) := Lib.hid (fun S3 h k hk hh => by
            rcases h k hk with h5 | h5
            · exact (HDJ.out.1 k h5).1 hh
            · have := HOD.out k hh
              have := HZD.out
              omega)
          clear hok hok0 hsm hfs hon h64 hs hrr hbk hal hW1 hl16 hx0 AKC AKD AKE AKC1 AKD1 AKE1
          by_cases hw0 : (wrongF ⟨vr, hint, schema, zt, pos, neg⟩ l s).1 = 0
          · have HA : Hid (∀ (g' : Nat) (S' : Nat → Prop) W, Ak ⟨vr, hint, schema, zt, pos, neg⟩ g' W0 W (.slice XA xs.length xc) l xs S' → FhIn W s.h r → Calls Tryz.prog 42 #[.pointer (some ⟨g', 0, none⟩), .agg #[.int .i64 s.t, .int .i64 s.h.schema, .int .u64 s.h.zero, .int .u64 s.h.zc, .int .u64 s.h.cnt, .int .u64 s.h.sum, .slice r.A s.h.pos.length r.c, .slice r.B s.h.neg.length r.d, .slice r.C s.h.pc.length r.cc, .slice r.D s.h.nc.length r.dd]] W fun e w' => e = .returned .nilIface ∧ Upd (fun W S => Ck W g' S ⟨vr, hint, schema, zt, pos, neg⟩ (l ++ [s])) S' W w') := Lib.hid (fun g' S' W hA hs' => (HAP.out g' S' W hA hs').mono fun e w' hap => by
              rcases hap with ⟨h1, -⟩ | ⟨-, h1, h2⟩
              · exact absurd hw0 h1
              · exact ⟨h1, h2⟩)
            clear HAP hw0
            go_wp2_with (fail)
            rw [← HW1.out]
            clear c0 c1 c2 c3 c4 c5 c6 c7 c8 c9
            go_region_held3 (fun W => W.cell? ⟨wr.heap.size, 0, none⟩ = some (.int .i64 s.t) ∧ W.cell? ⟨wr.heap.size, 1, none⟩ = some (.int .i64 s.h.schema) ∧ W.cell? ⟨wr.heap.size, 2, none⟩ = some (.int .u64 s.h.zero) ∧ W.cell? ⟨wr.heap.size, 3, none⟩ = some (.int .u64 s.h.zc) ∧ W.cell? ⟨wr.heap.size, 4, none⟩ = some (.int .u64 s.h.cnt) ∧ W.cell? ⟨wr.heap.size, 5, none⟩ = some (.int .u64 s.h.sum) ∧ W.cell? ⟨wr.heap.size, 6, none⟩ = some (.slice r.A s.h.pos.length r.c) ∧ W.cell? ⟨wr.heap.size, 7, none⟩ = some (.slice r.B s.h.neg.length r.d) ∧ W.cell? ⟨wr.heap.size, 8, none⟩ = some (.slice r.C s.h.pc.length r.cc) ∧ W.cell? ⟨wr.heap.size, 9, none⟩ = some (.slice r.D s.h.nc.length r.dd))
              (first | (with_reducible exact hs0) | (with_reducible exact hs3) | (with_reducible exact hs4))
              (first
              | (go_at_call 42; (with_reducible show Calls _ _ #[Value.pointer (some ⟨g, 0, none⟩), _] _ _); refine (HA.out g S _ AKCd.out HFSd.out).mono ?_; rintro e w3 ⟨rfl, hu3⟩; obtain ⟨S3, ac3, ch3, hS3⟩ := AKCd.out.turn hu3; have ad3 := Ak.aside AKDd.out AKCd.out (fun k hk hh => (HDJ.out.1 k hh).1 hk) ch3; have ae3 := Ak.aside AKEd.out AKCd.out (fun k hk hh => (HDJ.out.1 k hh).2 hk) ch3; have hf3 := ck_fh HFSd.out HON.out ch3 fun j hj => AKCd.out.hs j hj; have hk3 := ch3.blk HBKd.out (fun hs => by have := HOC.out _ hs; omega); have hs3 := HCB.out w3 hk3)
              | (go_at_call 42; refine (HA.out gd Sd w3 ad3 hf3).mono ?_; rintro e w4 ⟨rfl, hu4⟩; obtain ⟨S4, ad4, ch4, hS4⟩ := ad3.turn hu4; have hd3 := HD3.out S3 hS3; have ac4 := Ak.aside ac3 ad3 hd3 ch4; have ae4 := Ak.aside ae3 ad3 (fun k hk hh => HDJ.out.2 k hh hk) ch4; have hk4 := ch4.blk hk3 (fun hs => by have := HOD.out _ hs; omega); have hs4 := HCB.out w4 hk4))
            have HDJ4 : Hid ((∀ j, S3 j → ¬ S4 j ∧ ¬ Se j) ∧ ∀ j, S4 j → ¬ Se j) := Lib.hid (by
              have hz3 := ch3.size
              have hz4 := ch4.size
              refine ⟨fun j hj => ⟨fun hh => ?_, fun hh => ?_⟩, fun j hj hh => ?_⟩
              · rcases hS4 j hh with h5 | h5
                · exact hd3 j hj h5
                · have := ac3.ck.old j hj; omega
              · rcases hS3 j hj with h5 | h5
                · exact (HDJ.out.1 j h5).2 hh
                · have := AKEd.out.ck.old j hh; omega
              · rcases hS4 j hj with h5 | h5
                · exact HDJ.out.2 j h5 hh
                · have := AKEd.out.ck.old j hh; omega)
            have AC4 := Lib.hid ac4
            have AD4 := Lib.hid ad4
            have AE4 := Lib.hid ae4
            have HL3 : Hid ((l ++ [s]).length ≤ k + 1 + t) := Lib.hid (by rw [List.length_append, List.length_singleton]; have := HLK.out; omega)
            obtain ⟨l3, hl3⟩ : ∃ z, z = l ++ [s] := ⟨_, rfl⟩
            rw [← hl3] at AC4 AD4 HL3
            have HC1 : Hid (∀ W, Below w4.heap.size w4 W → Calls Tryz.prog 50 #[.nilIface] W fun e w' => e = .returned (.int .i64 0) ∧ Below W.heap.size W w') := Lib.hid (fun W _ => code_nil W)
            clear hl3 ac4 ad4 ae4 ac3 ad3 ae3 ch3 ch4 hS3 hS4 hu3 hu4 hd3 hf3 hk3 hk4 hs3 hs4 hs0
            obtain ⟨xa, hFa⟩ := AC4.out.ck
            obtain ⟨xb, hFb⟩ := AD4.out.ck
            have hl3 : l3.length ≤ 16 := by have := HL3.out; omega
            obtain ⟨-, hcb⟩ := room_of H0.out hFa.n64 hFa.good hl3
            have HBY1 := Lib.hid (fun W (h : Below w4.heap.size w4 W) => FcI.bytes_calls g S3 ⟨vr, hint, schema, zt, pos, neg⟩ l3 xa W (hFa.below h) (by omega) (by omega))
            have HBY2 := Lib.hid (fun W (h : Below w4.heap.size w4 W) => FcI.bytes_calls gd S4 ⟨vr, hint, schema, zt, pos, neg⟩ l3 xb W (hFb.below h) (by omega) (by omega))
            have HBI1 := Lib.hid (fun W (h : Below w4.heap.size w4 W) => FcD.bits_calls g S3 ⟨vr, hint, schema, zt, pos, neg⟩ l3 xa W (hFa.below h) (by omega))
            have HBI2 := Lib.hid (fun W (h : Below w4.heap.size w4 W) => FcD.bits_calls gd S4 ⟨vr, hint, schema, zt, pos, neg⟩ l3 xb W (hFb.below h) (by omega))
            have HRS := Lib.hid (fun (A : Option Addr) (c : Nat) W (hr : RdB W A (pack (allBits ⟨vr, hint, schema, zt, pos, neg⟩ l3))) => RdB.string (P := Tryz.prog) (src := 51) (dst := 9) (e := 5) (c := c) hr rfl Tryz.underlying51 Tryz.underlying5 Tryz.underlying9)
            obtain ⟨sB, hB⟩ : ∃ s, s = str (pack (allBits ⟨vr, hint, schema, zt, pos, neg⟩ l3)) := ⟨_, rfl⟩
            rw [← hB] at HRS
            obtain ⟨cb, hcbb⟩ : ∃ n, n = (chunkB ⟨vr, hint, schema, zt, pos, neg⟩ l3).length := ⟨_, rfl⟩
            rw [← hcbb] at HBI1 HBI2
            have hb40 : Below w4.heap.size w4 w4.drew := below_drew (Below.refl _ _)
            clear hFa hFb hl3 hcb hB hcbb
            go_wp2_with (fail)
            go_region_held_law (fun W => Below w4.heap.size w4 W ∧ True)
              (first | (with_reducible exact ⟨hb40, trivial⟩) | (with_reducible exact ⟨hb5, trivial⟩) | (with_reducible exact ⟨hb6, trivial⟩) | (with_reducible exact ⟨hb7, trivial⟩) | (with_reducible exact ⟨hb8, trivial⟩) | assumption)
              (first
              | (go_at_call 50; refine (HC1.out _ (And.left (by assumption))).mono ?_; rintro e w5 ⟨rfl, hbc⟩; have hb5 : Below w4.heap.size w4 w5 := below_then (And.left (by assumption)) (And.left (by assumption) : Below w4.heap.size w4 _).size hbc; have hb6 := hb5; clear hbc)
              | (go_at_call 51; (with_reducible show Calls _ _ #[Value.pointer (some ⟨g, 0, none⟩)] _ _); refine (HBY1.out _ (And.left (by assumption))).mono ?_; rintro e w7 ⟨v, rfl, ho, hbx⟩; have hb7 : Below w4.heap.size w4 w7 := below_then (And.left (by assumption)) (And.left (by assumption) : Below w4.heap.size w4 _).size hbx; obtain ⟨Dv, dv, rfl, -, hrv⟩ := ho.reads; have hcv := fun W (h : Below w7.heap.size w7 W) => HRS.out Dv dv W (hrv.below h); have hb77 := Below.refl w7.heap.size w7)
              | (go_at_call 51; refine (HBY2.out _ hb7).mono ?_; rintro e w8 ⟨v2, rfl, ho2, hb78⟩; have hb8 : Below w4.heap.size w4 w8 := below_then hb7 hb7.size hb78; obtain ⟨Dw, dw, rfl, -, hrw⟩ := ho2.reads; have hcw := fun W (h : Below w8.heap.size w8 W) => HRS.out Dw dw W (hrw.below h); have hb88 := Below.refl w8.heap.size w8)
              | (go_at_call 40; (with_reducible show Calls _ _ #[Value.pointer (some ⟨g, 0, none⟩)] _ _); refine (HBI1.out _ (And.left (by assumption))).mono ?_; rintro e wx ⟨rfl, rfl⟩)
              | (go_at_call 40; refine (HBI2.out _ (And.left (by assumption))).mono ?_; rintro e wx ⟨rfl, rfl⟩))
            all_goals
              have AC5 := Lib.hid (AC4.out.below hb8)
              have AD5 := Lib.hid (AD4.out.below hb8)
              have AE5 := Lib.hid (AE4.out.below hb8)
              clear hb40 hb5 hb6 hb7 hb8 hcv hcw hb77 hb88 hb78 hrv hrw ho ho2 hbx
              go_wp2
              go_roundw
              case rel => exact ⟨k + 1, l3, S3, S4, by omega, by go_num, AC5, AD5, AE5, HDJ4, HL3⟩
              case measure => simp [intOf]; omega
          · have HA : Hid (∀ (g' : Nat) (S' : Nat → Prop) W, Ak ⟨vr, hint, schema, zt, pos, neg⟩ g' W0 W (.slice XA xs.length xc) l xs S' → FhIn W s.h r → Calls Tryz.prog 42 #[.pointer (some ⟨g', 0, none⟩), .agg #[.int .i64 s.t, .int .i64 s.h.schema, .int .u64 s.h.zero, .int .u64 s.h.zc, .int .u64 s.h.cnt, .int .u64 s.h.sum, .slice r.A s.h.pos.length r.c, .slice r.B s.h.neg.length r.d, .slice r.C s.h.pc.length r.cc, .slice r.D s.h.nc.length r.dd]] W fun e w' => ∃ v, e = .returned v ∧ Err w' v (plc (wrongF ⟨vr, hint, schema, zt, pos, neg⟩ l s).1 (wrongF ⟨vr, hint, schema, zt, pos, neg⟩ l s).2 l.length) .nilIface ∧ Below W.heap.size W w') := Lib.hid (fun g' S' W hA hs' => (HAP.out g' S' W hA hs').mono fun e w' hap => by
              rcases hap with ⟨-, ⟨v, h1, h2⟩, h3⟩ | ⟨h1, -⟩
              · exact ⟨v, h1, h2, h3⟩
              · exact absurd h1 hw0)
            clear HAP hw0
            go_wp2_with (fail)
            rw [← HW1.out]
            clear c0 c1 c2 c3 c4 c5 c6 c7 c8 c9
            go_region_held3 (fun W => W.cell? ⟨wr.heap.size, 0, none⟩ = some (.int .i64 s.t) ∧ W.cell? ⟨wr.heap.size, 1, none⟩ = some (.int .i64 s.h.schema) ∧ W.cell? ⟨wr.heap.size, 2, none⟩ = some (.int .u64 s.h.zero) ∧ W.cell? ⟨wr.heap.size, 3, none⟩ = some (.int .u64 s.h.zc) ∧ W.cell? ⟨wr.heap.size, 4, none⟩ = some (.int .u64 s.h.cnt) ∧ W.cell? ⟨wr.heap.size, 5, none⟩ = some (.int .u64 s.h.sum) ∧ W.cell? ⟨wr.heap.size, 6, none⟩ = some (.slice r.A s.h.pos.length r.c) ∧ W.cell? ⟨wr.heap.size, 7, none⟩ = some (.slice r.B s.h.neg.length r.d) ∧ W.cell? ⟨wr.heap.size, 8, none⟩ = some (.slice r.C s.h.pc.length r.cc) ∧ W.cell? ⟨wr.heap.size, 9, none⟩ = some (.slice r.D s.h.nc.length r.dd))
              (first | (with_reducible exact hs0) | (with_reducible exact hs3) | (with_reducible exact hs4))
              (first
              | (go_at_call 42; (with_reducible show Calls _ _ #[Value.pointer (some ⟨g, 0, none⟩), _] _ _); refine (HA.out g S _ AKCd.out HFSd.out).mono ?_; rintro e w3 ⟨va, rfl, he3, hb3⟩; have hk3 := (hb3.block _ HZD.out).trans HBKd.out; have hs3 := HCB.out w3 hk3)
              | (go_at_call 42; refine (HA.out gd Sd w3 (AKDd.out.below hb3) (HFSd.out.below hb3)).mono ?_; rintro e w4 ⟨vb, rfl, he4, hb4⟩; have hk4 := (hb4.block _ (blk_lt hk3)).trans hk3; have hs4 := HCB.out w4 hk4))
            have HDJ4 := HDJ
            have hb34 := below_then hb3 hb3.size hb4
            have AC4 := Lib.hid (AKCd.out.below hb34)
            have AD4 := Lib.hid (AKDd.out.below hb34)
            have AE4 := Lib.hid (AKEd.out.below hb34)
            have HL3 : Hid (l.length ≤ k + 1 + t) := Lib.hid (by have := HLK.out; omega)
            have E3 := Lib.hid (he3.below hb4)
            have E4 := Lib.hid he4
            have HC1 := Lib.hid (fun W (hb : Below w4.heap.size w4 W) => code_calls (E3.out.below hb))
            have HC2 := Lib.hid (fun W (hb : Below w4.heap.size w4 W) => code_calls (E4.out.below hb))
            obtain ⟨c0, hc0⟩ : ∃ z, z = codeOf (plc (wrongF ⟨vr, hint, schema, zt, pos, neg⟩ l s).1 (wrongF ⟨vr, hint, schema, zt, pos, neg⟩ l s).2 l.length) .nilIface := ⟨_, rfl⟩
            rw [← hc0] at HC1 HC2
            clear hc0 he3 he4 hb3 hb4 hb34 hk3 hk4 hs3 hs4 hs0
            obtain ⟨xa, hFa⟩ := AC4.out.ck
            obtain ⟨xb, hFb⟩ := AD4.out.ck
            have hl3 : l.length ≤ 16 := by have := HL3.out; omega
            obtain ⟨-, hcb⟩ := room_of H0.out hFa.n64 hFa.good hl3
            have HBY1 := Lib.hid (fun W (h : Below w4.heap.size w4 W) => FcI.bytes_calls g S ⟨vr, hint, schema, zt, pos, neg⟩ l xa W (hFa.below h) (by omega) (by omega))
            have HBY2 := Lib.hid (fun W (h : Below w4.heap.size w4 W) => FcI.bytes_calls gd Sd ⟨vr, hint, schema, zt, pos, neg⟩ l xb W (hFb.below h) (by omega) (by omega))
            have HBI1 := Lib.hid (fun W (h : Below w4.heap.size w4 W) => FcD.bits_calls g S ⟨vr, hint, schema, zt, pos, neg⟩ l xa W (hFa.below h) (by omega))
            have HBI2 := Lib.hid (fun W (h : Below w4.heap.size w4 W) => FcD.bits_calls gd Sd ⟨vr, hint, schema, zt, pos, neg⟩ l xb W (hFb.below h) (by omega))
            have HRS := Lib.hid (fun (A : Option Addr) (c : Nat) W (hr : RdB W A (pack (allBits ⟨vr, hint, schema, zt, pos, neg⟩ l))) => RdB.string (P := Tryz.prog) (src := 51) (dst := 9) (e := 5) (c := c) hr rfl Tryz.underlying51 Tryz.underlying5 Tryz.underlying9)
            obtain ⟨sB, hB⟩ : ∃ s, s = str (pack (allBits ⟨vr, hint, schema, zt, pos, neg⟩ l)) := ⟨_, rfl⟩
            rw [← hB] at HRS
            obtain ⟨cb, hcbb⟩ : ∃ n, n = (chunkB ⟨vr, hint, schema, zt, pos, neg⟩ l).length := ⟨_, rfl⟩
            rw [← hcbb] at HBI1 HBI2
            have hb40 : Below w4.heap.size w4 w4.drew := below_drew (Below.refl _ _)
            clear hFa hFb hl3 hcb hB hcbb
            go_wp2_with (fail)
            go_region_held_law (fun W => Below w4.heap.size w4 W ∧ True)
              (first | (with_reducible exact ⟨hb40, trivial⟩) | (with_reducible exact ⟨hb5, trivial⟩) | (with_reducible exact ⟨hb6, trivial⟩) | (with_reducible exact ⟨hb7, trivial⟩) | (with_reducible exact ⟨hb8, trivial⟩) | assumption)
              (first
              | (go_at_call 50; (with_reducible show Calls _ _ #[va] _ _); refine (HC1.out _ (And.left (by assumption))).mono ?_; rintro e w5 ⟨rfl, hbc⟩; have hb5 : Below w4.heap.size w4 w5 := below_then (And.left (by assumption)) (And.left (by assumption) : Below w4.heap.size w4 _).size hbc; clear hbc)
              | (go_at_call 50; refine (HC2.out _ hb5).mono ?_; rintro e w6 ⟨rfl, hbc⟩; have hb6 : Below w4.heap.size w4 w6 := below_then hb5 hb5.size hbc; clear hbc)
              | (go_at_call 51; (with_reducible show Calls _ _ #[Value.pointer (some ⟨g, 0, none⟩)] _ _); refine (HBY1.out _ (And.left (by assumption))).mono ?_; rintro e w7 ⟨v, rfl, ho, hbx⟩; have hb7 : Below w4.heap.size w4 w7 := below_then (And.left (by assumption)) (And.left (by assumption) : Below w4.heap.size w4 _).size hbx; obtain ⟨Dv, dv, rfl, -, hrv⟩ := ho.reads; have hcv := fun W (h : Below w7.heap.size w7 W) => HRS.out Dv dv W (hrv.below h); have hb77 := Below.refl w7.heap.size w7)
              | (go_at_call 51; refine (HBY2.out _ hb7).mono ?_; rintro e w8 ⟨v2, rfl, ho2, hb78⟩; have hb8 : Below w4.heap.size w4 w8 := below_then hb7 hb7.size hb78; obtain ⟨Dw, dw, rfl, -, hrw⟩ := ho2.reads; have hcw := fun W (h : Below w8.heap.size w8 W) => HRS.out Dw dw W (hrw.below h); have hb88 := Below.refl w8.heap.size w8)
              | (go_at_call 40; (with_reducible show Calls _ _ #[Value.pointer (some ⟨g, 0, none⟩)] _ _); refine (HBI1.out _ (And.left (by assumption))).mono ?_; rintro e wx ⟨rfl, rfl⟩)
              | (go_at_call 40; refine (HBI2.out _ (And.left (by assumption))).mono ?_; rintro e wx ⟨rfl, rfl⟩))
            all_goals
              have AC5 := Lib.hid (AC4.out.below hb8)
              have AD5 := Lib.hid (AD4.out.below hb8)
              have AE5 := Lib.hid (AE4.out.below hb8)
              clear hb40 hb5 hb6 hb7 hb8 hcv hcw hb77 hb88 hb78 hrv hrw ho ho2 hbx
              go_wp2
              go_roundw
              case rel => exact ⟨k + 1, l, S, Sd, by omega, by go_num, AC5, AD5, AE5, HDJ4, HL3⟩
              case measure => simp [intOf]; omega
        · obtain rfl : k = m := by omega
          have HIS := Lib.hid (is_ak ⟨A, c, B, d⟩ AKE.out (HI.out _ AKE.out.b) H0.out (by have := HXK.out; omega))
          obtain ⟨k0, k1, k2, k3, k4, k5⟩ := HCEL.out _ AKE.out.b
          dsimp only [hcs] at HIS
          have BE := Lib.hid AKE.out.b
          clear hlt
          go_wp2_with (fail)
          refine HIS.out.mono ?_
          rintro e w11 ⟨rfl, hb11⟩
          have BW := Lib.hid (below_then BE.out BE.out.size hb11)
          clear hb11 HIS k0 k1 k2 k3 k4 k5
          go_wp2_with (fail)
          refine (HAW.out _ (HEND.out _ BW.out)).mono ?_
          rintro e wa ⟨rfl, hb⟩
          have BA := Lib.hid (below_then (HEND.out _ BW.out) (HEND.out _ BW.out).size hb)
          clear hb
          go_wp2
          go_ret
          exact ⟨rfl, BA.out⟩
theorem walk (x : Int × Int × Int × Int × Rep.Sl (Int × Int) × Rep.Sl (Int × Int)) (y : Rep.Sl FsX) (a : Int) (w : World) (hx : rHd.ok w x) (hy : (Rep.slice rFs).ok w y) (ha : (Lit.int .i64 a).wf = true) (hL : laidMetH Tryz.prog laidF w) :
    Calls Tryz.prog 8 #[.agg (rHd.enc x).toArray, .slice y.at_ y.l.length y.cap, .int .i64 a] w fun e w' => e = .returned (.bool true) ∧ Below w.heap.size w w' := by
  obtain ⟨hT, hE, hZ⟩ := of_laidF hL
  obtain ⟨e1, x1, -⟩ := enc_hd hx
  rw [e1]
  have h1 := hy.1.le
  have h2 := hy.1.max
  unfold maxLen at h2
  exact core (hdOf x) (lcOf x) y.at_ y.cap y.l a w hT hE hZ x1 (fun h1 h2 => hdin_len hx h1 h2) ⟨hy.1.rd, hy.2⟩ h1 (by omega) (i64_wf ha)
end Go.Proofs.YtjfekjbmgckkcaaGreatDoor.FchunkCopies
