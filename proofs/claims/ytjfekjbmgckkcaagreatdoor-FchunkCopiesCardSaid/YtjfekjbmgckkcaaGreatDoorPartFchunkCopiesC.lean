/- what FchunkCopies stands on, part 3. -/
import Derived.Test.YtjfekjbmgckkcaaGreatDoorPartFchunkCopiesB
import Derived.Deep.RegionHeld3
import Derived.Deep.AppendLies
import Derived.Deep.RegionLaw
import Derived.Test.YtjfekjbmgckkcaaGreatDoorPartFchunkCopiesA
import Derived.Test.YtjfekjbmgckkcaaGreatDoorProg
import Derived.ProofKit
import Derived.LaidMore
import Derived.Lib.LaidTab
import Derived.Deep.RegionHeldLaw
import Derived.OwnWalk
namespace Go.Proofs.YtjfekjbmgckkcaaGreatDoor.FcF
open Go.RowKit Go.Proofs.YtjfekjbmgckkcaaGreatDoorW.PrintWords
open Go.Proofs.YtjfekjbmgckkcaaGreatDoor.Bits Go.Proofs.YtjfekjbmgckkcaaGreatDoor.Base Go.Proofs.YtjfekjbmgckkcaaGreatDoor.VarPure Go.Proofs.YtjfekjbmgckkcaaGreatDoor.VarbitA Go.Proofs.YtjfekjbmgckkcaaGreatDoor.StreamA Go.Proofs.YtjfekjbmgckkcaaGreatDoor.TimesPure Go.Proofs.YtjfekjbmgckkcaaGreatDoor.TimesA Go.Proofs.YtjfekjbmgckkcaaGreatDoor.Ref12 Go.Proofs.YtjfekjbmgckkcaaGreatDoor.Ref13 Go.Proofs.YtjfekjbmgckkcaaGreatDoor.SpanPure Go.Proofs.YtjfekjbmgckkcaaGreatDoor.SpanBase Go.Proofs.YtjfekjbmgckkcaaGreatDoor.FailAs Go.Proofs.YtjfekjbmgckkcaaGreatDoor.FailB Go.Proofs.YtjfekjbmgckkcaaGreatDoor.FailC Go.Proofs.YtjfekjbmgckkcaaGreatDoor.HeadA Go.Proofs.YtjfekjbmgckkcaaGreatDoor.HeadB Go.Proofs.YtjfekjbmgckkcaaGreatDoor.HeadE Go.Proofs.YtjfekjbmgckkcaaGreatDoor.HeadPure Go.Proofs.YtjfekjbmgckkcaaGreatDoor.XorPure Go.Proofs.YtjfekjbmgckkcaaGreatDoor.XorA Go.Proofs.YtjfekjbmgckkcaaGreatDoor.XorB Go.Proofs.YtjfekjbmgckkcaaGreatDoor.FcPure Go.Proofs.YtjfekjbmgckkcaaGreatDoor.FcObj Go.Proofs.YtjfekjbmgckkcaaGreatDoor.FcA Go.Proofs.YtjfekjbmgckkcaaGreatDoor.FcB Go.Proofs.YtjfekjbmgckkcaaGreatDoor.FcD Go.Proofs.YtjfekjbmgckkcaaGreatDoor.FcE
def AppPost (g : Nat) (S : Nat → Prop) (q : Hd) (l : List FS) (s : FS) (w : World) (e : Ending) (w' : World) : Prop :=
  ((wrongF q l s).1 ≠ 0 ∧ (∃ v, e = .returned v ∧ Err w' v (plc (wrongF q l s).1 (wrongF q l s).2 l.length) .nilIface) ∧ Below w.heap.size w w') ∨
    ((wrongF q l s).1 = 0 ∧ e = .returned .nilIface ∧ Upd (fun W S => Ck W g S q (l ++ [s])) S w w')
set_option maxRecDepth 100000 in
set_option maxHeartbeats 6400000 in
theorem append_calls (g : Nat) (S : Nat → Prop) (q : Hd) (l : List FS) (x : FkL) (s : FS) (p : Lh) (w : World) (hF : Fk w g S q l x) (hs : FhIn w s.h p) (hoff : OnH (fun k => ¬ S k) s.h p) (h64 : In64S s) (hR : Room q l) (hE : GlE w) (hT : Tab w) (hZ : Tz w)
    (hGb : ¬ S 1) (hGd : ¬ S 2) :
    Calls Tryz.prog 42 #[.pointer (some ⟨g, 0, none⟩), .agg (scs s p).toArray] w (AppPost g S q l s w) := by
  have hC : ∀ b, (x.Sw b ∨ b = x.gt ∨ b ∈ x.cols) → S b := fun b hb => (hF.hS b).2 (by
    rcases hb with hb | hb | hb
    · exact .inr (.inl hb)
    · exact .inr (.inr (.inl hb))
    · exact .inr (.inr (.inr (.inl hb))))
  obtain ⟨W0, hW0, hbk, hal⟩ : ∃ W0 : World, W0 = w.alloc (.cells #[.int .i64 s.t, .int .i64 s.h.schema, .int .u64 s.h.zero, .int .u64 s.h.zc, .int .u64 s.h.cnt, .int .u64 s.h.sum, .slice p.A s.h.pos.length p.c, .slice p.B s.h.neg.length p.d, .slice p.C s.h.pc.length p.cc, .slice p.D s.h.nc.length p.dd] 74) ∧ W0.heap[w.heap.size]? = some (.cells #[.int .i64 s.t, .int .i64 s.h.schema, .int .u64 s.h.zero, .int .u64 s.h.zc, .int .u64 s.h.cnt, .int .u64 s.h.sum, .slice p.A s.h.pos.length p.c, .slice p.B s.h.neg.length p.d, .slice p.C s.h.pc.length p.cc, .slice p.D s.h.nc.length p.dd] 74 (0, 0)) ∧ Below w.heap.size w W0 := ⟨_, rfl, blk_last w _, below_alloc (Below.refl _ _) _⟩
  have HF : Hid (∀ W, Below W0.heap.size W0 W → Fk W g S q l x) := Lib.hid (fun W h => hF.below (below_then hal hal.size h))
  have HSI : Hid (∀ W1, Below W0.heap.size W0 W1 → ∀ W, Ch (fun b => x.Sw b ∨ b = x.gt ∨ b ∈ x.cols) W1 W → FhIn W s.h p) := Lib.hid (fun W1 h1 W h => (hs.below (below_then hal hal.size h1)).ch h hoff fun k hk hc => hk (hC k hc))
  have HSI6 : Hid (∀ W1, Below W0.heap.size W0 W1 → ∀ W, Ch (fun b => (x.Sw b ∨ b = x.gt ∨ b ∈ x.cols) ∨ b = g) W1 W → FhIn W s.h p) := Lib.hid (fun W1 h1 W h => (hs.below (below_then hal hal.size h1)).ch h hoff fun k hk hc => hk (by
    rcases hc with hc | hc
    · exact hC k hc
    · exact (hF.hS k).2 (.inl hc)))
  have HQP : Hid (∀ W1, Below W0.heap.size W0 W1 → ∀ W, Ch (fun b => (x.Sw b ∨ b = x.gt ∨ b ∈ x.cols) ∨ b = g) W1 W → Spl W x.p.A x.p.c q.pos ∧ Spl W x.p.B x.p.d q.neg) := Lib.hid (fun W1 h1 W h => by
    have hF1 := HF.out W1 h1
    have nT : ∀ k, x.T k → ¬ ((x.Sw k ∨ k = x.gt ∨ k ∈ x.cols) ∨ k = g) := fun k hk hn => by
      rcases hn with (hn | hn | hn) | hn
      · exact hF.wT k hk hn
      · subst hn; exact hF.tT hk
      · exact hF.cT k hn hk
      · subst hn; exact hF.gT hk
    exact ⟨Spl.ch hF1.hd.pos h hF1.onp nT, Spl.ch hF1.hd.neg h hF1.onn nT⟩)
  have HZI : Hid (∀ W1, Below W0.heap.size W0 W1 → ∀ W, Ch (fun b => x.Sw b ∨ b = x.gt ∨ b ∈ x.cols) W1 W → Tz W) := Lib.hid (fun W1 h1 W h => (hZ.below (below_then hal hal.size h1)).ch h fun hc => hGd (hC _ hc))
  have HBX : Hid (∀ W1, Below W0.heap.size W0 W1 → ∀ W, Ch (fun b => x.Sw b ∨ b = x.gt ∨ b ∈ x.cols) W1 W → W.heap[w.heap.size]? = some (.cells #[.int .i64 s.t, .int .i64 s.h.schema, .int .u64 s.h.zero, .int .u64 s.h.zc, .int .u64 s.h.cnt, .int .u64 s.h.sum, .slice p.A s.h.pos.length p.c, .slice p.B s.h.neg.length p.d, .slice p.C s.h.pc.length p.cc, .slice p.D s.h.nc.length p.dd] 74 (0, 0))) := Lib.hid (fun W1 h1 W h => h.blk ((h1.block _ (blk_lt hbk)).trans hbk) fun hc => by
    have := hF.old _ (hC _ hc)
    omega)
  have HCO := Lib.hid (cost_calls g S q l x s p W0 (hF.below hal) (hs.below hal) h64 hR (gle_below hE hal) (hT.below hal) (hZ.below hal))
  have HPT : Hid (∀ W, Below W0.heap.size W0 W → Calls Tryz.prog 111 #[.pointer (some ⟨x.gt, 0, none⟩), .pointer (some ⟨x.gw, 0, none⟩), .int .i64 s.t] W fun e w' => e = .returned (.tuple #[]) ∧ ∃ Sw, Ap q l s x W 0 Sw w') := Lib.hid (fun W h => by
    have hFW := HF.out W h
    have := putS_row x.gw x.gt x.Sw (encH q ++ bitsB l) (lastOf (ts l)) (stepOf (ts l)) l.length (u64 s.t) W (hT.below (below_then hal hal.size h)) (fun hc => hGb (hC _ (.inl hc))) hFW.tr hFW.wr hFW.wt (by have := hR.1; unfold chunkB at this; omega) (u64_lt _) (by have := hR.2; omega)
    rw [i64_u64 s.t h64.lo h64.hi] at this
    refine this.mono ?_
    rintro e w' ⟨rfl, hp⟩
    exact ⟨rfl, Ap.start hFW hp⟩)
  have HPX : Hid (∀ W1, Below W0.heap.size W0 W1 → ∀ (k : Nat) (Sw : Nat → Prop) W, Ap q l s x W1 k Sw W → ∀ hk : k < x.cols.length, k ≤ width q → Calls Tryz.prog 112 #[.pointer (some ⟨x.cols[k], 0, none⟩), .pointer (some ⟨x.gw, 0, none⟩), .int .u64 ((vals s.h).getD k 0)] W fun e w' => e = .returned (.tuple #[]) ∧
      ∃ Sw2, Ap q l s x W1 (k + 1) Sw2 w' ∧ (∀ j, Sw2 j → Sw j ∨ W.heap.size ≤ j) ∧ Ch (fun b => Sw b ∨ b = x.cols[k]) W w') := Lib.hid (fun W1 h1 k Sw W h hk hkN => by
    have hF1 := HF.out W1 h1
    have hxk := h.xs k hk
    rw [if_neg (by omega)] at hxk
    have hb1 : ∀ b, b < W1.heap.size → ¬ x.Sw b → ¬ Sw b := fun b h2 h3 h4 => by
      rcases h.sw b h4 with h5 | h5
      · exact h3 h5
      · omega
    have hlen : (chunkB q l ++ (toldL true (ts l) (u64 s.t) ++ colsB l s k)).length ≤ 10000000000 := by
      have e1 := hR.1
      have e2 := toldL_le true (ts l) (u64 s.t)
      have e3 := colsB_le hF.n64 h64 k
      rw [List.length_append, List.length_append]
      omega
    refine (put_row x.gw x.cols[k] Sw _ (colX (col l k)) ((vals s.h).getD k 0) W (HZI.out W1 h1 W h.ch) (hb1 _ (Nat.lt_of_lt_of_le hZ.lt (below_then hal hal.size h1).size) fun hc => hGd (hC _ (.inl hc))) hxk h.wr
      (hb1 _ (hF1.old _ (hC _ (.inr (.inr (List.getElem_mem _))))) (hF.wc _ (List.getElem_mem _))) hlen (getD64 (vals64 h64.h) k) (by rw [colX_n, col_length]; have := hR.2; omega)).mono ?_
    rintro e w' ⟨rfl, hp⟩
    exact ⟨rfl, h.col hF1 hk hp⟩)
  have HVA : Hid (∀ W1, Below W0.heap.size W0 W1 → ∀ W, Ch (fun b => x.Sw b ∨ b = x.gt ∨ b ∈ x.cols) W1 W → s.h.pc.length ≤ 4096 → s.h.nc.length ≤ 4096 → Calls Tryz.prog 109 #[.agg (scs s p).toArray] W fun e w' => ∃ v, e = .returned v ∧ OwI 22 .u64 w' W.heap.size v (nats (vals s.h)) ∧ Below W.heap.size W w') :=
    Lib.hid (fun W1 h1 W h e1 e2 => values_calls s p W (HSI.out W1 h1 W h) e1 e2)
  have HWW := Lib.hid (fun h => (wrong_width (q := q) (l := l) (s := s) h))
  have HWZ := Lib.hid (fun (h : (wrongF q l s).1 = 0) => (by
    obtain ⟨h1, -, -, h4, h5, -⟩ := wrong_zero h
    obtain ⟨-, -, -, -, -, h6, h7⟩ := errF_zero h1
    have := places_len (SpanQ.right_of (sideF_zero h6).1)
    have := places_len (SpanQ.right_of (sideF_zero h7).1)
    exact ⟨by rw [← (sideF_zero h6).2.1]; omega, by rw [← (sideF_zero h7).2.1]; omega⟩ : s.h.pc.length ≤ 4096 ∧ s.h.nc.length ≤ 4096))
  have HPOST : Hid (∀ e w', AppPost g S q l s w e w' = (((wrongF q l s).1 ≠ 0 ∧ (∃ v, e = .returned v ∧ Err w' v (plc (wrongF q l s).1 (wrongF q l s).2 l.length) .nilIface) ∧ Below w.heap.size w w') ∨
    ((wrongF q l s).1 = 0 ∧ e = .returned .nilIface ∧ Upd (fun W S => Ck W g S q (l ++ [s])) S w w'))) := Lib.hid (fun _ _ => rfl)
  have HEND := Lib.hid (fun W (hb : Below W0.heap.size W0 W) => below_then hal hal.size hb)
  have HCEL : Hid (∀ W1, Below W0.heap.size W0 W1 → ∀ W : World, Ch (fun b => x.Sw b ∨ b = x.gt ∨ b ∈ x.cols) W1 W → ((W.cell? ⟨w.heap.size, 0, none⟩ = some (.int .i64 s.t) ∧ W.cell? ⟨w.heap.size, 1, none⟩ = some (.int .i64 s.h.schema) ∧ W.cell? ⟨w.heap.size, 2, none⟩ = some (.int .u64 s.h.zero) ∧ W.cell? ⟨w.heap.size, 3, none⟩ = some (.int .u64 s.h.zc) ∧ W.cell? ⟨w.heap.size, 4, none⟩ = some (.int .u64 s.h.cnt) ∧ W.cell? ⟨w.heap.size, 5, none⟩ = some (.int .u64 s.h.sum) ∧ W.cell? ⟨w.heap.size, 6, none⟩ = some (.slice p.A s.h.pos.length p.c) ∧ W.cell? ⟨w.heap.size, 7, none⟩ = some (.slice p.B s.h.neg.length p.d) ∧ W.cell? ⟨w.heap.size, 8, none⟩ = some (.slice p.C s.h.pc.length p.cc) ∧ W.cell? ⟨w.heap.size, 9, none⟩ = some (.slice p.D s.h.nc.length p.dd)) ∧ (W.cell? ⟨g, 4, none⟩ = some (.slice x.p.A q.pos.length x.p.c) ∧ W.cell? ⟨g, 5, none⟩ = some (.slice x.p.B q.neg.length x.p.d) ∧ W.cell? ⟨g, 6, none⟩ = some (.pointer (some ⟨x.gw, 0, none⟩)) ∧ W.cell? ⟨g, 7, none⟩ = some (.int .i64 l.length) ∧ W.cell? ⟨g, 8, none⟩ = some (.pointer (some ⟨x.gt, 0, none⟩)) ∧ W.cell? ⟨g, 9, none⟩ = some (.slice (some x.va) (width q) x.vc)))) := Lib.hid (fun W1 h1 W h => by
    have hb := HBX.out W1 h1 W h
    have hF1 := HF.out W1 h1
    have hg := h.blk hF1.obj (fun hc => by
      rcases hc with hc | hc | hc
      · exact hF1.gw hc
      · exact hF1.gt hc
      · exact hF1.gc hc)
    exact ⟨⟨obj_cell hb rfl, obj_cell hb rfl, obj_cell hb rfl, obj_cell hb rfl, obj_cell hb rfl, obj_cell hb rfl, obj_cell hb rfl, obj_cell hb rfl, obj_cell hb rfl, obj_cell hb rfl⟩, ⟨obj_cell hg rfl, obj_cell hg rfl, obj_cell hg rfl, obj_cell hg rfl, obj_cell hg rfl, obj_cell hg rfl⟩⟩)
  have HR2 := Lib.hid hR.2
  have HCL := Lib.hid hF.cl
  have HVC := Lib.hid hF.vc
  have HW0 := Lib.hid hW0
  have HFF := Lib.hid hF
  have HH64 := Lib.hid h64
  have HOLD := Lib.hid (fun b (hb : x.Sw b ∨ b = x.gt ∨ b ∈ x.cols) => Nat.lt_of_lt_of_le (hF.old b (hC b hb)) hal.size)
  have B0 := Lib.hid (Below.refl W0.heap.size W0)
  have HBK := Lib.hid hbk
  clear hW0 hE hT hZ hGb hGd hC hbk hal hF hs hoff h64 hR
  show Calls Tryz.prog 42 #[.pointer (some ⟨g, 0, none⟩), .agg #[.int .i64 s.t, .int .i64 s.h.schema, .int .u64 s.h.zero, .int .u64 s.h.zc, .int .u64 s.h.cnt, .int .u64 s.h.sum, .slice p.A s.h.pos.length p.c, .slice p.B s.h.neg.length p.d, .slice p.C s.h.pc.length p.cc, .slice p.D s.h.nc.length p.dd]] w _
  go_enter Tryz.func42, Tryz.ntmps42
  go_wp2_with (fail)
  rw [← HW0.out]
  refine HCO.out.mono ?_
  rintro e w1 ⟨hb1, hcase⟩
  have B1 := Lib.hid hb1
  clear hb1 HCO
  rcases hcase with ⟨h0, v, rfl, he⟩ | ⟨h0, rfl⟩
  · have H0 := Lib.hid h0
    have E1 := Lib.hid he
    obtain ⟨ge, rfl⟩ := err_some (by omega) he
    clear h0 he
    go_wp2
    go_ret
    exact (HPOST.out _ _).mpr (.inl ⟨H0.out, ⟨_, rfl, E1.out⟩, HEND.out _ B1.out⟩)
  have H0 := Lib.hid h0
  obtain ⟨hz1, hz2⟩ := HWZ.out h0
  have hvl := HWW.out h0
  obtain ⟨lb, hlb⟩ : ∃ lb, lb = (lastB l s).length := ⟨_, rfl⟩
  rw [← hlb]
  have HVL := Lib.hid hvl
  have HZ1 := Lib.hid hz1
  have HZ2 := Lib.hid hz2
  obtain ⟨⟨k0, k1, k2, k3, k4, k5, k6, k7, k8, k9⟩, ⟨g4, g5, g6, g7, g8, g9⟩⟩ := HCEL.out _ B1.out _ (Ch.refl _ _)
  have B1d := Lib.hid (below_drew B1.out)
  clear h0 hlb HWZ HWW hvl hz1 hz2
  go_wp2_with (fail)
  go_region_held3 (fun W => W.cell? ⟨g, 8, none⟩ = some (.pointer (some ⟨x.gt, 0, none⟩)) ∧ W.cell? ⟨g, 6, none⟩ = some (.pointer (some ⟨x.gw, 0, none⟩)) ∧ W.cell? ⟨w.heap.size, 0, none⟩ = some (.int .i64 s.t))
    (first | exact ⟨g8, g6, k0⟩ | exact ⟨gg8, gg6, kk0⟩ | assumption)
    (first
    | (go_at_call 111; refine (HPT.out _ B1d.out).mono ?_; rintro e w2 ⟨rfl, Sw2, hap⟩; obtain ⟨⟨kk0, -, -, -, -, -, -, -, -, -⟩, ⟨-, -, gg6, -, gg8, -⟩⟩ := HCEL.out _ B1d.out _ hap.ch))
  have A2 := Lib.hid hap
  clear k0 k1 k2 k3 k4 k5 k6 k7 k8 k9 g4 g5 g6 g7 g8 g9 kk0 gg6 gg8
  obtain ⟨⟨k0, k1, k2, k3, k4, k5, k6, k7, k8, k9⟩, ⟨g4, g5, g6, g7, g8, g9⟩⟩ := HCEL.out _ B1d.out _ hap.ch
  clear hap
  go_wp2_with (fail)
  refine (HVA.out _ B1d.out _ A2.out.ch HZ1.out HZ2.out).mono ?_
  rintro e w3 ⟨v, rfl, ho, hb3⟩
  obtain ⟨A3, c3, rfl, hc3, hr3⟩ := ho.reads
  rw [nats_length] at hc3 ho ⊢
  have A3' := Lib.hid (A2.out.below hb3)
  have HSW2 := Lib.hid (A2.out.wr.old)
  have HRD : Hid (∀ wr, Ch (fun b => Sw2 b ∨ b ∈ x.cols) w3 wr → RdI .u64 wr A3 (nats (vals s.h))) := Lib.hid (fun wr hc => hr3.ch hc fun ad hA hbad => by
    subst hA
    rcases Nat.eq_zero_or_pos (vals s.h).length with h0 | h0
    · have := vals_length s.h
      omega
    · obtain ⟨g9, c9, he, h9, -, -⟩ := OwI.form ho (by rw [nats_length]; exact h0)
      injection he with he
      injection he with he
      subst he
      have h9' : w2.heap.size ≤ g9 := h9
      rcases hbad with hbad | hbad
      · have := HSW2.out _ hbad
        have h5 : (⟨g9, 0, none⟩ : Addr).block = g9 := rfl
        omega
      · have := HOLD.out _ (.inr (.inr hbad))
        have h4 := A2.out.ch.size
        have h5 : (⟨g9, 0, none⟩ : Addr).block = g9 := rfl
        have h6 := B1d.out.size
        omega)
  have hvl := HVL.out
  obtain ⟨N, hN⟩ : ∃ N, N = width q := ⟨_, rfl⟩
  rw [← hN] at hvl g9
  have HNN := Lib.hid hN
  have HVL := Lib.hid hvl
  have hNb : N ≤ 9000 := by
    have h1 := HZ1.out
    have h2 := HZ2.out
    rw [← hvl, vals_length]
    omega
  rw [hvl]
  clear hb3 ho hr3 hc3 hvl hN
  clear k0 k1 k2 k3 k4 k5 k6 k7 k8 k9 g4 g5 g6 g7 g8 g9
  go_wp2_with (fail)
  go_loopw [7, 8, 32] (fun _ _ i wr => ∃ (k : Nat) (Sw' : Nat → Prop), k ≤ N ∧ i = .int .i64 k ∧ Ap q l s x w1.drew k Sw' wr ∧ (∀ j, Sw' j → Sw2 j ∨ w3.heap.size ≤ j) ∧ Ch (fun b => Sw2 b ∨ b ∈ x.cols) w3 wr) (fun _ _ i _ => N - (intOf i).toNat)
  case atStart => exact ⟨0, Sw2, by omega, rfl, A3'.out, fun j hj => .inl hj, Ch.refl _ _⟩
  case round =>
    obtain ⟨k, Sw', hk, rfl, hap, hsw, hch⟩ := hrel
    have A4 := Lib.hid hap
    have HS4 := Lib.hid hsw
    have HC4 := Lib.hid hch
    obtain ⟨⟨k0, k1, k2, k3, k4, k5, k6, k7, k8, k9⟩, ⟨g4, g5, g6, g7, g8, g9⟩⟩ := HCEL.out _ B1d.out _ hap.ch
    rw [← HNN.out] at g9
    clear hap hsw
    by_cases hlt : k < N
    · have hkc : k < x.cols.length := by rw [HCL.out, ← HNN.out]; exact hlt
      have hvk := A4.out.ch.cell ((HF.out _ B1d.out).vals k hkc) (by
        rw [show (x.va.add k).block = x.va.block from by unfold Addr.add; split <;> rfl]
        have hF1 := HF.out _ B1d.out
        rintro (hc | hc | hc)
        · exact hF1.wT _ hF1.onv hc
        · exact hF1.tT (hc ▸ hF1.onv)
        · exact hF1.cT _ hc hF1.onv)
      have HX := HPX.out _ B1d.out k Sw' wr.drew A4.out.drew hkc (by rw [← HNN.out]; exact hk)
      rw [getD_at (show k < (vals s.h).length by rw [HVL.out]; exact hlt)] at HX
      obtain ⟨ad, hA, hc⟩ := nat_at (HRD.out wr hch) k (by rw [HVL.out]; exact hlt)
      subst hA
      obtain ⟨u, hu⟩ : ∃ u, u = (vals s.h)[k]'(by rw [HVL.out]; exact hlt) := ⟨_, rfl⟩
      rw [← hu] at hc HX
      obtain ⟨cl, hcl⟩ : ∃ cl, cl = x.cols[k] := ⟨_, rfl⟩
      rw [← hcl] at hvk HX
      have HX := Lib.hid HX
      have hkv : k < x.vc := by have := HVC.out; have := HNN.out; omega
      have HCM := Lib.hid (show cl ∈ x.cols from hcl ▸ List.getElem_mem _)
      have HVK : Hid (∀ W, Ch (fun b => Sw' b ∨ b = cl) wr W → W.cell? (x.va.add k) = some (.pointer (some ⟨cl, 0, none⟩))) := Lib.hid (fun W hW => hW.cell hvk (by
        rw [show (x.va.add k).block = x.va.block from by unfold Addr.add; split <;> rfl]
        have hF1 := HF.out _ B1d.out
        rintro (hc | hc)
        · rcases A4.out.sw _ hc with h5 | h5
          · exact hF1.wT _ hF1.onv h5
          · have := hF1.old _ ((hF1.hS _).2 (.inr (.inr (.inr (.inr hF1.onv)))))
            omega
        · exact hF1.cT _ HCM.out (hc ▸ hF1.onv)))
      clear hch hu hcl
      go_wp2_with (fail)
      go_region_held3 (fun W => W.cell? ⟨g, 9, none⟩ = some (.slice (some x.va) N x.vc) ∧ W.cell? (x.va.add k) = some (.pointer (some ⟨cl, 0, none⟩)) ∧ W.cell? ⟨g, 6, none⟩ = some (.pointer (some ⟨x.gw, 0, none⟩)))
        (first | exact ⟨g9, hvk, g6⟩ | exact ⟨gg9, hvk2, gg6⟩ | assumption)
        (first
        | (go_at_call 112; refine HX.out.mono ?_; rintro e w5 ⟨rfl, Sw5, hap5, hsw5, hch5d⟩; have hch5 := ((Ch.refl (fun b => Sw' b ∨ b = cl) wr).drew).trans hch5d (fun _ _ h => h); obtain ⟨-, ⟨-, -, gg6, -, -, gg9⟩⟩ := HCEL.out _ B1d.out _ hap5.ch; rw [← HNN.out] at gg9; have hvk2 := HVK.out w5 hch5))
      have A5 := Lib.hid hap5
      have HS5 : Hid (∀ j, Sw5 j → Sw2 j ∨ w3.heap.size ≤ j) := Lib.hid (fun j hj => by
        rcases hsw5 j hj with h5 | h5
        · exact HS4.out j h5
        · exact .inr (Nat.le_trans HC4.out.size h5))
      have HC5 : Hid (Ch (fun b => Sw2 b ∨ b ∈ x.cols) w3 w5) := Lib.hid (HC4.out.trans (S' := fun b => Sw' b ∨ b = cl) hch5 fun b hb hc => by
        rcases hc with hc | hc
        · rcases HS4.out b hc with h5 | h5
          · exact .inl h5
          · omega
        · exact .inr (hc ▸ HCM.out))
      clear hap5 hsw5 hch5 hch5d gg9 hvk2 gg6 hvk
      clear k0 k1 k2 k3 k4 k5 k6 k7 k8 k9 g4 g5 g6 g7 g8 g9
      go_wp2
      go_roundw
      case rel => exact ⟨k + 1, Sw5, by omega, by go_num, A5.out, HS5.out, HC5.out⟩
      case measure => simp [intOf]; omega
    · obtain rfl : k = N := by omega
      have hF1 := HF.out _ B1d.out
      have hobj1 := hF1.obj
      rw [kcs_eq] at hobj1
      have hgw := A4.out.keep hF1.gw hF1.gt hF1.gc (blk_lt hobj1)
      have hg7 := hgw.trans hobj1
      have hbx := HBX.out _ B1d.out _ A4.out.ch
      have hne : w.heap.size ≠ g := fun he => by
        have := HFF.out.old g ((HFF.out.hS g).2 (.inl rfl))
        omega
      have hgf : wr.frozen? ⟨g, 7, none⟩ = false := obj_free hg7
      have hln := HR2.out
      obtain ⟨W6, hW6, hg6, hb6, hc6⟩ : ∃ W : World, W = wr.setCell ⟨g, 7, none⟩ (.int .i64 ((l.length : Int) + 1)) ∧ W.heap[g]? = some (.cells (cells20 q (l.length + 1) (width q) x (lastS q l) x.r) 158 (0, 0)) ∧ W.heap[w.heap.size]? = some (.cells #[.int .i64 s.t, .int .i64 s.h.schema, .int .u64 s.h.zero, .int .u64 s.h.zc, .int .u64 s.h.cnt, .int .u64 s.h.sum, .slice p.A s.h.pos.length p.c, .slice p.B s.h.neg.length p.d, .slice p.C s.h.pc.length p.cc, .slice p.D s.h.nc.length p.dd] 74 (0, 0)) ∧ Ch (fun b => b = g) wr W :=
        ⟨_, rfl, by rw [← cells20_7 q l.length]; exact blk_set hg7 7 _, (Below.heap_setCell _ _ _ _ hne).trans hbx, (Ch.refl (fun b => b = g) wr).setCell (p := ⟨g, 7, none⟩) (.inl rfl) _⟩
      have HW6 := Lib.hid hW6
      have HUPD : Hid (∀ (r : Lh) (w8 : World), FhIn w8 { s.h with pos := q.pos, neg := q.neg } r → OnH (fun k => W6.heap.size ≤ k) { s.h with pos := q.pos, neg := q.neg } r → Below W6.heap.size W6 w8 → Upd (fun W S => Ck W g S q (l ++ [s])) S w (setLast w8 g (.int .i64 s.t) (.int .i64 s.h.schema) (.int .u64 s.h.zero) (.int .u64 s.h.zc) (.int .u64 s.h.cnt) (.int .u64 s.h.sum) (.slice r.A q.pos.length r.c) (.slice r.B q.neg.length r.d) (.slice r.C s.h.pc.length r.cc) (.slice r.D s.h.nc.length r.dd))) := Lib.hid (by
        intro r w8 h1 h2 h3
        have hw6 : W6 = wr.setCell ⟨g, 7, none⟩ (.int .i64 (l.length + 1 : Nat)) := by rw [hW6]; rfl
        subst hw6
        have ha := A4.out
        rw [HNN.out] at ha
        exact Upd.then (fun k hk => .inl hk) (Ch.of_below (HEND.out _ B1d.out)) (Ap.done hF1 H0.out HH64.out ha h3 h1 h2))
      have HQ : Hid (∀ W : World, W.heap[g]? = some (.cells (cells20 q (l.length + 1) (width q) x (lastS q l) x.r) 158 (0, 0)) → W.heap[w.heap.size]? = some (.cells #[.int .i64 s.t, .int .i64 s.h.schema, .int .u64 s.h.zero, .int .u64 s.h.zc, .int .u64 s.h.cnt, .int .u64 s.h.sum, .slice p.A s.h.pos.length p.c, .slice p.B s.h.neg.length p.d, .slice p.C s.h.pc.length p.cc, .slice p.D s.h.nc.length p.dd] 74 (0, 0)) → ((W.cell? ⟨w.heap.size, 0, none⟩ = some (.int .i64 s.t) ∧ W.cell? ⟨w.heap.size, 1, none⟩ = some (.int .i64 s.h.schema) ∧ W.cell? ⟨w.heap.size, 2, none⟩ = some (.int .u64 s.h.zero) ∧ W.cell? ⟨w.heap.size, 3, none⟩ = some (.int .u64 s.h.zc) ∧ W.cell? ⟨w.heap.size, 4, none⟩ = some (.int .u64 s.h.cnt) ∧ W.cell? ⟨w.heap.size, 5, none⟩ = some (.int .u64 s.h.sum) ∧ W.cell? ⟨w.heap.size, 6, none⟩ = some (.slice p.A s.h.pos.length p.c) ∧ W.cell? ⟨w.heap.size, 7, none⟩ = some (.slice p.B s.h.neg.length p.d) ∧ W.cell? ⟨w.heap.size, 8, none⟩ = some (.slice p.C s.h.pc.length p.cc) ∧ W.cell? ⟨w.heap.size, 9, none⟩ = some (.slice p.D s.h.nc.length p.dd)) ∧ W.cell? ⟨g, 4, none⟩ = some (.slice x.p.A q.pos.length x.p.c) ∧ W.cell? ⟨g, 5, none⟩ = some (.slice x.p.B q.neg.length x.p.d))) := Lib.hid (fun W hg hb => ⟨⟨obj_cell hb rfl, obj_cell hb rfl, obj_cell hb rfl, obj_cell hb rfl, obj_cell hb rfl, obj_cell hb rfl, obj_cell hb rfl, obj_cell hb rfl, obj_cell hb rfl, obj_cell hb rfl⟩, obj_cell hg rfl, obj_cell hg rfl⟩)
      have HQ2 : Hid (∀ (W : World) (v0 v1 v2 v3 v4 v5 v6 v7 v8 v9 : Value), W.heap[g]? = some (.cells (cells20 q (l.length + 1) (width q) x (lastS q l) x.r) 158 (0, 0)) → W.heap[w.heap.size]? = some (.cells #[.int .i64 s.t, .int .i64 s.h.schema, .int .u64 s.h.zero, .int .u64 s.h.zc, .int .u64 s.h.cnt, .int .u64 s.h.sum, .slice p.A s.h.pos.length p.c, .slice p.B s.h.neg.length p.d, .slice p.C s.h.pc.length p.cc, .slice p.D s.h.nc.length p.dd] 74 (0, 0)) → ∀ W' : World, W' = setLast W g v0 v1 v2 v3 v4 v5 v6 v7 v8 v9 → ((W'.cell? ⟨w.heap.size, 0, none⟩ = some (.int .i64 s.t) ∧ W'.cell? ⟨w.heap.size, 1, none⟩ = some (.int .i64 s.h.schema) ∧ W'.cell? ⟨w.heap.size, 2, none⟩ = some (.int .u64 s.h.zero) ∧ W'.cell? ⟨w.heap.size, 3, none⟩ = some (.int .u64 s.h.zc) ∧ W'.cell? ⟨w.heap.size, 4, none⟩ = some (.int .u64 s.h.cnt) ∧ W'.cell? ⟨w.heap.size, 5, none⟩ = some (.int .u64 s.h.sum) ∧ W'.cell? ⟨w.heap.size, 6, none⟩ = some (.slice p.A s.h.pos.length p.c) ∧ W'.cell? ⟨w.heap.size, 7, none⟩ = some (.slice p.B s.h.neg.length p.d) ∧ W'.cell? ⟨w.heap.size, 8, none⟩ = some (.slice p.C s.h.pc.length p.cc) ∧ W'.cell? ⟨w.heap.size, 9, none⟩ = some (.slice p.D s.h.nc.length p.dd)) ∧ W'.cell? ⟨g, 4, none⟩ = some (.slice x.p.A q.pos.length x.p.c) ∧ W'.cell? ⟨g, 5, none⟩ = some (.slice x.p.B q.neg.length x.p.d))) := Lib.hid (fun W v0 v1 v2 v3 v4 v5 v6 v7 v8 v9 hg hb0 W' hW' => by
        have hb := (setLast_ch W g v0 v1 v2 v3 v4 v5 v6 v7 v8 v9).blk hb0 hne
        have hg2 := setLast_blk hg v0 v1 v2 v3 v4 v5 v6 v7 v8 v9
        rw [cells20_ten] at hg2
        rw [← hW'] at hb hg2
        exact ⟨⟨obj_cell hb rfl, obj_cell hb rfl, obj_cell hb rfl, obj_cell hb rfl, obj_cell hb rfl, obj_cell hb rfl, obj_cell hb rfl, obj_cell hb rfl, obj_cell hb rfl, obj_cell hb rfl⟩, obj_cell hg2 rfl, obj_cell hg2 rfl⟩)
      have HON : Hid (Calls Tryz.prog 113 #[.agg #[.int .i64 s.t, .int .i64 s.h.schema, .int .u64 s.h.zero, .int .u64 s.h.zc, .int .u64 s.h.cnt, .int .u64 s.h.sum, .slice p.A s.h.pos.length p.c, .slice p.B s.h.neg.length p.d, .slice p.C s.h.pc.length p.cc, .slice p.D s.h.nc.length p.dd], .slice x.p.A q.pos.length x.p.c, .slice x.p.B q.neg.length x.p.d] W6.drew fun e w' => ∃ r : Lh, e = .returned (.agg #[.int .i64 s.t, .int .i64 s.h.schema, .int .u64 s.h.zero, .int .u64 s.h.zc, .int .u64 s.h.cnt, .int .u64 s.h.sum, .slice r.A q.pos.length r.c, .slice r.B q.neg.length r.d, .slice r.C s.h.pc.length r.cc, .slice r.D s.h.nc.length r.dd]) ∧
          FhIn w' { s.h with pos := q.pos, neg := q.neg } r ∧ OnH (fun k => W6.heap.size ≤ k) { s.h with pos := q.pos, neg := q.neg } r ∧ Below W6.heap.size W6 w') := Lib.hid (by
        have hcg : Ch (fun b => (x.Sw b ∨ b = x.gt ∨ b ∈ x.cols) ∨ b = g) w1.drew W6 := (A4.out.ch.mono fun _ _ h => .inl h).trans hc6 fun _ _ h => .inr h
        obtain ⟨hq1, hq2⟩ := HQP.out _ B1d.out _ hcg.drew
        refine (on_calls s p q.pos q.neg x.p.A x.p.B x.p.c x.p.d W6.drew (HSI6.out _ B1d.out _ hcg.drew) hq1 hq2).mono ?_
        rintro e w' ⟨r, he, h1, h2, h3⟩
        exact ⟨r, he, h1, h2, below_then (below_drew (Below.refl _ _)) (Nat.le_refl _) h3⟩)
      have HQD := Lib.hid (HQ.out W6.drew hg6 hb6)
      have HG6 := Lib.hid hg6
      have HBX6 := Lib.hid hb6
      obtain ⟨⟨k0, k1, k2, k3, k4, k5, k6, k7, k8, k9⟩, m4, m5⟩ := HQ.out W6 hg6 hb6
      clear hch hF1 hobj1 hgw hbx hne hW6 hg6 hb6 hc6 g4 g5 g6 g8
      go_wp2_with (fail)
      rw [← HW6.out]
      clear g7 g9 hgf
      go_region_held3 (fun W => (W.cell? ⟨w.heap.size, 0, none⟩ = some (.int .i64 s.t) ∧ W.cell? ⟨w.heap.size, 1, none⟩ = some (.int .i64 s.h.schema) ∧ W.cell? ⟨w.heap.size, 2, none⟩ = some (.int .u64 s.h.zero) ∧ W.cell? ⟨w.heap.size, 3, none⟩ = some (.int .u64 s.h.zc) ∧ W.cell? ⟨w.heap.size, 4, none⟩ = some (.int .u64 s.h.cnt) ∧ W.cell? ⟨w.heap.size, 5, none⟩ = some (.int .u64 s.h.sum) ∧ W.cell? ⟨w.heap.size, 6, none⟩ = some (.slice p.A s.h.pos.length p.c) ∧ W.cell? ⟨w.heap.size, 7, none⟩ = some (.slice p.B s.h.neg.length p.d) ∧ W.cell? ⟨w.heap.size, 8, none⟩ = some (.slice p.C s.h.pc.length p.cc) ∧ W.cell? ⟨w.heap.size, 9, none⟩ = some (.slice p.D s.h.nc.length p.dd)) ∧ W.cell? ⟨g, 4, none⟩ = some (.slice x.p.A q.pos.length x.p.c) ∧ W.cell? ⟨g, 5, none⟩ = some (.slice x.p.B q.neg.length x.p.d))
        (first | (with_reducible exact HQD.out) | (with_reducible exact hq8) | (with_reducible exact HQ2.out _ _ _ _ _ _ _ _ _ _ _ hg8 hbx8 _ rfl))
        (first
        | (go_at_call 113; refine HON.out.mono ?_; rintro e w8 ⟨r, rfl, hr8, hor8, hb8⟩; have hg8 := (Ch.of_below (S := fun _ => False) hb8).blk HG6.out (fun x => x); have hbx8 := (Ch.of_below (S := fun _ => False) hb8).blk HBX6.out (fun x => x); have hq8 := HQ.out w8 hg8 hbx8; have e10 := obj_cell (i := 10) hg8 rfl; have f10 := obj_free (i := 10) hg8; have e11 := obj_cell (i := 11) hg8 rfl; have f11 := obj_free (i := 11) hg8; have e12 := obj_cell (i := 12) hg8 rfl; have f12 := obj_free (i := 12) hg8; have e13 := obj_cell (i := 13) hg8 rfl; have f13 := obj_free (i := 13) hg8; have e14 := obj_cell (i := 14) hg8 rfl; have f14 := obj_free (i := 14) hg8; have e15 := obj_cell (i := 15) hg8 rfl; have f15 := obj_free (i := 15) hg8; have e16 := obj_cell (i := 16) hg8 rfl; have f16 := obj_free (i := 16) hg8; have e17 := obj_cell (i := 17) hg8 rfl; have f17 := obj_free (i := 17) hg8; have e18 := obj_cell (i := 18) hg8 rfl; have f18 := obj_free (i := 18) hg8; have e19 := obj_cell (i := 19) hg8 rfl; have f19 := obj_free (i := 19) hg8))
      have HU := Lib.hid (HUPD.out r w8 hr8 hor8 hb8)
      clear hr8 hor8 hb8 hg8 hbx8 hq8 e10 f10 e11 f11 e12 f12 e13 f13 e14 f14 e15 f15 e16 f16 e17 f17 e18 f18 e19 f19
      go_wp2
      go_ret
      exact (HPOST.out _ _).mpr (.inr ⟨H0.out, rfl, HU.out⟩)
end Go.Proofs.YtjfekjbmgckkcaaGreatDoor.FcF
namespace Go.Proofs.YtjfekjbmgckkcaaGreatDoor.FcG
open Go.RowKit Go.Proofs.YtjfekjbmgckkcaaGreatDoorW.PrintWords
open Go.Proofs.YtjfekjbmgckkcaaGreatDoor.Bits Go.Proofs.YtjfekjbmgckkcaaGreatDoor.Base Go.Proofs.YtjfekjbmgckkcaaGreatDoor.VarPure Go.Proofs.YtjfekjbmgckkcaaGreatDoor.VarbitA Go.Proofs.YtjfekjbmgckkcaaGreatDoor.VarKit Go.Proofs.YtjfekjbmgckkcaaGreatDoor.StreamA Go.Proofs.YtjfekjbmgckkcaaGreatDoor.TimesPure Go.Proofs.YtjfekjbmgckkcaaGreatDoor.TimesA Go.Proofs.YtjfekjbmgckkcaaGreatDoor.Ref12 Go.Proofs.YtjfekjbmgckkcaaGreatDoor.Ref13 Go.Proofs.YtjfekjbmgckkcaaGreatDoor.SpanPure Go.Proofs.YtjfekjbmgckkcaaGreatDoor.SpanBase Go.Proofs.YtjfekjbmgckkcaaGreatDoor.FailAs Go.Proofs.YtjfekjbmgckkcaaGreatDoor.FailB Go.Proofs.YtjfekjbmgckkcaaGreatDoor.FailC Go.Proofs.YtjfekjbmgckkcaaGreatDoor.HeadA Go.Proofs.YtjfekjbmgckkcaaGreatDoor.HeadB Go.Proofs.YtjfekjbmgckkcaaGreatDoor.HeadE Go.Proofs.YtjfekjbmgckkcaaGreatDoor.HeadPure Go.Proofs.YtjfekjbmgckkcaaGreatDoor.XorPure Go.Proofs.YtjfekjbmgckkcaaGreatDoor.XorA Go.Proofs.YtjfekjbmgckkcaaGreatDoor.XorB Go.Proofs.YtjfekjbmgckkcaaGreatDoor.FcPure Go.Proofs.YtjfekjbmgckkcaaGreatDoor.FcObj Go.Proofs.YtjfekjbmgckkcaaGreatDoor.FcA Go.Proofs.YtjfekjbmgckkcaaGreatDoor.FcB Go.Proofs.YtjfekjbmgckkcaaGreatDoor.FcC Go.Proofs.YtjfekjbmgckkcaaGreatDoor.FcD Go.Proofs.YtjfekjbmgckkcaaGreatDoor.FcE
def rPtr : Rep.Rep Nat where
  k := 1
  enc g := [.pointer (some ⟨g, 0, none⟩)]
  ok _ _ := True
  len _ := rfl
  one n u h := by rw [List.mem_singleton.1 h]; rfl
  below _ h := h
theorem infoPtr : (Tryz.prog.info? 160).map (fun i => (i.zero, i.size, i.bytes)) = some (some (.pointer none), 1, 8) := by kernel_rfl
theorem append_ptr_step {P : Program} {ops : Array Oper} {o : Oper} {a : Act} {Q : Exit → Act → World → Prop} {K : Act → World → Prop} {W : World} (base : Nat) (hgd : o.guard = none) (s x : Operand) (t e : TypeId) (bytes : Nat)
    (ho : o.op = .call { callee := .builtin .append, args := #[s, x], argTypes := #[t, t] })
    (ht : P.underlying t = some (.slice e)) (hinfo : (P.info? e).map (fun i => (i.zero, i.size, i.bytes)) = some (some (.pointer none), 1, bytes)) (hb0 : 0 < bytes)
    (v : Value) (cols : List Nat) (y : Nat) (hs : a.eval s = v) (hx : a.eval x = .slice (some ⟨W.heap.size, 0, none⟩) 1 1)
    (HO : Rep.OwX rPtr e W base v cols) (hbase : base ≤ W.heap.size) (hl : (cols.length + 1) * bytes ≤ 140737488355328)
    (h : ∀ v1 w1, Rep.OwX rPtr e w1 base v1 (cols ++ [y]) → W.grownBy w1 v.ownBlock → K (a.put o.dst v1) w1) :
    if Region.wanted o (yielded ops a.tmps) = true then Oper.wp P o a (W.alloc (.cells #[.pointer (some ⟨y, 0, none⟩)] e)) K Q else K (a.put o.dst undef) (W.alloc (.cells #[.pointer (some ⟨y, 0, none⟩)] e)) :=
  step_append_cells (w0 := W) base (by simp [Region.wanted, hgd]) s x t e (.pointer none) 1 bytes ho ht hinfo rfl (by decide) hb0 v cols.length (Rep.all rPtr cols) [.pointer (some ⟨y, 0, none⟩)] hs hx rfl (by simp [Value.oneCell']) HO (Below.refl _ _) hbase hl
    fun v1 w1 hown _ hg _ => h v1 w1 (by
      unfold Rep.OwX
      rw [List.length_append, List.length_singleton, Rep.all_append]
      exact hown) hg
structure Gk (g : Nat) (A : Value → Array Value) (f : Nat → XR) (v : Value) (cols : List Nat) (Wb W : World) : Prop where
  obj : W.heap[g]? = some (.cells (A v) 158 (0, 0))
  row : Rep.OwX rPtr 160 W Wb.heap.size v cols
  xs : ∀ (j : Nat) (h : j < cols.length), XrS W cols[j] (f j)
  cb : ∀ c ∈ cols, Wb.heap.size ≤ c
  nd : cols.Nodup
  ch : Ch (fun b => b = g) Wb W
section
variable {g : Nat} {A : Value → Array Value} {f : Nat → XR} {v v1 : Value} {cols : List Nat} {Wb W W1 W3 : World} {c : Nat}
theorem Gk.below (h : Gk g A f v cols Wb W) (hb : Below W.heap.size W W1) : Gk g A f v cols Wb W1 :=
  ⟨(hb.block g (blk_lt h.obj)).trans h.obj, h.row.below hb, fun j hj => (h.xs j hj).below hb, h.cb, h.nd, h.ch.then_below hb⟩
theorem Gk.start (h : Wb.heap[g]? = some (.cells (A (.slice none 0 0)) 158 (0, 0))) : Gk g A f (.slice none 0 0) [] Wb Wb :=
  ⟨h, Rep.OwX.nil _ _ _ _, fun j hj => absurd hj (by simp), fun c hc => absurd hc (by simp), List.nodup_nil, Ch.refl _ _⟩
theorem row_not (h : Rep.OwX rPtr 160 W Wb.heap.size v cols) {c : Nat} {x : XR} (hx : XrS W c x) : v.ownBlock ≠ some c := by
  intro he
  rcases h.2 with ⟨rfl, -⟩ | ⟨g', cap, cur, rfl, -, hg, -⟩
  · cases he
  · have : g' = c := by simpa [Value.ownBlock] using he
    subst this
    have := hg.symm.trans hx.1
    injection this with this
    injection this with _ this
    exact absurd this (by decide)
theorem Gk.push (h : Gk g A f v cols Wb W) (hg : g < Wb.heap.size) (hA : (A v).setIfInBounds 9 v1 = A v1) (hx : XrS W1 c (f cols.length)) (hc : W.heap.size ≤ c) (hb : Below W.heap.size W W1)
    (ho : Rep.OwX rPtr 160 W3 Wb.heap.size v1 (cols ++ [c])) (hgr : W1.grownBy W3 v.ownBlock) : Gk g A f v1 (cols ++ [c]) Wb (W3.setCell ⟨g, 9, none⟩ v1) := by
  have h1 := h.below hb
  have hbase : ∀ b, v.ownBlock = some b → Wb.heap.size ≤ b ∧ b < W.heap.size := fun b hb => ⟨Rep.OwX.base_ h.row b hb, Rep.OwX.lt_ h.row b hb⟩
  have h13 : Ch (fun b => v.ownBlock = some b) W1 W3 := (Ch.refl _ W1).grown hgr fun k hk => .inl hk
  have h34 : Ch (fun b => b = g) W3 (W3.setCell ⟨g, 9, none⟩ v1) := (Ch.refl (fun b => b = g) W3).setCell (p := ⟨g, 9, none⟩) (.inl rfl) _
  have hgv : ¬ v.ownBlock = some g := fun he => by have := (hbase g he).1; omega
  have hlt : ∀ b ∈ cols, b < W.heap.size := fun b hb' => by
    obtain ⟨j, hj, rfl⟩ := List.getElem_of_mem hb'
    exact (h.xs j hj).lt
  refine ⟨?_, ?_, fun j hj => ?_, fun d hd => ?_, ?_, ?_⟩
  · rw [← hA]
    exact blk_set (h13.blk h1.obj hgv) 9 _
  · exact Rep.OwX.move ho fun b hb' => h34.block b (Rep.OwX.lt_ ho b hb') fun he => by have := Rep.OwX.base_ ho b hb'; omega
  · rw [List.length_append, List.length_singleton] at hj
    rcases Nat.lt_or_ge j cols.length with hlj | hlj
    · rw [List.getElem_append_left hlj]
      refine ((h1.xs j hlj).ch h13 (row_not h1.row (h1.xs j hlj))).ch h34 fun he => ?_
      have := h.cb _ (List.getElem_mem hlj)
      omega
    · obtain rfl : j = cols.length := by omega
      rw [List.getElem_append_right (Nat.le_refl _)]
      simp only [Nat.sub_self, List.getElem_cons_zero]
      have := h.ch.size
      refine (hx.ch h13 fun he => ?_).ch h34 fun he => by omega
      have := (hbase c he).2
      omega
  · rcases List.mem_append.1 hd with h4 | h4
    · exact h.cb d h4
    · rw [List.mem_singleton.1 h4]
      exact Nat.le_trans h.ch.size hc
  · refine List.nodup_append.2 ⟨h.nd, List.nodup_cons.2 ⟨by simp, List.nodup_nil⟩, fun a ha b hb' => ?_⟩
    rw [List.mem_singleton.1 hb']
    have := hlt a ha
    omega
  · exact (h1.ch.trans h13 fun i hi he => absurd (hbase i he).1 (by omega)).trans h34 fun _ _ he => he
end
def cellsN (q : Hd) (p : Lc) (gw gt : Nat) (v : Value) : Array Value := #[.int .i64 q.vr, .int .i64 q.hint, .int .i64 q.schema, .int .u64 q.zero, .slice p.A q.pos.length p.c, .slice p.B q.neg.length p.d, .pointer (some ⟨gw, 0, none⟩), .int .i64 0, .pointer (some ⟨gt, 0, none⟩), v, .int .i64 0, .int .i64 0, .int .u64 0, .int .u64 0, .int .u64 0, .int .u64 0, .slice none 0 0, .slice none 0 0, .slice none 0 0, .slice none 0 0]
theorem cellsN_set (q : Hd) (p : Lc) (gw gt : Nat) (v v1 : Value) : (cellsN q p gw gt v).setIfInBounds 9 v1 = cellsN q p gw gt v1 := by simp [cellsN]
theorem la_nil (W : World) : FhIn W ⟨0, 0, 0, 0, 0, [], [], [], []⟩ ⟨none, 0, none, 0, none, 0, none, 0⟩ :=
  ⟨⟨RdC.nil _ _, Nat.zero_le _, Nat.zero_le _, fun _ => rfl⟩, ⟨RdC.nil _ _, Nat.zero_le _, Nat.zero_le _, fun _ => rfl⟩, ⟨RdI.nil _ _ _, Nat.zero_le _, Nat.zero_le _, fun _ => rfl⟩, ⟨RdI.nil _ _ _, Nat.zero_le _, Nat.zero_le _, fun _ => rfl⟩, ⟨by decide, by decide, by decide, by decide, fun v hv => absurd hv (by simp), fun v hv => absurd hv (by simp)⟩⟩
def NewPost (q : Hd) (w : World) (e : Ending) (w' : World) : Prop :=
  Below w.heap.size w w' ∧ (((headErr q).1 ≠ 0 ∧ ∃ v, e = .returned (.tuple #[.pointer none, v]) ∧ Err w' v (plc (headErr q).1 (headErr q).2 0) .nilIface) ∨
    ((headErr q).1 = 0 ∧ q.vr ≠ 1 ∧ ∃ v, e = .returned (.tuple #[.pointer none, v]) ∧ Err w' v (plc (25 : Nat) pVariant 0) .nilIface) ∨
    ((headErr q).1 = 0 ∧ q.vr = 1 ∧ ∃ g S, e = .returned (.tuple #[.pointer (some ⟨g, 0, none⟩), .nilIface]) ∧ Ck w' g S q [] ∧ ∀ k, S k → w.heap.size ≤ k))
theorem Gk.done {g gw gt : Nat} {q : Hd} {p : Lc} {Sw : Nat → Prop} {v : Value} {cols : List Nat} {w Wb W : World} (h : Gk g (cellsN q p gw gt) (fun _ => xr0) v cols Wb W) (hg : g < Wb.heap.size) (hgb : w.heap.size ≤ g) (hok : (headErr q).1 = 0) (hl : cols.length = width q)
    (hd : HdIn Wb q p) (hp : On (fun k => w.heap.size ≤ k) p.A q.pos.length) (hn : On (fun k => w.heap.size ≤ k) p.B q.neg.length)
    (hw : Wr Wb gw Sw (encH q)) (hwb : ∀ k, Sw k → w.heap.size ≤ k) (ht : TrS Wb gt 0 0 0) (htb : w.heap.size ≤ gt)
    (h1 : ¬ Sw g) (h2 : g ≠ gt) (h3 : ¬ Sw gt) (h4 : On (fun k => ¬ Sw k ∧ k ≠ g ∧ k ≠ gt) p.A q.pos.length) (h5 : On (fun k => ¬ Sw k ∧ k ≠ g ∧ k ≠ gt) p.B q.neg.length) :
    ∃ S, Ck W g S q [] ∧ ∀ k, S k → w.heap.size ≤ k := by
  have hcl : ∀ c ∈ cols, c < W.heap.size := fun c hc => by
    obtain ⟨j, hj, rfl⟩ := List.getElem_of_mem hc
    exact (h.xs j hj).lt
  have hlen : 0 < cols.length := by rw [hl]; unfold width; omega
  obtain ⟨gv, cap, cur, rfl, hbv, -, hcap, -, -, -⟩ : ∃ g cap cur, v = .slice (some ⟨g, 0, none⟩) cols.length cap ∧ Wb.heap.size ≤ g ∧ W.heap[g]? = some (.cells cur 160 (0, 0)) ∧ cols.length ≤ cap ∧ cap ≤ maxLen ∧ cur.size = cap * 1 ∧ cur.toList.take (cols.length * 1) = Rep.all rPtr cols := by
    rcases h.row.2 with ⟨-, h0⟩ | ⟨g', cap, cur, e1, e2, e3, e4, e5, e6, e7⟩
    · omega
    · exact ⟨g', cap, cur, e1, e2, e3, e4, e5, e6, e7⟩
  have hgvlt : gv < W.heap.size := Rep.OwX.lt_ h.row gv rfl
  have hgvc : gv ∉ cols := fun hc => by
    obtain ⟨j, hj, he⟩ := List.getElem_of_mem hc
    have := row_not h.row (h.xs j hj)
    rw [he] at this
    exact this rfl
  have hch := h.ch
  have hwo := hw.old
  have hto := ht.lt
  have hpo : ∀ ad, p.A = some ad → 0 < q.pos.length → ad.block < Wb.heap.size := fun ad hA hp' => HeadD.rd_lt hd.pos.rd ad hA hp'
  have hno : ∀ ad, p.B = some ad → 0 < q.neg.length → ad.block < Wb.heap.size := fun ad hA hp' => HeadD.rd_lt hd.neg.rd ad hA hp'
  obtain ⟨T, hT⟩ : ∃ T : Nat → Prop, T = fun k => (w.heap.size ≤ k ∧ k < Wb.heap.size ∧ ¬ Sw k ∧ k ≠ g ∧ k ≠ gt) ∨ k = gv := ⟨_, rfl⟩
  have hTA : ∀ ad, p.A = some ad → 0 < q.pos.length → T ad.block := fun ad hA hp' => by rw [hT]; exact .inl ⟨hp ad hA hp', hpo ad hA hp', h4 ad hA hp'⟩
  have hTB : ∀ ad, p.B = some ad → 0 < q.neg.length → T ad.block := fun ad hA hp' => by rw [hT]; exact .inl ⟨hn ad hA hp', hno ad hA hp', h5 ad hA hp'⟩
  have hTv : T gv := by rw [hT]; exact .inr rfl
  have hTn : ∀ k, T k → (w.heap.size ≤ k ∧ k < W.heap.size ∧ ¬ Sw k ∧ k ≠ g ∧ k ≠ gt ∧ k ∉ cols) := fun k hk => by
    rw [hT] at hk
    have hsz := hch.size
    rcases hk with ⟨e1, e2, e3, e4, e5⟩ | hk
    · exact ⟨e1, by omega, e3, e4, e5, fun hc => by have := h.cb k hc; omega⟩
    · subst hk
      have := hch.size
      exact ⟨by omega, hgvlt, fun hs => by have := hwo _ hs; omega, by omega, by omega, hgvc⟩
  have hTno : ∀ k, k < Wb.heap.size → T k → ¬ (fun b => b = g) k := fun k _ hk he => (hTn k hk).2.2.2.1 he
  refine ⟨fun k => k = g ∨ Sw k ∨ k = gt ∨ k ∈ cols ∨ T k, ⟨⟨p, gw, gt, Sw, ⟨gv, 0, none⟩, cap, cols, ⟨none, 0, none, 0, none, 0, none, 0⟩, T⟩, ?_⟩, ?_⟩
  · exact {
      obj := by rw [h.obj, kcs_eq, lastS_nil, ← hl]; rfl
      hd := ⟨⟨HeadD.rd_ch hd.pos.rd hch fun ad hA hp' => (h4 ad hA hp').2.1, hd.pos.len, hd.pos.cap, hd.pos.nil⟩, ⟨HeadD.rd_ch hd.neg.rd hch fun ad hA hp' => (h5 ad hA hp').2.1, hd.neg.len, hd.neg.cap, hd.neg.nil⟩, hd.z⟩
      wr := by
        rw [bitsB_nil, List.append_nil]
        exact hw.ch hch fun k hk he => h1 (he ▸ hk)
      tr := ht.ch hch fun he => h2 he.symm
      cl := hl
      vc := hl ▸ hcap
      vals := fun k hk => by
        obtain ⟨y, e1, e2, e3⟩ := h.row.reads
        injection e1 with e4 e5 e6
        obtain ⟨ad, e7, e8⟩ := Rep.RdC.elem (r := rPtr) e3.rd k (by rw [e2]; exact hk) (by decide)
        rw [← e4] at e7
        injection e7 with e7
        subst e7
        have := e8 0 _ rfl
        simp only [e2] at this
        have hk1 : k * rPtr.k + 0 = k := by show k * 1 + 0 = k; omega
        rwa [hk1] at this
      xs := fun k hk => h.xs k hk
      la := by rw [lastS_nil]; exact la_nil W
      n64 := fun s hs => absurd hs (by simp)
      good := good_nil q
      okq := hok
      onp := hTA
      onn := hTB
      onv := hTv
      onr := ⟨fun ad hA => absurd hA (by simp), fun ad hA => absurd hA (by simp), fun ad hA => absurd hA (by simp), fun ad hA => absurd hA (by simp)⟩
      hS := fun k => Iff.rfl
      old := fun k hk => by
        have hsz := hch.size
        rcases hk with hk | hk | hk | hk | hk
        · omega
        · have := hwo k hk; omega
        · omega
        · exact hcl k hk
        · exact (hTn k hk).2.1
      gw := h1
      gt := h2
      gc := fun hc => by have := h.cb g hc; omega
      gT := fun hk => (hTn g hk).2.2.2.1 rfl
      wt := h3
      wc := fun k hk hs => by have := h.cb k hk; have := hwo k hs; omega
      wT := fun k hk hs => (hTn k hk).2.2.1 hs
      tc := fun hc => by have h9 : Wb.heap.size ≤ gt := h.cb gt hc; omega
      tT := fun hk => (hTn gt hk).2.2.2.2.1 rfl
      cn := h.nd
      cT := fun k hk hT' => (hTn k hT').2.2.2.2.2 hk }
  · intro k hk
    rcases hk with hk | hk | hk | hk | hk
    · omega
    · exact hwb k hk
    · omega
    · have := h.cb k hk
      have := hto
      omega
    · exact (hTn k hk).1
set_option maxRecDepth 100000 in
set_option maxHeartbeats 6400000 in
theorem new_calls (q : Hd) (p : Lc) (w : World) (hh : HdIn w q p) (hE : GlE w) (hT : Tab w) :
    Calls Tryz.prog 36 #[.agg (hcs q p).toArray] w (NewPost q w) := by
  have HPO : Hid (∀ e w', NewPost q w e w' = (Below w.heap.size w w' ∧ (((headErr q).1 ≠ 0 ∧ ∃ v, e = .returned (.tuple #[.pointer none, v]) ∧ Err w' v (plc (headErr q).1 (headErr q).2 0) .nilIface) ∨
    ((headErr q).1 = 0 ∧ q.vr ≠ 1 ∧ ∃ v, e = .returned (.tuple #[.pointer none, v]) ∧ Err w' v (plc (25 : Nat) pVariant 0) .nilIface) ∨
    ((headErr q).1 = 0 ∧ q.vr = 1 ∧ ∃ g S, e = .returned (.tuple #[.pointer (some ⟨g, 0, none⟩), .nilIface]) ∧ Ck w' g S q [] ∧ ∀ k, S k → w.heap.size ≤ k)))) := Lib.hid (fun _ _ => rfl)
  obtain ⟨W0, hW0, hbk, hal⟩ : ∃ W0 : World, W0 = w.alloc (.cells #[.int .i64 q.vr, .int .i64 q.hint, .int .i64 q.schema, .int .u64 q.zero, .slice p.A q.pos.length p.c, .slice p.B q.neg.length p.d] 25) ∧ W0.heap[w.heap.size]? = some (.cells #[.int .i64 q.vr, .int .i64 q.hint, .int .i64 q.schema, .int .u64 q.zero, .slice p.A q.pos.length p.c, .slice p.B q.neg.length p.d] 25 (0, 0)) ∧ Below w.heap.size w W0 := ⟨_, rfl, blk_last w _, below_alloc (Below.refl _ _) _⟩
  have HCEL : Hid (∀ W : World, W.heap[w.heap.size]? = some (.cells #[.int .i64 q.vr, .int .i64 q.hint, .int .i64 q.schema, .int .u64 q.zero, .slice p.A q.pos.length p.c, .slice p.B q.neg.length p.d] 25 (0, 0)) → (W.cell? ⟨w.heap.size, 0, none⟩ = some (.int .i64 q.vr) ∧ W.cell? ⟨w.heap.size, 1, none⟩ = some (.int .i64 q.hint) ∧ W.cell? ⟨w.heap.size, 2, none⟩ = some (.int .i64 q.schema) ∧ W.cell? ⟨w.heap.size, 3, none⟩ = some (.int .u64 q.zero) ∧ W.cell? ⟨w.heap.size, 4, none⟩ = some (.slice p.A q.pos.length p.c) ∧ W.cell? ⟨w.heap.size, 5, none⟩ = some (.slice p.B q.neg.length p.d))) := Lib.hid (fun W hb => ⟨obj_cell hb rfl, obj_cell hb rfl, obj_cell hb rfl, obj_cell hb rfl, obj_cell hb rfl, obj_cell hb rfl⟩)
  have HNW := Lib.hid (newWriter_calls none 0 0 [] W0 (RdI.nil .u8 _ _) (by decide) (by decide) (fun _ => rfl) (by decide))
  rw [show (bts []).take 0 = [] from rfl] at HNW
  have HH := Lib.hid (hh.below hal)
  have HE := Lib.hid (gle_below hE hal)
  have HT := Lib.hid (hT.below hal)
  have HEND := Lib.hid (fun W (hb : Below W0.heap.size W0 W) => below_then hal hal.size hb)
  have HZ0 := Lib.hid hal.size
  have HLT := Lib.hid (blk_lt hbk)
  have HW0 := Lib.hid hW0
  have HBK := Lib.hid hbk
  have hk := HCEL.out W0 hbk
  obtain ⟨k0, k1, k2, k3, k4, k5⟩ := hk
  clear hh hE hT hal hbk hW0
  show Calls Tryz.prog 36 #[.agg #[.int .i64 q.vr, .int .i64 q.hint, .int .i64 q.schema, .int .u64 q.zero, .slice p.A q.pos.length p.c, .slice p.B q.neg.length p.d]] w _
  go_enter Tryz.func36, Tryz.ntmps36
  go_wp2_with (fail)
  rw [← HW0.out]
  refine HNW.out.mono ?_
  rintro e w1 ⟨gw, Sw, rfl, hw, hSw, hb1⟩
  have B1 := Lib.hid hb1
  have HSW := Lib.hid hSw
  have HBK1 := Lib.hid ((hb1.block _ HLT.out).trans HBK.out)
  have HH1 := Lib.hid (HH.out.below hb1)
  have HNG : Hid (¬ Sw 1) := Lib.hid (fun hs => by
    have := hSw _ hs
    have := HT.out.lt
    omega)
  have hnA : ∀ ad, p.A = some ad → 0 < q.pos.length → ¬ Sw ad.block := fun ad hA hp hs => by
    have := HeadD.rd_lt HH.out.pos.rd ad hA hp
    have := hSw _ hs
    omega
  have hnB : ∀ ad, p.B = some ad → 0 < q.neg.length → ¬ Sw ad.block := fun ad hA hp hs => by
    have := HeadD.rd_lt HH.out.neg.rd ad hA hp
    have := hSw _ hs
    omega
  have HPU := Lib.hid (Put_calls gw Sw [] q p w1 HH1.out (gle_below HE.out hb1) (HT.out.below hb1) HNG.out hw (by decide) hnA hnB)
  obtain ⟨k0, k1, k2, k3, k4, k5⟩ := HCEL.out w1 HBK1.out
  have HNA := Lib.hid hnA
  have HNB := Lib.hid hnB
  clear hw hSw hb1 HNW hnA hnB
  go_wp2_with (fail)
  refine HPU.out.mono ?_
  rintro e w2 hput
  clear HPU
  by_cases h0 : (headErr q).1 ≠ 0
  · obtain ⟨v, rfl, he, hb2⟩ : ErrAt (headErr q).1 (headErr q).2 0 w1 e w2 := by
      rcases hput with ⟨h, -⟩ | ⟨-, h⟩
      · exact absurd h h0
      · exact h
    have B2 := Lib.hid (HEND.out _ (below_then B1.out B1.out.size hb2))
    have H0 := Lib.hid h0
    have E2 := Lib.hid he
    obtain ⟨ge, rfl⟩ := err_some (by omega) he
    clear hput he hb2 h0 k0 k1 k2 k3 k4 k5
    go_wp2
    go_ret2
    exact (HPO.out _ _).mpr ⟨B2.out, .inl ⟨H0.out, _, rfl, E2.out⟩⟩
  have h0 := Decidable.not_not.1 h0
  obtain ⟨rfl, hu⟩ : e = .returned .nilIface ∧ Upd (fun w S => Wr w gw S ([] ++ encH q)) Sw w1 w2 := by
    rcases hput with ⟨-, h1, h2⟩ | ⟨h, -⟩
    · exact ⟨h1, h2⟩
    · exact absurd h0 h
  obtain ⟨S2, hw2, hs2, hc2⟩ := hu
  rw [List.nil_append] at hw2
  have H0 := Lib.hid h0
  have B2 := Lib.hid (ch_new B1.out B1.out.size HSW.out hc2)
  have HS2 : Hid (∀ k, S2 k → W0.heap.size ≤ k) := Lib.hid (fun k hk => by
    rcases hs2 k hk with h | h
    · exact HSW.out k h
    · exact Nat.le_trans B1.out.size h)
  have HW2 := Lib.hid hw2
  have HBK2 := Lib.hid (hc2.blk HBK1.out fun hs => by have := HSW.out _ hs; have := HLT.out; omega)
  have HH2 : Hid (HdIn w2 q p) := Lib.hid (HH.out.below B2.out)
  obtain ⟨k0, k1, k2, k3, k4, k5⟩ := HCEL.out w2 HBK2.out
  clear hput h0 hw2 hs2 hc2
  by_cases hv : q.vr ≠ 1
  · have e1 : (q.vr != 1) = true := by simpa using hv
    have HV := Lib.hid hv
    have HAT := Lib.hid (FcA.at_calls 25 pVariant 0 w2 (gle_below HE.out B2.out))
    clear hv
    go_wp2_with (fail)
    refine HAT.out.mono ?_
    rintro e w3 ⟨v, rfl, he, hb3⟩
    have E3 := Lib.hid he
    have B3 := Lib.hid (HEND.out _ (below_then B2.out B2.out.size hb3))
    clear he hb3 k0 k1 k2 k3 k4 k5
    go_wp2
    go_ret2
    exact (HPO.out _ _).mpr ⟨B3.out, .inr (.inl ⟨H0.out, HV.out, _, rfl, E3.out⟩)⟩
  have hv := Decidable.not_not.1 hv
  have e1 : (q.vr != 1) = false := by simpa using hv
  have HV := Lib.hid hv
  have HOW := Lib.hid (FcA.own_calls q p w2 HH2.out)
  clear hv
  go_wp2_with (fail)
  refine HOW.out.mono ?_
  rintro e w3 ⟨r, rfl, hr, honA, honB, hb3⟩
  have B3 := Lib.hid (below_then B2.out B2.out.size hb3)
  have R3 := Lib.hid hr
  have OA := Lib.hid honA
  have OB := Lib.hid honB
  have W3' := Lib.hid (HW2.out.below hb3)
  have HBK3 := Lib.hid ((hb3.block _ (blk_lt HBK2.out)).trans HBK2.out)
  have HSZ3 := Lib.hid hb3.size
  have HOL2 := Lib.hid HW2.out.old
  have HNS := Lib.hid (newS_calls w3)
  clear hr honA honB hb3 HOW k0 k1 k2 k3 k4 k5
  dsimp only [hcs]
  go_wp2_with (fail)
  refine HNS.out.mono ?_
  rintro e w4 ⟨rfl, ht4, hb4⟩
  have T4 := Lib.hid ht4
  have B4 := Lib.hid (below_then B3.out B3.out.size hb4)
  have R4 := Lib.hid (R3.out.below hb4)
  have W4' := Lib.hid (W3'.out.below hb4)
  have HBK4 := Lib.hid ((hb4.block _ (blk_lt HBK3.out)).trans HBK3.out)
  have HSZ4 := Lib.hid hb4.size
  obtain ⟨gt, hgt⟩ : ∃ gt, gt = w3.heap.size := ⟨_, rfl⟩
  have HGT := Lib.hid hgt
  rw [← hgt] at T4 ⊢
  have hgt4 := T4.out.lt
  obtain ⟨W5, hW5, hg5, hb5, hsz5⟩ : ∃ W : World, W = w4.alloc (.cells (cellsN q r gw gt (.slice none 0 0)) 158) ∧ W.heap[w4.heap.size]? = some (.cells (cellsN q r gw gt (.slice none 0 0)) 158 (0, 0)) ∧ Below w4.heap.size w4 W ∧ w4.heap.size < W.heap.size := ⟨_, rfl, blk_last w4 _, below_alloc (Below.refl _ _) _, by simp⟩
  have HW5 : Hid (W5 = w4.alloc (.cells #[.int .i64 q.vr, .int .i64 q.hint, .int .i64 q.schema, .int .u64 q.zero, .slice r.A q.pos.length r.c, .slice r.B q.neg.length r.d, .pointer (some ⟨gw, 0, none⟩), .int .i64 0, .pointer (some ⟨gt, 0, none⟩), .slice none 0 0, .int .i64 0, .int .i64 0, .int .u64 0, .int .u64 0, .int .u64 0, .int .u64 0, .slice none 0 0, .slice none 0 0, .slice none 0 0, .slice none 0 0] 158)) := Lib.hid (by rw [hW5]; rfl)
  have HG5 := Lib.hid hg5
  have HB5 := Lib.hid hb5
  have HSZ5 := Lib.hid hsz5
  clear hW5 hg5 hb5 hsz5 ht4 hb4 HNS hgt hgt4
  go_wp2_with (fail)
  rw [← HW5.out]
  obtain ⟨hq1, hq2⟩ := okq_chk H0.out
  have hB45 := below_then B4.out B4.out.size HB5.out
  have HCT : Hid (∀ (A' : Option Addr) (c' : Nat) (m : List Sp), chk m = 0 → Spl W0 A' c' m → ∀ W, Below W5.heap.size W5 W → Calls Tryz.prog 99 #[.slice A' m.length c'] W fun e w' => e = .returned (.int .i64 (places m).length) ∧ Below W5.heap.size W5 w') := Lib.hid (by
    intro A' c' m hm hs W hb
    have := SpanQ.count_calls A' c' m W ((hs.below hB45).below hb).rd (by have := hs.len; omega)
    rw [if_pos hm] at this
    exact lift hb hb.size this)
  have HC1 := Lib.hid (HCT.out _ _ _ hq1 HH.out.pos)
  have HC2 := Lib.hid (HCT.out _ _ _ hq2 HH.out.neg)
  have HS5 : Hid (∀ W, Below W5.heap.size W5 W → (Below W5.heap.size W5 W ∧ W.cell? ⟨w.heap.size, 4, none⟩ = some (.slice p.A q.pos.length p.c) ∧ W.cell? ⟨w.heap.size, 5, none⟩ = some (.slice p.B q.neg.length p.d))) := Lib.hid (fun W hb => by
    have h1 := (HB5.out.block _ (blk_lt HBK4.out)).trans HBK4.out
    have h2 := (hb.block _ (blk_lt h1)).trans h1
    exact ⟨hb, obj_cell h2 rfl, obj_cell h2 rfl⟩)
  have hp1 := places_len (SpanQ.right_of hq1)
  have hp2 := places_len (SpanQ.right_of hq2)
  have HWD : Hid (width q = 3 + (places q.pos).length + (places q.neg).length) := Lib.hid rfl
  obtain ⟨a, ha⟩ : ∃ a, a = (places q.pos).length := ⟨_, rfl⟩
  obtain ⟨b, hb⟩ : ∃ b, b = (places q.neg).length := ⟨_, rfl⟩
  rw [← ha] at HC1 HWD hp1
  rw [← hb] at HC2 HWD hp2
  have hs5 := HS5.out W5 (Below.refl _ _)
  have HB45 := Lib.hid hB45
  clear ha hb hq1 hq2 hB45 HCT
  go_region_held3 (fun W => Below W5.heap.size W5 W ∧ W.cell? ⟨w.heap.size, 4, none⟩ = some (.slice p.A q.pos.length p.c) ∧ W.cell? ⟨w.heap.size, 5, none⟩ = some (.slice p.B q.neg.length p.d))
    (first | (with_reducible exact HS5.out _ (below_drew (Below.refl _ _))) | (with_reducible exact HS5.out _ hb61) | (with_reducible exact HS5.out _ hb62) | assumption)
    (first
    | (go_at_call 99; (with_reducible show Calls _ _ #[Value.slice p.A q.pos.length p.c] _ _); refine (HC1.out _ (And.left (by assumption))).mono ?_; rintro e w61 ⟨rfl, hb61⟩; have hs61 := HS5.out _ hb61)
    | (go_at_call 99; refine (HC2.out _ (And.left (by assumption))).mono ?_; rintro e w62 ⟨rfl, hb62⟩; have hs62 := HS5.out _ hb62))
  have B6 := Lib.hid hb62
  have HG6 := Lib.hid ((hb62.block _ HSZ5.out).trans HG5.out)
  have hgl6 := blk_lt HG6.out
  obtain ⟨N, hN⟩ : ∃ N, N = 3 + a + b := ⟨_, rfl⟩
  have hN2 : (3 : Int) + (a : Int) + (b : Int) = (N : Int) := by omega
  have hN3 : N ≤ 9000 := by omega
  have HNN := Lib.hid (HWD.out.trans hN.symm)
  try rw [hN2]
  clear hs5 hs61 hs62 hb61 hb62 hN
  obtain ⟨g, hgg⟩ : ∃ g, g = w4.heap.size := ⟨_, rfl⟩
  rw [← hgg] at HG6 hgl6 ⊢
  have HGG := Lib.hid hgg
  clear hgg
  go_wp2_with (fail)
  go_loopw [36] (fun i wr => ∃ (k : Nat) (v : Value) (cols : List Nat), k ≤ N ∧ i = .int .i64 k ∧ Gk g (cellsN q r gw gt) (fun _ => xr0) v cols w62 wr ∧ cols.length = k) (fun i _ => N - (intOf i).toNat)
  case atStart => exact ⟨0, .slice none 0 0, [], by omega, rfl, Gk.start HG6.out, rfl⟩
  case round =>
    obtain ⟨k, v, cols, hk, rfl, hG, hcl⟩ := hrel
    have HGK := Lib.hid hG
    have HCL := Lib.hid hcl
    by_cases hlt : k < N
    · have hb0 := Below.refl wr.heap.size wr
      have hglr := blk_lt hG.obj
      have c9 := fun W (h : Below wr.heap.size wr W) => (obj_cell ((h.block g hglr).trans hG.obj) rfl : W.cell? ⟨g, 9, none⟩ = some v)
      have hbs : w62.heap.size ≤ wr.heap.size := hG.ch.size
      have HAP : Hid (∀ wc w3 : World, Below wr.heap.size wr wc → XrS wc wr.heap.size xr0 → ∀ v1, Rep.OwX rPtr 160 w3 w62.heap.size v1 (cols ++ [wr.heap.size]) → wc.grownBy w3 v.ownBlock → w3.cell? ⟨g, 9, none⟩ = some v ∧ w3.frozen? ⟨g, 9, none⟩ = false ∧ Gk g (cellsN q r gw gt) (fun _ => xr0) v1 (cols ++ [wr.heap.size]) w62 (w3.setCell ⟨g, 9, none⟩ v1)) := Lib.hid (by
        intro wc w3 h1 h2 v1 h3 h4
        have hobj := (h1.block g hglr).trans hG.obj
        have hne : v.ownBlock ≠ some g := fun he => by have := Rep.OwX.base_ hG.row g he; have := blk_lt HG6.out; omega
        have hobj3 := ((Ch.refl (fun b => v.ownBlock = some b) wc).grown h4 fun k hk => .inl hk).blk hobj hne
        exact ⟨obj_cell hobj3 rfl, obj_free hobj3, hG.push (blk_lt HG6.out) (cellsN_set _ _ _ _ _ _) h2 (Nat.le_refl _) h1 h3 h4⟩)
      have HBL := Lib.hid (fun wc (h : Below wr.heap.size wr wc) => Nat.le_trans hbs h.size)
      have HGL := Lib.hid (fun wc (h : Below wr.heap.size wr wc) => Nat.lt_of_lt_of_le hglr h.size)
      have hcl8 : (cols.length + 1) * 8 ≤ 140737488355328 := by omega
      clear hG hcl
      go_wp2_with (fail)
      go_region_law (first
        | (refine append_ptr_step (W := wc) w62.heap.size rfl (.tmp 42) (.tmp 44) 156 160 8 rfl Tryz.underlying156 infoPtr (by decide) v cols wr.heap.size (by simp [Act.eval]) (by simp [Act.eval]) (HGK.out.row.below hbc) (HBL.out _ hbc) hcl8 ?_; intro v1 w3 ho3 hg3; obtain ⟨c93, f93, hG3⟩ := HAP.out wc w3 hbc hxc v1 ho3 hg3; obtain ⟨x1, rfl, -, -⟩ := ho3.reads)
        | (go_simp; go_at_call 100; refine (XorB.new_calls _).mono ?_; rintro e wc ⟨rfl, hxd, hbd⟩; have hbc : Below wr.heap.size wr wc := below_then (below_drew (Below.refl _ _)) (Nat.le_refl _) hbd; have hxc : XrS wc wr.heap.size xr0 := hxd; have hgc := HGL.out wc hbc; clear hxd hbd))
      all_goals (
        have HG3 := Lib.hid hG3
        clear c93 f93 hG3 ho3 hg3 hxc hbc hgc c9 hb0
        go_wp2
        go_roundw
        case rel => exact ⟨k + 1, _, _, by omega, by go_num, HG3.out, by rw [List.length_append, HCL.out]; rfl⟩
        case measure => simp [intOf]; omega)
    · obtain rfl : k = N := by omega
      have HSZ4' := HSZ4.out
      have HSZ3' := HSZ3.out
      have hgt3 := HGT.out
      have hg4 := HGG.out
      have htl := T4.out.lt
      have hz2 := B2.out.size
      have hz0 := HZ0.out
      have b46 := below_then HB5.out HB5.out.size B6.out
      have b36 : Below w4.heap.size w4 w62 := b46
      have hAlt : ∀ ad, r.A = some ad → 0 < q.pos.length → w2.heap.size ≤ ad.block ∧ ad.block < w3.heap.size := fun ad hA hp => ⟨OA.out ad hA hp, HeadD.rd_lt R3.out.pos.rd ad hA hp⟩
      have hBlt : ∀ ad, r.B = some ad → 0 < q.neg.length → w2.heap.size ≤ ad.block ∧ ad.block < w3.heap.size := fun ad hA hp => ⟨OB.out ad hA hp, HeadD.rd_lt R3.out.neg.rd ad hA hp⟩
      have hno : ∀ b, w2.heap.size ≤ b → b < w3.heap.size → ¬ S2 b ∧ b ≠ g ∧ b ≠ gt := fun b h1 h2 => ⟨fun hs => by have := HOL2.out b hs; omega, by omega, by omega⟩
      have HDN := Lib.hid (Gk.done (w := w) HGK.out (blk_lt HG6.out) (by omega) H0.out (hcl.trans HNN.out.symm) (R4.out.below b46) (fun ad hA hp => Nat.le_trans (by omega) (hAlt ad hA hp).1) (fun ad hA hp => Nat.le_trans (by omega) (hBlt ad hA hp).1)
        (W4'.out.below b46) (fun k hk => Nat.le_trans hz0 (HS2.out k hk)) (T4.out.below b46) (by omega) (fun hs => by have := HOL2.out _ hs; omega) (by omega) (fun hs => by have := HOL2.out _ hs; omega)
        (fun ad hA hp => hno _ (hAlt ad hA hp).1 (hAlt ad hA hp).2) (fun ad hA hp => hno _ (hBlt ad hA hp).1 (hBlt ad hA hp).2))
      have HBB := Lib.hid ((HEND.out _ (below_then HB45.out HB45.out.size B6.out)).trans (hG.ch.below_of (Nat.le_trans (by omega) (HEND.out _ (below_then HB45.out HB45.out.size B6.out)).size) fun k hk => by omega))
      clear hG hcl HSZ4' HSZ3' hgt3 hg4 htl hz2 hz0 b46 b36 hAlt hBlt hno
      go_wp2
      go_ret2
      obtain ⟨S, hk1, hk2⟩ := HDN.out
      exact (HPO.out _ _).mpr ⟨HBB.out, .inr (.inr ⟨H0.out, HV.out, g, S, rfl, hk1, hk2⟩)⟩
end Go.Proofs.YtjfekjbmgckkcaaGreatDoor.FcG
namespace Go.Proofs.YtjfekjbmgckkcaaGreatDoor.FcH
open Go.RowKit Go.Proofs.YtjfekjbmgckkcaaGreatDoorW.PrintWords
open Go.Proofs.YtjfekjbmgckkcaaGreatDoor.Bits Go.Proofs.YtjfekjbmgckkcaaGreatDoor.Base Go.Proofs.YtjfekjbmgckkcaaGreatDoor.VarPure Go.Proofs.YtjfekjbmgckkcaaGreatDoor.VarbitA Go.Proofs.YtjfekjbmgckkcaaGreatDoor.VarKit Go.Proofs.YtjfekjbmgckkcaaGreatDoor.StreamPure Go.Proofs.YtjfekjbmgckkcaaGreatDoor.StreamA Go.Proofs.YtjfekjbmgckkcaaGreatDoor.TimesPure Go.Proofs.YtjfekjbmgckkcaaGreatDoor.TimesA Go.Proofs.YtjfekjbmgckkcaaGreatDoor.Ref12 Go.Proofs.YtjfekjbmgckkcaaGreatDoor.Ref13 Go.Proofs.YtjfekjbmgckkcaaGreatDoor.SpanPure Go.Proofs.YtjfekjbmgckkcaaGreatDoor.SpanBase Go.Proofs.YtjfekjbmgckkcaaGreatDoor.HeadA Go.Proofs.YtjfekjbmgckkcaaGreatDoor.HeadB Go.Proofs.YtjfekjbmgckkcaaGreatDoor.HeadPure Go.Proofs.YtjfekjbmgckkcaaGreatDoor.XorPure Go.Proofs.YtjfekjbmgckkcaaGreatDoor.XorB Go.Proofs.YtjfekjbmgckkcaaGreatDoor.FcPure Go.Proofs.YtjfekjbmgckkcaaGreatDoor.FcObj Go.Proofs.YtjfekjbmgckkcaaGreatDoor.FcA Go.Proofs.YtjfekjbmgckkcaaGreatDoor.FcB Go.Proofs.YtjfekjbmgckkcaaGreatDoor.FcD Go.Proofs.YtjfekjbmgckkcaaGreatDoor.FcE
set_option maxHeartbeats 800000 in
theorem head_calls (g : Nat) (S : Nat → Prop) (q : Hd) (l : List FS) (x : FkL) (w : World) (hF : Fk w g S q l x) :
    Calls Tryz.prog 104 #[.pointer (some ⟨g, 0, none⟩)] w fun e w' => ∃ r : Lc, e = .returned (.agg (hcs q r).toArray) ∧ HdIn w' q r ∧ Below w.heap.size w w' := by
  have hobj := hF.obj
  rw [kcs_eq] at hobj
  have c0 : w.cell? ⟨g, 0, none⟩ = some (.int .i64 q.vr) := obj_cell hobj rfl
  have c1 : w.cell? ⟨g, 1, none⟩ = some (.int .i64 q.hint) := obj_cell hobj rfl
  have c2 : w.cell? ⟨g, 2, none⟩ = some (.int .i64 q.schema) := obj_cell hobj rfl
  have c3 : w.cell? ⟨g, 3, none⟩ = some (.int .u64 q.zero) := obj_cell hobj rfl
  have c4 : w.cell? ⟨g, 4, none⟩ = some (.slice x.p.A q.pos.length x.p.c) := obj_cell hobj rfl
  have c5 : w.cell? ⟨g, 5, none⟩ = some (.slice x.p.B q.neg.length x.p.d) := obj_cell hobj rfl
  have hgl := blk_lt hobj
  obtain ⟨W0, hW0, hz0, hal⟩ : ∃ W0 : World, W0 = w.alloc (.cells #[.int .i64 0, .int .i64 0, .int .i64 0, .int .u64 0, .slice none 0 0, .slice none 0 0] 25) ∧ W0.heap[w.heap.size]? = some (.cells #[.int .i64 0, .int .i64 0, .int .i64 0, .int .u64 0, .slice none 0 0, .slice none 0 0] 25 (0, 0)) ∧ Below w.heap.size w W0 := ⟨_, rfl, blk_last w _, below_alloc (Below.refl _ _) _⟩
  have HO := Lib.hid (FcA.own_calls q x.p W0 (hF.hd.below hal))
  have HLT := Lib.hid (blk_lt hz0)
  have HZ0 := Lib.hid hz0
  have HAL := Lib.hid hal
  have HW0 := Lib.hid hW0
  clear hF hobj hz0 hal hW0
  go_enter Tryz.func104, Tryz.ntmps104
  go_wp2_with (fail)
  rw [← HW0.out]
  refine HO.out.mono ?_
  rintro e w1 ⟨r, rfl, h1, h2, h3, h4⟩
  have hz1 := (h4.block _ HLT.out).trans HZ0.out
  have z0 : w1.cell? ⟨w.heap.size, 0, none⟩ = some (.int .i64 0) := obj_cell hz1 rfl
  have z1 : w1.cell? ⟨w.heap.size, 1, none⟩ = some (.int .i64 0) := obj_cell hz1 rfl
  have z2 : w1.cell? ⟨w.heap.size, 2, none⟩ = some (.int .i64 0) := obj_cell hz1 rfl
  have z3 : w1.cell? ⟨w.heap.size, 3, none⟩ = some (.int .u64 0) := obj_cell hz1 rfl
  have z4 : w1.cell? ⟨w.heap.size, 4, none⟩ = some (.slice none 0 0) := obj_cell hz1 rfl
  have z5 : w1.cell? ⟨w.heap.size, 5, none⟩ = some (.slice none 0 0) := obj_cell hz1 rfl
  have f0 : w1.frozen? ⟨w.heap.size, 0, none⟩ = false := obj_free hz1
  have f1 : w1.frozen? ⟨w.heap.size, 1, none⟩ = false := obj_free hz1
  have f2 : w1.frozen? ⟨w.heap.size, 2, none⟩ = false := obj_free hz1
  have f3 : w1.frozen? ⟨w.heap.size, 3, none⟩ = false := obj_free hz1
  have f4 : w1.frozen? ⟨w.heap.size, 4, none⟩ = false := obj_free hz1
  have f5 : w1.frozen? ⟨w.heap.size, 5, none⟩ = false := obj_free hz1
  have HEND : Hid (HdIn (HeadL.six w1 w.heap.size (.int .i64 q.vr) (.int .i64 q.hint) (.int .i64 q.schema) (.int .u64 q.zero) (.slice r.A q.pos.length r.c) (.slice r.B q.neg.length r.d)) q r ∧ Below w.heap.size w (HeadL.six w1 w.heap.size (.int .i64 q.vr) (.int .i64 q.hint) (.int .i64 q.schema) (.int .u64 q.zero) (.slice r.A q.pos.length r.c) (.slice r.B q.neg.length r.d))) := Lib.hid (by
    have hc := HeadL.six_ch w1 w.heap.size (.int .i64 q.vr) (.int .i64 q.hint) (.int .i64 q.schema) (.int .u64 q.zero) (.slice r.A q.pos.length r.c) (.slice r.B q.neg.length r.d)
    have hlt := HLT.out
    have hb := below_then HAL.out HAL.out.size h4
    exact ⟨⟨Spl.ch h1.pos hc h2 fun k hk he => by omega, Spl.ch h1.neg hc h3 fun k hk he => by omega, h1.z⟩, hb.trans (hc.below_of hb.size fun k hk => by omega)⟩)
  clear h1 h2 h3 h4 hz1 HO
  dsimp only [hcs]
  go_wp2
  refine bodyPost_ret (v := .agg #[.int .i64 q.vr, .int .i64 q.hint, .int .i64 q.schema, .int .u64 q.zero, .slice r.A q.pos.length r.c, .slice r.B q.neg.length r.d]) (by rw [results_cell1 rfl]; go_simp) rfl ?_
  exact ⟨r, rfl, HEND.out.1, HEND.out.2⟩
def LastPost (q : Hd) (l : List FS) (w : World) (e : Ending) (w' : World) : Prop :=
  ∃ r : Lh, e = .returned (.tuple #[.agg (scs (lastS q l) r).toArray, .bool (decide (0 < l.length))]) ∧ FhIn w' (lastS q l).h r ∧ OnH (fun k => w.heap.size ≤ k) (lastS q l).h r ∧ Below w.heap.size w w'
theorem lastS_pos (q : Hd) (l : List FS) (h : l ≠ []) : { (lastS q l).h with pos := q.pos, neg := q.neg } = (lastS q l).h := by
  unfold lastS
  cases hl : l.getLast? with
  | none => exact absurd (List.getLast?_eq_none_iff.1 hl) h
  | some s => rfl
set_option maxRecDepth 100000 in
set_option maxHeartbeats 3200000 in
theorem last_calls (g : Nat) (S : Nat → Prop) (q : Hd) (l : List FS) (x : FkL) (w : World) (hF : Fk w g S q l x) :
    Calls Tryz.prog 95 #[.pointer (some ⟨g, 0, none⟩)] w (LastPost q l w) := by
  have HPO : Hid (∀ e w', LastPost q l w e w' = ∃ r : Lh, e = .returned (.tuple #[.agg (scs (lastS q l) r).toArray, .bool (decide (0 < l.length))]) ∧ FhIn w' (lastS q l).h r ∧ OnH (fun k => w.heap.size ≤ k) (lastS q l).h r ∧ Below w.heap.size w w') := Lib.hid (fun _ _ => rfl)
  have hobj := hF.obj
  rw [kcs_eq] at hobj
  have hgl := blk_lt hobj
  by_cases hl : l = []
  · subst hl
    have c7 : w.cell? ⟨g, 7, none⟩ = some (.int .i64 0) := obj_cell hobj rfl
    have HLA := Lib.hid (FcG.la_nil (w.alloc (.cells #[.int .i64 0, .int .i64 0, .int .u64 0, .int .u64 0, .int .u64 0, .int .u64 0, .slice none 0 0, .slice none 0 0, .slice none 0 0, .slice none 0 0] 74)))
    rw [lastS_nil] at HPO
    clear hF hobj
    go_enter Tryz.func95, Tryz.ntmps95
    go_wp2
    refine bodyPost_ret (v := .tuple #[.agg #[.int .i64 0, .int .i64 0, .int .u64 0, .int .u64 0, .int .u64 0, .int .u64 0, .slice none 0 0, .slice none 0 0, .slice none 0 0, .slice none 0 0], .bool false]) (by rw [results_cell_tmp rfl]; go_simp) rfl ?_
    exact (HPO.out _ _).mpr ⟨⟨none, 0, none, 0, none, 0, none, 0⟩, rfl, HLA.out, ⟨fun ad hA => absurd hA (by simp), fun ad hA => absurd hA (by simp), fun ad hA => absurd hA (by simp), fun ad hA => absurd hA (by simp)⟩, below_alloc (Below.refl _ _) _⟩
  have HLS := Lib.hid (lastS_pos q l hl)
  have hn : 0 < l.length := List.length_pos_iff.2 hl
  have hN := hF.la
  have hp := hF.hd.pos
  have hq := hF.hd.neg
  obtain ⟨s, hs⟩ : ∃ s, s = lastS q l := ⟨_, rfl⟩
  rw [← hs] at hobj hN HPO HLS
  obtain ⟨n, hnn⟩ : ∃ n, n = l.length := ⟨_, rfl⟩
  rw [← hnn] at hobj hn HPO
  have d0 : ((n : Int) == 0) = false := by simp; omega
  have HN0 := Lib.hid (show decide (0 < n) = true from decide_eq_true hn)
  obtain ⟨W0, hW0, hz0, hal⟩ : ∃ W0 : World, W0 = w.alloc (.cells #[.int .i64 0, .int .i64 0, .int .u64 0, .int .u64 0, .int .u64 0, .int .u64 0, .slice none 0 0, .slice none 0 0, .slice none 0 0, .slice none 0 0] 74) ∧ W0.heap[w.heap.size]? = some (.cells #[.int .i64 0, .int .i64 0, .int .u64 0, .int .u64 0, .int .u64 0, .int .u64 0, .slice none 0 0, .slice none 0 0, .slice none 0 0, .slice none 0 0] 74 (0, 0)) ∧ Below w.heap.size w W0 := ⟨_, rfl, blk_last w _, below_alloc (Below.refl _ _) _⟩
  have hg0 := (hal.block g hgl).trans hobj
  have HON := Lib.hid (on_calls s x.r q.pos q.neg x.p.A x.p.B x.p.c x.p.d W0.drew (hN.below (below_drew hal)) (hp.below (below_drew hal)) (hq.below (below_drew hal)))
  rw [HLS.out] at HON
  have HON : Hid (Calls Tryz.prog 113 #[.agg #[.int .i64 s.t, .int .i64 s.h.schema, .int .u64 s.h.zero, .int .u64 s.h.zc, .int .u64 s.h.cnt, .int .u64 s.h.sum, .slice x.r.A s.h.pos.length x.r.c, .slice x.r.B s.h.neg.length x.r.d, .slice x.r.C s.h.pc.length x.r.cc, .slice x.r.D s.h.nc.length x.r.dd], .slice x.p.A q.pos.length x.p.c, .slice x.p.B q.neg.length x.p.d] W0.drew fun e w' => ∃ r : Lh, e = .returned (.agg #[.int .i64 s.t, .int .i64 s.h.schema, .int .u64 s.h.zero, .int .u64 s.h.zc, .int .u64 s.h.cnt, .int .u64 s.h.sum, .slice r.A s.h.pos.length r.c, .slice r.B s.h.neg.length r.d, .slice r.C s.h.pc.length r.cc, .slice r.D s.h.nc.length r.dd]) ∧ FhIn w' s.h r ∧ OnH (fun k => W0.heap.size ≤ k) s.h r ∧ Below W0.heap.size W0 w') := Lib.hid (by
    refine HON.out.mono ?_
    rintro e w' ⟨r, he, h1, h2, h3⟩
    exact ⟨r, he, h1, h2, below_then (below_drew (Below.refl _ _)) (Nat.le_refl _) h3⟩)
  have e4 : W0.cell? ⟨g, 4, none⟩ = some (.slice x.p.A q.pos.length x.p.c) := obj_cell hg0 rfl
  have e5 : W0.cell? ⟨g, 5, none⟩ = some (.slice x.p.B q.neg.length x.p.d) := obj_cell hg0 rfl
  have e7 : w.cell? ⟨g, 7, none⟩ = some (.int .i64 n) := obj_cell hobj rfl
  have e10 : W0.cell? ⟨g, 10, none⟩ = some (.int .i64 s.t) := obj_cell hg0 rfl
  have e11 : W0.cell? ⟨g, 11, none⟩ = some (.int .i64 s.h.schema) := obj_cell hg0 rfl
  have e12 : W0.cell? ⟨g, 12, none⟩ = some (.int .u64 s.h.zero) := obj_cell hg0 rfl
  have e13 : W0.cell? ⟨g, 13, none⟩ = some (.int .u64 s.h.zc) := obj_cell hg0 rfl
  have e14 : W0.cell? ⟨g, 14, none⟩ = some (.int .u64 s.h.cnt) := obj_cell hg0 rfl
  have e15 : W0.cell? ⟨g, 15, none⟩ = some (.int .u64 s.h.sum) := obj_cell hg0 rfl
  have e16 : W0.cell? ⟨g, 16, none⟩ = some (.slice x.r.A s.h.pos.length x.r.c) := obj_cell hg0 rfl
  have e17 : W0.cell? ⟨g, 17, none⟩ = some (.slice x.r.B s.h.neg.length x.r.d) := obj_cell hg0 rfl
  have e18 : W0.cell? ⟨g, 18, none⟩ = some (.slice x.r.C s.h.pc.length x.r.cc) := obj_cell hg0 rfl
  have e19 : W0.cell? ⟨g, 19, none⟩ = some (.slice x.r.D s.h.nc.length x.r.dd) := obj_cell hg0 rfl
  have HZL := Lib.hid hal.size
  have HW0 := Lib.hid hW0
  have HAL := Lib.hid hal
  have HG0 := Lib.hid hg0
  have HGL := Lib.hid (blk_lt hg0)
  have HZLT := Lib.hid (blk_lt hz0)
  have hgz : g ≠ w.heap.size := by omega
  have HQT : Hid (∀ (W : World) (v0 v1 v2 v3 v4 v5 v6 v7 v8 v9 : Value), W.heap[g]? = W0.heap[g]? → ∀ W' : World, W' = ten W w.heap.size v0 v1 v2 v3 v4 v5 v6 v7 v8 v9 → (W'.cell? ⟨g, 4, none⟩ = some (.slice x.p.A q.pos.length x.p.c) ∧ W'.cell? ⟨g, 5, none⟩ = some (.slice x.p.B q.neg.length x.p.d) ∧ W'.cell? ⟨g, 10, none⟩ = some (.int .i64 s.t) ∧ W'.cell? ⟨g, 11, none⟩ = some (.int .i64 s.h.schema) ∧ W'.cell? ⟨g, 12, none⟩ = some (.int .u64 s.h.zero) ∧ W'.cell? ⟨g, 13, none⟩ = some (.int .u64 s.h.zc) ∧ W'.cell? ⟨g, 14, none⟩ = some (.int .u64 s.h.cnt) ∧ W'.cell? ⟨g, 15, none⟩ = some (.int .u64 s.h.sum) ∧ W'.cell? ⟨g, 16, none⟩ = some (.slice x.r.A s.h.pos.length x.r.c) ∧ W'.cell? ⟨g, 17, none⟩ = some (.slice x.r.B s.h.neg.length x.r.d) ∧ W'.cell? ⟨g, 18, none⟩ = some (.slice x.r.C s.h.pc.length x.r.cc) ∧ W'.cell? ⟨g, 19, none⟩ = some (.slice x.r.D s.h.nc.length x.r.dd))) := Lib.hid (fun W v0 v1 v2 v3 v4 v5 v6 v7 v8 v9 h W' hW' => by
    have hg := (ten_ch W w.heap.size v0 v1 v2 v3 v4 v5 v6 v7 v8 v9).blk (h.trans HG0.out) hgz
    rw [← hW'] at hg
    exact ⟨obj_cell hg rfl, obj_cell hg rfl, obj_cell hg rfl, obj_cell hg rfl, obj_cell hg rfl, obj_cell hg rfl, obj_cell hg rfl, obj_cell hg rfl, obj_cell hg rfl, obj_cell hg rfl, obj_cell hg rfl, obj_cell hg rfl⟩)
  have HZ0 := Lib.hid hz0
  have hglz : w.heap.size ≠ g := by omega
  clear hF hobj hN hp hq hs hnn hn hW0 hal hl hg0 hz0 HLS
  go_enter Tryz.func95, Tryz.ntmps95
  go_wp2_with (fail)
  rw [← HW0.out]
  have hq0 : (fun W : World => W.cell? ⟨g, 4, none⟩ = some (.slice x.p.A q.pos.length x.p.c) ∧ W.cell? ⟨g, 5, none⟩ = some (.slice x.p.B q.neg.length x.p.d) ∧ W.cell? ⟨g, 10, none⟩ = some (.int .i64 s.t) ∧ W.cell? ⟨g, 11, none⟩ = some (.int .i64 s.h.schema) ∧ W.cell? ⟨g, 12, none⟩ = some (.int .u64 s.h.zero) ∧ W.cell? ⟨g, 13, none⟩ = some (.int .u64 s.h.zc) ∧ W.cell? ⟨g, 14, none⟩ = some (.int .u64 s.h.cnt) ∧ W.cell? ⟨g, 15, none⟩ = some (.int .u64 s.h.sum) ∧ W.cell? ⟨g, 16, none⟩ = some (.slice x.r.A s.h.pos.length x.r.c) ∧ W.cell? ⟨g, 17, none⟩ = some (.slice x.r.B s.h.neg.length x.r.d) ∧ W.cell? ⟨g, 18, none⟩ = some (.slice x.r.C s.h.pc.length x.r.cc) ∧ W.cell? ⟨g, 19, none⟩ = some (.slice x.r.D s.h.nc.length x.r.dd)) W0.drew := ⟨e4, e5, e10, e11, e12, e13, e14, e15, e16, e17, e18, e19⟩
  have HQ : Hid (∀ W : World, W.heap[g]? = W0.heap[g]? → (W.cell? ⟨g, 4, none⟩ = some (.slice x.p.A q.pos.length x.p.c) ∧ W.cell? ⟨g, 5, none⟩ = some (.slice x.p.B q.neg.length x.p.d) ∧ W.cell? ⟨g, 10, none⟩ = some (.int .i64 s.t) ∧ W.cell? ⟨g, 11, none⟩ = some (.int .i64 s.h.schema) ∧ W.cell? ⟨g, 12, none⟩ = some (.int .u64 s.h.zero) ∧ W.cell? ⟨g, 13, none⟩ = some (.int .u64 s.h.zc) ∧ W.cell? ⟨g, 14, none⟩ = some (.int .u64 s.h.cnt) ∧ W.cell? ⟨g, 15, none⟩ = some (.int .u64 s.h.sum) ∧ W.cell? ⟨g, 16, none⟩ = some (.slice x.r.A s.h.pos.length x.r.c) ∧ W.cell? ⟨g, 17, none⟩ = some (.slice x.r.B s.h.neg.length x.r.d) ∧ W.cell? ⟨g, 18, none⟩ = some (.slice x.r.C s.h.pc.length x.r.cc) ∧ W.cell? ⟨g, 19, none⟩ = some (.slice x.r.D s.h.nc.length x.r.dd))) := Lib.hid (fun W h => by
    have hg := h.trans HG0.out
    exact ⟨obj_cell hg rfl, obj_cell hg rfl, obj_cell hg rfl, obj_cell hg rfl, obj_cell hg rfl, obj_cell hg rfl, obj_cell hg rfl, obj_cell hg rfl, obj_cell hg rfl, obj_cell hg rfl, obj_cell hg rfl, obj_cell hg rfl⟩)
  go_region_held3 (fun W => W.cell? ⟨g, 4, none⟩ = some (.slice x.p.A q.pos.length x.p.c) ∧ W.cell? ⟨g, 5, none⟩ = some (.slice x.p.B q.neg.length x.p.d) ∧ W.cell? ⟨g, 10, none⟩ = some (.int .i64 s.t) ∧ W.cell? ⟨g, 11, none⟩ = some (.int .i64 s.h.schema) ∧ W.cell? ⟨g, 12, none⟩ = some (.int .u64 s.h.zero) ∧ W.cell? ⟨g, 13, none⟩ = some (.int .u64 s.h.zc) ∧ W.cell? ⟨g, 14, none⟩ = some (.int .u64 s.h.cnt) ∧ W.cell? ⟨g, 15, none⟩ = some (.int .u64 s.h.sum) ∧ W.cell? ⟨g, 16, none⟩ = some (.slice x.r.A s.h.pos.length x.r.c) ∧ W.cell? ⟨g, 17, none⟩ = some (.slice x.r.B s.h.neg.length x.r.d) ∧ W.cell? ⟨g, 18, none⟩ = some (.slice x.r.C s.h.pc.length x.r.cc) ∧ W.cell? ⟨g, 19, none⟩ = some (.slice x.r.D s.h.nc.length x.r.dd))
    (first | (with_reducible exact hq0) | (with_reducible exact hq8) | (with_reducible exact HQT.out _ _ _ _ _ _ _ _ _ _ _ hg8 _ rfl))
    (first
    | (go_at_call 113; refine HON.out.mono ?_; rintro e w8 ⟨r, rfl, hr8, hor8, hb8⟩; have hg8 := hb8.block g HGL.out; have hz8 := (hb8.block _ HZLT.out).trans HZ0.out; have hq8 := HQ.out w8 hg8; have z0 := obj_cell (i := 0) hz8 rfl; have f0 := obj_free (i := 0) hz8; have z1 := obj_cell (i := 1) hz8 rfl; have f1 := obj_free (i := 1) hz8; have z2 := obj_cell (i := 2) hz8 rfl; have f2 := obj_free (i := 2) hz8; have z3 := obj_cell (i := 3) hz8 rfl; have f3 := obj_free (i := 3) hz8; have z4 := obj_cell (i := 4) hz8 rfl; have f4 := obj_free (i := 4) hz8; have z5 := obj_cell (i := 5) hz8 rfl; have f5 := obj_free (i := 5) hz8; have z6 := obj_cell (i := 6) hz8 rfl; have f6 := obj_free (i := 6) hz8; have z7 := obj_cell (i := 7) hz8 rfl; have f7 := obj_free (i := 7) hz8; have z8 := obj_cell (i := 8) hz8 rfl; have f8 := obj_free (i := 8) hz8; have z9 := obj_cell (i := 9) hz8 rfl; have f9 := obj_free (i := 9) hz8))
  have HEND : Hid (FhIn (ten w8 w.heap.size (.int .i64 s.t) (.int .i64 s.h.schema) (.int .u64 s.h.zero) (.int .u64 s.h.zc) (.int .u64 s.h.cnt) (.int .u64 s.h.sum) (.slice r.A s.h.pos.length r.c) (.slice r.B s.h.neg.length r.d) (.slice r.C s.h.pc.length r.cc) (.slice r.D s.h.nc.length r.dd)) s.h r ∧ OnH (fun k => w.heap.size ≤ k) s.h r ∧ Below w.heap.size w (ten w8 w.heap.size (.int .i64 s.t) (.int .i64 s.h.schema) (.int .u64 s.h.zero) (.int .u64 s.h.zc) (.int .u64 s.h.cnt) (.int .u64 s.h.sum) (.slice r.A s.h.pos.length r.c) (.slice r.B s.h.neg.length r.d) (.slice r.C s.h.pc.length r.cc) (.slice r.D s.h.nc.length r.dd))) := Lib.hid (by
    have hc := ten_ch w8 w.heap.size (.int .i64 s.t) (.int .i64 s.h.schema) (.int .u64 s.h.zero) (.int .u64 s.h.zc) (.int .u64 s.h.cnt) (.int .u64 s.h.sum) (.slice r.A s.h.pos.length r.c) (.slice r.B s.h.neg.length r.d) (.slice r.C s.h.pc.length r.cc) (.slice r.D s.h.nc.length r.dd)
    have hz := HZLT.out
    have hb := below_then HAL.out HAL.out.size hb8
    exact ⟨hr8.ch hc hor8 fun k hk he => by omega, hor8.mono fun k hk => by have := HZL.out; omega, hb.trans (hc.below_of hb.size fun k hk => by omega)⟩)
  clear hr8 hor8 hb8 hg8 hz8 hq8
  go_wp2
  refine bodyPost_ret (v := .tuple #[.agg #[.int .i64 s.t, .int .i64 s.h.schema, .int .u64 s.h.zero, .int .u64 s.h.zc, .int .u64 s.h.cnt, .int .u64 s.h.sum, .slice r.A s.h.pos.length r.c, .slice r.B s.h.neg.length r.d, .slice r.C s.h.pc.length r.cc, .slice r.D s.h.nc.length r.dd], .bool true]) (by rw [results_cell_tmp rfl]; go_simp) rfl ?_
  exact (HPO.out _ _).mpr ⟨r, by rw [HN0.out]; rfl, HEND.out.1, HEND.out.2.1, HEND.out.2.2⟩
end Go.Proofs.YtjfekjbmgckkcaaGreatDoor.FcH
namespace Go.Proofs.YtjfekjbmgckkcaaGreatDoor.FcI
open Go.RowKit Go.Proofs.YtjfekjbmgckkcaaGreatDoorW.PrintWords
open Go.Proofs.YtjfekjbmgckkcaaGreatDoor.Bits Go.Proofs.YtjfekjbmgckkcaaGreatDoor.Base Go.Proofs.YtjfekjbmgckkcaaGreatDoor.VarPure Go.Proofs.YtjfekjbmgckkcaaGreatDoor.VarbitA Go.Proofs.YtjfekjbmgckkcaaGreatDoor.VarKit Go.Proofs.YtjfekjbmgckkcaaGreatDoor.StreamPure Go.Proofs.YtjfekjbmgckkcaaGreatDoor.StreamA Go.Proofs.YtjfekjbmgckkcaaGreatDoor.TimesPure Go.Proofs.YtjfekjbmgckkcaaGreatDoor.TimesA Go.Proofs.YtjfekjbmgckkcaaGreatDoor.Ref12 Go.Proofs.YtjfekjbmgckkcaaGreatDoor.Ref13 Go.Proofs.YtjfekjbmgckkcaaGreatDoor.SpanPure Go.Proofs.YtjfekjbmgckkcaaGreatDoor.SpanBase Go.Proofs.YtjfekjbmgckkcaaGreatDoor.HeadA Go.Proofs.YtjfekjbmgckkcaaGreatDoor.HeadB Go.Proofs.YtjfekjbmgckkcaaGreatDoor.HeadPure Go.Proofs.YtjfekjbmgckkcaaGreatDoor.XorPure Go.Proofs.YtjfekjbmgckkcaaGreatDoor.XorB Go.Proofs.YtjfekjbmgckkcaaGreatDoor.FcPure Go.Proofs.YtjfekjbmgckkcaaGreatDoor.FcObj Go.Proofs.YtjfekjbmgckkcaaGreatDoor.FcA Go.Proofs.YtjfekjbmgckkcaaGreatDoor.FcB Go.Proofs.YtjfekjbmgckkcaaGreatDoor.FcD Go.Proofs.YtjfekjbmgckkcaaGreatDoor.FcE
theorem enc_pos (q : Hd) : 0 < (chunkB q []).length := by
  unfold chunkB encH
  simp only [List.length_append, nb_length]
  omega
theorem chunk_pos (q : Hd) (l : List FS) : 0 < (chunkB q l).length := by
  have := enc_pos q
  unfold chunkB at this ⊢
  rw [List.length_append] at this ⊢
  rw [bitsB_nil] at this
  simp at this
  omega
def allBits (q : Hd) (l : List FS) : List Bool := nb l.length 16 ++ chunkB q l
theorem own_news {e : Nat} {w : World} {base : Nat} {v : Value} {l : List UInt8} (h : OwB e w base v l) (hp : 0 < l.length) : ∃ ad c, v = .slice (some ad) l.length c ∧ ∀ j u, (nums .u8 (ints l))[j]? = some u → w.cell? (ad.add j) = some u := by
  obtain ⟨A, c, rfl, -, hr⟩ := h.reads
  obtain ⟨ad, rfl⟩ := RdI.some_ hr (by rw [ints_length]; exact hp)
  refine ⟨ad, c, rfl, fun j u hj => ?_⟩
  obtain ⟨hj1, hj2⟩ := List.getElem?_eq_some_iff.1 hj
  rw [nums_length] at hj1
  rw [← hj2, hr.at_some j hj1]
  simp [nums]
theorem ints_one (l : List UInt8) : ∀ u ∈ nums .u8 (ints l), u.oneCell' = true := by
  intro u hu
  simp only [nums, List.mem_map] at hu
  obtain ⟨y, _, rfl⟩ := hu
  rfl
set_option maxRecDepth 100000 in
set_option maxHeartbeats 3200000 in
theorem bytes_calls (g : Nat) (S : Nat → Prop) (q : Hd) (l : List FS) (x : FkL) (w : World) (hF : Fk w g S q l x) (hm : (chunkB q l).length ≤ 1000000000) (hl : l.length ≤ 60000) :
    Calls Tryz.prog 51 #[.pointer (some ⟨g, 0, none⟩)] w fun e w' => ∃ v, e = .returned v ∧ OwB 5 w' w.heap.size v (pack (allBits q l)) ∧ Below w.heap.size w w' := by
  have hobj := hF.obj
  rw [kcs_eq] at hobj
  have hgl := blk_lt hobj
  have HNW := Lib.hid (newWriter_calls none 0 0 [] w (RdI.nil .u8 _ _) (by decide) (by decide) (fun _ => rfl) (by decide))
  rw [show (bts []).take 0 = [] from rfl] at HNW
  have HWR := Lib.hid (fun W (hb : Below w.heap.size w W) => StreamA.bytes_calls x.gw x.Sw _ W (hF.wr.below hb) (by unfold chunkB at hm; omega))
  have HOB := Lib.hid hobj
  have HPK := Lib.hid (show pack (allBits q l) = pack (nb l.length 16) ++ pack (chunkB q l) from pack_append8 _ _ (by rw [nb_length]))
  rw [show encH q ++ bitsB l = chunkB q l from rfl] at HWR
  have hpos := chunk_pos q l
  have hpl := pack_length (chunkB q l)
  have hpn := pack_length (nb l.length 16)
  rw [nb_length] at hpn
  obtain ⟨n, hn⟩ : ∃ n, n = l.length := ⟨_, rfl⟩
  rw [← hn] at hl hpn HPK
  have HN := Lib.hid hn
  have HG := Lib.hid hgl
  clear hF hobj hn
  go_enter Tryz.func51, Tryz.ntmps51
  go_wp2_with (fail)
  refine HNW.out.mono ?_
  rintro e w1 ⟨ga, Sa, rfl, hwa, hSa, hb1⟩
  have hg1 := (hb1.block g HG.out).trans HOB.out
  have c7 : w1.cell? ⟨g, 7, none⟩ = some (.int .i64 n) := by rw [HN.out]; exact obj_cell hg1 rfl
  have HPU : Hid (Calls Tryz.prog 72 #[.pointer (some ⟨ga, 0, none⟩), .int .u64 n, .int .i64 16] w1 fun e w' => e = .returned (.tuple #[]) ∧ Upd (fun w S => Wr w ga S ([] ++ nb n 16)) Sa w1 w') := Lib.hid (StreamBit.put_calls ga Sa [] n 16 w1 hwa (by decide) (by decide) (by omega))
  have B1 := Lib.hid hb1
  have HSA := Lib.hid hSa
  clear hwa hSa hb1 hg1 HNW
  go_wp2_with (fail)
  refine HPU.out.mono ?_
  rintro e w2 ⟨rfl, S2, hw2, hs2, hc2⟩
  rw [List.nil_append] at hw2
  have B2 := Lib.hid (ch_new B1.out B1.out.size HSA.out hc2)
  have hg2 := (B2.out.block g HG.out).trans HOB.out
  have hgl2 := blk_lt hg2
  have HBA := Lib.hid (StreamA.bytes_calls ga S2 _ w2.drew hw2 (by rw [nb_length]; decide))
  have c6 := fun W (h : Below w2.heap.size w2 W) => (obj_cell ((h.block g hgl2).trans hg2) rfl : W.cell? ⟨g, 6, none⟩ = some (.pointer (some ⟨x.gw, 0, none⟩)))
  have hb0 := Below.refl w2.heap.size w2
  have HPS := Lib.hid hpos
  have HLN := Lib.hid (show (pack (chunkB q l)).length = ((chunkB q l).length + 7) / 8 from hpl)
  clear hw2 hs2 hc2 HPU hpos hpl c7
  go_wp2_with (fail)
  obtain ⟨i0, hi, hz0, hz1, hz2⟩ := info_parts StreamA.info
  have hmx : (pack (nb n 16)).length + (pack (chunkB q l)).length ≤ 1000000000 := by rw [hpn, HLN.out]; omega
  have hpo : 0 < (pack (chunkB q l)).length := by rw [HLN.out]; have := HPS.out; omega
  go_region_law (first
    | (refine step_append_lies (w := w4) rfl (.tmp 17) (.tmp 22) 51 rfl w.heap.size 5 i0 (.int .u8 0) 1 1 Tryz.underlying51 hi hz0 hz1 hz2 rfl (by decide) v1 (pack (nb n 16)).length (nums .u8 (ints (pack (nb n 16)))) (by simp [Act.eval]) ho14 ad2 (pack (chunkB q l)).length c2 (nums .u8 (ints (pack (chunkB q l)))) (by simp [Act.eval]) (by rw [nums_length, ints_length, Nat.mul_one]) hnews2 (ints_one _) hpo (by unfold maxLen; omega) (by omega) hbs4 w4.heap.size rfl ?_; intro gn cap w5 ho5 hg5 hat5 hlt5)
    | (go_simp; go_at_call 26; (with_reducible show Calls _ _ #[Value.pointer (some ⟨ga, 0, none⟩)] _ _); refine HBA.out.mono ?_; rintro e w3 ⟨v1, rfl, ho1, hb3d⟩; have hb3 : Below w2.heap.size w2 w3 := below_then (below_drew (Below.refl _ _)) (Nat.le_refl _) hb3d; have hb34 := below_then B2.out B2.out.size hb3)
    | (go_simp; go_at_call 26; refine (HWR.out _ ?_).mono ?_; (first | exact hb34); rintro e w4 ⟨v2, rfl, ho2, hb4⟩; obtain ⟨ad2, c2, rfl, hnews2⟩ := own_news ho2 hpo; have ho14 : w4.ownsRow w.heap.size 5 1 v1 (pack (nb n 16)).length (nums .u8 (ints (pack (nb n 16)))) := (by have h := OwI.lower (OwI.below ho1 hb4) (show w.heap.size ≤ w2.drew.heap.size from B2.out.size); unfold OwI at h; rw [ints_length] at h; exact h); have hb44 := below_then hb34 hb34.size hb4; have hbs4 := hb44.size))
  all_goals (
    have HRES : Hid (OwB 5 w5 w.heap.size (.slice (some ⟨gn, 0, none⟩) (2 + (pack (chunkB q l)).length) cap) (pack (allBits q l))) := Lib.hid (by
      rw [hpn] at ho5
      rw [HPK.out]
      unfold OwB OwI
      rw [ints_append, List.length_append, ints_length, ints_length, hpn]
      simpa [nums] using ho5)
    have HBB := Lib.hid (hb44.grown hg5 hbs4 fun k hk => (World.ownsRow.lt ho14 k hk).1)
    clear ho5 hg5 hat5 hlt5 ho14 ho1 ho2 hb3 hb3d hb34 hb4 hb44 hbs4 hnews2
    go_wp2
    go_ret
    exact ⟨_, rfl, HRES.out, HBB.out⟩)
end Go.Proofs.YtjfekjbmgckkcaaGreatDoor.FcI
namespace Go.Proofs.YtjfekjbmgckkcaaGreatDoor.Law18C
open Go.RowKit Go.Proofs.YtjfekjbmgckkcaaGreatDoorW.PrintWords
open Go.Proofs.YtjfekjbmgckkcaaGreatDoor.Bits Go.Proofs.YtjfekjbmgckkcaaGreatDoor.Base Go.Proofs.YtjfekjbmgckkcaaGreatDoor.VarPure Go.Proofs.YtjfekjbmgckkcaaGreatDoor.VarbitA Go.Proofs.YtjfekjbmgckkcaaGreatDoor.VarKit Go.Proofs.YtjfekjbmgckkcaaGreatDoor.StreamA Go.Proofs.YtjfekjbmgckkcaaGreatDoor.TimesPure Go.Proofs.YtjfekjbmgckkcaaGreatDoor.Ref13 Go.Proofs.YtjfekjbmgckkcaaGreatDoor.SpanPure Go.Proofs.YtjfekjbmgckkcaaGreatDoor.SpanBase Go.Proofs.YtjfekjbmgckkcaaGreatDoor.FailAs Go.Proofs.YtjfekjbmgckkcaaGreatDoor.FailB Go.Proofs.YtjfekjbmgckkcaaGreatDoor.FailC Go.Proofs.YtjfekjbmgckkcaaGreatDoor.HeadA Go.Proofs.YtjfekjbmgckkcaaGreatDoor.HeadB Go.Proofs.YtjfekjbmgckkcaaGreatDoor.HeadE Go.Proofs.YtjfekjbmgckkcaaGreatDoor.HeadPure Go.Proofs.YtjfekjbmgckkcaaGreatDoor.XorPure Go.Proofs.YtjfekjbmgckkcaaGreatDoor.XorA Go.Proofs.YtjfekjbmgckkcaaGreatDoor.FcPure Go.Proofs.YtjfekjbmgckkcaaGreatDoor.FcObj Go.Proofs.YtjfekjbmgckkcaaGreatDoor.FcD Go.Proofs.YtjfekjbmgckkcaaGreatDoor.FcF Go.Proofs.YtjfekjbmgckkcaaGreatDoor.FcG Go.Proofs.YtjfekjbmgckkcaaGreatDoor.FcH
def q1 : Hd := ⟨1, 0, 0, 0, [], []⟩
def q0 : Hd := ⟨0, 0, 0, 0, [], []⟩
def s0 : FS := ⟨0, ⟨0, 0, 0, 0, 0, [], [], [], []⟩⟩
def s4 : FS := ⟨4, ⟨0, 0, 0, 0, 0, [], [], [], []⟩⟩
def lc0 : Lc := ⟨none, 0, none, 0⟩
def lh0 : Lh := ⟨none, 0, none, 0, none, 0, none, 0⟩
theorem err_q1 : (headErr q1).1 = 0 := by decide +kernel
theorem err_q0 : (headErr q0).1 = 0 := by decide +kernel
theorem wr_0 : (wrongF q1 [] s0).1 = 0 := by decide +kernel
theorem wr_1 : wrongF q1 [s0] s0 = (24, pTime) := by decide +kernel
theorem wr_4 : (wrongF q1 [s0] s4).1 = 0 := by decide +kernel
theorem len_4 : (lastB [s0] s4).length = 8 := by decide +kernel
theorem bits_1 : 16 + (chunkB q1 [s0]).length = 228 := by decide +kernel
theorem len_c0 : (chunkB q1 []).length ≤ 100 := by decide +kernel
theorem in_0 : In64S s0 := ⟨by decide, by decide, ⟨by decide, by decide, by decide, by decide, fun v hv => absurd hv (by simp [s0]), fun v hv => absurd hv (by simp [s0])⟩⟩
theorem in_4 : In64S s4 := ⟨by decide, by decide, ⟨by decide, by decide, by decide, by decide, fun v hv => absurd hv (by simp [s4]), fun v hv => absurd hv (by simp [s4])⟩⟩
theorem room_0 : Room q1 [] := by
  have h1 := len_c0
  have h2 : width q1 = 3 := rfl
  unfold Room
  rw [h2]
  generalize (chunkB q1 []).length = a at *
  exact ⟨by omega, by simp⟩
theorem room_1 : Room q1 [s0] := by
  have h1 := bits_1
  have h2 : width q1 = 3 := rfl
  unfold Room
  rw [h2]
  generalize (chunkB q1 [s0]).length = a at *
  exact ⟨by omega, by simp⟩
theorem off_0 (T : Nat → Prop) (s : FS) (h : s.h = ⟨0, 0, 0, 0, 0, [], [], [], []⟩) : OnH T s.h lh0 := by
  rw [h]
  exact ⟨fun ad hA => absurd hA (by simp [lh0]), fun ad hA => absurd hA (by simp [lh0]), fun ad hA => absurd hA (by simp [lh0]), fun ad hA => absurd hA (by simp [lh0])⟩
set_option maxRecDepth 100000 in
set_option maxHeartbeats 6400000 in
theorem awake_calls (w : World) (hT : Tab w) (hE : GlE w) (hZ : Tz w) :
    Calls Tryz.prog 35 #[] w fun e w' => e = .returned (.bool true) ∧ Below w.heap.size w w' := by
  have HT := Lib.hid (fun W (h : Below w.heap.size w W) => hT.below h)
  have HE := Lib.hid (fun W (h : Below w.heap.size w W) => gle_below hE h)
  have HZ := Lib.hid (fun W (h : Below w.heap.size w W) => hZ.below h)
  have hlt1 := hT.lt
  have hlt2 := hZ.lt
  have HN1 := Lib.hid (new_calls q1 lc0 w (Law14B.hdin_nil w 1 0 0 0 (by decide)) hE hT)
  clear hT hE hZ
  go_enter Tryz.func35, Tryz.ntmps35
  go_wp2_with (fail)
  refine HN1.out.mono ?_
  rintro e w1 ⟨hb1, hc1⟩
  obtain ⟨g, S, rfl, hk1, hS1⟩ : ∃ g S, e = .returned (.tuple #[.pointer (some ⟨g, 0, none⟩), .nilIface]) ∧ Ck w1 g S q1 [] ∧ ∀ k, S k → w.heap.size ≤ k := by
    rcases hc1 with ⟨h, -⟩ | ⟨-, h, -⟩ | ⟨-, -, h⟩
    · exact absurd err_q1 h
    · exact absurd rfl h
    · exact h
  have B1 := Lib.hid hb1
  have K1 := Lib.hid hk1
  have HS1 := Lib.hid hS1
  have HN0 := Lib.hid (new_calls q0 lc0 w1 (Law14B.hdin_nil w1 0 0 0 0 (by decide)) (HE.out _ hb1) (HT.out _ hb1))
  clear hb1 hc1 hk1 hS1 HN1
  go_wp2_with (fail)
  refine HN0.out.mono ?_
  rintro e w2 ⟨hb2, hc2⟩
  obtain ⟨v, rfl, he2⟩ : ∃ v, e = .returned (.tuple #[.pointer none, v]) ∧ Err w2 v (plc (25 : Nat) pVariant 0) .nilIface := by
    rcases hc2 with ⟨h, -⟩ | ⟨-, -, h⟩ | ⟨-, h, -⟩
    · exact absurd err_q0 h
    · exact h
    · exact absurd h (by decide)
  have B2 := Lib.hid (below_then B1.out B1.out.size hb2)
  have K2 := Lib.hid (K1.out.below hb2)
  have HCO := Lib.hid (code_calls he2)
  rw [show codeOf (plc (25 : Nat) pVariant 0) .nilIface = 25 from rfl] at HCO
  obtain ⟨ge, rfl⟩ := err_some (by decide) he2
  clear hb2 hc2 he2 HN0
  go_wp2_with (fail)
  refine HCO.out.mono ?_
  rintro e w3 ⟨rfl, hb3⟩
  have B3 := Lib.hid (below_then B2.out B2.out.size hb3)
  have K3 := Lib.hid (K2.out.below hb3)
  clear hb3 HCO
  obtain ⟨x3, hx3⟩ := K3.out
  have HA1 := Lib.hid (append_calls g S q1 [] x3 s0 lh0 w3 hx3 (la_nil w3) (off_0 _ s0 rfl) in_0 room_0 (HE.out _ B3.out) (HT.out _ B3.out) (HZ.out _ B3.out) (fun h => by have := HS1.out _ h; omega) (fun h => by have := HS1.out _ h; omega))
  clear hx3
  go_wp2_with (fail)
  refine HA1.out.mono ?_
  rintro e w4 hap
  obtain ⟨rfl, S4, hk4, hs4, hc4⟩ : e = .returned .nilIface ∧ Upd (fun W S => Ck W g S q1 ([] ++ [s0])) S w3 w4 := by
    rcases hap with ⟨h, -⟩ | ⟨-, h⟩
    · exact absurd wr_0 h
    · exact h
  rw [List.nil_append] at hk4
  have B4 := Lib.hid (ch_new B3.out B3.out.size HS1.out hc4)
  have HS4 : Hid (∀ k, S4 k → w.heap.size ≤ k) := Lib.hid (fun k hk => by
    rcases hs4 k hk with h | h
    · exact HS1.out k h
    · exact Nat.le_trans B3.out.size h)
  have K4 := Lib.hid hk4
  clear hap hk4 hs4 hc4 HA1
  obtain ⟨x4, hx4⟩ := K4.out
  have HA2 := Lib.hid (append_calls g S4 q1 [s0] x4 s0 lh0 w4 hx4 (la_nil w4) (off_0 _ s0 rfl) in_0 room_1 (HE.out _ B4.out) (HT.out _ B4.out) (HZ.out _ B4.out) (fun h => by have := HS4.out _ h; omega) (fun h => by have := HS4.out _ h; omega))
  clear hx4
  go_wp2_with (fail)
  refine HA2.out.mono ?_
  rintro e w5 hap
  obtain ⟨⟨v5, rfl, he5⟩, hb5⟩ : (∃ v, e = .returned v ∧ Err w5 v (plc (24 : Nat) pTime (1 : Nat)) .nilIface) ∧ Below w4.heap.size w4 w5 := by
    rcases hap with ⟨-, h⟩ | ⟨h, -⟩
    · rw [wr_1] at h
      exact h
    · rw [wr_1] at h
      cases h
  have B5 := Lib.hid (below_then B4.out B4.out.size hb5)
  have K5 := Lib.hid (K4.out.below hb5)
  have E5 := Lib.hid he5
  obtain ⟨ge5, rfl⟩ := err_some (by decide) he5
  clear hap hb5 he5 HA2
  obtain ⟨x5, hx5⟩ := K5.out
  have HC5 := Lib.hid (cost_calls g S4 q1 [s0] x5 s4 lh0 w5 hx5 (la_nil w5) in_4 room_1 (HE.out _ B5.out) (HT.out _ B5.out) (HZ.out _ B5.out))
  clear hx5
  go_wp2_with (fail)
  refine HC5.out.mono ?_
  rintro e w6 ⟨hb6, hc6⟩
  obtain rfl : e = .returned (.tuple #[.int .i64 8, .nilIface]) := by
    rcases hc6 with ⟨h, -⟩ | ⟨-, h⟩
    · exact absurd wr_4 h
    · rw [len_4] at h
      exact h
  have B6 := Lib.hid (below_then B5.out B5.out.size hb6)
  have K6 := Lib.hid (K5.out.below hb6)
  have E6 := Lib.hid (E5.out.below hb6)
  have HAT := Lib.hid (FailE.at_calls pTime (E5.out.below hb6))
  rw [show FailE.atF (plc (24 : Nat) pTime (1 : Nat)) pTime = (1, true) from by decide +kernel] at HAT
  clear hb6 hc6 HC5
  go_wp2_with (fail)
  refine HAT.out.mono ?_
  rintro e w7 ⟨rfl, hb7⟩
  have B7 := Lib.hid (below_then B6.out B6.out.size hb7)
  have K7 := Lib.hid (K6.out.below hb7)
  have E7 := Lib.hid (E6.out.below hb7)
  clear hb7 HAT
  obtain ⟨x7, hx7⟩ := K7.out
  have HLA := Lib.hid (last_calls g S4 q1 [s0] x7 w7 hx7)
  clear hx7
  go_wp2_with (fail)
  refine HLA.out.mono ?_
  rintro e w8 ⟨r, rfl, -, -, hb8⟩
  rw [show (Ending.returned (.tuple #[.agg (scs (lastS q1 [s0]) r).toArray, .bool (decide (0 < [s0].length))])) = Ending.returned (.tuple #[.agg #[.int .i64 0, .int .i64 0, .int .u64 0, .int .u64 0, .int .u64 0, .int .u64 0, .slice r.A 0 r.c, .slice r.B 0 r.d, .slice r.C 0 r.cc, .slice r.D 0 r.dd], .bool true]) from rfl]
  obtain ⟨W8, hW8, hal⟩ : ∃ W : World, W = w8.alloc (.cells #[.int .i64 0, .int .i64 0, .int .u64 0, .int .u64 0, .int .u64 0, .int .u64 0, .slice r.A 0 r.c, .slice r.B 0 r.d, .slice r.C 0 r.cc, .slice r.D 0 r.dd] 74) ∧ Below w7.heap.size w7 W := ⟨_, rfl, hb8.alloc hb8.size _⟩
  have HW8 := Lib.hid hW8
  have B8 := Lib.hid (below_then B7.out B7.out.size hal)
  have K8 := Lib.hid (K7.out.below hal)
  have HCO := Lib.hid (code_calls (E7.out.below hal))
  rw [show codeOf (plc (24 : Nat) pTime (1 : Nat)) .nilIface = 24 from rfl] at HCO
  clear hb8 hal hW8 HLA
  go_wp2_with (fail)
  rw [← HW8.out]
  refine HCO.out.mono ?_
  rintro e w9 ⟨rfl, hb9⟩
  have B9 := Lib.hid (below_then B8.out B8.out.size hb9)
  obtain ⟨x9, hx9⟩ := K8.out.below hb9
  have HBI := Lib.hid (FcD.bits_calls g S4 q1 [s0] x9 w9 hx9 (by have := bits_1; omega))
  rw [bits_1] at HBI
  have HLE := Lib.hid (FcD.len_calls g S4 q1 [s0] x9 w9 hx9)
  rw [show [s0].length = 1 from rfl] at HLE
  clear hb9 hx9 HCO
  go_wp2_with (fail)
  refine HBI.out.mono ?_
  rintro e w' ⟨rfl, rfl⟩
  go_wp2_with (fail)
  refine HLE.out.mono ?_
  rintro e w' ⟨rfl, rfl⟩
  go_wp2
  go_ret
  exact ⟨rfl, B9.out⟩
end Go.Proofs.YtjfekjbmgckkcaaGreatDoor.Law18C
namespace Go.Proofs.YtjfekjbmgckkcaaGreatDoor.Ref14B
open Go.RowKit Go.Proofs.YtjfekjbmgckkcaaGreatDoorW.PrintWords
open Go.Proofs.YtjfekjbmgckkcaaGreatDoor.Bits Go.Proofs.YtjfekjbmgckkcaaGreatDoor.Base Go.Proofs.YtjfekjbmgckkcaaGreatDoor.VarPure Go.Proofs.YtjfekjbmgckkcaaGreatDoor.VarKit Go.Proofs.YtjfekjbmgckkcaaGreatDoor.StreamA Go.Proofs.YtjfekjbmgckkcaaGreatDoor.SpanPure Go.Proofs.YtjfekjbmgckkcaaGreatDoor.SpanBase Go.Proofs.YtjfekjbmgckkcaaGreatDoor.ThrPure Go.Proofs.YtjfekjbmgckkcaaGreatDoor.HeadA Go.Proofs.YtjfekjbmgckkcaaGreatDoor.HeadB Go.Proofs.YtjfekjbmgckkcaaGreatDoor.HeadPure Go.Proofs.YtjfekjbmgckkcaaGreatDoor.HeadD Go.Proofs.YtjfekjbmgckkcaaGreatDoor.HeadE Go.Proofs.YtjfekjbmgckkcaaGreatDoor.Ref01 Go.Proofs.YtjfekjbmgckkcaaGreatDoor.Ref04 Go.Proofs.YtjfekjbmgckkcaaGreatDoor.Ref12
set_option maxRecDepth 100000 in
set_option maxHeartbeats 3200000 in
theorem Spans_calls (A : Option Addr) (c : Nat) (l : List Sp) (w : World) (hr : RdSp w A l) (hm : l.length ≤ 1024) (hin : ∀ s ∈ l, -2097153 ≤ s.1 ∧ s.1 ≤ 2097152 ∧ 0 ≤ s.2 ∧ s.2 ≤ 4096) :
    Calls Tryz.prog 83 #[.slice A l.length c] w fun e w' => e = .returned (.string (txt (encSp l))) ∧ Below w.heap.size w w' := by
  have HR := Lib.hid hr
  have HIN := Lib.hid hin
  have HUL := Lib.hid (U_calls l.length w (by omega))
  have HU := Lib.hid (fun x W (hb : Below w.heap.size w W) (hx : x < 18446744073709551616) => lift hb hb.size (U_calls x W hx))
  have HSS := Lib.hid (fun v W (hb : Below w.heap.size w W) (h1 : -9223372036854775808 ≤ v) (h2 : v ≤ 9223372036854775807) => lift hb hb.size (S_calls v W h1 h2))
  clear hr hin
  go_enter Tryz.func83, Tryz.ntmps83
  go_wp2_with (fail)
  refine HUL.out.mono ?_
  rintro e w1 ⟨rfl, hb1⟩
  have HB1 := Lib.hid hb1
  clear hb1 HUL
  go_wp2
  go_loopw [3, 4] (fun v i wr => ∃ k : Nat, k ≤ l.length ∧ i = .int .i64 k ∧ v = .string (txt (encU l.length ++ encSps (l.take k))) ∧ Below w.heap.size w wr) (fun _ i _ => l.length - (intOf i).toNat)
  case atStart => exact ⟨0, by omega, rfl, by simp [encSps], HB1.out⟩
  case round =>
    obtain ⟨k, hk, rfl, rfl, hb⟩ := hrel
    have HB := Lib.hid hb
    by_cases hlt : k < l.length
    · obtain ⟨ad, hA, c0, c1⟩ := (HR.out.below hb).at_ k hlt
      subst hA
      obtain ⟨h1, h2, h3, h4⟩ := HIN.out l[k] (List.getElem_mem hlt)
      have HSF := Lib.hid (fun W (h : Below w.heap.size w W) => by
        obtain ⟨ad', hA, c0', c1'⟩ := (HR.out.below h).at_ k hlt
        injection hA with hA
        subst hA
        exact ⟨h, c0', c1'⟩ : ∀ W, Below w.heap.size w W → (Below w.heap.size w W ∧ W.cell? (ad.add (k * 2)) = some (.int .i64 l[k].1) ∧ W.cell? ⟨(ad.add (k * 2)).block, (ad.add (k * 2)).off + 1, none⟩ = some (.int .i64 l[k].2)))
      have HT := Lib.hid (encSps_take l k hlt)
      have hl1 := encSps_le (l.take k)
      have hlt2 : (l.take k).length ≤ 1024 := by rw [List.length_take]; omega
      have hl2 := encU_le l.length
      have hl3 := encU_le l[k].2.toNat
      have hl4 := encS_le l[k].1
      obtain ⟨s, hs⟩ : ∃ s, s = l[k] := ⟨_, rfl⟩
      rw [← hs] at c0 c1 h1 h2 h3 h4 HSF HT hl3 hl4
      obtain ⟨o, q⟩ := s
      simp only at c0 c1 h1 h2 h3 h4 HSF HT hl3 hl4
      obtain ⟨n, rfl⟩ := Int.eq_ofNat_of_zero_le h3
      rw [Int.toNat_natCast] at hl3
      have HUK := Lib.hid (fun W hb => HU.out n W hb (by omega))
      have HSK := Lib.hid (fun W hb => HSS.out o W hb (by omega) (by omega))
      obtain ⟨X, hX⟩ : ∃ X, X = encU l.length ++ encSps (l.take k) := ⟨_, rfl⟩
      have hXl : X.length ≤ 1000000 := by rw [hX, List.length_append]; omega
      have HN : Hid (txt (encU l.length ++ encSps (l.take (k + 1))) = txt X ++ (txt (encU n) ++ txt (encS o))) := Lib.hid (by
        rw [HT.out, hX, ← txt_append, ← txt_append]
        simp [encSp1, List.append_assoc])
      rw [← hX]
      have z1 : (txt X).size ≤ 1000000 := by rw [txt_size]; exact hXl
      have z2 : (txt (encU n)).size ≤ 72 := by rw [txt_size]; exact hl3
      have z3 : (txt (encS o)).size ≤ 72 := by rw [txt_size]; exact hl4
      have hwn : IntKind.u64.wrap (n : Int) = (n : Int) := by rw [IntKind.wrap_u64]; omega
      obtain ⟨sX, hsX⟩ : ∃ s, s = txt X := ⟨_, rfl⟩
      obtain ⟨sU, hsU⟩ : ∃ s, s = txt (encU n) := ⟨_, rfl⟩
      obtain ⟨sS, hsS⟩ : ∃ s, s = txt (encS o) := ⟨_, rfl⟩
      rw [← hsX] at z1 HN ⊢
      rw [← hsU] at z2 HN HUK
      rw [← hsS] at z3 HN HSK
      have n1 : ¬ (9223372036854775807 < sU.size + sS.size) := by omega
      have n2 : ¬ (9223372036854775807 < sX.size + (sU.size + sS.size)) := by omega
      have n3 : ¬ (9223372036854775807 < sX.size + (sU ++ sS).size) := by rw [ByteArray.size_append]; omega
      have hcells := HSF.out _ hb
      clear hsX hsU hsS hX hXl hl1 hl2 hl3 hl4 hlt2 hs h1 h2 h3 h4 hb HT
      go_wp2_with (fail)
      go_region_held3 (fun W => Below w.heap.size w W ∧ W.cell? (ad.add (k * 2)) = some (.int .i64 o) ∧ W.cell? ⟨(ad.add (k * 2)).block, (ad.add (k * 2)).off + 1, none⟩ = some (.int .i64 (n : Int)))
        (first | (with_reducible exact HSF.out _ (below_drew HB.out)) | (with_reducible exact HSF.out _ hbs) | (with_reducible exact HSF.out _ hbu))
        (first
        | (go_at_call 156; refine (HUK.out _ (And.left (by assumption))).mono ?_; rintro e w2 ⟨rfl, hbu⟩; have hcells := HSF.out _ hbu)
        | (go_at_call 81; refine (HSK.out _ (And.left (by assumption))).mono ?_; rintro e w3 ⟨rfl, hbs⟩; have hcells := HSF.out _ hbs))
      all_goals go_wp2
      all_goals
        go_roundw
        case rel => exact ⟨k + 1, by omega, by go_num, by rw [HN.out], by assumption⟩
        case measure => simp [intOf]; omega
    · obtain rfl : k = l.length := by omega
      have HF : Hid (txt (encSp l) = txt (encU l.length ++ encSps (l.take l.length))) := Lib.hid (by rw [List.take_length]; rfl)
      clear hb
      go_wp2
      go_ret
      exact ⟨by rw [HF.out]; rfl, HB.out⟩
theorem flags_bits (I V : Nat) (hI : I < 4) (hV : V < 2) : nb I 2 ++ nb V 1 ++ [false, false, false, false, false] = nb ((2 * I + V) * 32) 8 := by
  have h : ∀ (i : Fin 4) (v : Fin 2), nb i.val 2 ++ nb v.val 1 ++ [false, false, false, false, false] = nb ((2 * i.val + v.val) * 32) 8 := by decide +kernel
  exact h ⟨I, hI⟩ ⟨V, hV⟩
structure Sb (w : World) (o : Obj) (W : World) : Prop where
  b : Below w.heap.size w W
  o : W.heap[w.heap.size]? = some o
theorem Sb.drew {w W : World} {o : Obj} (h : Sb w o W) : Sb w o W.drew := ⟨below_drew h.b, h.o⟩
theorem Sb.below {w W W2 : World} {o : Obj} (h : Sb w o W) (hb : Below W.heap.size W W2) : Sb w o W2 := ⟨below_then h.b h.b.size hb, (Ch.of_below (S := fun _ => False) hb).blk h.o (fun x => x)⟩
set_option maxRecDepth 100000 in
set_option maxHeartbeats 3200000 in
theorem Bits14_calls (h : Hd) (p : Lc) (w : World) (hh : HdIn w h p) (he : (headErr h).1 = 0) :
    Calls Tryz.prog 23 #[.agg (hcs h p).toArray] w fun e w' => e = .returned (.string (txt (encH h))) ∧ Below w.heap.size w w' := by
  obtain ⟨hv, hi0, hi3, hs0, hs8, -, hsp, hsn⟩ := err_zero he
  obtain ⟨vr, hint, schema, zt, pos, neg⟩ := h
  obtain ⟨A, c, B, d⟩ := p
  obtain ⟨hp, hn, hz⟩ := hh
  simp only at *
  obtain ⟨V, rfl⟩ := Int.eq_ofNat_of_zero_le (show 0 ≤ vr by omega)
  obtain ⟨I, rfl⟩ := Int.eq_ofNat_of_zero_le hi0
  show Calls Tryz.prog 23 #[.agg #[.int .i64 V, .int .i64 I, .int .i64 schema, .int .u64 zt, .slice A pos.length c, .slice B neg.length d]] w _
  obtain ⟨o1, ho1, hs1⟩ : ∃ o1 : Obj, o1 = (.cells #[.int .i64 V, .int .i64 I, .int .i64 schema, .int .u64 zt, .slice A pos.length c, .slice B neg.length d] 41 (0, 0)) ∧ Sb w o1 (w.alloc (.cells #[.int .i64 V, .int .i64 I, .int .i64 schema, .int .u64 zt, .slice A pos.length c, .slice B neg.length d] 41)) := ⟨_, rfl, below_alloc (Below.refl _ _) _, blk_last w _⟩
  have HSF : Hid (∀ W, Sb w o1 W → (Sb w o1 W ∧ W.cell? ⟨w.heap.size, 0, none⟩ = some (.int .i64 (V : Int)) ∧ W.cell? ⟨w.heap.size, 1, none⟩ = some (.int .i64 (I : Int)) ∧ W.cell? ⟨w.heap.size, 2, none⟩ = some (.int .i64 schema) ∧ W.cell? ⟨w.heap.size, 3, none⟩ = some (.int .u64 zt) ∧ W.cell? ⟨w.heap.size, 4, none⟩ = some (.slice A pos.length c) ∧ W.cell? ⟨w.heap.size, 5, none⟩ = some (.slice B neg.length d))) := Lib.hid (fun W h => by
    subst ho1
    exact ⟨h, obj_cell h.o rfl, obj_cell h.o rfl, obj_cell h.o rfl, obj_cell h.o rfl, obj_cell h.o rfl, obj_cell h.o rfl⟩)
  have HS0 := Lib.hid hs1
  have HNI := Lib.hid (fun W => number_calls I 2 W (by omega) (by decide))
  have HNV := Lib.hid (fun W => number_calls V 1 W (by omega) (by decide))
  have HSC : Hid (∀ W, Sb w o1 W → Calls Tryz.prog 81 #[.int .i64 schema] W fun e w' => e = .returned (.string (txt (encS schema))) ∧ Sb w o1 w') := Lib.hid (fun W h => (S_calls schema W (by omega) (by omega)).mono fun e w' ⟨a, b⟩ => ⟨a, h.below b⟩)
  have HZC := Lib.hid (fun W => Bits12_calls zt W hz)
  have HPC : Hid (∀ W, Sb w o1 W → Calls Tryz.prog 83 #[.slice A pos.length c] W fun e w' => e = .returned (.string (txt (encSp pos))) ∧ Sb w o1 w') := Lib.hid (fun W h => (Spans_calls A c pos W (hp.below h.b).rd (sides_in hsp).1 (sides_in hsp).2).mono fun e w' ⟨a, b⟩ => ⟨a, h.below b⟩)
  have HNC : Hid (∀ W, Sb w o1 W → Calls Tryz.prog 83 #[.slice B neg.length d] W fun e w' => e = .returned (.string (txt (encSp neg))) ∧ Sb w o1 w') := Lib.hid (fun W h => (Spans_calls B d neg W (hn.below h.b).rd (sides_in hsn).1 (sides_in hsn).2).mono fun e w' ⟨a, b⟩ => ⟨a, h.below b⟩)
  have HE : Hid (txt (encH ⟨(V : Int), (I : Int), schema, zt, pos, neg⟩) = txt (nb I 2) ++ txt (nb V 1) ++ ⟨#[48, 48, 48, 48, 48]⟩ ++ txt (encS schema) ++ txt (encT zt) ++ txt (encSp pos) ++ txt (encSp neg)) := Lib.hid (by
    have h5 : (⟨#[48, 48, 48, 48, 48]⟩ : ByteArray) = txt [false, false, false, false, false] := rfl
    rw [h5, ← txt_append, ← txt_append, ← txt_append, ← txt_append, ← txt_append, ← txt_append, flags_bits I V (by omega) (by omega)]
    simp [encH])
  have l1 : (txt (nb I 2)).size ≤ 2 := by rw [txt_size, nb_length]; exact Nat.le_refl _
  have l2 : (txt (nb V 1)).size ≤ 1 := by rw [txt_size, nb_length]; exact Nat.le_refl _
  have l3 : (txt (encS schema)).size ≤ 72 := by rw [txt_size]; exact encS_le _
  have l4 : (txt (encT zt)).size ≤ 72 := by rw [txt_size]; exact encT_length _
  have l5 : (txt (encSp pos)).size ≤ 200000 := by rw [txt_size]; have h1 := encSp_le pos; have h2 := (sides_in hsp).1; omega
  have l6 : (txt (encSp neg)).size ≤ 200000 := by rw [txt_size]; have h1 := encSp_le neg; have h2 := (sides_in hsn).1; omega
  have hwI : IntKind.u64.wrap (I : Int) = (I : Int) := by rw [IntKind.wrap_u64]; omega
  have hwV : IntKind.u64.wrap (V : Int) = (V : Int) := by rw [IntKind.wrap_u64]; omega
  obtain ⟨sI, hsI⟩ : ∃ s, s = txt (nb I 2) := ⟨_, rfl⟩
  obtain ⟨sV, hsV⟩ : ∃ s, s = txt (nb V 1) := ⟨_, rfl⟩
  obtain ⟨sS, hsS⟩ : ∃ s, s = txt (encS schema) := ⟨_, rfl⟩
  obtain ⟨sZ, hsZ⟩ : ∃ s, s = txt (encT zt) := ⟨_, rfl⟩
  obtain ⟨sP, hsP⟩ : ∃ s, s = txt (encSp pos) := ⟨_, rfl⟩
  obtain ⟨sN, hsN⟩ : ∃ s, s = txt (encSp neg) := ⟨_, rfl⟩
  rw [← hsI] at HNI HE l1
  rw [← hsV] at HNV HE l2
  rw [← hsS] at HSC HE l3
  rw [← hsZ] at HZC HE l4
  rw [← hsP] at HPC HE l5
  rw [← hsN] at HNC HE l6
  have hz5 : (⟨#[48, 48, 48, 48, 48]⟩ : ByteArray).size = 5 := rfl
  have a0 : ¬ (9223372036854775807 < sI.size + sV.size) := by omega
  have a1 : ¬ (9223372036854775807 < sI.size + sV.size + 5) := by omega
  have a2 : ¬ (9223372036854775807 < sI.size + sV.size + 5 + sS.size) := by omega
  have a3 : ¬ (9223372036854775807 < sI.size + sV.size + 5 + sS.size + sZ.size) := by omega
  have a4 : ¬ (9223372036854775807 < sI.size + sV.size + 5 + sS.size + sZ.size + sP.size) := by omega
  have a5 : ¬ (9223372036854775807 < sI.size + sV.size + 5 + sS.size + sZ.size + sP.size + sN.size) := by omega
  clear hv hi0 hi3 hs0 hs8 hsp hsn hp hn hz he ho1 hs1 hsI hsV hsS hsZ hsP hsN
  go_enter Tryz.func23, Tryz.ntmps23
  go_wp2_with (fail)
  go_region_held3 (fun W => Sb w o1 W ∧ W.cell? ⟨w.heap.size, 0, none⟩ = some (.int .i64 (V : Int)) ∧ W.cell? ⟨w.heap.size, 1, none⟩ = some (.int .i64 (I : Int)) ∧ W.cell? ⟨w.heap.size, 2, none⟩ = some (.int .i64 schema) ∧ W.cell? ⟨w.heap.size, 3, none⟩ = some (.int .u64 zt) ∧ W.cell? ⟨w.heap.size, 4, none⟩ = some (.slice A pos.length c) ∧ W.cell? ⟨w.heap.size, 5, none⟩ = some (.slice B neg.length d))
    (first | (with_reducible exact HSF.out _ (Sb.drew HS0.out)) | (with_reducible exact HSF.out _ hst))
    (first
    | (go_at_call 80; (with_reducible show Calls _ _ #[_, Value.int .i64 2] _ _); refine (HNI.out _).mono ?_; rintro e w2 ⟨rfl, rfl⟩; have hst := Sb.drew HS0.out; have hcells := HSF.out _ hst)
    | (go_at_call 80; (with_reducible show Calls _ _ #[_, Value.int .i64 1] _ _); refine (HNV.out _).mono ?_; rintro e w2 ⟨rfl, rfl⟩)
    | (go_at_call 81; refine (HSC.out _ (by first | (with_reducible exact hst) | (with_reducible exact Sb.drew HS0.out))).mono ?_; rintro e w3 ⟨rfl, hst⟩; have hcells := HSF.out _ hst)
    | (go_at_call 82; refine (HZC.out _).mono ?_; rintro e w4 ⟨rfl, rfl⟩)
    | (go_at_call 83; (with_reducible show Calls _ _ #[Value.slice A pos.length c] _ _); refine (HPC.out _ hst).mono ?_; rintro e w5 ⟨rfl, hst⟩; have hcells := HSF.out _ hst)
    | (go_at_call 83; refine (HNC.out _ hst).mono ?_; rintro e w6 ⟨rfl, hst⟩; have hcells := HSF.out _ hst))
  have HF := Lib.hid hst.b
  go_wp2
  go_ret
  exact ⟨by rw [HE.out]; rfl, HF.out⟩
end Go.Proofs.YtjfekjbmgckkcaaGreatDoor.Ref14B
namespace Go.Proofs.YtjfekjbmgckkcaaGreatDoor.Ref01
open Go.RowKit Go.Proofs.YtjfekjbmgckkcaaGreatDoorW.PrintWords
open Go.Proofs.YtjfekjbmgckkcaaGreatDoor.Bits Go.Proofs.YtjfekjbmgckkcaaGreatDoor.Base
set_option maxHeartbeats 1600000 in
theorem bytes_calls (l : List Bool) (w : World) (hn : l.length ≤ 1000000000) :
    Calls Tryz.prog 103 #[.string (txt l)] w fun e w' => e = .returned (.string (str (pack l))) ∧ Below w.heap.size w w' := by
  have hs := txt_size l
  obtain ⟨s, hS⟩ : ∃ s, s = txt l := ⟨_, rfl⟩
  have hat := fun (k : Nat) (h : k < l.length) (h' : k < s.size) => show (s[k]'h').toNat = (sign l[k]).toNat by subst hS; exact txt_at l k h h'
  rw [← hS] at hs ⊢
  clear hS
  have HS := Lib.hid hs
  have hsl : s.size ≤ 1000000000 := by omega
  have HAT := Lib.hid hat
  have HP := Lib.hid (pack_length l)
  clear hs hat
  go_enter Tryz.func103, Tryz.ntmps103
  go_wp2
  go_loopw [3, 4] (fun x i wr => ∃ j : Nat, 8 * j ≤ s.size + 7 ∧ i = .int .i64 ((8 * j : Nat) : Int) ∧ x = .string (str ((pack l).take j)) ∧ Below w.heap.size w wr) (fun _ i _ => s.size + 8 - (intOf i).toNat)
  case atStart => exact ⟨0, by omega, rfl, rfl, Below.refl _ _⟩
  case round =>
    obtain ⟨j, hj, rfl, rfl, hb⟩ := hrel
    have HB := Lib.hid hb
    have hb0 := hb.size
    clear hb
    have hjj : ((8 * j : Nat) : Int) = 8 * (j : Int) := by omega
    rw [hjj]
    clear hjj
    by_cases hlt : 8 * j < s.size
    · obtain ⟨wo, hwo⟩ : ∃ wo : World, wo = wr := ⟨_, rfl⟩
      subst hwo
      have hdj : decide (8 * (j : Int) < (s.size : Int)) = true := by simp; omega
      have hst : (str ((pack l).take j)).size ≤ 1000000000 := by rw [str_size, List.length_take]; have := HP.out; have := HS.out; omega
      go_wp2
      go_loop [5, 6] (fun x i => ∃ k : Nat, k ≤ 8 ∧ i = .int .i64 k ∧ x = .int .u8 (val ((eight l j).take k))) (fun _ i => 8 - (intOf i).toNat)
      case atStart => exact ⟨0, by omega, rfl, rfl⟩
      case round =>
        obtain ⟨k, hk, rfl, rfl⟩ := hrel
        by_cases hk8 : k < 8
        · have h3 := eight_lt l j (k + 1) (by omega)
          by_cases hin : 8 * j + k < s.size
          · have hkl : 8 * j + k < l.length := by have := HS.out; omega
            have h1 := HAT.out (8 * j + k) hkl hin
            have h2 := eight_take l j k (eight_in l j k hkl)
            obtain ⟨q, hq⟩ : ∃ q, q = val ((eight l j).take k) := ⟨_, rfl⟩
            rw [← hq] at h2 ⊢
            have hd : decide (8 * (j : Int) + (k : Int) < (s.size : Int)) = true := by simp; omega
            clear hq
            cases hv : l[8 * j + k] with
            | true =>
              rw [hv] at h1 h2
              have h5 : (((s[8 * j + k]'hin).toNat : Int) == 49) = true := by rw [h1]; rfl
              have hq1 : 2 * q + 1 < 256 := by simp at h2; omega
              have H2 := Lib.hid h2
              clear h1 h2 h3 hv
              go_wp2
              go_round
              case rel => exact ⟨k + 1, by omega, by go_num, by rw [H2.out]; rfl⟩
              case measure => simp [intOf]; omega
            | false =>
              rw [hv] at h1 h2
              have h5 : (((s[8 * j + k]'hin).toNat : Int) == 49) = false := by rw [h1]; rfl
              have hq1 : 2 * q < 256 := by simp at h2; omega
              have H2 := Lib.hid h2
              clear h1 h2 h3 hv
              go_wp2
              go_round
              case rel => exact ⟨k + 1, by omega, by go_num, by rw [H2.out]; rfl⟩
              case measure => simp [intOf]; omega
          · have h2 := eight_take l j k (eight_out l j k (by have := HS.out; omega) (by have := HS.out; omega) hk8)
            obtain ⟨q, hq⟩ : ∃ q, q = val ((eight l j).take k) := ⟨_, rfl⟩
            rw [← hq] at h2 ⊢
            have hd : decide (8 * (j : Int) + (k : Int) < (s.size : Int)) = false := by simp; omega
            have hq1 : 2 * q < 256 := by simp at h2; omega
            have H2 := Lib.hid h2
            clear h2 h3 hq
            go_wp2
            go_round
            case rel => exact ⟨k + 1, by omega, by go_num, by rw [H2.out]; rfl⟩
            case measure => simp [intOf]; omega
        · obtain rfl : k = 8 := by omega
          have h3 := eight_lt l j 8 (by omega)
          obtain ⟨q, hq⟩ : ∃ q, q = val ((eight l j).take 8) := ⟨_, rfl⟩
          rw [← hq] at h3 ⊢
          have hc : (q : Int) = ((byte ((eight l j).take 8)).toNat : Int) := by rw [byte, UInt8.toNat_ofNat', ← hq]; omega
          have hcv := string_one (P := Tryz.prog) (src := 51) (dst := 9) (e := 5) (q : Int) _ hc Tryz.underlying51 Tryz.underlying5 Tryz.underlying9 wo
          obtain ⟨b, hbq⟩ : ∃ b, b = byte ((eight l j).take 8) := ⟨_, rfl⟩
          rw [← hbq] at hcv
          have hsb : (str [b]).size = 1 := str_size [b]
          have HG := Lib.hid (pack_get j l (by have := HS.out; omega))
          have HBQ := Lib.hid hbq
          clear hq hc h3 hbq
          go_wp2
          go_roundw
          case rel => exact ⟨j + 1, by omega, by go_num, by rw [take_byte HG.out, str_append]; rw [HBQ.out]; rfl, below_alloc HB.out _⟩
          case measure => simp [intOf]; omega
    · have hfull : (pack l).take j = pack l := List.take_of_length_le (by have := HP.out; have := HS.out; omega)
      rw [hfull]
      go_wp2
      go_ret
      exact ⟨rfl, HB.out⟩
end Go.Proofs.YtjfekjbmgckkcaaGreatDoor.Ref01
namespace Go.Proofs.YtjfekjbmgckkcaaGreatDoor.HdArg
open Go.RowKit Go.Proofs.YtjfekjbmgckkcaaGreatDoorW.PrintWords
open Go.Proofs.YtjfekjbmgckkcaaGreatDoor.Base Go.Proofs.YtjfekjbmgckkcaaGreatDoor.SpanPure Go.Proofs.YtjfekjbmgckkcaaGreatDoor.SpanBase Go.Proofs.YtjfekjbmgckkcaaGreatDoor.HeadA Go.Proofs.YtjfekjbmgckkcaaGreatDoor.HeadB Go.Proofs.YtjfekjbmgckkcaaGreatDoor.Law14A
structure HdRd (w : World) (h : Hd) (p : Lc) : Prop where
  pos : RdSp w p.A h.pos
  neg : RdSp w p.B h.neg
  lp : h.pos.length ≤ 9223372036854775807
  ln : h.neg.length ≤ 9223372036854775807
theorem HdRd.below {w W : World} {h : Hd} {p : Lc} (x : HdRd w h p) (hb : Below w.heap.size w W) : HdRd W h p := ⟨x.pos.below hb, x.neg.below hb, x.lp, x.ln⟩
theorem rd_sp {w : World} {A : Option Addr} {l : List (Int × Int)} (h : RdC w A (Rep.all (Rep.pair (Rep.int .i64) (Rep.int .i64)) l)) : RdSp w A l := h
abbrev rSp : Rep.Rep (Int × Int) := Rep.pair (Rep.int .i64) (Rep.int .i64)
abbrev rHd : Rep.Rep (Int × Int × Int × Int × Rep.Sl (Int × Int) × Rep.Sl (Int × Int)) := Rep.pair (Rep.int .i64) (Rep.pair (Rep.int .i64) (Rep.pair (Rep.int .i64) (Rep.pair (Rep.int .u64) (Rep.pair (Rep.slice rSp) (Rep.slice rSp)))))
def hdOf (x : Int × Int × Int × Int × Rep.Sl (Int × Int) × Rep.Sl (Int × Int)) : Hd := ⟨x.1, x.2.1, x.2.2.1, x.2.2.2.1.toNat, x.2.2.2.2.1.l, x.2.2.2.2.2.l⟩
def lcOf (x : Int × Int × Int × Int × Rep.Sl (Int × Int) × Rep.Sl (Int × Int)) : Lc := ⟨x.2.2.2.2.1.at_, x.2.2.2.2.1.cap, x.2.2.2.2.2.at_, x.2.2.2.2.2.cap⟩
theorem u64_in {n : Int} (h : (Lit.int .u64 n).wf = true) : 0 ≤ n ∧ n < 18446744073709551616 := by
  simp [Lit.wf, IntKind.min, IntKind.max, IntKind.bits, IntKind.signed] at h
  omega
theorem enc_hd {w : World} {x : Int × Int × Int × Int × Rep.Sl (Int × Int) × Rep.Sl (Int × Int)} (h : rHd.ok w x) : rHd.enc x = hcs (hdOf x) (lcOf x) ∧ HdRd w (hdOf x) (lcOf x) ∧ (hdOf x).zero < 18446744073709551616 ∧
    (x.2.2.2.2.1.l.length ≤ x.2.2.2.2.1.cap ∧ (x.2.2.2.2.1.at_ = none → x.2.2.2.2.1.cap = 0)) ∧ (x.2.2.2.2.2.l.length ≤ x.2.2.2.2.2.cap ∧ (x.2.2.2.2.2.at_ = none → x.2.2.2.2.2.cap = 0)) := by
  obtain ⟨v, i, s, z, p, q⟩ := x
  obtain ⟨h1, h2, h3, h4, ⟨h5, -⟩, ⟨h6, -⟩⟩ := h
  have hz := u64_in h4
  have e1 := h5.le
  have e2 := h5.max
  have e3 := h6.le
  have e4 := h6.max
  unfold maxLen at e2 e4
  simp only at e1 e2 e3 e4 hz
  refine ⟨?_, ⟨rd_sp h5.rd, rd_sp h6.rd, ?_, ?_⟩, ?_, ⟨h5.le, h5.nil⟩, ⟨h6.le, h6.nil⟩⟩
  · show [Value.int .i64 v, .int .i64 i, .int .i64 s, .int .u64 z, .slice p.at_ p.l.length p.cap, .slice q.at_ q.l.length q.cap] = [Value.int .i64 v, .int .i64 i, .int .i64 s, .int .u64 (z.toNat : Int), .slice p.at_ p.l.length p.cap, .slice q.at_ q.l.length q.cap]
    rw [Int.toNat_of_nonneg hz.1]
  · show p.l.length ≤ _
    omega
  · show q.l.length ≤ _
    omega
  · show z.toNat < _
    omega
end Go.Proofs.YtjfekjbmgckkcaaGreatDoor.HdArg
namespace Go.Proofs.YtjfekjbmgckkcaaGreatDoor.Law18D
open Go.RowKit Go.Proofs.YtjfekjbmgckkcaaGreatDoorW.PrintWords
open Go.Proofs.YtjfekjbmgckkcaaGreatDoor.Bits Go.Proofs.YtjfekjbmgckkcaaGreatDoor.Base Go.Proofs.YtjfekjbmgckkcaaGreatDoor.VarPure Go.Proofs.YtjfekjbmgckkcaaGreatDoor.VarbitA Go.Proofs.YtjfekjbmgckkcaaGreatDoor.VarKit Go.Proofs.YtjfekjbmgckkcaaGreatDoor.StreamA Go.Proofs.YtjfekjbmgckkcaaGreatDoor.TimesPure Go.Proofs.YtjfekjbmgckkcaaGreatDoor.Ref01 Go.Proofs.YtjfekjbmgckkcaaGreatDoor.Ref13 Go.Proofs.YtjfekjbmgckkcaaGreatDoor.Ref14B Go.Proofs.YtjfekjbmgckkcaaGreatDoor.SpanPure Go.Proofs.YtjfekjbmgckkcaaGreatDoor.SpanBase Go.Proofs.YtjfekjbmgckkcaaGreatDoor.FailAs Go.Proofs.YtjfekjbmgckkcaaGreatDoor.FailB Go.Proofs.YtjfekjbmgckkcaaGreatDoor.FailC Go.Proofs.YtjfekjbmgckkcaaGreatDoor.HeadA Go.Proofs.YtjfekjbmgckkcaaGreatDoor.HeadB Go.Proofs.YtjfekjbmgckkcaaGreatDoor.HeadC Go.Proofs.YtjfekjbmgckkcaaGreatDoor.HeadE Go.Proofs.YtjfekjbmgckkcaaGreatDoor.HeadPure Go.Proofs.YtjfekjbmgckkcaaGreatDoor.FcPure Go.Proofs.YtjfekjbmgckkcaaGreatDoor.FcObj Go.Proofs.YtjfekjbmgckkcaaGreatDoor.FcD Go.Proofs.YtjfekjbmgckkcaaGreatDoor.FcG Go.Proofs.YtjfekjbmgckkcaaGreatDoor.FcH Go.Proofs.YtjfekjbmgckkcaaGreatDoor.FcI Go.Proofs.YtjfekjbmgckkcaaGreatDoor.Law14A Go.Proofs.YtjfekjbmgckkcaaGreatDoor.HdArg
set_option maxRecDepth 100000 in
set_option maxHeartbeats 3200000 in
theorem bits0_calls (q : Hd) (p : Lc) (w : World) (hx : HdIn w q p) (he : (headErr q).1 = 0) :
    Calls Tryz.prog 102 #[.agg (hcs q p).toArray, .slice none 0 0] w fun e w' => e = .returned (.string (txt (allBits q []))) ∧ Below w.heap.size w w' := by
  have HTX : Hid (txt (allBits q []) = txt (nb 0 16) ++ txt (encH q)) := Lib.hid (by
    rw [← txt_append]
    unfold allBits chunkB
    rw [bitsB_nil, List.append_nil]
    rfl)
  rw [HTX.out]
  have hle : (encH q).length ≤ 400000 := by
    obtain ⟨-, -, -, -, -, -, g7, g8⟩ := err_zero he
    have h1 := encSp_le q.pos
    have h2 := encSp_le q.neg
    have h3 := encS_le q.schema
    have h4 := ThrPure.encT_length q.zero
    have h5 := (sides_in g7).1
    have h6 := (sides_in g8).1
    simp only [encH, List.length_append, nb_length]
    omega
  have z1 := txt_size (nb 0 16)
  have z2 := txt_size (encH q)
  rw [nb_length] at z1
  have HB := Lib.hid (fun W (h : Below w.heap.size w W) => Bits14_calls q p W (hx.below h) he)
  have HNU : Hid (∀ W, Calls Tryz.prog 80 #[.int .u64 0, .int .i64 16] W fun e w' => e = .returned (.string (txt (nb 0 16))) ∧ W = w') := Lib.hid (fun W => number_calls 0 16 W (by decide) (by decide))
  obtain ⟨sN, hN⟩ : ∃ s, s = txt (nb 0 16) := ⟨_, rfl⟩
  obtain ⟨sE, hE⟩ : ∃ s, s = txt (encH q) := ⟨_, rfl⟩
  rw [← hN] at z1 HNU ⊢
  rw [← hE] at z2 HB ⊢
  have n1 : ¬ (9223372036854775807 < sN.size + sE.size) := by omega
  obtain ⟨vr, hint, schema, zt, pos, neg⟩ := q
  obtain ⟨A, c, B, d⟩ := p
  obtain ⟨W0, hW0, hbk, hal⟩ : ∃ W0 : World, W0 = w.alloc (.cells #[.int .i64 vr, .int .i64 hint, .int .i64 schema, .int .u64 zt, .slice A pos.length c, .slice B neg.length d] 41) ∧ W0.heap[w.heap.size]? = some (.cells #[.int .i64 vr, .int .i64 hint, .int .i64 schema, .int .u64 zt, .slice A pos.length c, .slice B neg.length d] 41 (0, 0)) ∧ Below w.heap.size w W0 := ⟨_, rfl, blk_last w _, below_alloc (Below.refl _ _) _⟩
  have HS : Hid (∀ W : World, Below W0.heap.size W0 W → (Below W0.heap.size W0 W ∧ W.cell? ⟨w.heap.size, 0, none⟩ = some (.int .i64 vr) ∧ W.cell? ⟨w.heap.size, 1, none⟩ = some (.int .i64 hint) ∧ W.cell? ⟨w.heap.size, 2, none⟩ = some (.int .i64 schema) ∧ W.cell? ⟨w.heap.size, 3, none⟩ = some (.int .u64 zt) ∧ W.cell? ⟨w.heap.size, 4, none⟩ = some (.slice A pos.length c) ∧ W.cell? ⟨w.heap.size, 5, none⟩ = some (.slice B neg.length d))) := Lib.hid (fun W h => by
    have hb := (h.block _ (blk_lt hbk)).trans hbk
    exact ⟨h, obj_cell hb rfl, obj_cell hb rfl, obj_cell hb rfl, obj_cell hb rfl, obj_cell hb rfl, obj_cell hb rfl⟩)
  have HB : Hid (∀ W, Below W0.heap.size W0 W → Calls Tryz.prog 23 #[.agg #[.int .i64 vr, .int .i64 hint, .int .i64 schema, .int .u64 zt, .slice A pos.length c, .slice B neg.length d]] W fun e w' => e = .returned (.string sE) ∧ Below W0.heap.size W0 w') := Lib.hid (fun W h => lift h h.size (HB.out W (below_then hal hal.size h)))
  have HW0 := Lib.hid hW0
  have HAL := Lib.hid hal
  have hs0 := HS.out W0 (Below.refl _ _)
  clear hx he hN hE hbk hal hW0 hle z1 z2 HTX
  show Calls Tryz.prog 102 #[.agg #[.int .i64 vr, .int .i64 hint, .int .i64 schema, .int .u64 zt, .slice A pos.length c, .slice B neg.length d], .slice none 0 0] w _
  go_enter Tryz.func102, Tryz.ntmps102
  go_wp2_with (fail)
  rw [← HW0.out]
  go_region_held3 (fun W => Below W0.heap.size W0 W ∧ W.cell? ⟨w.heap.size, 0, none⟩ = some (.int .i64 vr) ∧ W.cell? ⟨w.heap.size, 1, none⟩ = some (.int .i64 hint) ∧ W.cell? ⟨w.heap.size, 2, none⟩ = some (.int .i64 schema) ∧ W.cell? ⟨w.heap.size, 3, none⟩ = some (.int .u64 zt) ∧ W.cell? ⟨w.heap.size, 4, none⟩ = some (.slice A pos.length c) ∧ W.cell? ⟨w.heap.size, 5, none⟩ = some (.slice B neg.length d))
    (first | (with_reducible exact HS.out _ (below_drew (Below.refl _ _))) | (with_reducible exact HS.out _ hb2) | assumption)
    (first
    | (go_at_call 80; refine (HNU.out _).mono ?_; rintro e w1 ⟨rfl, rfl⟩)
    | (go_at_call 23; refine (HB.out _ (And.left (by assumption))).mono ?_; rintro e w2 ⟨rfl, hb2⟩; have hs2 := HS.out _ hb2))
  have B2 := Lib.hid (below_then HAL.out HAL.out.size hb2)
  clear hb2 hs2 hs0
  go_wp2
  go_loopw [5, 6] (fun t i wr => t = .string (sN ++ sE) ∧ i = .int .i64 0 ∧ Below w.heap.size w wr) (fun _ _ _ => 0)
  case atStart => exact ⟨rfl, rfl, B2.out⟩
  case round =>
    obtain ⟨rfl, rfl, hb⟩ := hrel
    have BB := Lib.hid hb
    clear hb
    go_wp2
    go_ret
    exact ⟨rfl, BB.out⟩
set_option maxRecDepth 100000 in
set_option maxHeartbeats 6400000 in
theorem is0_calls (g : Nat) (S : Nat → Prop) (q : Hd) (p : Lc) (w : World) (hk : Ck w g S q []) (hx : HdIn w q p) (he : (headErr q).1 = 0) :
    Calls Tryz.prog 39 #[.pointer (some ⟨g, 0, none⟩), .agg (hcs q p).toArray, .slice none 0 0] w fun e w' => e = .returned (.bool true) ∧ Below w.heap.size w w' := by
  have hle : (encH q).length ≤ 400000 := by
    obtain ⟨-, -, -, -, -, -, g7, g8⟩ := err_zero he
    have h1 := encSp_le q.pos
    have h2 := encSp_le q.neg
    have h3 := encS_le q.schema
    have h4 := ThrPure.encT_length q.zero
    have h5 := (sides_in g7).1
    have h6 := (sides_in g8).1
    simp only [encH, List.length_append, nb_length]
    omega
  have hcb : (chunkB q []).length = (encH q).length := by unfold chunkB; rw [bitsB_nil, List.append_nil]
  have hsz := txt_size (allBits q [])
  have hab : (allBits q []).length = 16 + (chunkB q []).length := by unfold allBits; rw [List.length_append, nb_length]
  have HHD := Lib.hid (fun W (h : Below w.heap.size w W) => Law18B.heads_calls q p W (hx.below h))
  have HBT := Lib.hid (fun W (r : Lc) (h : HdIn W q r) => bits0_calls q r W h he)
  obtain ⟨x, hF⟩ := hk
  have HLA := Lib.hid (fun W (h : Below w.heap.size w W) => last_calls g S q [] x W (hF.below h))
  have HLE := Lib.hid (fun W (h : Below w.heap.size w W) => FcD.len_calls g S q [] x W (hF.below h))
  have HBI := Lib.hid (fun W (h : Below w.heap.size w W) => FcD.bits_calls g S q [] x W (hF.below h) (by omega))
  have HBY := Lib.hid (fun W (h : Below w.heap.size w W) => FcI.bytes_calls g S q [] x W (hF.below h) (by omega) (by decide))
  have HRB := Lib.hid (fun W => Ref01.bytes_calls (allBits q []) W (by omega))
  have HHE := Lib.hid (fun W (h : Below w.heap.size w W) => head_calls g S q [] x W (hF.below h))
  have HEQ := Lib.hid (fun W (h : Below w.heap.size w W) (r : Lc) (hr : HdIn W q r) => Equal_calls q q r p W hr (hx.below h))
  rw [show eqH q q = true from decide_eq_true rfl] at HEQ
  obtain ⟨n, hn⟩ : ∃ n, n = (chunkB q []).length := ⟨_, rfl⟩
  rw [← hn] at HBI hab hcb
  rw [hab] at hsz
  obtain ⟨sT, hT⟩ : ∃ s, s = txt (allBits q []) := ⟨_, rfl⟩
  obtain ⟨sB, hB⟩ : ∃ s, s = str (pack (allBits q [])) := ⟨_, rfl⟩
  have HRS := Lib.hid (fun (A : Option Addr) (c : Nat) W (hr : RdB W A (pack (allBits q []))) => RdB.string (P := Tryz.prog) (src := 51) (dst := 9) (e := 5) (c := c) hr rfl Tryz.underlying51 Tryz.underlying5 Tryz.underlying9)
  rw [← hT] at HBT HRB hsz
  rw [← hB] at HRB HRS
  obtain ⟨m16, hm16⟩ : ∃ m, m = 16 + n := ⟨_, rfl⟩
  rw [← hm16] at HBI hsz
  have d1 : ((m16 : Int) != (sT.size : Int)) = false := by rw [hsz]; simp
  have d1' : ((m16 : Int) == (sT.size : Int)) = true := by rw [hsz]; simp
  have hm17 : m16 ≤ 500000 := by omega
  have HD1 := Lib.hid hsz
  clear hle hcb hab hn hT hB hm16 he hF hsz
  obtain ⟨vr, hint, schema, zt, pos, neg⟩ := q
  obtain ⟨A, c, B, d⟩ := p
  obtain ⟨W0, hW0, hbk, hal⟩ : ∃ W0 : World, W0 = w.alloc (.cells #[.int .i64 vr, .int .i64 hint, .int .i64 schema, .int .u64 zt, .slice A pos.length c, .slice B neg.length d] 25) ∧ W0.heap[w.heap.size]? = some (.cells #[.int .i64 vr, .int .i64 hint, .int .i64 schema, .int .u64 zt, .slice A pos.length c, .slice B neg.length d] 25 (0, 0)) ∧ Below w.heap.size w W0 := ⟨_, rfl, blk_last w _, below_alloc (Below.refl _ _) _⟩
  have HCEL : Hid (∀ W : World, Below W0.heap.size W0 W → (W.cell? ⟨w.heap.size, 0, none⟩ = some (.int .i64 vr) ∧ W.cell? ⟨w.heap.size, 1, none⟩ = some (.int .i64 hint) ∧ W.cell? ⟨w.heap.size, 2, none⟩ = some (.int .i64 schema) ∧ W.cell? ⟨w.heap.size, 3, none⟩ = some (.int .u64 zt) ∧ W.cell? ⟨w.heap.size, 4, none⟩ = some (.slice A pos.length c) ∧ W.cell? ⟨w.heap.size, 5, none⟩ = some (.slice B neg.length d))) := Lib.hid (fun W h => by
    have hb := (h.block _ (blk_lt hbk)).trans hbk
    exact ⟨obj_cell hb rfl, obj_cell hb rfl, obj_cell hb rfl, obj_cell hb rfl, obj_cell hb rfl, obj_cell hb rfl⟩)
  have HEND := Lib.hid (fun W (hb : Below W0.heap.size W0 W) => below_then hal hal.size hb)
  have HW0 := Lib.hid hW0
  have HAL := Lib.hid hal
  have HXX := Lib.hid hx
  obtain ⟨k0, k1, k2, k3, k4, k5⟩ := HCEL.out W0 (Below.refl _ _)
  clear hx hbk hal hW0
  show Calls Tryz.prog 39 #[.pointer (some ⟨g, 0, none⟩), .agg #[.int .i64 vr, .int .i64 hint, .int .i64 schema, .int .u64 zt, .slice A pos.length c, .slice B neg.length d], .slice none 0 0] w _
  go_enter Tryz.func39, Tryz.ntmps39
  go_wp2_with (fail)
  rw [← HW0.out]
  refine (HHD.out _ HAL.out).mono ?_
  rintro e w1 ⟨r, rfl, hr, hb1⟩
  obtain ⟨A1, c1, B1, d1⟩ := r
  have HBX := Lib.hid (HBT.out w1 _ hr)
  have X1 := Lib.hid hb1
  clear hr hb1 k0 k1 k2 k3 k4 k5
  dsimp only [hcs]
  go_wp2_with (fail)
  refine HBX.out.mono ?_
  rintro e w2 ⟨rfl, hb2⟩
  have X2 := Lib.hid (below_then X1.out X1.out.size hb2)
  clear hb2 HBX
  go_wp2_with (fail)
  refine (HLA.out _ (HEND.out _ X2.out)).mono ?_
  rintro e w3 ⟨r, rfl, -, -, hb3⟩
  rw [lastS_nil, show (Ending.returned (.tuple #[.agg (scs ⟨0, ⟨0, 0, 0, 0, 0, [], [], [], []⟩⟩ r).toArray, .bool (decide (0 < ([] : List FS).length))])) = Ending.returned (.tuple #[.agg #[.int .i64 0, .int .i64 0, .int .u64 0, .int .u64 0, .int .u64 0, .int .u64 0, .slice r.A 0 r.c, .slice r.B 0 r.d, .slice r.C 0 r.cc, .slice r.D 0 r.dd], .bool false]) from rfl]
  obtain ⟨W3, hW3, hg3, hb3'⟩ : ∃ W : World, W = w3.alloc (.cells #[.int .i64 0, .int .i64 0, .int .u64 0, .int .u64 0, .int .u64 0, .int .u64 0, .slice r.A 0 r.c, .slice r.B 0 r.d, .slice r.C 0 r.cc, .slice r.D 0 r.dd] 74) ∧ W.heap[w3.heap.size]? = some (.cells #[.int .i64 0, .int .i64 0, .int .u64 0, .int .u64 0, .int .u64 0, .int .u64 0, .slice r.A 0 r.c, .slice r.B 0 r.d, .slice r.C 0 r.cc, .slice r.D 0 r.dd] 74 (0, 0)) ∧ Below W0.heap.size W0 W := ⟨_, rfl, blk_last w3 _, (below_then X2.out X2.out.size hb3).alloc (below_then X2.out X2.out.size hb3).size _⟩
  have HW3 := Lib.hid hW3
  have X3 := Lib.hid hb3'
  have HG3 := Lib.hid hg3
  have HS : Hid (∀ W : World, Below W3.heap.size W3 W → (Below W3.heap.size W3 W ∧ W.cell? ⟨w.heap.size, 0, none⟩ = some (.int .i64 vr) ∧ W.cell? ⟨w.heap.size, 1, none⟩ = some (.int .i64 hint) ∧ W.cell? ⟨w.heap.size, 2, none⟩ = some (.int .i64 schema) ∧ W.cell? ⟨w.heap.size, 3, none⟩ = some (.int .u64 zt) ∧ W.cell? ⟨w.heap.size, 4, none⟩ = some (.slice A pos.length c) ∧ W.cell? ⟨w.heap.size, 5, none⟩ = some (.slice B neg.length d))) := Lib.hid (fun W h => ⟨h, HCEL.out W (below_then hb3' hb3'.size h)⟩)
  have HEN3 := Lib.hid (fun W (h : Below W3.heap.size W3 W) => HEND.out W (below_then hb3' hb3'.size h))
  have hs0 := HS.out W3 (Below.refl _ _)
  have HLE : Hid (∀ W, Below W3.heap.size W3 W → Calls Tryz.prog 48 #[.pointer (some ⟨g, 0, none⟩)] W fun e w' => e = .returned (.int .i64 0) ∧ W = w') := Lib.hid (fun W h => HLE.out W (HEN3.out W h))
  have HBI := Lib.hid (fun W (h : Below W3.heap.size W3 W) => HBI.out W (HEN3.out W h))
  have HBY := Lib.hid (fun W (h : Below W3.heap.size W3 W) => HBY.out W (HEN3.out W h))
  have HHE := Lib.hid (fun W (h : Below W3.heap.size W3 W) => HHE.out W (HEN3.out W h))
  have HEQ := Lib.hid (fun W (h : Below W3.heap.size W3 W) r hr => HEQ.out W (HEN3.out W h) r hr)
  clear hb3 hW3 hg3 hb3'
  go_wp2_with (fail)
  rw [← HW3.out]
  go_region_held_law (fun W => Below W3.heap.size W3 W ∧ W.cell? ⟨w.heap.size, 0, none⟩ = some (.int .i64 vr) ∧ W.cell? ⟨w.heap.size, 1, none⟩ = some (.int .i64 hint) ∧ W.cell? ⟨w.heap.size, 2, none⟩ = some (.int .i64 schema) ∧ W.cell? ⟨w.heap.size, 3, none⟩ = some (.int .u64 zt) ∧ W.cell? ⟨w.heap.size, 4, none⟩ = some (.slice A pos.length c) ∧ W.cell? ⟨w.heap.size, 5, none⟩ = some (.slice B neg.length d))
    (first | (with_reducible exact HS.out _ (below_drew (Below.refl _ _))) | (with_reducible exact HS.out _ hb63) | (with_reducible exact HS.out _ hb62) | (with_reducible exact HS.out _ hb61) | (with_reducible exact HS.out _ hb60) | assumption)
    (first
    | (go_at_call 48; refine (HLE.out _ (And.left (by assumption))).mono ?_; rintro e w58 ⟨rfl, rfl⟩)
    | (go_at_call 40; refine (HBI.out _ (And.left (by assumption))).mono ?_; rintro e w59 ⟨rfl, rfl⟩)
    | (go_at_call 51; refine (HBY.out _ (And.left (by assumption))).mono ?_; rintro e w60 ⟨v, rfl, ho, hbx⟩; have hb60 : Below W3.heap.size W3 w60 := below_then (And.left (by assumption)) (And.left (by assumption) : Below W3.heap.size W3 _).size hbx; obtain ⟨Dv, dv, rfl, -, hrv⟩ := ho.reads; have hcv := fun W (h : Below w60.heap.size w60 W) => HRS.out Dv dv W (hrv.below h); have hb6060 := Below.refl w60.heap.size w60)
    | (go_at_call 103; refine (HRB.out _).mono ?_; rintro e w61 ⟨rfl, hby⟩; have hb61 : Below W3.heap.size W3 w61 := below_then hb60 hb60.size hby)
    | (go_at_call 104; refine (HHE.out _ hb61).mono ?_; rintro e w62 ⟨⟨A5, c5, B5, d5⟩, rfl, hr62, hbz⟩; have hb62 : Below W3.heap.size W3 w62 := below_then hb61 hb61.size hbz)
    | (go_at_call 29; refine (HEQ.out _ hb62 _ hr62).mono ?_; rintro e w63 ⟨rfl, hbu⟩; have hb63 : Below W3.heap.size W3 w63 := below_then hb62 hb62.size hbu))
  all_goals (
    have X9 := Lib.hid (HEN3.out _ hb63)
    have hgz := (hb63.block _ (blk_lt HG3.out)).trans HG3.out
    have z0 : w63.cell? ⟨w3.heap.size, 0, none⟩ = some (.int .i64 0) := obj_cell hgz rfl
    have z4 : w63.cell? ⟨w3.heap.size, 4, none⟩ = some (.int .u64 0) := obj_cell hgz rfl
    have z6 : w63.cell? ⟨w3.heap.size, 6, none⟩ = some (.slice r.A 0 r.c) := obj_cell hgz rfl
    clear hb63 hb62 hb61 hb60 hbx hby hbz hbu hr62 hcv hb6060 hrv ho hgz
    go_wp2
    go_ret
    exact ⟨rfl, X9.out⟩)
end Go.Proofs.YtjfekjbmgckkcaaGreatDoor.Law18D
namespace Go.Proofs.YtjfekjbmgckkcaaGreatDoor.Law18E
open Go.RowKit Go.Proofs.YtjfekjbmgckkcaaGreatDoorW.PrintWords
open Go.Proofs.YtjfekjbmgckkcaaGreatDoor.Bits Go.Proofs.YtjfekjbmgckkcaaGreatDoor.Base Go.Proofs.YtjfekjbmgckkcaaGreatDoor.VarPure Go.Proofs.YtjfekjbmgckkcaaGreatDoor.VarKit Go.Proofs.YtjfekjbmgckkcaaGreatDoor.StreamA Go.Proofs.YtjfekjbmgckkcaaGreatDoor.SpanPure Go.Proofs.YtjfekjbmgckkcaaGreatDoor.SpanBase Go.Proofs.YtjfekjbmgckkcaaGreatDoor.FailAs Go.Proofs.YtjfekjbmgckkcaaGreatDoor.FailB Go.Proofs.YtjfekjbmgckkcaaGreatDoor.FailC Go.Proofs.YtjfekjbmgckkcaaGreatDoor.HeadA Go.Proofs.YtjfekjbmgckkcaaGreatDoor.HeadB Go.Proofs.YtjfekjbmgckkcaaGreatDoor.HeadC Go.Proofs.YtjfekjbmgckkcaaGreatDoor.HeadE Go.Proofs.YtjfekjbmgckkcaaGreatDoor.HeadL Go.Proofs.YtjfekjbmgckkcaaGreatDoor.Ref01 Go.Proofs.YtjfekjbmgckkcaaGreatDoor.Ref12 Go.Proofs.YtjfekjbmgckkcaaGreatDoor.Ref13 Go.Proofs.YtjfekjbmgckkcaaGreatDoor.FcPure Go.Proofs.YtjfekjbmgckkcaaGreatDoor.FcObj Go.Proofs.YtjfekjbmgckkcaaGreatDoor.FcA Go.Proofs.YtjfekjbmgckkcaaGreatDoor.FcB Go.Proofs.YtjfekjbmgckkcaaGreatDoor.Law18A
open Go.Proofs.YtjfekjbmgckkcaaGreatDoor.Law14D (spl_any)
structure St (w : World) (o h9 : Obj) (W : World) : Prop where
  b : Below w.heap.size w W
  n : w.heap.size + 3 ≤ W.heap.size
  o : W.heap[w.heap.size]? = some o
  z : W.heap[w.heap.size + 1]? = some (.cells #[.int .i64 0, .int .i64 0, .int .u64 0, .int .u64 0, .int .u64 0, .int .u64 0, .slice none 0 0, .slice none 0 0, .slice none 0 0, .slice none 0 0] 82 (0, 0))
  h : W.heap[w.heap.size + 1 + 1]? = some h9
theorem St.below {w W W2 : World} {o h9 : Obj} (h : St w o h9 W) (hb : Below W.heap.size W W2) : St w o h9 W2 :=
  ⟨below_then h.b h.b.size hb, Nat.le_trans h.n hb.size, (hb.block _ (blk_lt h.o)).trans h.o, (hb.block _ (blk_lt h.z)).trans h.z, (hb.block _ (blk_lt h.h)).trans h.h⟩
set_option maxRecDepth 100000 in
set_option maxHeartbeats 3200000 in
theorem samples_calls (s : FS) (p : Lh) (w : World) (hh : FhIn w s.h p) :
    Calls Tryz.prog 44 #[.agg (scs s p).toArray] w fun e w' => ∃ A1 c1 A2 c2, e = .returned (.agg (scs s ⟨A1, c1, A2, c2, p.C, p.cc, p.D, p.dd⟩).toArray) ∧ FhIn w' s.h ⟨A1, c1, A2, c2, p.C, p.cc, p.D, p.dd⟩ ∧
      On (fun k => w.heap.size ≤ k) A1 s.h.pos.length ∧ On (fun k => w.heap.size ≤ k) A2 s.h.neg.length ∧ Below w.heap.size w w' := by
  obtain ⟨t, sc, z, zc, cn, su, pos, neg, pc, nc⟩ := s
  obtain ⟨A, c, B, d, C, cc, D, dd⟩ := p
  obtain ⟨hp, hn, hpc, hnc, h64⟩ := hh
  simp only at hp hn hpc hnc h64
  show Calls Tryz.prog 44 #[.agg #[.int .i64 t, .int .i64 sc, .int .u64 z, .int .u64 zc, .int .u64 cn, .int .u64 su, .slice A pos.length c, .slice B neg.length d, .slice C pc.length cc, .slice D nc.length dd]] w _
  obtain ⟨W1, hW1, hs1⟩ : ∃ W1 : World, W1 = ((w.alloc (.cells #[.int .i64 t, .int .i64 sc, .int .u64 z, .int .u64 zc, .int .u64 cn, .int .u64 su, .slice A pos.length c, .slice B neg.length d, .slice C pc.length cc, .slice D nc.length dd] 74)).alloc (.cells #[.int .i64 0, .int .i64 0, .int .u64 0, .int .u64 0, .int .u64 0, .int .u64 0, .slice none 0 0, .slice none 0 0, .slice none 0 0, .slice none 0 0] 82)).alloc (.cells #[.int .i64 sc, .int .u64 z, .int .u64 zc, .int .u64 cn, .int .u64 su, .slice A pos.length c, .slice B neg.length d, .slice C pc.length cc, .slice D nc.length dd] 72) ∧ St w (.cells #[.int .i64 t, .int .i64 sc, .int .u64 z, .int .u64 zc, .int .u64 cn, .int .u64 su, .slice A pos.length c, .slice B neg.length d, .slice C pc.length cc, .slice D nc.length dd] 74 (0, 0)) (.cells #[.int .i64 sc, .int .u64 z, .int .u64 zc, .int .u64 cn, .int .u64 su, .slice A pos.length c, .slice B neg.length d, .slice C pc.length cc, .slice D nc.length dd] 72 (0, 0)) W1 := ⟨_, rfl, by
    obtain ⟨X, hX⟩ : ∃ X : World, X = (w.alloc (.cells #[.int .i64 t, .int .i64 sc, .int .u64 z, .int .u64 zc, .int .u64 cn, .int .u64 su, .slice A pos.length c, .slice B neg.length d, .slice C pc.length cc, .slice D nc.length dd] 74)).alloc (.cells #[.int .i64 0, .int .i64 0, .int .u64 0, .int .u64 0, .int .u64 0, .int .u64 0, .slice none 0 0, .slice none 0 0, .slice none 0 0, .slice none 0 0] 82) := ⟨_, rfl⟩
    have x0 : Below w.heap.size w X := by rw [hX]; exact below_alloc (below_alloc (Below.refl _ _) _) _
    have x1 : X.heap.size = w.heap.size + 2 := by rw [hX]; simp
    have x2 : X.heap[w.heap.size]? = some (.cells #[.int .i64 t, .int .i64 sc, .int .u64 z, .int .u64 zc, .int .u64 cn, .int .u64 su, .slice A pos.length c, .slice B neg.length d, .slice C pc.length cc, .slice D nc.length dd] 74 (0, 0)) := by rw [hX]; exact (Below.heap_alloc _ _ w.heap.size (blk_lt (blk_last w _))).trans (blk_last w _)
    have x3 : X.heap[w.heap.size + 1]? = some (.cells #[.int .i64 0, .int .i64 0, .int .u64 0, .int .u64 0, .int .u64 0, .int .u64 0, .slice none 0 0, .slice none 0 0, .slice none 0 0, .slice none 0 0] 82 (0, 0)) := by
      rw [hX]
      have := blk_last (w.alloc (.cells #[.int .i64 t, .int .i64 sc, .int .u64 z, .int .u64 zc, .int .u64 cn, .int .u64 su, .slice A pos.length c, .slice B neg.length d, .slice C pc.length cc, .slice D nc.length dd] 74)) (.cells #[.int .i64 0, .int .i64 0, .int .u64 0, .int .u64 0, .int .u64 0, .int .u64 0, .slice none 0 0, .slice none 0 0, .slice none 0 0, .slice none 0 0] 82)
      rwa [show (w.alloc (.cells #[.int .i64 t, .int .i64 sc, .int .u64 z, .int .u64 zc, .int .u64 cn, .int .u64 su, .slice A pos.length c, .slice B neg.length d, .slice C pc.length cc, .slice D nc.length dd] 74)).heap.size = w.heap.size + 1 from by simp] at this
    rw [← hX]
    refine ⟨below_alloc x0 _, ?_, (Below.heap_alloc _ _ _ (blk_lt x2)).trans x2, (Below.heap_alloc _ _ _ (blk_lt x3)).trans x3, ?_⟩
    · have e : (X.alloc (.cells #[.int .i64 sc, .int .u64 z, .int .u64 zc, .int .u64 cn, .int .u64 su, .slice A pos.length c, .slice B neg.length d, .slice C pc.length cc, .slice D nc.length dd] 72)).heap.size = w.heap.size + 3 := by simp [x1]
      omega
    · have := blk_last X (.cells #[.int .i64 sc, .int .u64 z, .int .u64 zc, .int .u64 cn, .int .u64 su, .slice A pos.length c, .slice B neg.length d, .slice C pc.length cc, .slice D nc.length dd] 72)
      rwa [x1] at this⟩
  obtain ⟨o0, ho0⟩ : ∃ o : Obj, o = (.cells #[.int .i64 t, .int .i64 sc, .int .u64 z, .int .u64 zc, .int .u64 cn, .int .u64 su, .slice A pos.length c, .slice B neg.length d, .slice C pc.length cc, .slice D nc.length dd] 74 (0, 0)) := ⟨_, rfl⟩
  obtain ⟨h0, hh0⟩ : ∃ o : Obj, o = (.cells #[.int .i64 sc, .int .u64 z, .int .u64 zc, .int .u64 cn, .int .u64 su, .slice A pos.length c, .slice B neg.length d, .slice C pc.length cc, .slice D nc.length dd] 72 (0, 0)) := ⟨_, rfl⟩
  have HSF : Hid (∀ W, St w (.cells #[.int .i64 t, .int .i64 sc, .int .u64 z, .int .u64 zc, .int .u64 cn, .int .u64 su, .slice A pos.length c, .slice B neg.length d, .slice C pc.length cc, .slice D nc.length dd] 74 (0, 0)) (.cells #[.int .i64 sc, .int .u64 z, .int .u64 zc, .int .u64 cn, .int .u64 su, .slice A pos.length c, .slice B neg.length d, .slice C pc.length cc, .slice D nc.length dd] 72 (0, 0)) W → (W.cell? ⟨w.heap.size, 0, none⟩ = some (.int .i64 t) ∧ W.cell? ⟨w.heap.size + 1 + 1, 0, none⟩ = some (.int .i64 sc) ∧ W.cell? ⟨w.heap.size + 1 + 1, 1, none⟩ = some (.int .u64 z) ∧ W.cell? ⟨w.heap.size + 1 + 1, 2, none⟩ = some (.int .u64 zc) ∧ W.cell? ⟨w.heap.size + 1 + 1, 3, none⟩ = some (.int .u64 cn) ∧ W.cell? ⟨w.heap.size + 1 + 1, 4, none⟩ = some (.int .u64 su) ∧ W.cell? ⟨w.heap.size + 1 + 1, 5, none⟩ = some (.slice A pos.length c) ∧ W.cell? ⟨w.heap.size + 1 + 1, 6, none⟩ = some (.slice B neg.length d) ∧ W.cell? ⟨w.heap.size + 1 + 1, 7, none⟩ = some (.slice C pc.length cc) ∧ W.cell? ⟨w.heap.size + 1 + 1, 8, none⟩ = some (.slice D nc.length dd))) := Lib.hid (fun W h => ⟨obj_cell h.o rfl, obj_cell h.h rfl, obj_cell h.h rfl, obj_cell h.h rfl, obj_cell h.h rfl, obj_cell h.h rfl, obj_cell h.h rfl, obj_cell h.h rfl, obj_cell h.h rfl, obj_cell h.h rfl⟩)
  have HTEN : Hid (∀ W, St w (.cells #[.int .i64 t, .int .i64 sc, .int .u64 z, .int .u64 zc, .int .u64 cn, .int .u64 su, .slice A pos.length c, .slice B neg.length d, .slice C pc.length cc, .slice D nc.length dd] 74 (0, 0)) (.cells #[.int .i64 sc, .int .u64 z, .int .u64 zc, .int .u64 cn, .int .u64 su, .slice A pos.length c, .slice B neg.length d, .slice C pc.length cc, .slice D nc.length dd] 72 (0, 0)) W → ∀ v0 v1 v2 v3 v4 v5 v6 v7 v8 v9, ∀ W' : World, W' = ten W (w.heap.size + 1) v0 v1 v2 v3 v4 v5 v6 v7 v8 v9 → (W'.cell? ⟨w.heap.size, 0, none⟩ = some (.int .i64 t) ∧ W'.cell? ⟨w.heap.size + 1 + 1, 0, none⟩ = some (.int .i64 sc) ∧ W'.cell? ⟨w.heap.size + 1 + 1, 1, none⟩ = some (.int .u64 z) ∧ W'.cell? ⟨w.heap.size + 1 + 1, 2, none⟩ = some (.int .u64 zc) ∧ W'.cell? ⟨w.heap.size + 1 + 1, 3, none⟩ = some (.int .u64 cn) ∧ W'.cell? ⟨w.heap.size + 1 + 1, 4, none⟩ = some (.int .u64 su) ∧ W'.cell? ⟨w.heap.size + 1 + 1, 5, none⟩ = some (.slice A pos.length c) ∧ W'.cell? ⟨w.heap.size + 1 + 1, 6, none⟩ = some (.slice B neg.length d) ∧ W'.cell? ⟨w.heap.size + 1 + 1, 7, none⟩ = some (.slice C pc.length cc) ∧ W'.cell? ⟨w.heap.size + 1 + 1, 8, none⟩ = some (.slice D nc.length dd))) := Lib.hid (fun W h v0 v1 v2 v3 v4 v5 v6 v7 v8 v9 W' e => by
    have hc := ten_ch W (w.heap.size + 1) v0 v1 v2 v3 v4 v5 v6 v7 v8 v9
    rw [← e] at hc
    have a := hc.blk h.o (by omega)
    have b := hc.blk h.h (by omega)
    exact ⟨obj_cell a rfl, obj_cell b rfl, obj_cell b rfl, obj_cell b rfl, obj_cell b rfl, obj_cell b rfl, obj_cell b rfl, obj_cell b rfl, obj_cell b rfl, obj_cell b rfl⟩)
  rw [← ho0, ← hh0] at hs1 HSF HTEN
  have HPN : Hid (∀ (A' : Option Addr) (c' : Nat) (l : List Sp) W, St w o0 h0 W → Spl w A' c' l → Calls Tryz.prog 101 #[.slice A' l.length c'] W fun e w' =>
      ∃ A1 c1, e = .returned (.slice A1 l.length c1) ∧ OwSp 214 w' (w.heap.size + 3) (.slice A1 l.length c1) l ∧ Below W.heap.size W w' ∧ St w o0 h0 w') := Lib.hid (by
    intro A' c' l W hb hl
    refine (Law18A.spans_calls _ _ l W (hl.below hb.b).rd hl.len).mono ?_
    rintro e w' ⟨v, rfl, hw, hb'⟩
    obtain ⟨A1, c1, rfl, -, -, -⟩ := hw.reads
    exact ⟨A1, c1, rfl, hw.lower hb.n, hb', hb.below hb'⟩)
  have HS1 := Lib.hid hs1
  have HSD := Lib.hid (hs1.below (below_drew (Below.refl _ _)))
  have HPS := Lib.hid hp
  have HNS := Lib.hid hn
  have HPC := Lib.hid hpc
  have HNC := Lib.hid hnc
  have H64 := Lib.hid h64
  have HW1 := Lib.hid hW1
  clear hp hn hpc hnc h64 ho0 hh0 hs1 hW1
  go_enter Tryz.func44, Tryz.ntmps44
  go_wp2_with (fail)
  rw [← HW1.out]
  have hq0 := HSF.out _ HSD.out
  go_region_held3 (fun W => W.cell? ⟨w.heap.size, 0, none⟩ = some (.int .i64 t) ∧ W.cell? ⟨w.heap.size + 1 + 1, 0, none⟩ = some (.int .i64 sc) ∧ W.cell? ⟨w.heap.size + 1 + 1, 1, none⟩ = some (.int .u64 z) ∧ W.cell? ⟨w.heap.size + 1 + 1, 2, none⟩ = some (.int .u64 zc) ∧ W.cell? ⟨w.heap.size + 1 + 1, 3, none⟩ = some (.int .u64 cn) ∧ W.cell? ⟨w.heap.size + 1 + 1, 4, none⟩ = some (.int .u64 su) ∧ W.cell? ⟨w.heap.size + 1 + 1, 5, none⟩ = some (.slice A pos.length c) ∧ W.cell? ⟨w.heap.size + 1 + 1, 6, none⟩ = some (.slice B neg.length d) ∧ W.cell? ⟨w.heap.size + 1 + 1, 7, none⟩ = some (.slice C pc.length cc) ∧ W.cell? ⟨w.heap.size + 1 + 1, 8, none⟩ = some (.slice D nc.length dd))
    (first | (with_reducible exact hq0) | (with_reducible exact hq1) | (with_reducible exact hq2) | (with_reducible exact HTEN.out _ hst2 _ _ _ _ _ _ _ _ _ _ _ rfl) | (with_reducible exact HTEN.out _ hst1 _ _ _ _ _ _ _ _ _ _ _ rfl))
    (first
    | (go_at_call 101; (with_reducible show Calls _ _ #[Value.slice A pos.length c] _ _); refine (HPN.out _ _ _ _ (by first | exact HSD.out | exact HS1.out) HPS.out).mono ?_; rintro e w2 ⟨A1, c1, rfl, ho1, hb1, hst1⟩; have hq1 := HSF.out _ hst1)
    | (go_at_call 101; refine (HPN.out _ _ _ _ hst1 HNS.out).mono ?_; rintro e w3 ⟨A2, c2, rfl, ho2, hb2, hst2⟩; have hq2 := HSF.out _ hst2; have hz := hst2.z; have z0 := obj_cell (i := 0) hz rfl; have f0 := obj_free (i := 0) hz; have z1 := obj_cell (i := 1) hz rfl; have f1 := obj_free (i := 1) hz; have z2 := obj_cell (i := 2) hz rfl; have f2 := obj_free (i := 2) hz; have z3 := obj_cell (i := 3) hz rfl; have f3 := obj_free (i := 3) hz; have z4 := obj_cell (i := 4) hz rfl; have f4 := obj_free (i := 4) hz; have z5 := obj_cell (i := 5) hz rfl; have f5 := obj_free (i := 5) hz; have z6 := obj_cell (i := 6) hz rfl; have f6 := obj_free (i := 6) hz; have z7 := obj_cell (i := 7) hz rfl; have f7 := obj_free (i := 7) hz; have z8 := obj_cell (i := 8) hz rfl; have f8 := obj_free (i := 8) hz; have z9 := obj_cell (i := 9) hz rfl; have f9 := obj_free (i := 9) hz))
  have HX : Hid (FhIn (ten w3 (w.heap.size + 1) (.int .i64 t) (.int .i64 sc) (.int .u64 z) (.int .u64 zc) (.int .u64 cn) (.int .u64 su) (.slice A1 pos.length c1) (.slice A2 neg.length c2) (.slice C pc.length cc) (.slice D nc.length dd)) ⟨sc, z, zc, cn, su, pos, neg, pc, nc⟩ ⟨A1, c1, A2, c2, C, cc, D, dd⟩ ∧ On (fun k => w.heap.size ≤ k) A1 pos.length ∧ On (fun k => w.heap.size ≤ k) A2 neg.length ∧ Below w.heap.size w (ten w3 (w.heap.size + 1) (.int .i64 t) (.int .i64 sc) (.int .u64 z) (.int .u64 zc) (.int .u64 cn) (.int .u64 su) (.slice A1 pos.length c1) (.slice A2 neg.length c2) (.slice C pc.length cc) (.slice D nc.length dd))) := Lib.hid (by
    have hc := ten_ch w3 (w.heap.size + 1) (.int .i64 t) (.int .i64 sc) (.int .u64 z) (.int .u64 zc) (.int .u64 cn) (.int .u64 su) (.slice A1 pos.length c1) (.slice A2 neg.length c2) (.slice C pc.length cc) (.slice D nc.length dd)
    have q1 := sps_any (ho1.below hb2) hc (fun k hk => by omega)
    have q2 := sps_any ho2 hc (fun k hk => by omega)
    have b3 : Below w.heap.size w (ten w3 (w.heap.size + 1) (.int .i64 t) (.int .i64 sc) (.int .u64 z) (.int .u64 zc) (.int .u64 cn) (.int .u64 su) (.slice A1 pos.length c1) (.slice A2 neg.length c2) (.slice C pc.length cc) (.slice D nc.length dd)) := hst2.b.trans (hc.below_of hst2.b.size fun k hk => by omega)
    exact ⟨⟨spl_any q1 HPS.out.len, spl_any q2 HNS.out.len, HPC.out.below b3, HNC.out.below b3, ⟨H64.out.zero, H64.out.zc, H64.out.cnt, H64.out.sum, H64.out.pc, H64.out.nc⟩⟩, (own_on q1).mono fun k hk => by omega, (own_on q2).mono fun k hk => by omega, b3⟩)
  clear hq0 hq1 hq2 hz ho1 ho2 hb1 hb2 hst1 hst2
  go_wp2
  refine bodyPost_ret (v := .agg #[.int .i64 t, .int .i64 sc, .int .u64 z, .int .u64 zc, .int .u64 cn, .int .u64 su, .slice A1 pos.length c1, .slice A2 neg.length c2, .slice C pc.length cc, .slice D nc.length dd]) (by rw [results_cell1 rfl]; go_simp) rfl ?_
  exact ⟨A1, c1, A2, c2, rfl, HX.out⟩
end Go.Proofs.YtjfekjbmgckkcaaGreatDoor.Law18E
namespace Go.Proofs.YtjfekjbmgckkcaaGreatDoor.Ref05
open Go.RowKit Go.Proofs.YtjfekjbmgckkcaaGreatDoorW.PrintWords
open Go.Proofs.YtjfekjbmgckkcaaGreatDoor.Bits Go.Proofs.YtjfekjbmgckkcaaGreatDoor.Base Go.Proofs.YtjfekjbmgckkcaaGreatDoor.VarPure Go.Proofs.YtjfekjbmgckkcaaGreatDoor.VarbitA Go.Proofs.YtjfekjbmgckkcaaGreatDoor.VarKit Go.Proofs.YtjfekjbmgckkcaaGreatDoor.StreamA Go.Proofs.YtjfekjbmgckkcaaGreatDoor.SpanPure Go.Proofs.YtjfekjbmgckkcaaGreatDoor.SpanBase Go.Proofs.YtjfekjbmgckkcaaGreatDoor.FailAs Go.Proofs.YtjfekjbmgckkcaaGreatDoor.FailB Go.Proofs.YtjfekjbmgckkcaaGreatDoor.FailC Go.Proofs.YtjfekjbmgckkcaaGreatDoor.HeadA Go.Proofs.YtjfekjbmgckkcaaGreatDoor.HeadB Go.Proofs.YtjfekjbmgckkcaaGreatDoor.HeadC Go.Proofs.YtjfekjbmgckkcaaGreatDoor.HeadE Go.Proofs.YtjfekjbmgckkcaaGreatDoor.HeadPure Go.Proofs.YtjfekjbmgckkcaaGreatDoor.Ref01 Go.Proofs.YtjfekjbmgckkcaaGreatDoor.Ref12 Go.Proofs.YtjfekjbmgckkcaaGreatDoor.XorPure Go.Proofs.YtjfekjbmgckkcaaGreatDoor.XorA Go.Proofs.YtjfekjbmgckkcaaGreatDoor.XorB Go.Proofs.YtjfekjbmgckkcaaGreatDoor.HeadL
set_option maxHeartbeats 800000 in
theorem first_calls (l : List Bool) (w : World) (hm : l.length ≤ 1000) :
    Calls Tryz.prog 232 #[.string (txt l)] w fun e w' => e = .returned (.int .i64 (first1 l)) ∧ w = w' := by
  have hs := txt_size l
  go_enter Tryz.func232, Tryz.ntmps232
  go_wp2
  go_loop [3] (fun i => ∃ k : Nat, k ≤ l.length ∧ i = .int .i64 k ∧ Hid (∀ j, (h : j < l.length) → j < k → l[j] = false)) (fun i => l.length - (intOf i).toNat)
  case atStart => exact ⟨0, by omega, rfl, Lib.hid (fun j _ h => by omega)⟩
  case round =>
    obtain ⟨k, hk, rfl, HZ⟩ := hrel
    by_cases hlt : k < l.length
    · have hx := fun w => index_txt (P := Tryz.prog) 9 Tryz.underlying9 l k hlt w
      have hlts : k < (txt l).size := by omega
      cases hv : l[k] with
      | true =>
        rw [hv, show sg true = 49 from rfl] at hx
        have HF := Lib.hid (first1_at hlt (fun j hj => HZ.out j (by omega) hj) hv)
        clear hv
        go_wp2
        go_ret
        exact ⟨by rw [HF.out]; rfl, rfl⟩
      | false =>
        rw [hv, show sg false = 48 from rfl] at hx
        have HV := Lib.hid hv
        clear hv
        go_wp2
        go_round
        case rel => exact ⟨k + 1, by omega, by go_num, Lib.hid (fun j h hj => by
          by_cases e : j = k
          · subst e; exact HV.out
          · exact HZ.out j h (by omega))⟩
        case measure => simp [intOf]; omega
    · obtain rfl : k = l.length := by omega
      have HF := Lib.hid (first1_none (l := l) (fun j hj => HZ.out j hj hj))
      go_wp2
      go_ret
      exact ⟨by rw [HF.out]; first | rfl | simp [hs], rfl⟩
set_option maxHeartbeats 800000 in
theorem end_calls (l : List Bool) (w : World) (hm : l.length ≤ 1000) :
    Calls Tryz.prog 233 #[.string (txt l)] w fun e w' => e = .returned (.int .i64 (end1 l)) ∧ w = w' := by
  have hs := txt_size l
  go_enter Tryz.func233, Tryz.ntmps233
  go_wp2
  go_loop [3] (fun i => ∃ k : Nat, k ≤ l.length ∧ i = .int .i64 k ∧ Hid (∀ j, (h : j < l.length) → k ≤ j → l[j] = false)) (fun i => (intOf i).toNat)
  case atStart => exact ⟨l.length, by omega, rfl, Lib.hid (fun j h hk => by omega)⟩
  case round =>
    obtain ⟨k, hk, rfl, HZ⟩ := hrel
    by_cases hlt : 0 < k
    · obtain ⟨m, rfl⟩ : ∃ m, k = m + 1 := ⟨k - 1, by omega⟩
      have hml : m < l.length := by omega
      have hx := fun w => index_txt (P := Tryz.prog) 9 Tryz.underlying9 l m hml w
      have hlts : m < (txt l).size := by omega
      have e1 : ((m + 1 : Nat) : Int) - 1 = (m : Int) := by omega
      have v1 : IntKind.i64.wrap (m : Int) = m := by rw [IntKind.wrap_i64]; omega
      cases hv : l[m] with
      | true =>
        rw [hv, show sg true = 49 from rfl] at hx
        have HF := Lib.hid (end1_at hml (fun j h hj => HZ.out j h (by omega)) hv)
        clear hv
        go_wp2
        go_ret
        exact ⟨by rw [HF.out]; first | rfl | go_num, rfl⟩
      | false =>
        rw [hv, show sg false = 48 from rfl] at hx
        have HV := Lib.hid hv
        clear hv
        go_wp2
        go_round
        case rel => exact ⟨m, by omega, by go_num, Lib.hid (fun j h hj => by
          by_cases e : j = m
          · subst e; exact HV.out
          · exact HZ.out j h (by omega))⟩
        case measure => simp [intOf]; try omega
    · obtain rfl : k = 0 := by omega
      have HF := Lib.hid (end1_none (l := l) (fun j hj => HZ.out j hj (by omega)))
      go_wp2
      go_ret
      exact ⟨by rw [HF.out]; rfl, rfl⟩
def xcs (x : XR) : List Value := [.int .u64 x.last, .int .i64 x.n, .int .i64 x.ahead, .int .i64 x.len]
abbrev fourW (W : World) (g : Nat) (v0 v1 v2 v3 : Value) : World := (((W.setCell ⟨g, 0, none⟩ v0).setCell ⟨g, 1, none⟩ v1).setCell ⟨g, 2, none⟩ v2).setCell ⟨g, 3, none⟩ v3
theorem below_four {w W : World} {g : Nat} (h : Below w.heap.size w W) (hg : w.heap.size ≤ g) (v0 v1 v2 v3 : Value) : Below w.heap.size w (fourW W g v0 v1 v2 v3) :=
  (((((Ch.refl (fun k => k = g) W).setCell (p := ⟨g, 0, none⟩) (.inl rfl) v0).setCell (p := ⟨g, 1, none⟩) (.inl rfl) v1).setCell (p := ⟨g, 2, none⟩) (.inl rfl) v2).setCell (p := ⟨g, 3, none⟩) (.inl rfl) v3).below_of (B := w.heap.size) h.size (fun k hk => by omega) |> h.trans
theorem below_one {w W : World} {g i : Nat} (h : Below w.heap.size w W) (hg : w.heap.size ≤ g) (v : Value) : Below w.heap.size w (W.setCell ⟨g, i, none⟩ v) :=
  h.trans (((Ch.refl (fun k => k = g) W).setCell (p := ⟨g, i, none⟩) (.inl rfl) v).below_of h.size (fun k hk => by omega))
set_option maxRecDepth 100000 in
set_option maxHeartbeats 6400000 in
theorem put_calls (x : XR) (v : Nat) (w : World) (hx : OkX x) (hn : x.n ≤ 1000000) (hv : v < 18446744073709551616) :
    Calls Tryz.prog 210 #[.agg (xcs x).toArray, .int .u64 v] w fun e w' => e = .returned (.tuple #[.agg (xcs (putX x v)).toArray, .string (txt (toldX x v))]) ∧ Below w.heap.size w w' := by
  obtain ⟨la, n, a, b⟩ := x
  obtain ⟨h1, h2, h3⟩ := hx
  simp only at h1 h2 h3 hn
  show Calls Tryz.prog 210 #[.agg #[.int .u64 la, .int .i64 n, .int .i64 a, .int .i64 b], .int .u64 v] w _
  obtain ⟨W2, hW2, hb2⟩ : ∃ W : World, W = (w.alloc (.cells #[.int .u64 la, .int .i64 n, .int .i64 a, .int .i64 b] 278)).alloc (.cells #[.int .u64 0, .int .i64 0, .int .i64 0, .int .i64 0] 278) ∧ Below w.heap.size w W := ⟨_, rfl, below_alloc (below_alloc (Below.refl _ _) _) _⟩
  obtain ⟨W3, hW3, hb3, o0, o1, o2⟩ : ∃ W : World, W = W2.alloc (.cells #[.int .u64 v, .int .i64 ((n : Int) + 1), .int .i64 a, .int .i64 b] 278) ∧ Below w.heap.size w W ∧ W.heap[w.heap.size]? = some (.cells #[.int .u64 la, .int .i64 n, .int .i64 a, .int .i64 b] 278 (0, 0)) ∧ W.heap[w.heap.size + 1]? = some (.cells #[.int .u64 0, .int .i64 0, .int .i64 0, .int .i64 0] 278 (0, 0)) ∧ W.heap[w.heap.size + 1 + 1]? = some (.cells #[.int .u64 v, .int .i64 ((n : Int) + 1), .int .i64 a, .int .i64 b] 278 (0, 0)) := by
    have x0 := blk_last w (.cells #[.int .u64 la, .int .i64 n, .int .i64 a, .int .i64 b] 278)
    have x1 := blk_last (w.alloc (.cells #[.int .u64 la, .int .i64 n, .int .i64 a, .int .i64 b] 278)) (.cells #[.int .u64 0, .int .i64 0, .int .i64 0, .int .i64 0] 278)
    have x2 := blk_last W2 (.cells #[.int .u64 v, .int .i64 ((n : Int) + 1), .int .i64 a, .int .i64 b] 278)
    have e1 : (w.alloc (.cells #[.int .u64 la, .int .i64 n, .int .i64 a, .int .i64 b] 278)).heap.size = w.heap.size + 1 := by simp
    have e2 : W2.heap.size = w.heap.size + 1 + 1 := by rw [hW2]; simp
    rw [e1] at x1
    rw [e2] at x2
    refine ⟨_, rfl, below_alloc hb2 _, ?_, ?_, x2⟩
    · refine blk_alloc ?_ _
      rw [hW2]
      exact blk_alloc x0 _
    · refine blk_alloc ?_ _
      rw [hW2]
      exact x1
  have e2 : W2.heap.size = w.heap.size + 1 + 1 := by rw [hW2]; simp
  have hd := xor_lt hv h1
  obtain ⟨d, hdd⟩ : ∃ d, d = v ^^^ la := ⟨_, rfl⟩
  rw [← hdd] at hd
  have c0 : W3.cell? ⟨w.heap.size, 0, none⟩ = some (.int .u64 la) := obj_cell o0 rfl
  have c1 : W3.cell? ⟨w.heap.size, 1, none⟩ = some (.int .i64 n) := obj_cell o0 rfl
  have c2 : W3.cell? ⟨w.heap.size, 2, none⟩ = some (.int .i64 a) := obj_cell o0 rfl
  have c3 : W3.cell? ⟨w.heap.size, 3, none⟩ = some (.int .i64 b) := obj_cell o0 rfl
  have q0 : W2.cell? ⟨w.heap.size, 0, none⟩ = some (.int .u64 la) := by rw [hW2]; simp
  have q1 : W2.cell? ⟨w.heap.size, 1, none⟩ = some (.int .i64 n) := by rw [hW2]; simp
  have q2 : W2.cell? ⟨w.heap.size, 2, none⟩ = some (.int .i64 a) := by rw [hW2]; simp
  have q3 : W2.cell? ⟨w.heap.size, 3, none⟩ = some (.int .i64 b) := by rw [hW2]; simp
  have p1 : W2.heap[w.heap.size + 1]? = some (.cells #[.int .u64 0, .int .i64 0, .int .i64 0, .int .i64 0] 278 (0, 0)) := by
    have x1 := blk_last (w.alloc (.cells #[.int .u64 la, .int .i64 n, .int .i64 a, .int .i64 b] 278)) (.cells #[.int .u64 0, .int .i64 0, .int .i64 0, .int .i64 0] 278)
    rw [show (w.alloc (.cells #[.int .u64 la, .int .i64 n, .int .i64 a, .int .i64 b] 278)).heap.size = w.heap.size + 1 from by simp] at x1
    rw [hW2]; exact x1
  have zz0 : W2.cell? ⟨w.heap.size + 1, 0, none⟩ = some (.int .u64 0) := by rw [hW2]; simp
  have ff0 : W2.frozen? ⟨w.heap.size + 1, 0, none⟩ = false := blk_frozen p1 0
  have zz1 : W2.cell? ⟨w.heap.size + 1, 1, none⟩ = some (.int .i64 0) := by rw [hW2]; simp
  have ff1 : W2.frozen? ⟨w.heap.size + 1, 1, none⟩ = false := blk_frozen p1 1
  have zz2 : W2.cell? ⟨w.heap.size + 1, 2, none⟩ = some (.int .i64 0) := by rw [hW2]; simp
  have ff2 : W2.frozen? ⟨w.heap.size + 1, 2, none⟩ = false := blk_frozen p1 2
  have zz3 : W2.cell? ⟨w.heap.size + 1, 3, none⟩ = some (.int .i64 0) := by rw [hW2]; simp
  have ff3 : W2.frozen? ⟨w.heap.size + 1, 3, none⟩ = false := blk_frozen p1 3
  have HW2 := Lib.hid hW2
  have HW3 := Lib.hid hW3
  have HNU := Lib.hid (fun (u k : Nat) (W : World) (h1 : u < 18446744073709551616) (h2 : k ≤ 64) => number_calls u k W h1 (by omega))
  have HFI := Lib.hid (fun W => first_calls (nb d 64) W (by rw [nb_length]; decide))
  have HEN := Lib.hid (fun W => end_calls (nb d 64) W (by rw [nb_length]; decide))
  rw [first_nb d hd] at HFI
  rw [end_nb d hd] at HEN
  have hxo := u64_xor_nat v la hv h1
  rw [← hdd] at hxo
  have HD := Lib.hid hd
  have HV := Lib.hid hv
  have HB3 := Lib.hid hb3
  have HB2 := Lib.hid hb2
  have O0 := Lib.hid o0
  have O1 := Lib.hid o1
  have O2 := Lib.hid o2
  have hlzb := lz_le d
  have htzb := tz_le d hd
  have z0 : W3.cell? ⟨w.heap.size + 1, 0, none⟩ = some (.int .u64 0) := obj_cell o1 rfl
  have z1 : W3.cell? ⟨w.heap.size + 1, 1, none⟩ = some (.int .i64 0) := obj_cell o1 rfl
  have z2 : W3.cell? ⟨w.heap.size + 1, 2, none⟩ = some (.int .i64 0) := obj_cell o1 rfl
  have z3 : W3.cell? ⟨w.heap.size + 1, 3, none⟩ = some (.int .i64 0) := obj_cell o1 rfl
  have f0 := obj_free (i := 0) o1
  have f1 := obj_free (i := 1) o1
  have f2 := obj_free (i := 2) o1
  have f3 := obj_free (i := 3) o1
  have y0 : W3.cell? ⟨w.heap.size + 1 + 1, 0, none⟩ = some (.int .u64 v) := obj_cell o2 rfl
  have y1 : W3.cell? ⟨w.heap.size + 1 + 1, 1, none⟩ = some (.int .i64 ((n : Int) + 1)) := obj_cell o2 rfl
  have y2 : W3.cell? ⟨w.heap.size + 1 + 1, 2, none⟩ = some (.int .i64 a) := obj_cell o2 rfl
  have y3 : W3.cell? ⟨w.heap.size + 1 + 1, 3, none⟩ = some (.int .i64 b) := obj_cell o2 rfl
  by_cases hn0 : n = 0
  · have HP : Hid (putX ⟨la, n, a, b⟩ v = ⟨v, n + 1, a, b⟩) := Lib.hid (by unfold putX; rw [if_pos hn0, hn0])
    have HT : Hid (toldX ⟨la, n, a, b⟩ v = nb v 64) := Lib.hid (by unfold toldX; rw [if_pos hn0])
    rw [HP.out, HT.out]
    have d0 : ((n : Int) == 0) = true := by simp; omega
    clear hn0 HP HT hlzb htzb hW2 hW3 hb2 hb3 hdd hd hv o0 o1 o2 h1 h2 h3
    go_enter Tryz.func210, Tryz.ntmps210
    go_wp2_with (fail)
    rw [← HW2.out]
    refine (HNU.out d 64 W2 HD.out (by decide)).mono ?_
    rintro e w2 ⟨rfl, rfl⟩
    go_wp2_with (fail)
    rw [← HW3.out]
    go_region_with (go_at_call 80; refine (HNU.out v 64 _ HV.out (by decide)).mono ?_; rintro e w3 ⟨rfl, rfl⟩)
    all_goals
      go_wp2
      refine bodyPost_ret (v := .tuple #[.agg #[.int .u64 v, .int .i64 ((n : Int) + 1), .int .i64 a, .int .i64 b], .string (txt (nb v 64))]) (by rw [results_cell_tmp rfl]; go_simp) rfl ?_
      exact ⟨rfl, below_drew (below_four HB3.out (by omega) _ _ _ _)⟩
  have d0 : ((n : Int) == 0) = false := by simp; omega
  by_cases hvl : v = la
  · have HP : Hid (putX ⟨la, n, a, b⟩ v = ⟨v, n + 1, a, b⟩) := Lib.hid (by unfold putX; rw [if_neg hn0, if_pos hvl])
    have HT : Hid (toldX ⟨la, n, a, b⟩ v = [false]) := Lib.hid (by unfold toldX; rw [if_neg hn0, if_pos hvl])
    rw [HP.out, HT.out]
    have d1 : ((v : Int) == (la : Int)) = true := by simp; omega
    clear hn0 HP HT hlzb htzb hW2 hW3 hb2 hb3 hdd hd hv o0 o1 o2 p1 h1 h2 h3 hvl
    go_enter Tryz.func210, Tryz.ntmps210
    go_wp2_with (fail)
    rw [← HW2.out]
    refine (HNU.out d 64 W2 HD.out (by decide)).mono ?_
    rintro e w2 ⟨rfl, rfl⟩
    go_wp2_with (fail)
    rw [show txt [false] = ⟨#[48]⟩ from rfl]
    refine bodyPost_ret (v := .tuple #[.agg #[.int .u64 v, .int .i64 ((n : Int) + 1), .int .i64 a, .int .i64 b], .string ⟨#[48]⟩]) (by rw [results_cell_tmp rfl]; go_simp) rfl ?_
    exact ⟨rfl, below_alloc (below_four HB2.out (by omega) _ _ _ _) _⟩
  have d1 : ((v : Int) == (la : Int)) = false := by simp; omega
  have hd0 : d ≠ 0 := by rw [hdd]; exact xor_ne hvl
  have hlz := lz_tz d hd0 hd
  by_cases hh : holds a b d = true
  · have HP : Hid (putX ⟨la, n, a, b⟩ v = ⟨v, n + 1, a, b⟩) := Lib.hid (by unfold putX; rw [if_neg hn0, if_neg hvl]; simp only; rw [← hdd, if_pos hh])
    have HT : Hid (toldX ⟨la, n, a, b⟩ v = [true, false] ++ nb (d >>> (64 - a - b)) b) := Lib.hid (by unfold toldX; rw [if_neg hn0, if_neg hvl]; simp only; rw [← hdd, if_pos hh])
    rw [HP.out, HT.out]
    simp only [holds, Bool.and_eq_true, decide_eq_true_eq] at hh
    obtain ⟨g1, g2, g3⟩ := hh
    have t1 : decide ((0 : Int) < b) = true := decide_eq_true (by omega)
    have t2 : decide ((a : Int) ≤ (lz d : Nat)) = true := decide_eq_true (by omega)
    have t3 : decide (((64 - tz d : Nat) : Int) ≤ (a : Int) + (b : Int)) = true := decide_eq_true (by omega)
    have t1n : decide (0 < b) = true := decide_eq_true (by omega)
    have t2n : decide (a ≤ lz d) = true := decide_eq_true (by omega)
    have t3n : decide (64 - tz d ≤ a + b) = true := decide_eq_true (by omega)
    have hw : IntKind.i64.wrap ((a : Int) + (b : Int)) = (a : Int) + b := by rw [IntKind.wrap_i64]; omega
    have hsl : ∀ W, (Instr.slice 9 (.string (txt (nb d 64))) (some (.int .i64 a)) (some (.int .i64 ((a : Int) + (b : Int)))) none).run Tryz.prog W = .ok (.string (txt (nb (d >>> (64 - a - b)) b))) W := fun W => by
      have := cut_mid (P := Tryz.prog) 9 Tryz.underlying9 (txt (nb d 64)) (nb d 64) a (a + b) rfl (by omega) (by rw [nb_length]; omega) W
      rw [show a + b - a = b from by omega, nb_mid d a b (by omega)] at this
      exact this
    have hX : (txt (nb (d >>> (64 - a - b)) b)).size ≤ 64 := by rw [txt_size, nb_length]; omega
    have HTX : Hid (txt ([true, false] ++ nb (d >>> (64 - a - b)) b) = ⟨#[49, 48]⟩ ++ txt (nb (d >>> (64 - a - b)) b)) := Lib.hid (by rw [txt_append]; rfl)
    rw [HTX.out]
    obtain ⟨X, hXX⟩ : ∃ X, X = txt (nb (d >>> (64 - a - b)) b) := ⟨_, rfl⟩
    rw [← hXX] at hsl hX ⊢
    have hX2 : ¬ 9223372036854775807 < 2 + X.size := by omega
    obtain ⟨lz', hlz'⟩ : ∃ k, k = lz d := ⟨_, rfl⟩
    obtain ⟨en', hen'⟩ : ∃ k, k = 64 - tz d := ⟨_, rfl⟩
    rw [← hlz'] at t2 t2n HFI
    rw [← hen'] at t3 t3n HEN
    clear hn0 HP HT HTX hlzb htzb hW2 hW3 hb2 hb3 hdd hd hv o0 o1 o2 h1 h2 h3 hvl g1 g2 g3 hd0 hlz hXX hX hlz' hen'
    go_enter Tryz.func210, Tryz.ntmps210
    go_wp2_with (fail)
    rw [← HW2.out]
    refine (HNU.out d 64 W2 HD.out (by decide)).mono ?_
    rintro e w2 ⟨rfl, rfl⟩
    go_wp2_with (fail)
    rw [← HW3.out]
    go_wp2_with (fail)
    go_quiet (first | (go_at_call 232; exact q_same (HFI.out _)) | (go_at_call 233; exact q_same (HEN.out _)))
    go_wp2_with (fail)
    go_region
    all_goals
      go_wp2
      refine bodyPost_ret (v := .tuple #[.agg #[.int .u64 v, .int .i64 ((n : Int) + 1), .int .i64 a, .int .i64 b], .string (⟨#[49, 48]⟩ ++ X)]) (by rw [results_cell_tmp rfl]; go_simp) rfl ?_
      exact ⟨rfl, below_drew (below_four (pw_below_drewN HB3.out nq) (by omega) _ _ _ _)⟩
  obtain ⟨A, hA⟩ : ∃ k, k = winA d := ⟨_, rfl⟩
  obtain ⟨L, hL⟩ : ∃ k, k = winL d := ⟨_, rfl⟩
  have hwin := win_in d hd0 hd
  rw [← hA, ← hL] at hwin
  obtain ⟨w1, w2, w3, w4, w5⟩ := hwin
  have HP : Hid (putX ⟨la, n, a, b⟩ v = ⟨v, n + 1, A, L⟩) := Lib.hid (by unfold putX; rw [if_neg hn0, if_neg hvl]; simp only; rw [← hdd, if_neg hh, hA, hL])
  have HT : Hid (toldX ⟨la, n, a, b⟩ v = [true, true] ++ nb A 5 ++ nb L 6 ++ nb (d >>> (64 - A - L)) L) := Lib.hid (by unfold toldX; rw [if_neg hn0, if_neg hvl]; simp only; rw [← hdd, if_neg hh, hA, hL])
  rw [HP.out, HT.out]
  obtain ⟨lz', hlz'⟩ : ∃ k, k = lz d := ⟨_, rfl⟩
  obtain ⟨en', hen'⟩ : ∃ k, k = 64 - tz d := ⟨_, rfl⟩
  have hAl : A = min lz' 31 := by rw [hA, hlz']; rfl
  have hsl : ∀ W, (Instr.slice 9 (.string (txt (nb d 64))) (some (.int .i64 A)) (some (.int .i64 en')) none).run Tryz.prog W = .ok (.string (txt (nb (d >>> (64 - A - L)) L))) W := fun W => by
    have := cut_mid (P := Tryz.prog) 9 Tryz.underlying9 (txt (nb d 64)) (nb d 64) A en' rfl (by omega) (by rw [nb_length]; omega) W
    rw [show en' - A = L from by omega, nb_mid d A L (by omega)] at this
    exact this
  have hX : (txt (nb (d >>> (64 - A - L)) L)).size ≤ 64 := by rw [txt_size, nb_length]; omega
  have hN1 : (txt (nb A 5)).size ≤ 64 := by rw [txt_size, nb_length]; omega
  have hN2 : (txt (nb L 6)).size ≤ 64 := by rw [txt_size, nb_length]; omega
  have HTX : Hid (txt ([true, true] ++ nb A 5 ++ nb L 6 ++ nb (d >>> (64 - A - L)) L) = ⟨#[49, 49]⟩ ++ txt (nb A 5) ++ txt (nb L 6) ++ txt (nb (d >>> (64 - A - L)) L)) := Lib.hid (by rw [txt_append, txt_append, txt_append]; rfl)
  rw [HTX.out]
  have HN1 := Lib.hid (fun W => HNU.out A 5 W (by omega) (by decide))
  have HN2 := Lib.hid (fun W => HNU.out L 6 W (by omega) (by decide))
  obtain ⟨N1, hNN1⟩ : ∃ X, X = txt (nb A 5) := ⟨_, rfl⟩
  obtain ⟨N2, hNN2⟩ : ∃ X, X = txt (nb L 6) := ⟨_, rfl⟩
  obtain ⟨X, hXX⟩ : ∃ X, X = txt (nb (d >>> (64 - A - L)) L) := ⟨_, rfl⟩
  rw [← hNN1] at hN1 HN1
  rw [← hNN2] at hN2 HN2
  rw [← hXX] at hsl hX
  rw [← hNN1, ← hNN2, ← hXX]
  have hs1 : ¬ 9223372036854775807 < 2 + N1.size := by omega
  have hs2 : ¬ 9223372036854775807 < 2 + N1.size + N2.size := by omega
  have hs3 : ¬ 9223372036854775807 < 2 + N1.size + N2.size + X.size := by omega
  have u1 : IntKind.u64.wrap (A : Int) = A := wrap_u64n (by omega)
  have u2 : IntKind.u64.wrap (L : Int) = L := wrap_u64n (by omega)
  have u3 : IntKind.i64.wrap ((en' : Int) - (A : Int)) = L := by rw [IntKind.wrap_i64]; omega
  rw [← hlz'] at HFI
  rw [← hen'] at HEN
  have ylf : W3.frozen? ⟨w.heap.size + 1 + 1, 2, none⟩ = false := obj_free o2
  have ylg : W3.frozen? ⟨w.heap.size + 1 + 1, 3, none⟩ = false := obj_free o2
  have hcases : (b = 0 ∧ lz' ≤ 31) ∨ (b = 0 ∧ 31 < lz') ∨ (0 < b ∧ lz' < a ∧ lz' ≤ 31) ∨ (0 < b ∧ lz' < a ∧ 31 < lz') ∨ (0 < b ∧ a ≤ lz' ∧ a + b < en' ∧ lz' ≤ 31) ∨ (0 < b ∧ a ≤ lz' ∧ a + b < en' ∧ 31 < lz') := by
    simp only [holds, Bool.and_eq_true, decide_eq_true_eq, not_and] at hh
    by_cases q1 : b = 0
    · omega
    · have q2 := hh (by omega)
      rw [← hlz'] at q2
      by_cases q3 : a ≤ lz'
      · have := q2 q3; omega
      · omega
  have HAL := Lib.hid hAl
  have hab : a + b ≤ 64 := h3
  clear hn0 HP HT HTX hlzb htzb hW2 hW3 hb2 hb3 hdd hd hv o0 o1 o2 p1 h1 h2 h3 hvl hd0 hlz hXX hX hN1 hN2 hNN1 hNN2 hlz' hen' hh hA hL hAl
  rcases hcases with hq | hq | hq | hq | hq | hq
  · have t1 : decide ((0 : Int) < b) = false := decide_eq_false (by omega)
    have t1n : decide (0 < b) = false := decide_eq_false (by omega)
    have e31 : decide ((31 : Int) < lz') = false := decide_eq_false (by omega)
    have e31n : decide (31 < lz') = false := decide_eq_false (by omega)
    have hAA : A = lz' := by have := HAL.out; omega
    clear hq
    go_enter Tryz.func210, Tryz.ntmps210
    go_wp2_with (fail)
    rw [← HW2.out]
    refine (HNU.out d 64 W2 HD.out (by decide)).mono ?_
    rintro e w2 ⟨rfl, rfl⟩
    go_wp2_with (fail)
    rw [← HW3.out]
    go_wp2_with (fail)
    go_quiet (first | (go_at_call 232; exact q_same (HFI.out _)) | (go_at_call 233; exact q_same (HEN.out _)))
    go_wp2_with (fail)
    refine (HFI.out _).mono ?_
    rintro e wx ⟨rfl, rfl⟩
    go_wp2_with (fail)
    obtain ⟨W4, hW4, o4, p4, b4⟩ : ∃ W : World, W = ((W3.drewN nq).setCell ⟨w.heap.size + 1 + 1, 2, none⟩ (.int .i64 lz')) ∧ W.heap[w.heap.size + 1 + 1]? = some (.cells #[.int .u64 v, .int .i64 ((n : Int) + 1), .int .i64 A, .int .i64 b] 278 (0, 0)) ∧ W.heap[w.heap.size + 1]? = some (.cells #[.int .u64 0, .int .i64 0, .int .i64 0, .int .i64 0] 278 (0, 0)) ∧ Below w.heap.size w W := ⟨_, rfl, by rw [hAA]; simpa using blk_set (show (W3.drewN nq).heap[w.heap.size + 1 + 1]? = _ from O2.out) 2 (.int .i64 lz'), blk_far (show (W3.drewN nq).heap[w.heap.size + 1]? = _ from O1.out) (show w.heap.size + 1 ≠ w.heap.size + 1 + 1 by omega) _, below_one (pw_below_drewN HB3.out nq) (by omega) _⟩
    rw [← hW4]
    clear hW4 ylf ylg z0 z1 z2 z3 f0 f1 f2 f3 y0 y1 y2 y3 zz0 zz1 zz2 zz3 ff0 ff1 ff2 ff3 c0 c1 c2 c3 q0 q1 q2 q3 e31 e31n hAA
    have y2 : W4.cell? ⟨w.heap.size + 1 + 1, 2, none⟩ = some (.int .i64 A) := obj_cell o4 rfl
    have y3 : W4.cell? ⟨w.heap.size + 1 + 1, 3, none⟩ = some (.int .i64 b) := obj_cell o4 rfl
    have f3 : W4.frozen? ⟨w.heap.size + 1 + 1, 3, none⟩ = false := obj_free o4
    have y2d : W4.drew.cell? ⟨w.heap.size + 1 + 1, 2, none⟩ = some (.int .i64 A) := y2
    have o5' := blk_set o4 3 (.int .i64 L)
    have y2s : (W4.setCell ⟨w.heap.size + 1 + 1, 3, none⟩ (.int .i64 L)).drew.cell? ⟨w.heap.size + 1 + 1, 2, none⟩ = some (.int .i64 A) := obj_cell (show (W4.setCell ⟨w.heap.size + 1 + 1, 3, none⟩ (.int .i64 L)).drew.heap[w.heap.size + 1 + 1]? = _ from o5') rfl
    go_region_held3 (fun W => W.cell? ⟨w.heap.size + 1 + 1, 2, none⟩ = some (.int .i64 A))
      (first | (with_reducible exact y2d) | (with_reducible exact y2s))
      (first
      | (go_at_call 233; refine (HEN.out _).mono ?_; rintro e wx ⟨rfl, rfl⟩))
    obtain ⟨W5, hW5, o5, p5, b5⟩ : ∃ W : World, W = (W4.setCell ⟨w.heap.size + 1 + 1, 3, none⟩ (.int .i64 L)).drew ∧ W.heap[w.heap.size + 1 + 1]? = some (.cells #[.int .u64 v, .int .i64 ((n : Int) + 1), .int .i64 A, .int .i64 L] 278 (0, 0)) ∧ W.heap[w.heap.size + 1]? = some (.cells #[.int .u64 0, .int .i64 0, .int .i64 0, .int .i64 0] 278 (0, 0)) ∧ Below w.heap.size w W := ⟨_, rfl, o5', blk_far p4 (show w.heap.size + 1 ≠ w.heap.size + 1 + 1 by omega) _, below_drew (below_one b4 (by omega) _)⟩
    rw [← hW5]
    clear hW5 o4 p4 b4 y2 y3 f3 y2d y2s o5'
    have y0 : W5.cell? ⟨w.heap.size + 1 + 1, 0, none⟩ = some (.int .u64 v) := obj_cell o5 rfl
    have y1 : W5.cell? ⟨w.heap.size + 1 + 1, 1, none⟩ = some (.int .i64 ((n : Int) + 1)) := obj_cell o5 rfl
    have y2 : W5.cell? ⟨w.heap.size + 1 + 1, 2, none⟩ = some (.int .i64 A) := obj_cell o5 rfl
    have y3 : W5.cell? ⟨w.heap.size + 1 + 1, 3, none⟩ = some (.int .i64 L) := obj_cell o5 rfl
    have z0 : W5.cell? ⟨w.heap.size + 1, 0, none⟩ = some (.int .u64 0) := obj_cell p5 rfl
    have z1 : W5.cell? ⟨w.heap.size + 1, 1, none⟩ = some (.int .i64 0) := obj_cell p5 rfl
    have z2 : W5.cell? ⟨w.heap.size + 1, 2, none⟩ = some (.int .i64 0) := obj_cell p5 rfl
    have z3 : W5.cell? ⟨w.heap.size + 1, 3, none⟩ = some (.int .i64 0) := obj_cell p5 rfl
    have f0 : W5.frozen? ⟨w.heap.size + 1, 0, none⟩ = false := obj_free p5
    have f1 : W5.frozen? ⟨w.heap.size + 1, 1, none⟩ = false := obj_free p5
    have f2 : W5.frozen? ⟨w.heap.size + 1, 2, none⟩ = false := obj_free p5
    have f3 : W5.frozen? ⟨w.heap.size + 1, 3, none⟩ = false := obj_free p5
    have yd : W5.drew.cell? ⟨w.heap.size + 1 + 1, 0, none⟩ = some (.int .u64 v) ∧ W5.drew.cell? ⟨w.heap.size + 1 + 1, 1, none⟩ = some (.int .i64 ((n : Int) + 1)) ∧ W5.drew.cell? ⟨w.heap.size + 1 + 1, 2, none⟩ = some (.int .i64 A) ∧ W5.drew.cell? ⟨w.heap.size + 1 + 1, 3, none⟩ = some (.int .i64 L) := ⟨y0, y1, y2, y3⟩
    have ys : (fourW W5 (w.heap.size + 1) (.int .u64 v) (.int .i64 ((n : Int) + 1)) (.int .i64 A) (.int .i64 L)).drew.cell? ⟨w.heap.size + 1 + 1, 0, none⟩ = some (.int .u64 v) ∧ (fourW W5 (w.heap.size + 1) (.int .u64 v) (.int .i64 ((n : Int) + 1)) (.int .i64 A) (.int .i64 L)).drew.cell? ⟨w.heap.size + 1 + 1, 1, none⟩ = some (.int .i64 ((n : Int) + 1)) ∧ (fourW W5 (w.heap.size + 1) (.int .u64 v) (.int .i64 ((n : Int) + 1)) (.int .i64 A) (.int .i64 L)).drew.cell? ⟨w.heap.size + 1 + 1, 2, none⟩ = some (.int .i64 A) ∧ (fourW W5 (w.heap.size + 1) (.int .u64 v) (.int .i64 ((n : Int) + 1)) (.int .i64 A) (.int .i64 L)).drew.cell? ⟨w.heap.size + 1 + 1, 3, none⟩ = some (.int .i64 L) := by
      have hb : (fourW W5 (w.heap.size + 1) (.int .u64 v) (.int .i64 ((n : Int) + 1)) (.int .i64 A) (.int .i64 L)).heap[w.heap.size + 1 + 1]? = _ := blk_far (blk_far (blk_far (blk_far o5 (show w.heap.size + 1 + 1 ≠ w.heap.size + 1 by omega) _) (show w.heap.size + 1 + 1 ≠ w.heap.size + 1 by omega) _) (show w.heap.size + 1 + 1 ≠ w.heap.size + 1 by omega) _) (show w.heap.size + 1 + 1 ≠ w.heap.size + 1 by omega) _
      exact ⟨obj_cell hb rfl, obj_cell hb rfl, obj_cell hb rfl, obj_cell hb rfl⟩
    have B5 := Lib.hid b5
    clear o5 p5 b5
    go_wp2_with (fail)
    go_region_held3 (fun W => W.cell? ⟨w.heap.size + 1 + 1, 0, none⟩ = some (.int .u64 v) ∧ W.cell? ⟨w.heap.size + 1 + 1, 1, none⟩ = some (.int .i64 ((n : Int) + 1)) ∧ W.cell? ⟨w.heap.size + 1 + 1, 2, none⟩ = some (.int .i64 A) ∧ W.cell? ⟨w.heap.size + 1 + 1, 3, none⟩ = some (.int .i64 L))
      (first | (with_reducible exact yd) | (with_reducible exact ys))
      (first
      | (go_at_call 80; (with_reducible show Calls _ _ #[Value.int .u64 _, Value.int .i64 5] _ _); refine (HN1.out _).mono ?_; rintro e wx ⟨rfl, rfl⟩)
      | (go_at_call 80; refine (HN2.out _).mono ?_; rintro e wx ⟨rfl, rfl⟩)
      | (go_at_call 233; refine (HEN.out _).mono ?_; rintro e wx ⟨rfl, rfl⟩))
    go_wp2
    refine bodyPost_ret (v := .tuple #[.agg #[.int .u64 v, .int .i64 ((n : Int) + 1), .int .i64 A, .int .i64 L], .string (⟨#[49, 49]⟩ ++ N1 ++ N2 ++ X)]) (by rw [results_cell_tmp rfl]; go_simp) rfl ?_
    exact ⟨rfl, below_drew (below_four B5.out (by omega) _ _ _ _)⟩
  · have t1 : decide ((0 : Int) < b) = false := decide_eq_false (by omega)
    have t1n : decide (0 < b) = false := decide_eq_false (by omega)
    have e31 : decide ((31 : Int) < lz') = true := decide_eq_true (by omega)
    have e31n : decide (31 < lz') = true := decide_eq_true (by omega)
    have hAA : A = 31 := by have := HAL.out; omega
    clear hq
    go_enter Tryz.func210, Tryz.ntmps210
    go_wp2_with (fail)
    rw [← HW2.out]
    refine (HNU.out d 64 W2 HD.out (by decide)).mono ?_
    rintro e w2 ⟨rfl, rfl⟩
    go_wp2_with (fail)
    rw [← HW3.out]
    go_wp2_with (fail)
    go_quiet (first | (go_at_call 232; exact q_same (HFI.out _)) | (go_at_call 233; exact q_same (HEN.out _)))
    go_wp2_with (fail)
    refine (HFI.out _).mono ?_
    rintro e wx ⟨rfl, rfl⟩
    go_wp2_with (fail)
    obtain ⟨W4, hW4, o4, p4, b4⟩ : ∃ W : World, W = (((W3.drewN nq).setCell ⟨w.heap.size + 1 + 1, 2, none⟩ (.int .i64 lz')).setCell ⟨w.heap.size + 1 + 1, 2, none⟩ (.int .i64 31)) ∧ W.heap[w.heap.size + 1 + 1]? = some (.cells #[.int .u64 v, .int .i64 ((n : Int) + 1), .int .i64 A, .int .i64 b] 278 (0, 0)) ∧ W.heap[w.heap.size + 1]? = some (.cells #[.int .u64 0, .int .i64 0, .int .i64 0, .int .i64 0] 278 (0, 0)) ∧ Below w.heap.size w W := ⟨_, rfl, by rw [hAA]; simpa using blk_set (blk_set (show (W3.drewN nq).heap[w.heap.size + 1 + 1]? = _ from O2.out) 2 (.int .i64 lz')) 2 (.int .i64 31), blk_far (blk_far (show (W3.drewN nq).heap[w.heap.size + 1]? = _ from O1.out) (show w.heap.size + 1 ≠ w.heap.size + 1 + 1 by omega) _) (show w.heap.size + 1 ≠ w.heap.size + 1 + 1 by omega) _, below_one (below_one (pw_below_drewN HB3.out nq) (by omega) _) (by omega) _⟩
    rw [← hW4]
    clear hW4 ylf ylg z0 z1 z2 z3 f0 f1 f2 f3 y0 y1 y2 y3 zz0 zz1 zz2 zz3 ff0 ff1 ff2 ff3 c0 c1 c2 c3 q0 q1 q2 q3 e31 e31n hAA
    have y2 : W4.cell? ⟨w.heap.size + 1 + 1, 2, none⟩ = some (.int .i64 A) := obj_cell o4 rfl
    have y3 : W4.cell? ⟨w.heap.size + 1 + 1, 3, none⟩ = some (.int .i64 b) := obj_cell o4 rfl
    have f3 : W4.frozen? ⟨w.heap.size + 1 + 1, 3, none⟩ = false := obj_free o4
    have y2d : W4.drew.cell? ⟨w.heap.size + 1 + 1, 2, none⟩ = some (.int .i64 A) := y2
    have o5' := blk_set o4 3 (.int .i64 L)
    have y2s : (W4.setCell ⟨w.heap.size + 1 + 1, 3, none⟩ (.int .i64 L)).drew.cell? ⟨w.heap.size + 1 + 1, 2, none⟩ = some (.int .i64 A) := obj_cell (show (W4.setCell ⟨w.heap.size + 1 + 1, 3, none⟩ (.int .i64 L)).drew.heap[w.heap.size + 1 + 1]? = _ from o5') rfl
    go_region_held3 (fun W => W.cell? ⟨w.heap.size + 1 + 1, 2, none⟩ = some (.int .i64 A))
      (first | (with_reducible exact y2d) | (with_reducible exact y2s))
      (first
      | (go_at_call 233; refine (HEN.out _).mono ?_; rintro e wx ⟨rfl, rfl⟩))
    obtain ⟨W5, hW5, o5, p5, b5⟩ : ∃ W : World, W = (W4.setCell ⟨w.heap.size + 1 + 1, 3, none⟩ (.int .i64 L)).drew ∧ W.heap[w.heap.size + 1 + 1]? = some (.cells #[.int .u64 v, .int .i64 ((n : Int) + 1), .int .i64 A, .int .i64 L] 278 (0, 0)) ∧ W.heap[w.heap.size + 1]? = some (.cells #[.int .u64 0, .int .i64 0, .int .i64 0, .int .i64 0] 278 (0, 0)) ∧ Below w.heap.size w W := ⟨_, rfl, o5', blk_far p4 (show w.heap.size + 1 ≠ w.heap.size + 1 + 1 by omega) _, below_drew (below_one b4 (by omega) _)⟩
    rw [← hW5]
    clear hW5 o4 p4 b4 y2 y3 f3 y2d y2s o5'
    have y0 : W5.cell? ⟨w.heap.size + 1 + 1, 0, none⟩ = some (.int .u64 v) := obj_cell o5 rfl
    have y1 : W5.cell? ⟨w.heap.size + 1 + 1, 1, none⟩ = some (.int .i64 ((n : Int) + 1)) := obj_cell o5 rfl
    have y2 : W5.cell? ⟨w.heap.size + 1 + 1, 2, none⟩ = some (.int .i64 A) := obj_cell o5 rfl
    have y3 : W5.cell? ⟨w.heap.size + 1 + 1, 3, none⟩ = some (.int .i64 L) := obj_cell o5 rfl
    have z0 : W5.cell? ⟨w.heap.size + 1, 0, none⟩ = some (.int .u64 0) := obj_cell p5 rfl
    have z1 : W5.cell? ⟨w.heap.size + 1, 1, none⟩ = some (.int .i64 0) := obj_cell p5 rfl
    have z2 : W5.cell? ⟨w.heap.size + 1, 2, none⟩ = some (.int .i64 0) := obj_cell p5 rfl
    have z3 : W5.cell? ⟨w.heap.size + 1, 3, none⟩ = some (.int .i64 0) := obj_cell p5 rfl
    have f0 : W5.frozen? ⟨w.heap.size + 1, 0, none⟩ = false := obj_free p5
    have f1 : W5.frozen? ⟨w.heap.size + 1, 1, none⟩ = false := obj_free p5
    have f2 : W5.frozen? ⟨w.heap.size + 1, 2, none⟩ = false := obj_free p5
    have f3 : W5.frozen? ⟨w.heap.size + 1, 3, none⟩ = false := obj_free p5
    have yd : W5.drew.cell? ⟨w.heap.size + 1 + 1, 0, none⟩ = some (.int .u64 v) ∧ W5.drew.cell? ⟨w.heap.size + 1 + 1, 1, none⟩ = some (.int .i64 ((n : Int) + 1)) ∧ W5.drew.cell? ⟨w.heap.size + 1 + 1, 2, none⟩ = some (.int .i64 A) ∧ W5.drew.cell? ⟨w.heap.size + 1 + 1, 3, none⟩ = some (.int .i64 L) := ⟨y0, y1, y2, y3⟩
    have ys : (fourW W5 (w.heap.size + 1) (.int .u64 v) (.int .i64 ((n : Int) + 1)) (.int .i64 A) (.int .i64 L)).drew.cell? ⟨w.heap.size + 1 + 1, 0, none⟩ = some (.int .u64 v) ∧ (fourW W5 (w.heap.size + 1) (.int .u64 v) (.int .i64 ((n : Int) + 1)) (.int .i64 A) (.int .i64 L)).drew.cell? ⟨w.heap.size + 1 + 1, 1, none⟩ = some (.int .i64 ((n : Int) + 1)) ∧ (fourW W5 (w.heap.size + 1) (.int .u64 v) (.int .i64 ((n : Int) + 1)) (.int .i64 A) (.int .i64 L)).drew.cell? ⟨w.heap.size + 1 + 1, 2, none⟩ = some (.int .i64 A) ∧ (fourW W5 (w.heap.size + 1) (.int .u64 v) (.int .i64 ((n : Int) + 1)) (.int .i64 A) (.int .i64 L)).drew.cell? ⟨w.heap.size + 1 + 1, 3, none⟩ = some (.int .i64 L) := by
      have hb : (fourW W5 (w.heap.size + 1) (.int .u64 v) (.int .i64 ((n : Int) + 1)) (.int .i64 A) (.int .i64 L)).heap[w.heap.size + 1 + 1]? = _ := blk_far (blk_far (blk_far (blk_far o5 (show w.heap.size + 1 + 1 ≠ w.heap.size + 1 by omega) _) (show w.heap.size + 1 + 1 ≠ w.heap.size + 1 by omega) _) (show w.heap.size + 1 + 1 ≠ w.heap.size + 1 by omega) _) (show w.heap.size + 1 + 1 ≠ w.heap.size + 1 by omega) _
      exact ⟨obj_cell hb rfl, obj_cell hb rfl, obj_cell hb rfl, obj_cell hb rfl⟩
    have B5 := Lib.hid b5
    clear o5 p5 b5
    go_wp2_with (fail)
    go_region_held3 (fun W => W.cell? ⟨w.heap.size + 1 + 1, 0, none⟩ = some (.int .u64 v) ∧ W.cell? ⟨w.heap.size + 1 + 1, 1, none⟩ = some (.int .i64 ((n : Int) + 1)) ∧ W.cell? ⟨w.heap.size + 1 + 1, 2, none⟩ = some (.int .i64 A) ∧ W.cell? ⟨w.heap.size + 1 + 1, 3, none⟩ = some (.int .i64 L))
      (first | (with_reducible exact yd) | (with_reducible exact ys))
      (first
      | (go_at_call 80; (with_reducible show Calls _ _ #[Value.int .u64 _, Value.int .i64 5] _ _); refine (HN1.out _).mono ?_; rintro e wx ⟨rfl, rfl⟩)
      | (go_at_call 80; refine (HN2.out _).mono ?_; rintro e wx ⟨rfl, rfl⟩)
      | (go_at_call 233; refine (HEN.out _).mono ?_; rintro e wx ⟨rfl, rfl⟩))
    go_wp2
    refine bodyPost_ret (v := .tuple #[.agg #[.int .u64 v, .int .i64 ((n : Int) + 1), .int .i64 A, .int .i64 L], .string (⟨#[49, 49]⟩ ++ N1 ++ N2 ++ X)]) (by rw [results_cell_tmp rfl]; go_simp) rfl ?_
    exact ⟨rfl, below_drew (below_four B5.out (by omega) _ _ _ _)⟩
  · have t1 : decide ((0 : Int) < b) = true := decide_eq_true (by omega)
    have t1n : decide (0 < b) = true := decide_eq_true (by omega)
    have t2 : decide ((a : Int) ≤ lz') = false := decide_eq_false (by omega)
    have t2n : decide (a ≤ lz') = false := decide_eq_false (by omega)
    have e31 : decide ((31 : Int) < lz') = false := decide_eq_false (by omega)
    have e31n : decide (31 < lz') = false := decide_eq_false (by omega)
    have hAA : A = lz' := by have := HAL.out; omega
    clear hq
    go_enter Tryz.func210, Tryz.ntmps210
    go_wp2_with (fail)
    rw [← HW2.out]
    refine (HNU.out d 64 W2 HD.out (by decide)).mono ?_
    rintro e w2 ⟨rfl, rfl⟩
    go_wp2_with (fail)
    rw [← HW3.out]
    go_wp2_with (fail)
    go_quiet (first | (go_at_call 232; exact q_same (HFI.out _)) | (go_at_call 233; exact q_same (HEN.out _)))
    go_wp2_with (fail)
    refine (HFI.out _).mono ?_
    rintro e wx ⟨rfl, rfl⟩
    go_wp2_with (fail)
    obtain ⟨W4, hW4, o4, p4, b4⟩ : ∃ W : World, W = ((W3.drewN nq).setCell ⟨w.heap.size + 1 + 1, 2, none⟩ (.int .i64 lz')) ∧ W.heap[w.heap.size + 1 + 1]? = some (.cells #[.int .u64 v, .int .i64 ((n : Int) + 1), .int .i64 A, .int .i64 b] 278 (0, 0)) ∧ W.heap[w.heap.size + 1]? = some (.cells #[.int .u64 0, .int .i64 0, .int .i64 0, .int .i64 0] 278 (0, 0)) ∧ Below w.heap.size w W := ⟨_, rfl, by rw [hAA]; simpa using blk_set (show (W3.drewN nq).heap[w.heap.size + 1 + 1]? = _ from O2.out) 2 (.int .i64 lz'), blk_far (show (W3.drewN nq).heap[w.heap.size + 1]? = _ from O1.out) (show w.heap.size + 1 ≠ w.heap.size + 1 + 1 by omega) _, below_one (pw_below_drewN HB3.out nq) (by omega) _⟩
    rw [← hW4]
    clear hW4 ylf ylg z0 z1 z2 z3 f0 f1 f2 f3 y0 y1 y2 y3 zz0 zz1 zz2 zz3 ff0 ff1 ff2 ff3 c0 c1 c2 c3 q0 q1 q2 q3 e31 e31n hAA
    have y2 : W4.cell? ⟨w.heap.size + 1 + 1, 2, none⟩ = some (.int .i64 A) := obj_cell o4 rfl
    have y3 : W4.cell? ⟨w.heap.size + 1 + 1, 3, none⟩ = some (.int .i64 b) := obj_cell o4 rfl
    have f3 : W4.frozen? ⟨w.heap.size + 1 + 1, 3, none⟩ = false := obj_free o4
    have y2d : W4.drew.cell? ⟨w.heap.size + 1 + 1, 2, none⟩ = some (.int .i64 A) := y2
    have o5' := blk_set o4 3 (.int .i64 L)
    have y2s : (W4.setCell ⟨w.heap.size + 1 + 1, 3, none⟩ (.int .i64 L)).drew.cell? ⟨w.heap.size + 1 + 1, 2, none⟩ = some (.int .i64 A) := obj_cell (show (W4.setCell ⟨w.heap.size + 1 + 1, 3, none⟩ (.int .i64 L)).drew.heap[w.heap.size + 1 + 1]? = _ from o5') rfl
    go_region_held3 (fun W => W.cell? ⟨w.heap.size + 1 + 1, 2, none⟩ = some (.int .i64 A))
      (first | (with_reducible exact y2d) | (with_reducible exact y2s))
      (first
      | (go_at_call 233; refine (HEN.out _).mono ?_; rintro e wx ⟨rfl, rfl⟩))
    obtain ⟨W5, hW5, o5, p5, b5⟩ : ∃ W : World, W = (W4.setCell ⟨w.heap.size + 1 + 1, 3, none⟩ (.int .i64 L)).drew ∧ W.heap[w.heap.size + 1 + 1]? = some (.cells #[.int .u64 v, .int .i64 ((n : Int) + 1), .int .i64 A, .int .i64 L] 278 (0, 0)) ∧ W.heap[w.heap.size + 1]? = some (.cells #[.int .u64 0, .int .i64 0, .int .i64 0, .int .i64 0] 278 (0, 0)) ∧ Below w.heap.size w W := ⟨_, rfl, o5', blk_far p4 (show w.heap.size + 1 ≠ w.heap.size + 1 + 1 by omega) _, below_drew (below_one b4 (by omega) _)⟩
    rw [← hW5]
    clear hW5 o4 p4 b4 y2 y3 f3 y2d y2s o5'
    have y0 : W5.cell? ⟨w.heap.size + 1 + 1, 0, none⟩ = some (.int .u64 v) := obj_cell o5 rfl
    have y1 : W5.cell? ⟨w.heap.size + 1 + 1, 1, none⟩ = some (.int .i64 ((n : Int) + 1)) := obj_cell o5 rfl
    have y2 : W5.cell? ⟨w.heap.size + 1 + 1, 2, none⟩ = some (.int .i64 A) := obj_cell o5 rfl
    have y3 : W5.cell? ⟨w.heap.size + 1 + 1, 3, none⟩ = some (.int .i64 L) := obj_cell o5 rfl
    have z0 : W5.cell? ⟨w.heap.size + 1, 0, none⟩ = some (.int .u64 0) := obj_cell p5 rfl
    have z1 : W5.cell? ⟨w.heap.size + 1, 1, none⟩ = some (.int .i64 0) := obj_cell p5 rfl
    have z2 : W5.cell? ⟨w.heap.size + 1, 2, none⟩ = some (.int .i64 0) := obj_cell p5 rfl
    have z3 : W5.cell? ⟨w.heap.size + 1, 3, none⟩ = some (.int .i64 0) := obj_cell p5 rfl
    have f0 : W5.frozen? ⟨w.heap.size + 1, 0, none⟩ = false := obj_free p5
    have f1 : W5.frozen? ⟨w.heap.size + 1, 1, none⟩ = false := obj_free p5
    have f2 : W5.frozen? ⟨w.heap.size + 1, 2, none⟩ = false := obj_free p5
    have f3 : W5.frozen? ⟨w.heap.size + 1, 3, none⟩ = false := obj_free p5
    have yd : W5.drew.cell? ⟨w.heap.size + 1 + 1, 0, none⟩ = some (.int .u64 v) ∧ W5.drew.cell? ⟨w.heap.size + 1 + 1, 1, none⟩ = some (.int .i64 ((n : Int) + 1)) ∧ W5.drew.cell? ⟨w.heap.size + 1 + 1, 2, none⟩ = some (.int .i64 A) ∧ W5.drew.cell? ⟨w.heap.size + 1 + 1, 3, none⟩ = some (.int .i64 L) := ⟨y0, y1, y2, y3⟩
    have ys : (fourW W5 (w.heap.size + 1) (.int .u64 v) (.int .i64 ((n : Int) + 1)) (.int .i64 A) (.int .i64 L)).drew.cell? ⟨w.heap.size + 1 + 1, 0, none⟩ = some (.int .u64 v) ∧ (fourW W5 (w.heap.size + 1) (.int .u64 v) (.int .i64 ((n : Int) + 1)) (.int .i64 A) (.int .i64 L)).drew.cell? ⟨w.heap.size + 1 + 1, 1, none⟩ = some (.int .i64 ((n : Int) + 1)) ∧ (fourW W5 (w.heap.size + 1) (.int .u64 v) (.int .i64 ((n : Int) + 1)) (.int .i64 A) (.int .i64 L)).drew.cell? ⟨w.heap.size + 1 + 1, 2, none⟩ = some (.int .i64 A) ∧ (fourW W5 (w.heap.size + 1) (.int .u64 v) (.int .i64 ((n : Int) + 1)) (.int .i64 A) (.int .i64 L)).drew.cell? ⟨w.heap.size + 1 + 1, 3, none⟩ = some (.int .i64 L) := by
      have hb : (fourW W5 (w.heap.size + 1) (.int .u64 v) (.int .i64 ((n : Int) + 1)) (.int .i64 A) (.int .i64 L)).heap[w.heap.size + 1 + 1]? = _ := blk_far (blk_far (blk_far (blk_far o5 (show w.heap.size + 1 + 1 ≠ w.heap.size + 1 by omega) _) (show w.heap.size + 1 + 1 ≠ w.heap.size + 1 by omega) _) (show w.heap.size + 1 + 1 ≠ w.heap.size + 1 by omega) _) (show w.heap.size + 1 + 1 ≠ w.heap.size + 1 by omega) _
      exact ⟨obj_cell hb rfl, obj_cell hb rfl, obj_cell hb rfl, obj_cell hb rfl⟩
    have B5 := Lib.hid b5
    clear o5 p5 b5
    go_wp2_with (fail)
    go_region_held3 (fun W => W.cell? ⟨w.heap.size + 1 + 1, 0, none⟩ = some (.int .u64 v) ∧ W.cell? ⟨w.heap.size + 1 + 1, 1, none⟩ = some (.int .i64 ((n : Int) + 1)) ∧ W.cell? ⟨w.heap.size + 1 + 1, 2, none⟩ = some (.int .i64 A) ∧ W.cell? ⟨w.heap.size + 1 + 1, 3, none⟩ = some (.int .i64 L))
      (first | (with_reducible exact yd) | (with_reducible exact ys))
      (first
      | (go_at_call 80; (with_reducible show Calls _ _ #[Value.int .u64 _, Value.int .i64 5] _ _); refine (HN1.out _).mono ?_; rintro e wx ⟨rfl, rfl⟩)
      | (go_at_call 80; refine (HN2.out _).mono ?_; rintro e wx ⟨rfl, rfl⟩)
      | (go_at_call 233; refine (HEN.out _).mono ?_; rintro e wx ⟨rfl, rfl⟩))
    go_wp2
    refine bodyPost_ret (v := .tuple #[.agg #[.int .u64 v, .int .i64 ((n : Int) + 1), .int .i64 A, .int .i64 L], .string (⟨#[49, 49]⟩ ++ N1 ++ N2 ++ X)]) (by rw [results_cell_tmp rfl]; go_simp) rfl ?_
    exact ⟨rfl, below_drew (below_four B5.out (by omega) _ _ _ _)⟩
  · have t1 : decide ((0 : Int) < b) = true := decide_eq_true (by omega)
    have t1n : decide (0 < b) = true := decide_eq_true (by omega)
    have t2 : decide ((a : Int) ≤ lz') = false := decide_eq_false (by omega)
    have t2n : decide (a ≤ lz') = false := decide_eq_false (by omega)
    have e31 : decide ((31 : Int) < lz') = true := decide_eq_true (by omega)
    have e31n : decide (31 < lz') = true := decide_eq_true (by omega)
    have hAA : A = 31 := by have := HAL.out; omega
    clear hq
    go_enter Tryz.func210, Tryz.ntmps210
    go_wp2_with (fail)
    rw [← HW2.out]
    refine (HNU.out d 64 W2 HD.out (by decide)).mono ?_
    rintro e w2 ⟨rfl, rfl⟩
    go_wp2_with (fail)
    rw [← HW3.out]
    go_wp2_with (fail)
    go_quiet (first | (go_at_call 232; exact q_same (HFI.out _)) | (go_at_call 233; exact q_same (HEN.out _)))
    go_wp2_with (fail)
    refine (HFI.out _).mono ?_
    rintro e wx ⟨rfl, rfl⟩
    go_wp2_with (fail)
    obtain ⟨W4, hW4, o4, p4, b4⟩ : ∃ W : World, W = (((W3.drewN nq).setCell ⟨w.heap.size + 1 + 1, 2, none⟩ (.int .i64 lz')).setCell ⟨w.heap.size + 1 + 1, 2, none⟩ (.int .i64 31)) ∧ W.heap[w.heap.size + 1 + 1]? = some (.cells #[.int .u64 v, .int .i64 ((n : Int) + 1), .int .i64 A, .int .i64 b] 278 (0, 0)) ∧ W.heap[w.heap.size + 1]? = some (.cells #[.int .u64 0, .int .i64 0, .int .i64 0, .int .i64 0] 278 (0, 0)) ∧ Below w.heap.size w W := ⟨_, rfl, by rw [hAA]; simpa using blk_set (blk_set (show (W3.drewN nq).heap[w.heap.size + 1 + 1]? = _ from O2.out) 2 (.int .i64 lz')) 2 (.int .i64 31), blk_far (blk_far (show (W3.drewN nq).heap[w.heap.size + 1]? = _ from O1.out) (show w.heap.size + 1 ≠ w.heap.size + 1 + 1 by omega) _) (show w.heap.size + 1 ≠ w.heap.size + 1 + 1 by omega) _, below_one (below_one (pw_below_drewN HB3.out nq) (by omega) _) (by omega) _⟩
    rw [← hW4]
    clear hW4 ylf ylg z0 z1 z2 z3 f0 f1 f2 f3 y0 y1 y2 y3 zz0 zz1 zz2 zz3 ff0 ff1 ff2 ff3 c0 c1 c2 c3 q0 q1 q2 q3 e31 e31n hAA
    have y2 : W4.cell? ⟨w.heap.size + 1 + 1, 2, none⟩ = some (.int .i64 A) := obj_cell o4 rfl
    have y3 : W4.cell? ⟨w.heap.size + 1 + 1, 3, none⟩ = some (.int .i64 b) := obj_cell o4 rfl
    have f3 : W4.frozen? ⟨w.heap.size + 1 + 1, 3, none⟩ = false := obj_free o4
    have y2d : W4.drew.cell? ⟨w.heap.size + 1 + 1, 2, none⟩ = some (.int .i64 A) := y2
    have o5' := blk_set o4 3 (.int .i64 L)
    have y2s : (W4.setCell ⟨w.heap.size + 1 + 1, 3, none⟩ (.int .i64 L)).drew.cell? ⟨w.heap.size + 1 + 1, 2, none⟩ = some (.int .i64 A) := obj_cell (show (W4.setCell ⟨w.heap.size + 1 + 1, 3, none⟩ (.int .i64 L)).drew.heap[w.heap.size + 1 + 1]? = _ from o5') rfl
    go_region_held3 (fun W => W.cell? ⟨w.heap.size + 1 + 1, 2, none⟩ = some (.int .i64 A))
      (first | (with_reducible exact y2d) | (with_reducible exact y2s))
      (first
      | (go_at_call 233; refine (HEN.out _).mono ?_; rintro e wx ⟨rfl, rfl⟩))
    obtain ⟨W5, hW5, o5, p5, b5⟩ : ∃ W : World, W = (W4.setCell ⟨w.heap.size + 1 + 1, 3, none⟩ (.int .i64 L)).drew ∧ W.heap[w.heap.size + 1 + 1]? = some (.cells #[.int .u64 v, .int .i64 ((n : Int) + 1), .int .i64 A, .int .i64 L] 278 (0, 0)) ∧ W.heap[w.heap.size + 1]? = some (.cells #[.int .u64 0, .int .i64 0, .int .i64 0, .int .i64 0] 278 (0, 0)) ∧ Below w.heap.size w W := ⟨_, rfl, o5', blk_far p4 (show w.heap.size + 1 ≠ w.heap.size + 1 + 1 by omega) _, below_drew (below_one b4 (by omega) _)⟩
    rw [← hW5]
    clear hW5 o4 p4 b4 y2 y3 f3 y2d y2s o5'
    have y0 : W5.cell? ⟨w.heap.size + 1 + 1, 0, none⟩ = some (.int .u64 v) := obj_cell o5 rfl
    have y1 : W5.cell? ⟨w.heap.size + 1 + 1, 1, none⟩ = some (.int .i64 ((n : Int) + 1)) := obj_cell o5 rfl
    have y2 : W5.cell? ⟨w.heap.size + 1 + 1, 2, none⟩ = some (.int .i64 A) := obj_cell o5 rfl
    have y3 : W5.cell? ⟨w.heap.size + 1 + 1, 3, none⟩ = some (.int .i64 L) := obj_cell o5 rfl
    have z0 : W5.cell? ⟨w.heap.size + 1, 0, none⟩ = some (.int .u64 0) := obj_cell p5 rfl
    have z1 : W5.cell? ⟨w.heap.size + 1, 1, none⟩ = some (.int .i64 0) := obj_cell p5 rfl
    have z2 : W5.cell? ⟨w.heap.size + 1, 2, none⟩ = some (.int .i64 0) := obj_cell p5 rfl
    have z3 : W5.cell? ⟨w.heap.size + 1, 3, none⟩ = some (.int .i64 0) := obj_cell p5 rfl
    have f0 : W5.frozen? ⟨w.heap.size + 1, 0, none⟩ = false := obj_free p5
    have f1 : W5.frozen? ⟨w.heap.size + 1, 1, none⟩ = false := obj_free p5
    have f2 : W5.frozen? ⟨w.heap.size + 1, 2, none⟩ = false := obj_free p5
    have f3 : W5.frozen? ⟨w.heap.size + 1, 3, none⟩ = false := obj_free p5
    have yd : W5.drew.cell? ⟨w.heap.size + 1 + 1, 0, none⟩ = some (.int .u64 v) ∧ W5.drew.cell? ⟨w.heap.size + 1 + 1, 1, none⟩ = some (.int .i64 ((n : Int) + 1)) ∧ W5.drew.cell? ⟨w.heap.size + 1 + 1, 2, none⟩ = some (.int .i64 A) ∧ W5.drew.cell? ⟨w.heap.size + 1 + 1, 3, none⟩ = some (.int .i64 L) := ⟨y0, y1, y2, y3⟩
    have ys : (fourW W5 (w.heap.size + 1) (.int .u64 v) (.int .i64 ((n : Int) + 1)) (.int .i64 A) (.int .i64 L)).drew.cell? ⟨w.heap.size + 1 + 1, 0, none⟩ = some (.int .u64 v) ∧ (fourW W5 (w.heap.size + 1) (.int .u64 v) (.int .i64 ((n : Int) + 1)) (.int .i64 A) (.int .i64 L)).drew.cell? ⟨w.heap.size + 1 + 1, 1, none⟩ = some (.int .i64 ((n : Int) + 1)) ∧ (fourW W5 (w.heap.size + 1) (.int .u64 v) (.int .i64 ((n : Int) + 1)) (.int .i64 A) (.int .i64 L)).drew.cell? ⟨w.heap.size + 1 + 1, 2, none⟩ = some (.int .i64 A) ∧ (fourW W5 (w.heap.size + 1) (.int .u64 v) (.int .i64 ((n : Int) + 1)) (.int .i64 A) (.int .i64 L)).drew.cell? ⟨w.heap.size + 1 + 1, 3, none⟩ = some (.int .i64 L) := by
      have hb : (fourW W5 (w.heap.size + 1) (.int .u64 v) (.int .i64 ((n : Int) + 1)) (.int .i64 A) (.int .i64 L)).heap[w.heap.size + 1 + 1]? = _ := blk_far (blk_far (blk_far (blk_far o5 (show w.heap.size + 1 + 1 ≠ w.heap.size + 1 by omega) _) (show w.heap.size + 1 + 1 ≠ w.heap.size + 1 by omega) _) (show w.heap.size + 1 + 1 ≠ w.heap.size + 1 by omega) _) (show w.heap.size + 1 + 1 ≠ w.heap.size + 1 by omega) _
      exact ⟨obj_cell hb rfl, obj_cell hb rfl, obj_cell hb rfl, obj_cell hb rfl⟩
    have B5 := Lib.hid b5
    clear o5 p5 b5
    go_wp2_with (fail)
    go_region_held3 (fun W => W.cell? ⟨w.heap.size + 1 + 1, 0, none⟩ = some (.int .u64 v) ∧ W.cell? ⟨w.heap.size + 1 + 1, 1, none⟩ = some (.int .i64 ((n : Int) + 1)) ∧ W.cell? ⟨w.heap.size + 1 + 1, 2, none⟩ = some (.int .i64 A) ∧ W.cell? ⟨w.heap.size + 1 + 1, 3, none⟩ = some (.int .i64 L))
      (first | (with_reducible exact yd) | (with_reducible exact ys))
      (first
      | (go_at_call 80; (with_reducible show Calls _ _ #[Value.int .u64 _, Value.int .i64 5] _ _); refine (HN1.out _).mono ?_; rintro e wx ⟨rfl, rfl⟩)
      | (go_at_call 80; refine (HN2.out _).mono ?_; rintro e wx ⟨rfl, rfl⟩)
      | (go_at_call 233; refine (HEN.out _).mono ?_; rintro e wx ⟨rfl, rfl⟩))
    go_wp2
    refine bodyPost_ret (v := .tuple #[.agg #[.int .u64 v, .int .i64 ((n : Int) + 1), .int .i64 A, .int .i64 L], .string (⟨#[49, 49]⟩ ++ N1 ++ N2 ++ X)]) (by rw [results_cell_tmp rfl]; go_simp) rfl ?_
    exact ⟨rfl, below_drew (below_four B5.out (by omega) _ _ _ _)⟩
  · have t1 : decide ((0 : Int) < b) = true := decide_eq_true (by omega)
    have t1n : decide (0 < b) = true := decide_eq_true (by omega)
    have t2 : decide ((a : Int) ≤ lz') = true := decide_eq_true (by omega)
    have t2n : decide (a ≤ lz') = true := decide_eq_true (by omega)
    have t3 : decide ((en' : Int) ≤ (a : Int) + (b : Int)) = false := decide_eq_false (by omega)
    have t3n : decide (en' ≤ a + b) = false := decide_eq_false (by omega)
    have hw : IntKind.i64.wrap ((a : Int) + (b : Int)) = (a : Int) + b := by rw [IntKind.wrap_i64]; omega
    have e31 : decide ((31 : Int) < lz') = false := decide_eq_false (by omega)
    have e31n : decide (31 < lz') = false := decide_eq_false (by omega)
    have hAA : A = lz' := by have := HAL.out; omega
    clear hq
    go_enter Tryz.func210, Tryz.ntmps210
    go_wp2_with (fail)
    rw [← HW2.out]
    refine (HNU.out d 64 W2 HD.out (by decide)).mono ?_
    rintro e w2 ⟨rfl, rfl⟩
    go_wp2_with (fail)
    rw [← HW3.out]
    go_wp2_with (fail)
    go_quiet (first | (go_at_call 232; exact q_same (HFI.out _)) | (go_at_call 233; exact q_same (HEN.out _)))
    go_wp2_with (fail)
    refine (HFI.out _).mono ?_
    rintro e wx ⟨rfl, rfl⟩
    go_wp2_with (fail)
    obtain ⟨W4, hW4, o4, p4, b4⟩ : ∃ W : World, W = ((W3.drewN nq).setCell ⟨w.heap.size + 1 + 1, 2, none⟩ (.int .i64 lz')) ∧ W.heap[w.heap.size + 1 + 1]? = some (.cells #[.int .u64 v, .int .i64 ((n : Int) + 1), .int .i64 A, .int .i64 b] 278 (0, 0)) ∧ W.heap[w.heap.size + 1]? = some (.cells #[.int .u64 0, .int .i64 0, .int .i64 0, .int .i64 0] 278 (0, 0)) ∧ Below w.heap.size w W := ⟨_, rfl, by rw [hAA]; simpa using blk_set (show (W3.drewN nq).heap[w.heap.size + 1 + 1]? = _ from O2.out) 2 (.int .i64 lz'), blk_far (show (W3.drewN nq).heap[w.heap.size + 1]? = _ from O1.out) (show w.heap.size + 1 ≠ w.heap.size + 1 + 1 by omega) _, below_one (pw_below_drewN HB3.out nq) (by omega) _⟩
    rw [← hW4]
    clear hW4 ylf ylg z0 z1 z2 z3 f0 f1 f2 f3 y0 y1 y2 y3 zz0 zz1 zz2 zz3 ff0 ff1 ff2 ff3 c0 c1 c2 c3 q0 q1 q2 q3 e31 e31n hAA
    have y2 : W4.cell? ⟨w.heap.size + 1 + 1, 2, none⟩ = some (.int .i64 A) := obj_cell o4 rfl
    have y3 : W4.cell? ⟨w.heap.size + 1 + 1, 3, none⟩ = some (.int .i64 b) := obj_cell o4 rfl
    have f3 : W4.frozen? ⟨w.heap.size + 1 + 1, 3, none⟩ = false := obj_free o4
    have y2d : W4.drew.cell? ⟨w.heap.size + 1 + 1, 2, none⟩ = some (.int .i64 A) := y2
    have o5' := blk_set o4 3 (.int .i64 L)
    have y2s : (W4.setCell ⟨w.heap.size + 1 + 1, 3, none⟩ (.int .i64 L)).drew.cell? ⟨w.heap.size + 1 + 1, 2, none⟩ = some (.int .i64 A) := obj_cell (show (W4.setCell ⟨w.heap.size + 1 + 1, 3, none⟩ (.int .i64 L)).drew.heap[w.heap.size + 1 + 1]? = _ from o5') rfl
    go_region_held3 (fun W => W.cell? ⟨w.heap.size + 1 + 1, 2, none⟩ = some (.int .i64 A))
      (first | (with_reducible exact y2d) | (with_reducible exact y2s))
      (first
      | (go_at_call 233; refine (HEN.out _).mono ?_; rintro e wx ⟨rfl, rfl⟩))
    obtain ⟨W5, hW5, o5, p5, b5⟩ : ∃ W : World, W = (W4.setCell ⟨w.heap.size + 1 + 1, 3, none⟩ (.int .i64 L)).drew ∧ W.heap[w.heap.size + 1 + 1]? = some (.cells #[.int .u64 v, .int .i64 ((n : Int) + 1), .int .i64 A, .int .i64 L] 278 (0, 0)) ∧ W.heap[w.heap.size + 1]? = some (.cells #[.int .u64 0, .int .i64 0, .int .i64 0, .int .i64 0] 278 (0, 0)) ∧ Below w.heap.size w W := ⟨_, rfl, o5', blk_far p4 (show w.heap.size + 1 ≠ w.heap.size + 1 + 1 by omega) _, below_drew (below_one b4 (by omega) _)⟩
    rw [← hW5]
    clear hW5 o4 p4 b4 y2 y3 f3 y2d y2s o5'
    have y0 : W5.cell? ⟨w.heap.size + 1 + 1, 0, none⟩ = some (.int .u64 v) := obj_cell o5 rfl
    have y1 : W5.cell? ⟨w.heap.size + 1 + 1, 1, none⟩ = some (.int .i64 ((n : Int) + 1)) := obj_cell o5 rfl
    have y2 : W5.cell? ⟨w.heap.size + 1 + 1, 2, none⟩ = some (.int .i64 A) := obj_cell o5 rfl
    have y3 : W5.cell? ⟨w.heap.size + 1 + 1, 3, none⟩ = some (.int .i64 L) := obj_cell o5 rfl
    have z0 : W5.cell? ⟨w.heap.size + 1, 0, none⟩ = some (.int .u64 0) := obj_cell p5 rfl
    have z1 : W5.cell? ⟨w.heap.size + 1, 1, none⟩ = some (.int .i64 0) := obj_cell p5 rfl
    have z2 : W5.cell? ⟨w.heap.size + 1, 2, none⟩ = some (.int .i64 0) := obj_cell p5 rfl
    have z3 : W5.cell? ⟨w.heap.size + 1, 3, none⟩ = some (.int .i64 0) := obj_cell p5 rfl
    have f0 : W5.frozen? ⟨w.heap.size + 1, 0, none⟩ = false := obj_free p5
    have f1 : W5.frozen? ⟨w.heap.size + 1, 1, none⟩ = false := obj_free p5
    have f2 : W5.frozen? ⟨w.heap.size + 1, 2, none⟩ = false := obj_free p5
    have f3 : W5.frozen? ⟨w.heap.size + 1, 3, none⟩ = false := obj_free p5
    have yd : W5.drew.cell? ⟨w.heap.size + 1 + 1, 0, none⟩ = some (.int .u64 v) ∧ W5.drew.cell? ⟨w.heap.size + 1 + 1, 1, none⟩ = some (.int .i64 ((n : Int) + 1)) ∧ W5.drew.cell? ⟨w.heap.size + 1 + 1, 2, none⟩ = some (.int .i64 A) ∧ W5.drew.cell? ⟨w.heap.size + 1 + 1, 3, none⟩ = some (.int .i64 L) := ⟨y0, y1, y2, y3⟩
    have ys : (fourW W5 (w.heap.size + 1) (.int .u64 v) (.int .i64 ((n : Int) + 1)) (.int .i64 A) (.int .i64 L)).drew.cell? ⟨w.heap.size + 1 + 1, 0, none⟩ = some (.int .u64 v) ∧ (fourW W5 (w.heap.size + 1) (.int .u64 v) (.int .i64 ((n : Int) + 1)) (.int .i64 A) (.int .i64 L)).drew.cell? ⟨w.heap.size + 1 + 1, 1, none⟩ = some (.int .i64 ((n : Int) + 1)) ∧ (fourW W5 (w.heap.size + 1) (.int .u64 v) (.int .i64 ((n : Int) + 1)) (.int .i64 A) (.int .i64 L)).drew.cell? ⟨w.heap.size + 1 + 1, 2, none⟩ = some (.int .i64 A) ∧ (fourW W5 (w.heap.size + 1) (.int .u64 v) (.int .i64 ((n : Int) + 1)) (.int .i64 A) (.int .i64 L)).drew.cell? ⟨w.heap.size + 1 + 1, 3, none⟩ = some (.int .i64 L) := by
      have hb : (fourW W5 (w.heap.size + 1) (.int .u64 v) (.int .i64 ((n : Int) + 1)) (.int .i64 A) (.int .i64 L)).heap[w.heap.size + 1 + 1]? = _ := blk_far (blk_far (blk_far (blk_far o5 (show w.heap.size + 1 + 1 ≠ w.heap.size + 1 by omega) _) (show w.heap.size + 1 + 1 ≠ w.heap.size + 1 by omega) _) (show w.heap.size + 1 + 1 ≠ w.heap.size + 1 by omega) _) (show w.heap.size + 1 + 1 ≠ w.heap.size + 1 by omega) _
      exact ⟨obj_cell hb rfl, obj_cell hb rfl, obj_cell hb rfl, obj_cell hb rfl⟩
    have B5 := Lib.hid b5
    clear o5 p5 b5
    go_wp2_with (fail)
    go_region_held3 (fun W => W.cell? ⟨w.heap.size + 1 + 1, 0, none⟩ = some (.int .u64 v) ∧ W.cell? ⟨w.heap.size + 1 + 1, 1, none⟩ = some (.int .i64 ((n : Int) + 1)) ∧ W.cell? ⟨w.heap.size + 1 + 1, 2, none⟩ = some (.int .i64 A) ∧ W.cell? ⟨w.heap.size + 1 + 1, 3, none⟩ = some (.int .i64 L))
      (first | (with_reducible exact yd) | (with_reducible exact ys))
      (first
      | (go_at_call 80; (with_reducible show Calls _ _ #[Value.int .u64 _, Value.int .i64 5] _ _); refine (HN1.out _).mono ?_; rintro e wx ⟨rfl, rfl⟩)
      | (go_at_call 80; refine (HN2.out _).mono ?_; rintro e wx ⟨rfl, rfl⟩)
      | (go_at_call 233; refine (HEN.out _).mono ?_; rintro e wx ⟨rfl, rfl⟩))
    go_wp2
    refine bodyPost_ret (v := .tuple #[.agg #[.int .u64 v, .int .i64 ((n : Int) + 1), .int .i64 A, .int .i64 L], .string (⟨#[49, 49]⟩ ++ N1 ++ N2 ++ X)]) (by rw [results_cell_tmp rfl]; go_simp) rfl ?_
    exact ⟨rfl, below_drew (below_four B5.out (by omega) _ _ _ _)⟩
  · have t1 : decide ((0 : Int) < b) = true := decide_eq_true (by omega)
    have t1n : decide (0 < b) = true := decide_eq_true (by omega)
    have t2 : decide ((a : Int) ≤ lz') = true := decide_eq_true (by omega)
    have t2n : decide (a ≤ lz') = true := decide_eq_true (by omega)
    have t3 : decide ((en' : Int) ≤ (a : Int) + (b : Int)) = false := decide_eq_false (by omega)
    have t3n : decide (en' ≤ a + b) = false := decide_eq_false (by omega)
    have hw : IntKind.i64.wrap ((a : Int) + (b : Int)) = (a : Int) + b := by rw [IntKind.wrap_i64]; omega
    have e31 : decide ((31 : Int) < lz') = true := decide_eq_true (by omega)
    have e31n : decide (31 < lz') = true := decide_eq_true (by omega)
    have hAA : A = 31 := by have := HAL.out; omega
    clear hq
    go_enter Tryz.func210, Tryz.ntmps210
    go_wp2_with (fail)
    rw [← HW2.out]
    refine (HNU.out d 64 W2 HD.out (by decide)).mono ?_
    rintro e w2 ⟨rfl, rfl⟩
    go_wp2_with (fail)
    rw [← HW3.out]
    go_wp2_with (fail)
    go_quiet (first | (go_at_call 232; exact q_same (HFI.out _)) | (go_at_call 233; exact q_same (HEN.out _)))
    go_wp2_with (fail)
    refine (HFI.out _).mono ?_
    rintro e wx ⟨rfl, rfl⟩
    go_wp2_with (fail)
    obtain ⟨W4, hW4, o4, p4, b4⟩ : ∃ W : World, W = (((W3.drewN nq).setCell ⟨w.heap.size + 1 + 1, 2, none⟩ (.int .i64 lz')).setCell ⟨w.heap.size + 1 + 1, 2, none⟩ (.int .i64 31)) ∧ W.heap[w.heap.size + 1 + 1]? = some (.cells #[.int .u64 v, .int .i64 ((n : Int) + 1), .int .i64 A, .int .i64 b] 278 (0, 0)) ∧ W.heap[w.heap.size + 1]? = some (.cells #[.int .u64 0, .int .i64 0, .int .i64 0, .int .i64 0] 278 (0, 0)) ∧ Below w.heap.size w W := ⟨_, rfl, by rw [hAA]; simpa using blk_set (blk_set (show (W3.drewN nq).heap[w.heap.size + 1 + 1]? = _ from O2.out) 2 (.int .i64 lz')) 2 (.int .i64 31), blk_far (blk_far (show (W3.drewN nq).heap[w.heap.size + 1]? = _ from O1.out) (show w.heap.size + 1 ≠ w.heap.size + 1 + 1 by omega) _) (show w.heap.size + 1 ≠ w.heap.size + 1 + 1 by omega) _, below_one (below_one (pw_below_drewN HB3.out nq) (by omega) _) (by omega) _⟩
    rw [← hW4]
    clear hW4 ylf ylg z0 z1 z2 z3 f0 f1 f2 f3 y0 y1 y2 y3 zz0 zz1 zz2 zz3 ff0 ff1 ff2 ff3 c0 c1 c2 c3 q0 q1 q2 q3 e31 e31n hAA
    have y2 : W4.cell? ⟨w.heap.size + 1 + 1, 2, none⟩ = some (.int .i64 A) := obj_cell o4 rfl
    have y3 : W4.cell? ⟨w.heap.size + 1 + 1, 3, none⟩ = some (.int .i64 b) := obj_cell o4 rfl
    have f3 : W4.frozen? ⟨w.heap.size + 1 + 1, 3, none⟩ = false := obj_free o4
    have y2d : W4.drew.cell? ⟨w.heap.size + 1 + 1, 2, none⟩ = some (.int .i64 A) := y2
    have o5' := blk_set o4 3 (.int .i64 L)
    have y2s : (W4.setCell ⟨w.heap.size + 1 + 1, 3, none⟩ (.int .i64 L)).drew.cell? ⟨w.heap.size + 1 + 1, 2, none⟩ = some (.int .i64 A) := obj_cell (show (W4.setCell ⟨w.heap.size + 1 + 1, 3, none⟩ (.int .i64 L)).drew.heap[w.heap.size + 1 + 1]? = _ from o5') rfl
    go_region_held3 (fun W => W.cell? ⟨w.heap.size + 1 + 1, 2, none⟩ = some (.int .i64 A))
      (first | (with_reducible exact y2d) | (with_reducible exact y2s))
      (first
      | (go_at_call 233; refine (HEN.out _).mono ?_; rintro e wx ⟨rfl, rfl⟩))
    obtain ⟨W5, hW5, o5, p5, b5⟩ : ∃ W : World, W = (W4.setCell ⟨w.heap.size + 1 + 1, 3, none⟩ (.int .i64 L)).drew ∧ W.heap[w.heap.size + 1 + 1]? = some (.cells #[.int .u64 v, .int .i64 ((n : Int) + 1), .int .i64 A, .int .i64 L] 278 (0, 0)) ∧ W.heap[w.heap.size + 1]? = some (.cells #[.int .u64 0, .int .i64 0, .int .i64 0, .int .i64 0] 278 (0, 0)) ∧ Below w.heap.size w W := ⟨_, rfl, o5', blk_far p4 (show w.heap.size + 1 ≠ w.heap.size + 1 + 1 by omega) _, below_drew (below_one b4 (by omega) _)⟩
    rw [← hW5]
    clear hW5 o4 p4 b4 y2 y3 f3 y2d y2s o5'
    have y0 : W5.cell? ⟨w.heap.size + 1 + 1, 0, none⟩ = some (.int .u64 v) := obj_cell o5 rfl
    have y1 : W5.cell? ⟨w.heap.size + 1 + 1, 1, none⟩ = some (.int .i64 ((n : Int) + 1)) := obj_cell o5 rfl
    have y2 : W5.cell? ⟨w.heap.size + 1 + 1, 2, none⟩ = some (.int .i64 A) := obj_cell o5 rfl
    have y3 : W5.cell? ⟨w.heap.size + 1 + 1, 3, none⟩ = some (.int .i64 L) := obj_cell o5 rfl
    have z0 : W5.cell? ⟨w.heap.size + 1, 0, none⟩ = some (.int .u64 0) := obj_cell p5 rfl
    have z1 : W5.cell? ⟨w.heap.size + 1, 1, none⟩ = some (.int .i64 0) := obj_cell p5 rfl
    have z2 : W5.cell? ⟨w.heap.size + 1, 2, none⟩ = some (.int .i64 0) := obj_cell p5 rfl
    have z3 : W5.cell? ⟨w.heap.size + 1, 3, none⟩ = some (.int .i64 0) := obj_cell p5 rfl
    have f0 : W5.frozen? ⟨w.heap.size + 1, 0, none⟩ = false := obj_free p5
    have f1 : W5.frozen? ⟨w.heap.size + 1, 1, none⟩ = false := obj_free p5
    have f2 : W5.frozen? ⟨w.heap.size + 1, 2, none⟩ = false := obj_free p5
    have f3 : W5.frozen? ⟨w.heap.size + 1, 3, none⟩ = false := obj_free p5
    have yd : W5.drew.cell? ⟨w.heap.size + 1 + 1, 0, none⟩ = some (.int .u64 v) ∧ W5.drew.cell? ⟨w.heap.size + 1 + 1, 1, none⟩ = some (.int .i64 ((n : Int) + 1)) ∧ W5.drew.cell? ⟨w.heap.size + 1 + 1, 2, none⟩ = some (.int .i64 A) ∧ W5.drew.cell? ⟨w.heap.size + 1 + 1, 3, none⟩ = some (.int .i64 L) := ⟨y0, y1, y2, y3⟩
    have ys : (fourW W5 (w.heap.size + 1) (.int .u64 v) (.int .i64 ((n : Int) + 1)) (.int .i64 A) (.int .i64 L)).drew.cell? ⟨w.heap.size + 1 + 1, 0, none⟩ = some (.int .u64 v) ∧ (fourW W5 (w.heap.size + 1) (.int .u64 v) (.int .i64 ((n : Int) + 1)) (.int .i64 A) (.int .i64 L)).drew.cell? ⟨w.heap.size + 1 + 1, 1, none⟩ = some (.int .i64 ((n : Int) + 1)) ∧ (fourW W5 (w.heap.size + 1) (.int .u64 v) (.int .i64 ((n : Int) + 1)) (.int .i64 A) (.int .i64 L)).drew.cell? ⟨w.heap.size + 1 + 1, 2, none⟩ = some (.int .i64 A) ∧ (fourW W5 (w.heap.size + 1) (.int .u64 v) (.int .i64 ((n : Int) + 1)) (.int .i64 A) (.int .i64 L)).drew.cell? ⟨w.heap.size + 1 + 1, 3, none⟩ = some (.int .i64 L) := by
      have hb : (fourW W5 (w.heap.size + 1) (.int .u64 v) (.int .i64 ((n : Int) + 1)) (.int .i64 A) (.int .i64 L)).heap[w.heap.size + 1 + 1]? = _ := blk_far (blk_far (blk_far (blk_far o5 (show w.heap.size + 1 + 1 ≠ w.heap.size + 1 by omega) _) (show w.heap.size + 1 + 1 ≠ w.heap.size + 1 by omega) _) (show w.heap.size + 1 + 1 ≠ w.heap.size + 1 by omega) _) (show w.heap.size + 1 + 1 ≠ w.heap.size + 1 by omega) _
      exact ⟨obj_cell hb rfl, obj_cell hb rfl, obj_cell hb rfl, obj_cell hb rfl⟩
    have B5 := Lib.hid b5
    clear o5 p5 b5
    go_wp2_with (fail)
    go_region_held3 (fun W => W.cell? ⟨w.heap.size + 1 + 1, 0, none⟩ = some (.int .u64 v) ∧ W.cell? ⟨w.heap.size + 1 + 1, 1, none⟩ = some (.int .i64 ((n : Int) + 1)) ∧ W.cell? ⟨w.heap.size + 1 + 1, 2, none⟩ = some (.int .i64 A) ∧ W.cell? ⟨w.heap.size + 1 + 1, 3, none⟩ = some (.int .i64 L))
      (first | (with_reducible exact yd) | (with_reducible exact ys))
      (first
      | (go_at_call 80; (with_reducible show Calls _ _ #[Value.int .u64 _, Value.int .i64 5] _ _); refine (HN1.out _).mono ?_; rintro e wx ⟨rfl, rfl⟩)
      | (go_at_call 80; refine (HN2.out _).mono ?_; rintro e wx ⟨rfl, rfl⟩)
      | (go_at_call 233; refine (HEN.out _).mono ?_; rintro e wx ⟨rfl, rfl⟩))
    go_wp2
    refine bodyPost_ret (v := .tuple #[.agg #[.int .u64 v, .int .i64 ((n : Int) + 1), .int .i64 A, .int .i64 L], .string (⟨#[49, 49]⟩ ++ N1 ++ N2 ++ X)]) (by rw [results_cell_tmp rfl]; go_simp) rfl ?_
    exact ⟨rfl, below_drew (below_four B5.out (by omega) _ _ _ _)⟩
end Go.Proofs.YtjfekjbmgckkcaaGreatDoor.Ref05
namespace Go.Proofs.YtjfekjbmgckkcaaGreatDoor.FsArg
open Go.RowKit Go.Proofs.YtjfekjbmgckkcaaGreatDoorW.PrintWords
open Go.Proofs.YtjfekjbmgckkcaaGreatDoor.Bits Go.Proofs.YtjfekjbmgckkcaaGreatDoor.Base Go.Proofs.YtjfekjbmgckkcaaGreatDoor.StreamA Go.Proofs.YtjfekjbmgckkcaaGreatDoor.Ref13 Go.Proofs.YtjfekjbmgckkcaaGreatDoor.SpanPure Go.Proofs.YtjfekjbmgckkcaaGreatDoor.SpanBase Go.Proofs.YtjfekjbmgckkcaaGreatDoor.HeadA Go.Proofs.YtjfekjbmgckkcaaGreatDoor.HeadB Go.Proofs.YtjfekjbmgckkcaaGreatDoor.HeadD Go.Proofs.YtjfekjbmgckkcaaGreatDoor.HdArg Go.Proofs.YtjfekjbmgckkcaaGreatDoor.FcPure Go.Proofs.YtjfekjbmgckkcaaGreatDoor.FcObj
abbrev rNs : Rep.Rep (Rep.Sl Int) := Rep.slice (Rep.int .u64)
abbrev FhX := Int × Int × Int × Int × Int × Rep.Sl (Int × Int) × Rep.Sl (Int × Int) × Rep.Sl Int × Rep.Sl Int
abbrev FsX := Int × FhX
abbrev rFh : Rep.Rep FhX := Rep.pair (Rep.int .i64) (Rep.pair (Rep.int .u64) (Rep.pair (Rep.int .u64) (Rep.pair (Rep.int .u64) (Rep.pair (Rep.int .u64) (Rep.pair (Rep.slice rSp) (Rep.pair (Rep.slice rSp) (Rep.pair rNs rNs)))))))
abbrev rFs : Rep.Rep FsX := Rep.pair (Rep.int .i64) rFh
def un (l : List Int) : List Nat := l.map Int.toNat
theorem un_length (l : List Int) : (un l).length = l.length := by simp [un]
def fhOf (x : FhX) : FH := ⟨x.1, x.2.1.toNat, x.2.2.1.toNat, x.2.2.2.1.toNat, x.2.2.2.2.1.toNat, x.2.2.2.2.2.1.l, x.2.2.2.2.2.2.1.l, un x.2.2.2.2.2.2.2.1.l, un x.2.2.2.2.2.2.2.2.l⟩
def lhOf (x : FhX) : Lh := ⟨x.2.2.2.2.2.1.at_, x.2.2.2.2.2.1.cap, x.2.2.2.2.2.2.1.at_, x.2.2.2.2.2.2.1.cap, x.2.2.2.2.2.2.2.1.at_, x.2.2.2.2.2.2.2.1.cap, x.2.2.2.2.2.2.2.2.at_, x.2.2.2.2.2.2.2.2.cap⟩
def fsOf (x : FsX) : FS := ⟨x.1, fhOf x.2⟩
theorem nats_un {l : List Int} (h : ∀ y ∈ l, 0 ≤ y) : nats (un l) = l := by
  induction l with
  | nil => rfl
  | cons y l ih =>
    show ((y.toNat : Nat) : Int) :: nats (un l) = y :: l
    rw [ih fun z hz => h z (List.mem_cons_of_mem _ hz), Int.toNat_of_nonneg (h y List.mem_cons_self)]
theorem all_int (k : IntKind) (l : List Int) : Rep.all (Rep.int k) l = nums k l := by
  induction l with
  | nil => rfl
  | cons y l ih => rw [Rep.all_cons, ih]; rfl
theorem rd_ints {w : World} {k : IntKind} {A : Option Addr} {l : List Int} (h : RdC w A (Rep.all (Rep.int k) l)) (hm : l.length ≤ 9223372036854775807) : RdI k w A l := by
  rw [all_int] at h
  refine ⟨rfl, hm, fun hp => ?_⟩
  obtain ⟨ad, he, hc⟩ := h (by rw [nums_length]; exact hp)
  refine ⟨ad, he, fun j hj => hc j _ ?_⟩
  simp [nums, hj, List.getD_eq_getElem?_getD]
theorem nul_of {w : World} {x : Rep.Sl Int} (h : rNs.ok w x) (hl : x.l.length ≤ 1000000) : Nul w x.at_ x.cap (un x.l) ∧ (∀ v ∈ un x.l, v < 18446744073709551616) ∧ ∀ y ∈ x.l, 0 ≤ y := by
  have h0 : ∀ y ∈ x.l, 0 ≤ y := fun y hy => (u64_in (h.2 y hy)).1
  refine ⟨⟨?_, by rw [un_length]; exact hl, by rw [un_length]; exact h.1.le, h.1.nil⟩, fun v hv => ?_, h0⟩
  · rw [nats_un h0]
    exact rd_ints h.1.rd (by omega)
  · obtain ⟨y, hy, rfl⟩ := List.mem_map.1 hv
    have := u64_in (h.2 y hy)
    omega
structure Short (x : FhX) : Prop where
  pos : x.2.2.2.2.2.1.l.length ≤ 1000000
  neg : x.2.2.2.2.2.2.1.l.length ≤ 1000000
  pc : x.2.2.2.2.2.2.2.1.l.length ≤ 1000000
  nc : x.2.2.2.2.2.2.2.2.l.length ≤ 1000000
theorem enc_fh {w : World} {x : FhX} (h : rFh.ok w x) : rFh.enc x = fcs (fhOf x) (lhOf x) := by
  obtain ⟨s, z, zc, cn, su, p, n, pc, nc⟩ := x
  obtain ⟨-, h2, h3, h4, h5, -⟩ := h
  have e2 := (u64_in h2).1
  have e3 := (u64_in h3).1
  have e4 := (u64_in h4).1
  have e5 := (u64_in h5).1
  show [Value.int .i64 s, .int .u64 z, .int .u64 zc, .int .u64 cn, .int .u64 su, .slice p.at_ p.l.length p.cap, .slice n.at_ n.l.length n.cap, .slice pc.at_ pc.l.length pc.cap, .slice nc.at_ nc.l.length nc.cap] =
    [Value.int .i64 s, .int .u64 (z.toNat : Int), .int .u64 (zc.toNat : Int), .int .u64 (cn.toNat : Int), .int .u64 (su.toNat : Int), .slice p.at_ p.l.length p.cap, .slice n.at_ n.l.length n.cap, .slice pc.at_ (un pc.l).length pc.cap, .slice nc.at_ (un nc.l).length nc.cap]
  simp only at e2 e3 e4 e5
  rw [un_length, un_length, Int.toNat_of_nonneg e2, Int.toNat_of_nonneg e3, Int.toNat_of_nonneg e4, Int.toNat_of_nonneg e5]
theorem enc_fs {w : World} {x : FsX} (h : rFs.ok w x) : rFs.enc x = scs (fsOf x) (lhOf x.2) := by
  show [Value.int .i64 x.1] ++ rFh.enc x.2 = _
  rw [enc_fh h.2]
  rfl
theorem fh_in {w : World} {x : FhX} (h : rFh.ok w x) (hs : Short x) : FhIn w (fhOf x) (lhOf x) := by
  obtain ⟨s, z, zc, cn, su, p, n, pc, nc⟩ := x
  obtain ⟨s1, s2, s3, s4⟩ := hs
  obtain ⟨-, h2, h3, h4, h5, h6, h7, h8, h9⟩ := h
  obtain ⟨a1, a2, -⟩ := nul_of h8 s3
  obtain ⟨b1, b2, -⟩ := nul_of h9 s4
  have e2 := u64_in h2
  have e3 := u64_in h3
  have e4 := u64_in h4
  have e5 := u64_in h5
  simp only at e2 e3 e4 e5
  refine ⟨⟨rd_sp h6.1.rd, s1, h6.1.le, h6.1.nil⟩, ⟨rd_sp h7.1.rd, s2, h7.1.le, h7.1.nil⟩, a1, b1, ⟨?_, ?_, ?_, ?_, a2, b2⟩⟩
  · show z.toNat < _; omega
  · show zc.toNat < _; omega
  · show cn.toNat < _; omega
  · show su.toNat < _; omega
theorem i64_wf {n : Int} (h : (Lit.int .i64 n).wf = true) : -9223372036854775808 ≤ n ∧ n ≤ 9223372036854775807 := by
  simp [Lit.wf, IntKind.min, IntKind.max, IntKind.bits, IntKind.signed] at h
  omega
theorem fs64 {w : World} {x : FsX} (h : rFs.ok w x) (hs : Short x.2) : In64S (fsOf x) := ⟨(i64_wf h.1).1, (i64_wf h.1).2, (fh_in h.2 hs).n⟩
end Go.Proofs.YtjfekjbmgckkcaaGreatDoor.FsArg
namespace Go.Proofs.YtjfekjbmgckkcaaGreatDoor.Ref18A
open Go.RowKit Go.Proofs.YtjfekjbmgckkcaaGreatDoorW.PrintWords
open Go.Proofs.YtjfekjbmgckkcaaGreatDoor.Bits Go.Proofs.YtjfekjbmgckkcaaGreatDoor.Base Go.Proofs.YtjfekjbmgckkcaaGreatDoor.VarPure Go.Proofs.YtjfekjbmgckkcaaGreatDoor.VarbitA Go.Proofs.YtjfekjbmgckkcaaGreatDoor.VarKit Go.Proofs.YtjfekjbmgckkcaaGreatDoor.StreamA Go.Proofs.YtjfekjbmgckkcaaGreatDoor.SpanPure Go.Proofs.YtjfekjbmgckkcaaGreatDoor.SpanBase Go.Proofs.YtjfekjbmgckkcaaGreatDoor.FailAs Go.Proofs.YtjfekjbmgckkcaaGreatDoor.FailB Go.Proofs.YtjfekjbmgckkcaaGreatDoor.FailC Go.Proofs.YtjfekjbmgckkcaaGreatDoor.HeadA Go.Proofs.YtjfekjbmgckkcaaGreatDoor.HeadB Go.Proofs.YtjfekjbmgckkcaaGreatDoor.HeadC Go.Proofs.YtjfekjbmgckkcaaGreatDoor.HeadE Go.Proofs.YtjfekjbmgckkcaaGreatDoor.HeadPure Go.Proofs.YtjfekjbmgckkcaaGreatDoor.Ref01 Go.Proofs.YtjfekjbmgckkcaaGreatDoor.Ref12 Go.Proofs.YtjfekjbmgckkcaaGreatDoor.Ref13 Go.Proofs.YtjfekjbmgckkcaaGreatDoor.TimesPure Go.Proofs.YtjfekjbmgckkcaaGreatDoor.TimesA Go.Proofs.YtjfekjbmgckkcaaGreatDoor.XorPure Go.Proofs.YtjfekjbmgckkcaaGreatDoor.XorA Go.Proofs.YtjfekjbmgckkcaaGreatDoor.XorB Go.Proofs.YtjfekjbmgckkcaaGreatDoor.FcPure Go.Proofs.YtjfekjbmgckkcaaGreatDoor.FcObj Go.Proofs.YtjfekjbmgckkcaaGreatDoor.FsArg Go.Proofs.YtjfekjbmgckkcaaGreatDoor.FcD Go.Proofs.YtjfekjbmgckkcaaGreatDoor.HdArg Go.Proofs.YtjfekjbmgckkcaaGreatDoor.Ref05
structure FsL (w : World) (A : Option Addr) (xs : List FsX) : Prop where
  rd : RdC w A (Rep.all rFs xs)
  el : ∀ x ∈ xs, rFs.enc x = scs (fsOf x) (lhOf x.2) ∧ FhIn w (fsOf x).h (lhOf x.2) ∧ In64S (fsOf x)
  len : xs.length ≤ 1000
theorem FsL.below {w W : World} {A : Option Addr} {xs : List FsX} (h : FsL w A xs) (hb : Below w.heap.size w W) : FsL W A xs := ⟨h.rd.below hb, fun x hx => ⟨(h.el x hx).1, (h.el x hx).2.1.below hb, (h.el x hx).2.2⟩, h.len⟩
theorem FsL.take {w : World} {A : Option Addr} {xs : List FsX} (h : FsL w A xs) (n : Nat) : FsL w A (xs.take n) := ⟨by
    rw [Rep.all_take]
    exact h.rd.take _, fun x hx => h.el x (List.mem_of_mem_take hx), by rw [List.length_take]; have := h.len; omega⟩
theorem FsL.elem {w : World} {A : Option Addr} {xs : List FsX} (h : FsL w A xs) (i : Nat) (hi : i < xs.length) :
    ∃ ad, A = some ad ∧ (∀ j u, (scs (fsOf xs[i]) (lhOf xs[i].2))[j]? = some u → w.cell? (ad.add (i * 10 + j)) = some u) ∧ FhIn w (fsOf xs[i]).h (lhOf xs[i].2) ∧ In64S (fsOf xs[i]) := by
  obtain ⟨e1, e2, e3⟩ := h.el _ (List.getElem_mem hi)
  obtain ⟨ad, he, hc⟩ := Rep.RdC.elem h.rd i hi (by decide)
  refine ⟨ad, he, fun j u hu => hc j u ?_, e2, e3⟩
  rw [e1]
  exact hu
theorem FsL.cells {w : World} {A : Option Addr} {xs : List FsX} (h : FsL w A xs) (i : Nat) (hi : i < xs.length) : ∃ ad, A = some ad ∧ w.cell? (ad.add (i * 10)) = some (.int .i64 (fsOf xs[i]).t) ∧ w.cell? ⟨(ad.add (i * 10)).block, (ad.add (i * 10)).off + 1, none⟩ = some (.int .i64 (fsOf xs[i]).h.schema) ∧ w.cell? ⟨(ad.add (i * 10)).block, (ad.add (i * 10)).off + 1 + 1, none⟩ = some (.int .u64 (fsOf xs[i]).h.zero) ∧ w.cell? ⟨(ad.add (i * 10)).block, (ad.add (i * 10)).off + 1 + 2, none⟩ = some (.int .u64 (fsOf xs[i]).h.zc) ∧ w.cell? ⟨(ad.add (i * 10)).block, (ad.add (i * 10)).off + 1 + 3, none⟩ = some (.int .u64 (fsOf xs[i]).h.cnt) ∧ w.cell? ⟨(ad.add (i * 10)).block, (ad.add (i * 10)).off + 1 + 4, none⟩ = some (.int .u64 (fsOf xs[i]).h.sum) ∧ w.cell? ⟨(ad.add (i * 10)).block, (ad.add (i * 10)).off + 1 + 5, none⟩ = some (.slice (lhOf xs[i].2).A (fsOf xs[i]).h.pos.length (lhOf xs[i].2).c) ∧ w.cell? ⟨(ad.add (i * 10)).block, (ad.add (i * 10)).off + 1 + 6, none⟩ = some (.slice (lhOf xs[i].2).B (fsOf xs[i]).h.neg.length (lhOf xs[i].2).d) ∧ w.cell? ⟨(ad.add (i * 10)).block, (ad.add (i * 10)).off + 1 + 7, none⟩ = some (.slice (lhOf xs[i].2).C (fsOf xs[i]).h.pc.length (lhOf xs[i].2).cc) ∧ w.cell? ⟨(ad.add (i * 10)).block, (ad.add (i * 10)).off + 1 + 8, none⟩ = some (.slice (lhOf xs[i].2).D (fsOf xs[i]).h.nc.length (lhOf xs[i].2).dd) := by
  obtain ⟨ad, he, hc, -, -⟩ := h.elem i hi
  have key : ∀ j u, (scs (fsOf xs[i]) (lhOf xs[i].2))[j + 1]? = some u → w.cell? ⟨(ad.add (i * 10)).block, (ad.add (i * 10)).off + (j + 1), none⟩ = some u := fun j u hu => by
    have := hc (j + 1) u hu
    rw [← SpanBase.add_add] at this
    exact this
  refine ⟨ad, he, hc 0 _ rfl, key 0 _ rfl, by rw [Nat.add_assoc]; exact key 1 _ rfl, by rw [Nat.add_assoc]; exact key 2 _ rfl, by rw [Nat.add_assoc]; exact key 3 _ rfl, by rw [Nat.add_assoc]; exact key 4 _ rfl, by rw [Nat.add_assoc]; exact key 5 _ rfl, by rw [Nat.add_assoc]; exact key 6 _ rfl, by rw [Nat.add_assoc]; exact key 7 _ rfl, by rw [Nat.add_assoc]; exact key 8 _ rfl⟩
set_option maxRecDepth 100000 in
set_option maxHeartbeats 3200000 in
theorem value_calls (h : FH) (p : Lh) (k : Nat) (w : World) (hh : FhIn w h p) (hk : k < 3 + h.pc.length + h.nc.length) :
    Calls Tryz.prog 211 #[.agg (fcs h p).toArray, .int .i64 k] w fun e w' => e = .returned (.int .u64 ((vals h).getD k 0)) ∧ Below w.heap.size w w' := by
  obtain ⟨sc, z, zc, cn, su, pos, neg, pc, nc⟩ := h
  obtain ⟨A, c, B, d, C, cc, D, dd⟩ := p
  simp only at hk
  have hp1 := hh.pc.len
  have hp2 := hh.nc.len
  have hcp := hh.pc.cap
  have hcn := hh.nc.cap
  simp only at hp1 hp2 hcp hcn
  show Calls Tryz.prog 211 #[.agg #[.int .i64 sc, .int .u64 z, .int .u64 zc, .int .u64 cn, .int .u64 su, .slice A pos.length c, .slice B neg.length d, .slice C pc.length cc, .slice D nc.length dd], .int .i64 k] w _
  have hal := below_alloc (Below.refl w.heap.size w) (.cells #[.int .i64 sc, .int .u64 z, .int .u64 zc, .int .u64 cn, .int .u64 su, .slice A pos.length c, .slice B neg.length d, .slice C pc.length cc, .slice D nc.length dd] 80)
  have HAL := Lib.hid hal
  by_cases h0 : k = 0
  · subst h0
    clear hh hal
    go_enter Tryz.func211, Tryz.ntmps211
    go_wp2
    go_ret
    exact ⟨rfl, HAL.out⟩
  by_cases h1 : k = 1
  · subst h1
    clear hh hal
    go_enter Tryz.func211, Tryz.ntmps211
    go_wp2
    go_ret
    exact ⟨rfl, HAL.out⟩
  by_cases h2 : k = 2
  · subst h2
    clear hh hal
    go_enter Tryz.func211, Tryz.ntmps211
    go_wp2
    go_ret
    exact ⟨rfl, HAL.out⟩
  obtain ⟨m, rfl⟩ : ∃ m, k = m + 3 := ⟨k - 3, by omega⟩
  have b0 : (((m + 3 : Nat) : Int) == 0) = false := by simp; omega
  have b1 : (((m + 3 : Nat) : Int) == 1) = false := by simp; omega
  have b2 : (((m + 3 : Nat) : Int) == 2) = false := by simp; omega
  have b3 : ((m + 3 : Nat) : Int) - 3 = (m : Int) := by omega
  have v3 : IntKind.i64.wrap (m : Int) = m := by rw [IntKind.wrap_i64]; omega
  by_cases hm : m < pc.length
  · obtain ⟨ad, hA, hc⟩ := nat_at (hh.pc.rd.below hal) m hm
    simp only at hA
    subst hA
    have hv : (vals ⟨sc, z, zc, cn, su, pos, neg, pc, nc⟩).getD (m + 3) 0 = pc[m] := by
      rw [List.getD_eq_getElem?_getD]
      show ((([cn, zc, su] ++ pc) ++ nc)[m + 3]?).getD 0 = _
      rw [List.getElem?_append_left (by simp; omega), List.getElem?_append_right (by simp)]
      simp [hm]
    rw [hv]
    have d1 : decide ((m : Int) < pc.length) = true := decide_eq_true (by omega)
    obtain ⟨u, hu⟩ : ∃ u, u = pc[m] := ⟨_, rfl⟩
    rw [← hu] at hc ⊢
    have hmc : m < cc := by omega
    clear hh hal hv hu
    go_enter Tryz.func211, Tryz.ntmps211
    go_wp2
    go_ret
    exact ⟨rfl, HAL.out⟩
  · obtain ⟨j, rfl⟩ : ∃ j, m = pc.length + j := ⟨m - pc.length, by omega⟩
    have hj : j < nc.length := by omega
    obtain ⟨ad, hA, hc⟩ := nat_at (hh.nc.rd.below hal) j hj
    simp only at hA
    subst hA
    have hv : (vals ⟨sc, z, zc, cn, su, pos, neg, pc, nc⟩).getD (pc.length + j + 3) 0 = nc[j] := by
      rw [List.getD_eq_getElem?_getD]
      show ((([cn, zc, su] ++ pc) ++ nc)[pc.length + j + 3]?).getD 0 = _
      rw [List.getElem?_append_right (by simp; try omega)]
      rw [show pc.length + j + 3 - ([cn, zc, su] ++ pc).length = j from by simp; try omega]
      simp [hj]
    rw [hv]
    have d1 : decide (((pc.length + j : Nat) : Int) < pc.length) = false := decide_eq_false (by omega)
    have b4 : ((pc.length + j : Nat) : Int) - pc.length = (j : Int) := by omega
    have v4 : IntKind.i64.wrap (j : Int) = j := by rw [IntKind.wrap_i64]; omega
    obtain ⟨u, hu⟩ : ∃ u, u = nc[j] := ⟨_, rfl⟩
    rw [← hu] at hc ⊢
    obtain ⟨n, hn⟩ : ∃ n, n = pc.length + j := ⟨_, rfl⟩
    obtain ⟨q, hq⟩ : ∃ q, q = pc.length := ⟨_, rfl⟩
    have hjc : j < dd := by omega
    clear hh hal hv hu
    go_enter Tryz.func211, Tryz.ntmps211
    go_wp2
    go_ret
    exact ⟨rfl, HAL.out⟩
set_option maxRecDepth 100000 in
set_option maxHeartbeats 6400000 in
theorem last_calls (A : Option Addr) (c : Nat) (xs : List FsX) (x : FsX) (P N : Nat) (w : World) (h : FsL w A (xs ++ [x])) (hw : ∀ y ∈ xs ++ [x], (fsOf y).h.pc.length = P ∧ (fsOf y).h.nc.length = N) (hP : P ≤ 8192) (hN : N ≤ 8192) :
    Calls Tryz.prog 167 #[.slice A (xs.length + 1 : Nat) c] w fun e w' => e = .returned (.string (txt (lastB (xs.map fsOf) (fsOf x)))) ∧ Below w.heap.size w w' := by
  obtain ⟨ys, hys⟩ : ∃ ys, ys = xs ++ [x] := ⟨_, rfl⟩
  obtain ⟨n, hn⟩ : ∃ n, n = xs.length := ⟨_, rfl⟩
  rw [← hys] at h hw
  have hlen : ys.length = n + 1 := by rw [hys, hn]; simp
  have hle := h.len
  have hbd : ∀ i, i < n + 1 → i < ys.length := fun i hi => by rw [hlen]; exact hi
  have HL := Lib.hid h
  rw [← hn]
  have HELE : Hid (∀ W, Below w.heap.size w W → ∀ i, (hi : i < n + 1) → ∃ ad, A = some ad ∧ W.cell? (ad.add (i * 10)) = some (.int .i64 (fsOf (ys[i]'(hbd i hi))).t)) := Lib.hid (fun W hb i hi => by
    obtain ⟨ad, he, hc, -⟩ := (h.below hb).elem i (hbd i hi)
    exact ⟨ad, he, hc 0 _ rfl⟩)
  obtain ⟨tl, htl⟩ : ∃ tl, tl = ts (xs.map fsOf) := ⟨_, rfl⟩
  have htn : tl.length = n := by rw [htl, ts_length, List.length_map, hn]
  have htn2 := htn
  have HTI : Hid (∀ i, (hi : i < n) → tl.take (i + 1) = tl.take i ++ [u64 (fsOf (ys[i]'(hbd i (Nat.lt_succ_of_lt hi)))).t]) := Lib.hid (fun i hi => by
    rw [List.take_succ_eq_append_getElem (by omega)]
    congr 2
    simp only [htl, ts, hys, List.getElem_map]
    rw [List.getElem_append_left (by omega)])
  have HTN := Lib.hid htn2
  have HYN : Hid (ys[n]'(hbd n (Nat.lt_succ_self n)) = x) := Lib.hid (by
    simp only [hys, hn]
    rw [List.getElem_append_right (Nat.le_refl _)]
    simp)
  have HTL : Hid (∀ v ∈ tl, v < 18446744073709551616) := Lib.hid (fun v hv => by
    rw [htl] at hv
    obtain ⟨s, -, rfl⟩ := List.mem_map.1 hv
    exact u64_lt _)
  have HYS : Hid (ys.map fsOf = xs.map fsOf ++ [fsOf x]) := Lib.hid (by rw [hys]; simp)
  have hxw := hw x (by rw [hys]; simp)
  have HW := Lib.hid hw
  have HTLE := Lib.hid htl
  obtain ⟨s, hs⟩ : ∃ s, s = fsOf x := ⟨_, rfl⟩
  obtain ⟨l, hl⟩ : ∃ l, l = xs.map fsOf := ⟨_, rfl⟩
  rw [← hs] at hxw HYS ⊢
  rw [← hl] at HTLE HYS ⊢
  have HSX := Lib.hid hs
  have HKS : Hid ((vals s.h).length = 3 + P + N) := Lib.hid (by rw [vals_length, hxw.1, hxw.2])
  have HPN := Lib.hid hxw
  have hT0 : (txt (toldL true (ts l) (VarPure.u64 s.t))).size ≤ 72 := by rw [txt_size]; exact toldL_le _ _ _
  have H64 : Hid (∀ y ∈ l ++ [s], In64S y) := Lib.hid (by
    rw [← HYS.out]
    intro y hy
    obtain ⟨z, hz, rfl⟩ := List.mem_map.1 hy
    exact (HL.out.el z hz).2.2)
  have HCB : Hid (∀ m, (txt (toldL true (ts l) (VarPure.u64 s.t) ++ colsB l s m)).size ≤ 72 + 77 * m) := Lib.hid (fun m => by
    rw [txt_size, List.length_append]
    have h1 := toldL_le true (ts l) (VarPure.u64 s.t)
    have h2 := colsB_le (l := l) (s := s) (fun y hy => H64.out y (List.mem_append_left _ hy)) (H64.out s (List.mem_append_right _ (List.mem_singleton.2 rfl))) m
    omega)
  have hn1000 : n ≤ 1000 := by omega
  obtain ⟨q, hq⟩ : ∃ q, q = n + 1 := ⟨_, rfl⟩
  rw [← hq]
  have HQ := Lib.hid hq
  have HYL := Lib.hid (show ys.length = q by omega)
  have q1 : (q : Int) - 1 = (n : Int) := by omega
  have q2 : IntKind.i64.wrap (n : Int) = n := by rw [IntKind.wrap_i64]; omega
  have q3 : (n : Int) < (q : Int) := by omega
  have q4 : n < q := by omega
  have q5 : q ≤ 1001 := by omega
  clear h htn2 hn hys htl hw hs hl hxw hq hlen hle
  go_enter Tryz.func167, Tryz.ntmps167
  go_wp2_with (fail)
  go_loopw [4, 5] (fun v i wr => ∃ k : Nat, k ≤ n ∧ i = .int .i64 k ∧ OwI 22 .u64 wr w.heap.size v (nats (tl.take k)) ∧ Below w.heap.size w wr) (fun _ i _ => n - (intOf i).toNat)
  case atStart => exact ⟨0, by omega, rfl, OwI.nil _ _ _ _, Below.refl _ _⟩
  case round =>
    obtain ⟨k, hk, rfl, ho, hb⟩ := hrel
    have HO := Lib.hid ho
    have HB := Lib.hid hb
    have hsz := hb.size
    by_cases hlt : k < n
    · obtain ⟨ad, hA, c0⟩ := HELE.out _ hb k (by omega)
      obtain ⟨t, ht⟩ : ∃ t, t = (fsOf (ys[k]'(hbd k (by omega)))).t := ⟨_, rfl⟩
      have HT1 := Lib.hid (HTI.out k hlt)
      rw [← ht] at c0 HT1
      have hwr := VarbitB.wrap_u64 t
      subst hA
      clear ho hb ht
      go_wp2_with (at_builtin; refine append_one (w0 := w) w.heap.size rfl (.tmp 19) (.tmp 26) 70 22 .u64 8 rfl Tryz.underlying70 Cat.infou64 (by decide) _ (nats (tl.take k)) ((u64 t : Nat) : Int) rfl rfl HO.out HB.out hsz (by rw [nats_length, List.length_take]; omega) ?_; intro v2 w2 ho2 hb2 _ _; have HO2 := Lib.hid ho2; have HB2 := Lib.hid hb2; clear ho2 hb2)
      go_roundw
      case rel => exact ⟨k + 1, by omega, by go_num, by rw [HT1.out, nats_append]; exact HO2.out, HB2.out⟩
      case measure => simp [intOf]; omega
    · obtain rfl : k = n := by omega
      rw [List.take_of_length_le (by rw [HTN.out]; exact Nat.le_refl _)] at ho
      obtain ⟨A1, c1, rfl, hc1, hr1⟩ := ho.reads
      rw [nats_length]
      obtain ⟨ad, hA, c0⟩ := HELE.out _ hb k (by omega)
      rw [HYN.out] at c0
      obtain ⟨t, ht⟩ : ∃ t, t = (fsOf x).t := ⟨_, rfl⟩
      rw [← ht] at c0
      have hwr := VarbitB.wrap_u64 t
      have HP13 := Lib.hid (putText_calls true A1 c1 (u64 t) tl wr hr1 (by rw [HTN.out]; omega) HTL.out (u64_lt _))
      have HTT := Lib.hid ht
      subst hA
      clear ho hb hr1 hc1 HO ht
      rw [show (if true = true then (1 : Int) else 0) = 1 from rfl, HTN.out] at HP13
      go_wp2_with (fail)
      refine HP13.out.mono ?_
      rintro e w2 ⟨rfl, hb2⟩
      have B2 := Lib.hid (below_then HB.out HB.out.size hb2)
      rw [HTT.out, ← HSX.out]
      rw [HTLE.out]
      clear hb2 HP13 hwr c0 HB
      obtain ⟨K, hK⟩ : ∃ K, K = 3 + P + N := ⟨_, rfl⟩
      rw [← hK] at HKS
      have HKK := Lib.hid hK
      go_wp2_with (fail)
      go_loopw [6, 7, 8, 9, 10] (fun o i _ _ _ wr => ∃ k' : Nat, k' ≤ K ∧ i = .int .i64 k' ∧ o = .string (txt (toldL true (ts l) (VarPure.u64 s.t) ++ colsB l s k')) ∧ Hid (Below w.heap.size w wr)) (fun _ i _ _ _ _ => K - (intOf i).toNat)
      case atStart => exact ⟨0, by omega, rfl, by rw [colsB_zero, List.append_nil], B2⟩
      case round =>
        obtain ⟨m, hm, rfl, rfl, HB⟩ := hrel
        have hT1 := HCB.out m
        obtain ⟨ad', he', -, -, -, -, -, -, -, -, p7, p8⟩ := (HL.out.below HB.out).cells k (hbd k (by omega))
        injection he' with he'
        subst he'
        rw [HYN.out, ← HSX.out, HPN.out.1] at p7
        rw [HYN.out, ← HSX.out, HPN.out.2] at p8
        have v1 : IntKind.i64.wrap (3 + (P : Int)) = 3 + (P : Int) := by rw [IntKind.wrap_i64]; omega
        have v2 : IntKind.i64.wrap (3 + (P : Int) + (N : Int)) = 3 + (P : Int) + (N : Int) := by rw [IntKind.wrap_i64]; omega
        by_cases hlt : m < K
        · have d1 : decide ((m : Int) < 3 + (P : Int) + (N : Int)) = true := decide_eq_true (by omega)
          go_wp2_with (fail)
          go_quiet (fail)
          go_wp2_with (fail)
          obtain ⟨cf, hcf⟩ : ∃ cf, cf = col (l ++ [s]) m := ⟨_, rfl⟩
          have HCL : Hid (cf.length = k + 1) := Lib.hid (by rw [hcf, ← HYS.out, col_length, List.length_map, ← HQ.out]; exact HYL.out)
          have HC6 : Hid (∀ v ∈ cf, v < 18446744073709551616) := Lib.hid (by rw [hcf]; exact col64 H64.out m)
          have HCA : Hid (∀ j, (hj : j < k + 1) → cf.getD j 0 = (vals (fsOf (ys[j]'(hbd j hj))).h).getD m 0) := Lib.hid (fun j hj => by
            rw [hcf, ← HYS.out]
            unfold col
            rw [List.map_map, List.getD_eq_getElem?_getD, List.getElem?_map, List.getElem?_eq_getElem (hbd j hj)]
            rfl)
          have HCE : Hid (colB l s m = toldX (colX (cf.take k)) (cf.getD k 0)) := Lib.hid (by
            have hll : (col l m).length = k := by
              have := HCL.out
              rw [hcf, col_snoc, List.length_append, List.length_singleton] at this
              omega
            rw [hcf, col_snoc, List.take_left' hll, List.getD_eq_getElem?_getD, List.getElem?_append_right (by omega), hll, Nat.sub_self]
            rfl)
          have HBN := Lib.hid (pw_below_drewN HB.out nq)
          have HMK := Lib.hid (show m < K from hlt)
          clear hcf d1 p7 p8 hT1
          obtain ⟨wo, rfl⟩ : ∃ wo : World, wo = wr := ⟨_, rfl⟩
          go_loopw [9, 10] (fun mo i wi => ∃ (j : Nat) (M : List Bool) (X : XR), j ≤ k + 1 ∧ i = .int .i64 j ∧ mo = .string (txt M) ∧ Hid (X = colX (cf.take j)) ∧ Hid (∀ j', j = j' + 1 → M = toldX (colX (cf.take j')) (cf.getD j' 0)) ∧ Hid (wi.heap[wo.heap.size]? = some (.cells #[.int .u64 X.last, .int .i64 X.n, .int .i64 X.ahead, .int .i64 X.len] 278 (0, 0))) ∧ Hid (Below w.heap.size w wi)) (fun _ i _ => k + 1 - (intOf i).toNat)
          case atStart => exact ⟨0, [], xr0, by omega, rfl, rfl, Lib.hid rfl, Lib.hid (fun j' h => by omega), Lib.hid (blk_last (wo.drewN nq) _), Lib.hid (below_alloc HBN.out _)⟩
          case round =>
            obtain ⟨j, M, X, hj, rfl, rfl, HX, HM, HBK, HBI⟩ := hrel
            by_cases hjl : j < k + 1
            · obtain ⟨ad', he', -, e0, e1, e2, e3, e4, e5, e6, e7, e8⟩ := (HL.out.below HBI.out).cells j (hbd j hjl)
              obtain ⟨-, -, -, hfh, h64⟩ := (HL.out.below HBI.out).elem j (hbd j hjl)
              injection he' with he'
              subst he'
              have hwj := HW.out (ys[j]'(hbd j hjl)) (List.getElem_mem _)
              have hv := HCA.out j hjl
              obtain ⟨h, hh⟩ : ∃ h, h = (fsOf (ys[j]'(hbd j hjl))).h := ⟨_, rfl⟩
              obtain ⟨p, hp⟩ : ∃ p, p = lhOf (ys[j]'(hbd j hjl)).2 := ⟨_, rfl⟩
              rw [← hh] at e0 e1 e2 e3 e4 e5 e6 e7 e8 hfh hwj hv
              rw [← hp] at e5 e6 e7 e8 hfh
              obtain ⟨v, hvv⟩ : ∃ v, v = (vals h).getD m 0 := ⟨_, rfl⟩
              rw [← hvv] at hv
              have hv64 : v < 18446744073709551616 := by
                rw [← hv, List.getD_eq_getElem?_getD, List.getElem?_eq_getElem (by rw [HCL.out]; exact hjl)]
                exact HC6.out _ (List.getElem_mem _)
              have hxo : OkX X := by rw [HX.out]; exact colX_ok _ fun u hu => HC6.out u (List.mem_of_mem_take hu)
              have hxn : X.n ≤ 1001 := by rw [HX.out, colX_n, List.length_take]; omega
              have HVA : Hid (∀ W, Below wr.heap.size wr W → Calls Tryz.prog 211 #[.agg #[.int .i64 h.schema, .int .u64 h.zero, .int .u64 h.zc, .int .u64 h.cnt, .int .u64 h.sum, .slice p.A h.pos.length p.c, .slice p.B h.neg.length p.d, .slice p.C h.pc.length p.cc, .slice p.D h.nc.length p.dd], .int .i64 m] W fun e w' => e = .returned (.int .u64 v) ∧ Below wr.heap.size wr w') := Lib.hid (fun W hb => by
                refine (value_calls h p m W (hfh.below hb) (by rw [hwj.1, hwj.2, ← HKK.out]; exact HMK.out)).mono ?_
                rintro e w' ⟨rfl, hb'⟩
                exact ⟨by rw [hvv], below_then hb hb.size hb'⟩)
              obtain ⟨Y, hY⟩ : ∃ Y, Y = putX X v := ⟨_, rfl⟩
              have HP5 : Hid (∀ W, Below wr.heap.size wr W → Calls Tryz.prog 210 #[.agg #[.int .u64 X.last, .int .i64 X.n, .int .i64 X.ahead, .int .i64 X.len], .int .u64 v] W fun e w' => e = .returned (.tuple #[.agg #[.int .u64 Y.last, .int .i64 Y.n, .int .i64 Y.ahead, .int .i64 Y.len], .string (txt (toldX X v))]) ∧ Below wr.heap.size wr w') := Lib.hid (fun W hb => by
                refine (Ref05.put_calls X v W hxo (by omega) hv64).mono ?_
                rintro e w' ⟨rfl, hb'⟩
                exact ⟨by rw [hY]; rfl, below_then hb hb.size hb'⟩)
              have rx0 : ∀ W, Below wr.heap.size wr W → W.cell? ⟨wo.heap.size, 0, none⟩ = some (.int .u64 X.last) := fun W hb => obj_cell ((hb.block _ (blk_lt HBK.out)).trans HBK.out) rfl
              have rf0 : ∀ W, Below wr.heap.size wr W → W.frozen? ⟨wo.heap.size, 0, none⟩ = false := fun W hb => obj_free ((hb.block _ (blk_lt HBK.out)).trans HBK.out)
              have rx1 : ∀ W, Below wr.heap.size wr W → W.cell? ⟨wo.heap.size, 1, none⟩ = some (.int .i64 X.n) := fun W hb => obj_cell ((hb.block _ (blk_lt HBK.out)).trans HBK.out) rfl
              have rf1 : ∀ W, Below wr.heap.size wr W → W.frozen? ⟨wo.heap.size, 1, none⟩ = false := fun W hb => obj_free ((hb.block _ (blk_lt HBK.out)).trans HBK.out)
              have rx2 : ∀ W, Below wr.heap.size wr W → W.cell? ⟨wo.heap.size, 2, none⟩ = some (.int .i64 X.ahead) := fun W hb => obj_cell ((hb.block _ (blk_lt HBK.out)).trans HBK.out) rfl
              have rf2 : ∀ W, Below wr.heap.size wr W → W.frozen? ⟨wo.heap.size, 2, none⟩ = false := fun W hb => obj_free ((hb.block _ (blk_lt HBK.out)).trans HBK.out)
              have rx3 : ∀ W, Below wr.heap.size wr W → W.cell? ⟨wo.heap.size, 3, none⟩ = some (.int .i64 X.len) := fun W hb => obj_cell ((hb.block _ (blk_lt HBK.out)).trans HBK.out) rfl
              have rf3 : ∀ W, Below wr.heap.size wr W → W.frozen? ⟨wo.heap.size, 3, none⟩ = false := fun W hb => obj_free ((hb.block _ (blk_lt HBK.out)).trans HBK.out)
              have rh0 : ∀ W, Below wr.heap.size wr W → W.cell? ⟨(ad.add (j * 10)).block, (ad.add (j * 10)).off + 1, none⟩ = some (.int .i64 h.schema) := fun W hb => cell_later hb e0
              have rh1 : ∀ W, Below wr.heap.size wr W → W.cell? ⟨(ad.add (j * 10)).block, (ad.add (j * 10)).off + 1 + 1, none⟩ = some (.int .u64 h.zero) := fun W hb => cell_later hb e1
              have rh2 : ∀ W, Below wr.heap.size wr W → W.cell? ⟨(ad.add (j * 10)).block, (ad.add (j * 10)).off + 1 + 2, none⟩ = some (.int .u64 h.zc) := fun W hb => cell_later hb e2
              have rh3 : ∀ W, Below wr.heap.size wr W → W.cell? ⟨(ad.add (j * 10)).block, (ad.add (j * 10)).off + 1 + 3, none⟩ = some (.int .u64 h.cnt) := fun W hb => cell_later hb e3
              have rh4 : ∀ W, Below wr.heap.size wr W → W.cell? ⟨(ad.add (j * 10)).block, (ad.add (j * 10)).off + 1 + 4, none⟩ = some (.int .u64 h.sum) := fun W hb => cell_later hb e4
              have rh5 : ∀ W, Below wr.heap.size wr W → W.cell? ⟨(ad.add (j * 10)).block, (ad.add (j * 10)).off + 1 + 5, none⟩ = some (.slice p.A h.pos.length p.c) := fun W hb => cell_later hb e5
              have rh6 : ∀ W, Below wr.heap.size wr W → W.cell? ⟨(ad.add (j * 10)).block, (ad.add (j * 10)).off + 1 + 6, none⟩ = some (.slice p.B h.neg.length p.d) := fun W hb => cell_later hb e6
              have rh7 : ∀ W, Below wr.heap.size wr W → W.cell? ⟨(ad.add (j * 10)).block, (ad.add (j * 10)).off + 1 + 7, none⟩ = some (.slice p.C h.pc.length p.cc) := fun W hb => cell_later hb e7
              have rh8 : ∀ W, Below wr.heap.size wr W → W.cell? ⟨(ad.add (j * 10)).block, (ad.add (j * 10)).off + 1 + 8, none⟩ = some (.slice p.D h.nc.length p.dd) := fun W hb => cell_later hb e8
              have bd : Below wr.heap.size wr wr.drew := below_drew (Below.refl _ _)
              have HXJ : Hid (Y = colX (cf.take (j + 1))) := Lib.hid (by
                rw [List.take_succ_eq_append_getElem (by rw [HCL.out]; exact hjl), colX_snoc, ← HX.out, hY, ← hv, List.getD_eq_getElem?_getD, List.getElem?_eq_getElem (by rw [HCL.out]; exact hjl)]
                rfl)
              have HMJ : Hid (∀ j', j + 1 = j' + 1 → toldX X v = toldX (colX (cf.take j')) (cf.getD j' 0)) := Lib.hid (fun j' hj' => by
                obtain rfl : j = j' := by omega
                rw [← HX.out, hv])
              have i1 : (j : Int) < (q : Int) := by have := HQ.out; omega
              have i2 : j < q := by have := HQ.out; omega
              have i3 : decide ((j : Int) ≤ (k : Int)) = true := decide_eq_true (by omega)
              clear hfh hwj hv hv64 hxo hxn hY hvv hh hp e0 e1 e2 e3 e4 e5 e6 e7 e8 h64
              go_wp2_with (fail)
              go_region_with (first
                | (go_at_call 211; refine (HVA.out _ (by assumption)).mono ?_; rintro e w6 ⟨rfl, hb6⟩)
                | (go_at_call 210; refine (HP5.out _ (by assumption)).mono ?_; rintro e w7 ⟨rfl, hb7⟩))
              all_goals
                have h7 := (hb7.block _ (blk_lt HBK.out)).trans HBK.out
                have HK9 : Hid ((fourW w7 wo.heap.size (.int .u64 Y.last) (.int .i64 Y.n) (.int .i64 Y.ahead) (.int .i64 Y.len)).heap[wo.heap.size]? = some (.cells #[.int .u64 Y.last, .int .i64 Y.n, .int .i64 Y.ahead, .int .i64 Y.len] 278 (0, 0))) := Lib.hid (by
                  have h8 := blk_set (blk_set (blk_set (blk_set h7 0 (.int .u64 Y.last)) 1 (.int .i64 Y.n)) 2 (.int .i64 Y.ahead)) 3 (.int .i64 Y.len)
                  simpa using h8)
                have HK10 : Hid (Below w.heap.size w (fourW w7 wo.heap.size (.int .u64 Y.last) (.int .i64 Y.n) (.int .i64 Y.ahead) (.int .i64 Y.len))) := Lib.hid (below_four (below_then HBI.out HBI.out.size hb7) HBN.out.size _ _ _ _)
                clear h7 bd hb7 rx0 rx1 rx2 rx3 rf0 rf1 rf2 rf3 rh0 rh1 rh2 rh3 rh4 rh5 rh6 rh7 rh8
                go_wp2_with (fail)
                go_roundw
                case rel => exact ⟨j + 1, toldX X v, Y, by omega, by go_num, rfl, HXJ, HMJ, HK9, HK10⟩
                case measure => simp [intOf]; omega
            · obtain rfl : j = k + 1 := by omega
              have hM := HM.out k rfl
              rw [← HCE.out] at hM
              subst hM
              have i3 : decide (((k + 1 : Nat) : Int) ≤ (k : Int)) = false := decide_eq_false (by omega)
              have hT2 := HCB.out (m + 1)
              rw [colsB_succ, ← List.append_assoc, txt_append, ByteArray.size_append] at hT2
              go_wp2_with (fail)
              go_roundw
              case rel => exact ⟨m + 1, by omega, by go_num, by rw [colsB_succ, ← List.append_assoc, txt_append (toldL true (ts l) (VarPure.u64 s.t) ++ colsB l s m) (colB l s m)], HBI⟩
              case measure => simp [intOf]; omega
        · obtain rfl : m = K := by omega
          have d1 : decide ((m : Int) < 3 + (P : Int) + (N : Int)) = false := decide_eq_false (by omega)
          have HLB : Hid (lastB l s = toldL true (ts l) (VarPure.u64 s.t) ++ colsB l s m) := Lib.hid (by unfold lastB; rw [HKS.out])
          go_wp2_with (fail)
          go_quiet (fail)
          go_wp2
          go_ret
          exact ⟨by rw [HLB.out]; rfl, pw_below_drewN HB.out nq⟩
end Go.Proofs.YtjfekjbmgckkcaaGreatDoor.Ref18A
namespace Go.Proofs.YtjfekjbmgckkcaaGreatDoor.Law18F
open Go.RowKit Go.Proofs.YtjfekjbmgckkcaaGreatDoorW.PrintWords
open Go.Proofs.YtjfekjbmgckkcaaGreatDoor.Bits Go.Proofs.YtjfekjbmgckkcaaGreatDoor.Base Go.Proofs.YtjfekjbmgckkcaaGreatDoor.VarPure Go.Proofs.YtjfekjbmgckkcaaGreatDoor.VarbitA Go.Proofs.YtjfekjbmgckkcaaGreatDoor.VarKit Go.Proofs.YtjfekjbmgckkcaaGreatDoor.StreamA Go.Proofs.YtjfekjbmgckkcaaGreatDoor.SpanPure Go.Proofs.YtjfekjbmgckkcaaGreatDoor.SpanBase Go.Proofs.YtjfekjbmgckkcaaGreatDoor.FailAs Go.Proofs.YtjfekjbmgckkcaaGreatDoor.FailB Go.Proofs.YtjfekjbmgckkcaaGreatDoor.FailC Go.Proofs.YtjfekjbmgckkcaaGreatDoor.HeadA Go.Proofs.YtjfekjbmgckkcaaGreatDoor.HeadB Go.Proofs.YtjfekjbmgckkcaaGreatDoor.HeadC Go.Proofs.YtjfekjbmgckkcaaGreatDoor.HeadE Go.Proofs.YtjfekjbmgckkcaaGreatDoor.HeadPure Go.Proofs.YtjfekjbmgckkcaaGreatDoor.Ref01 Go.Proofs.YtjfekjbmgckkcaaGreatDoor.Ref12 Go.Proofs.YtjfekjbmgckkcaaGreatDoor.Ref13 Go.Proofs.YtjfekjbmgckkcaaGreatDoor.TimesPure Go.Proofs.YtjfekjbmgckkcaaGreatDoor.TimesA Go.Proofs.YtjfekjbmgckkcaaGreatDoor.XorPure Go.Proofs.YtjfekjbmgckkcaaGreatDoor.XorA Go.Proofs.YtjfekjbmgckkcaaGreatDoor.XorB Go.Proofs.YtjfekjbmgckkcaaGreatDoor.FcPure Go.Proofs.YtjfekjbmgckkcaaGreatDoor.FcObj Go.Proofs.YtjfekjbmgckkcaaGreatDoor.FsArg Go.Proofs.YtjfekjbmgckkcaaGreatDoor.FcD Go.Proofs.YtjfekjbmgckkcaaGreatDoor.HdArg Go.Proofs.YtjfekjbmgckkcaaGreatDoor.Law14A Go.Proofs.YtjfekjbmgckkcaaGreatDoor.Law18A Go.Proofs.YtjfekjbmgckkcaaGreatDoor.Ref18A
structure FsR (w : World) (A : Option Addr) (xs : List FsX) : Prop where
  rd : RdC w A (Rep.all rFs xs)
  ok : ∀ x ∈ xs, rFs.ok w x
theorem FsR.below {w W : World} {A : Option Addr} {xs : List FsX} (h : FsR w A xs) (hb : Below w.heap.size w W) : FsR W A xs := ⟨h.rd.below hb, fun x hx => rFs.below hb (h.ok x hx)⟩
theorem row_of {w : World} {A : Option Addr} {xs : List FsX} (h : RdC w A (Rep.all rFs xs)) (ho : ∀ x ∈ xs, rFs.enc x = scs (fsOf x) (lhOf x.2)) (i : Nat) (hi : i < xs.length) : ∃ ad, A = some ad ∧ w.cell? (ad.add (i * 10)) = some (.int .i64 (fsOf xs[i]).t) ∧ w.cell? ⟨(ad.add (i * 10)).block, (ad.add (i * 10)).off + 1, none⟩ = some (.int .i64 (fsOf xs[i]).h.schema) ∧ w.cell? ⟨(ad.add (i * 10)).block, (ad.add (i * 10)).off + 2, none⟩ = some (.int .u64 (fsOf xs[i]).h.zero) ∧ w.cell? ⟨(ad.add (i * 10)).block, (ad.add (i * 10)).off + 3, none⟩ = some (.int .u64 (fsOf xs[i]).h.zc) ∧ w.cell? ⟨(ad.add (i * 10)).block, (ad.add (i * 10)).off + 4, none⟩ = some (.int .u64 (fsOf xs[i]).h.cnt) ∧ w.cell? ⟨(ad.add (i * 10)).block, (ad.add (i * 10)).off + 5, none⟩ = some (.int .u64 (fsOf xs[i]).h.sum) ∧ w.cell? ⟨(ad.add (i * 10)).block, (ad.add (i * 10)).off + 6, none⟩ = some (.slice (lhOf xs[i].2).A (fsOf xs[i]).h.pos.length (lhOf xs[i].2).c) ∧ w.cell? ⟨(ad.add (i * 10)).block, (ad.add (i * 10)).off + 7, none⟩ = some (.slice (lhOf xs[i].2).B (fsOf xs[i]).h.neg.length (lhOf xs[i].2).d) ∧ w.cell? ⟨(ad.add (i * 10)).block, (ad.add (i * 10)).off + 8, none⟩ = some (.slice (lhOf xs[i].2).C (fsOf xs[i]).h.pc.length (lhOf xs[i].2).cc) ∧ w.cell? ⟨(ad.add (i * 10)).block, (ad.add (i * 10)).off + 9, none⟩ = some (.slice (lhOf xs[i].2).D (fsOf xs[i]).h.nc.length (lhOf xs[i].2).dd) := by
  obtain ⟨ad, he, hc⟩ := Rep.RdC.elem h i hi (by decide)
  have hc : ∀ j u, (scs (fsOf xs[i]) (lhOf xs[i].2))[j]? = some u → w.cell? (ad.add (i * 10 + j)) = some u := fun j u hu => hc j u (by rw [ho _ (List.getElem_mem hi)]; exact hu)
  have key : ∀ j u, (scs (fsOf xs[i]) (lhOf xs[i].2))[j + 1]? = some u → w.cell? ⟨(ad.add (i * 10)).block, (ad.add (i * 10)).off + (j + 1), none⟩ = some u := fun j u hu => by
    have := hc (j + 1) u hu
    rw [← SpanBase.add_add] at this
    exact this
  exact ⟨ad, he, hc 0 _ rfl, key 0 _ rfl, key 1 _ rfl, key 2 _ rfl, key 3 _ rfl, key 4 _ rfl, key 5 _ rfl, key 6 _ rfl, key 7 _ rfl, key 8 _ rfl⟩
theorem FsR.row {w : World} {A : Option Addr} {xs : List FsX} (h : FsR w A xs) (i : Nat) (hi : i < xs.length) : ∃ ad, A = some ad ∧ w.cell? (ad.add (i * 10)) = some (.int .i64 (fsOf xs[i]).t) ∧ w.cell? ⟨(ad.add (i * 10)).block, (ad.add (i * 10)).off + 1, none⟩ = some (.int .i64 (fsOf xs[i]).h.schema) ∧ w.cell? ⟨(ad.add (i * 10)).block, (ad.add (i * 10)).off + 2, none⟩ = some (.int .u64 (fsOf xs[i]).h.zero) ∧ w.cell? ⟨(ad.add (i * 10)).block, (ad.add (i * 10)).off + 3, none⟩ = some (.int .u64 (fsOf xs[i]).h.zc) ∧ w.cell? ⟨(ad.add (i * 10)).block, (ad.add (i * 10)).off + 4, none⟩ = some (.int .u64 (fsOf xs[i]).h.cnt) ∧ w.cell? ⟨(ad.add (i * 10)).block, (ad.add (i * 10)).off + 5, none⟩ = some (.int .u64 (fsOf xs[i]).h.sum) ∧ w.cell? ⟨(ad.add (i * 10)).block, (ad.add (i * 10)).off + 6, none⟩ = some (.slice (lhOf xs[i].2).A (fsOf xs[i]).h.pos.length (lhOf xs[i].2).c) ∧ w.cell? ⟨(ad.add (i * 10)).block, (ad.add (i * 10)).off + 7, none⟩ = some (.slice (lhOf xs[i].2).B (fsOf xs[i]).h.neg.length (lhOf xs[i].2).d) ∧ w.cell? ⟨(ad.add (i * 10)).block, (ad.add (i * 10)).off + 8, none⟩ = some (.slice (lhOf xs[i].2).C (fsOf xs[i]).h.pc.length (lhOf xs[i].2).cc) ∧ w.cell? ⟨(ad.add (i * 10)).block, (ad.add (i * 10)).off + 9, none⟩ = some (.slice (lhOf xs[i].2).D (fsOf xs[i]).h.nc.length (lhOf xs[i].2).dd) := row_of h.rd (fun x hx => enc_fs (h.ok x hx)) i hi
theorem FsL.row {w : World} {A : Option Addr} {xs : List FsX} (h : FsL w A xs) (i : Nat) (hi : i < xs.length) : ∃ ad, A = some ad ∧ w.cell? (ad.add (i * 10)) = some (.int .i64 (fsOf xs[i]).t) ∧ w.cell? ⟨(ad.add (i * 10)).block, (ad.add (i * 10)).off + 1, none⟩ = some (.int .i64 (fsOf xs[i]).h.schema) ∧ w.cell? ⟨(ad.add (i * 10)).block, (ad.add (i * 10)).off + 2, none⟩ = some (.int .u64 (fsOf xs[i]).h.zero) ∧ w.cell? ⟨(ad.add (i * 10)).block, (ad.add (i * 10)).off + 3, none⟩ = some (.int .u64 (fsOf xs[i]).h.zc) ∧ w.cell? ⟨(ad.add (i * 10)).block, (ad.add (i * 10)).off + 4, none⟩ = some (.int .u64 (fsOf xs[i]).h.cnt) ∧ w.cell? ⟨(ad.add (i * 10)).block, (ad.add (i * 10)).off + 5, none⟩ = some (.int .u64 (fsOf xs[i]).h.sum) ∧ w.cell? ⟨(ad.add (i * 10)).block, (ad.add (i * 10)).off + 6, none⟩ = some (.slice (lhOf xs[i].2).A (fsOf xs[i]).h.pos.length (lhOf xs[i].2).c) ∧ w.cell? ⟨(ad.add (i * 10)).block, (ad.add (i * 10)).off + 7, none⟩ = some (.slice (lhOf xs[i].2).B (fsOf xs[i]).h.neg.length (lhOf xs[i].2).d) ∧ w.cell? ⟨(ad.add (i * 10)).block, (ad.add (i * 10)).off + 8, none⟩ = some (.slice (lhOf xs[i].2).C (fsOf xs[i]).h.pc.length (lhOf xs[i].2).cc) ∧ w.cell? ⟨(ad.add (i * 10)).block, (ad.add (i * 10)).off + 9, none⟩ = some (.slice (lhOf xs[i].2).D (fsOf xs[i]).h.nc.length (lhOf xs[i].2).dd) := row_of h.rd (fun x hx => (h.el x hx).1) i hi
structure Sm1 (x : FsX) : Prop where
  pos : few (fsOf x).h.pos = true
  neg : few (fsOf x).h.neg = true
  pc : (fsOf x).h.pc.length ≤ 60
  nc : (fsOf x).h.nc.length ≤ 60
structure Sm (q : Hd) (xs : List FsX) : Prop where
  pos : few q.pos = true
  neg : few q.neg = true
  len : xs.length ≤ 16
  all : ∀ x ∈ xs, Sm1 x
theorem Sm1.short {x : FsX} (h : Sm1 x) : Short x.2 := ⟨Nat.le_trans (few_len h.pos) (by decide), Nat.le_trans (few_len h.neg) (by decide), by rw [← un_length]; exact Nat.le_trans h.pc (by decide), by rw [← un_length]; exact Nat.le_trans h.nc (by decide)⟩
set_option maxRecDepth 100000 in
set_option maxHeartbeats 6400000 in
theorem small_calls (q : Hd) (p : Lc) (X : Option Addr) (cx : Nat) (xs : List FsX) (w : World) (hx : HdRd w q p) (hr : FsR w X xs) (hm : xs.length ≤ 9223372036854775807) :
    Calls Tryz.prog 34 #[.agg (hcs q p).toArray, .slice X xs.length cx] w fun e w' => (∃ b, e = .returned (.bool b) ∧ (b = true → Sm q xs)) ∧ Below w.heap.size w w' := by
  obtain ⟨vr, hint, schema, zt, pos, neg⟩ := q
  obtain ⟨A, c, B, d⟩ := p
  obtain ⟨W0, hW0, hbk, hal⟩ : ∃ W : World, W = w.alloc (.cells #[.int .i64 vr, .int .i64 hint, .int .i64 schema, .int .u64 zt, .slice A pos.length c, .slice B neg.length d] 25) ∧ W.heap[w.heap.size]? = some (.cells #[.int .i64 vr, .int .i64 hint, .int .i64 schema, .int .u64 zt, .slice A pos.length c, .slice B neg.length d] 25 (0, 0)) ∧ Below w.heap.size w W := ⟨_, rfl, blk_last w _, below_alloc (Below.refl _ _) _⟩
  have HCEL : Hid (∀ W : World, Below W0.heap.size W0 W → (W.cell? ⟨w.heap.size, 0, none⟩ = some (.int .i64 vr) ∧ W.cell? ⟨w.heap.size, 1, none⟩ = some (.int .i64 hint) ∧ W.cell? ⟨w.heap.size, 2, none⟩ = some (.int .i64 schema) ∧ W.cell? ⟨w.heap.size, 3, none⟩ = some (.int .u64 zt) ∧ W.cell? ⟨w.heap.size, 4, none⟩ = some (.slice A pos.length c) ∧ W.cell? ⟨w.heap.size, 5, none⟩ = some (.slice B neg.length d))) := Lib.hid (fun W h => by
    have hb := (h.block _ (blk_lt hbk)).trans hbk
    exact ⟨obj_cell hb rfl, obj_cell hb rfl, obj_cell hb rfl, obj_cell hb rfl, obj_cell hb rfl, obj_cell hb rfl⟩)
  have HEND := Lib.hid (fun W (hb : Below W0.heap.size W0 W) => below_then hal hal.size hb)
  have HF1 := Lib.hid (fun W (hb : Below W0.heap.size W0 W) => Law18A.few_calls A c pos W (hx.pos.below (below_then hal hal.size hb)) hx.lp)
  have HF2 := Lib.hid (fun W (hb : Below W0.heap.size W0 W) => Law18A.few_calls B d neg W (hx.neg.below (below_then hal hal.size hb)) hx.ln)
  have HR := Lib.hid (fun W (hb : Below W0.heap.size W0 W) => hr.below (below_then hal hal.size hb))
  have HW0 := Lib.hid hW0
  obtain ⟨n, hn⟩ : ∃ n, n = xs.length := ⟨_, rfl⟩
  have HN := Lib.hid hn
  rw [← hn] at hm ⊢
  obtain ⟨k0, k1, k2, k3, k4, k5⟩ := HCEL.out _ (Below.refl _ _)
  show Calls Tryz.prog 34 #[.agg #[.int .i64 vr, .int .i64 hint, .int .i64 schema, .int .u64 zt, .slice A pos.length c, .slice B neg.length d], .slice X n cx] w _
  clear hx hr hbk hal hW0 hn
  go_enter Tryz.func34, Tryz.ntmps34
  go_wp2_with (fail)
  rw [← HW0.out]
  refine (HF1.out _ (Below.refl _ _)).mono ?_
  rintro e w1 ⟨rfl, hb1⟩
  have B1 := Lib.hid hb1
  clear hb1 HF1 k0 k1 k2 k3 k4 k5
  obtain ⟨b1, hb1⟩ : ∃ b, b = few pos := ⟨_, rfl⟩
  have G1 := Lib.hid hb1.symm
  rw [← hb1]
  clear hb1
  cases b1 with
  | false =>
    go_wp2
    go_ret
    exact ⟨⟨false, rfl, fun h => by cases h⟩, HEND.out _ B1.out⟩
  | true =>
  obtain ⟨k0, k1, k2, k3, k4, k5⟩ := HCEL.out _ B1.out
  go_wp2_with (fail)
  refine (HF2.out _ B1.out).mono ?_
  rintro e w2 ⟨rfl, hb2⟩
  have B2 := Lib.hid (below_then B1.out B1.out.size hb2)
  clear hb2 HF2 B1 k0 k1 k2 k3 k4 k5
  obtain ⟨b2, hb2⟩ : ∃ b, b = few neg := ⟨_, rfl⟩
  have G2 := Lib.hid hb2.symm
  rw [← hb2]
  clear hb2
  cases b2 with
  | false =>
    go_wp2
    go_ret
    exact ⟨⟨false, rfl, fun h => by cases h⟩, HEND.out _ B2.out⟩
  | true =>
  by_cases h16 : n ≤ 16
  case neg =>
    have d1 : decide ((16 : Int) < n) = true := decide_eq_true (by omega)
    go_wp2
    go_ret
    exact ⟨⟨false, rfl, fun h => by cases h⟩, HEND.out _ B2.out⟩
  have d1 : decide ((16 : Int) < n) = false := decide_eq_false (by omega)
  go_wp2_with (fail)
  go_loopw [6, 24] (fun _ i wr => ∃ k : Nat, k ≤ n ∧ i = .int .i64 k ∧ Hid (∀ j, (h : j < xs.length) → j < k → Sm1 xs[j]) ∧ Hid (Below W0.heap.size W0 wr)) (fun _ i _ => n - (intOf i).toNat)
  case atStart => exact ⟨0, by omega, rfl, Lib.hid (fun j h h2 => by omega), B2⟩
  case round =>
    obtain ⟨k, hk, rfl, HS, HB⟩ := hrel
    by_cases hlt : k < n
    · have hkx : k < xs.length := by rw [← HN.out]; exact hlt
      obtain ⟨ad, hA, c0, c1, c2, c3, c4, c5, c6, c7, c8, c9⟩ := (HR.out _ HB.out).row k hkx
      have hok := (HR.out _ HB.out).ok _ (List.getElem_mem hkx)
      subst hA
      obtain ⟨s, hs⟩ : ∃ s, s = fsOf xs[k] := ⟨_, rfl⟩
      obtain ⟨r, hrr⟩ : ∃ r, r = lhOf xs[k].2 := ⟨_, rfl⟩
      obtain ⟨-, -, -, -, -, -, h6, h7, h8, h9⟩ := hok
      have l6 := Nat.le_trans h6.1.le h6.1.max
      have l7 := Nat.le_trans h7.1.le h7.1.max
      have l8 := Nat.le_trans h8.1.le h8.1.max
      have l9 := Nat.le_trans h9.1.le h9.1.max
      unfold maxLen at l6 l7 l8 l9
      have q6 : RdSp wr r.A s.h.pos := by rw [hs, hrr]; exact rd_sp h6.1.rd
      have q7 : RdSp wr r.B s.h.neg := by rw [hs, hrr]; exact rd_sp h7.1.rd
      have l6 : s.h.pos.length ≤ 9223372036854775807 := by rw [hs]; exact l6
      have l7 : s.h.neg.length ≤ 9223372036854775807 := by rw [hs]; exact l7
      have l8 : s.h.pc.length ≤ 9223372036854775807 := by rw [hs]; show (un _).length ≤ _; rw [un_length]; exact l8
      have l9 : s.h.nc.length ≤ 9223372036854775807 := by rw [hs]; show (un _).length ≤ _; rw [un_length]; exact l9
      have HSM : Hid (few s.h.pos = true → few s.h.neg = true → s.h.pc.length ≤ 60 → s.h.nc.length ≤ 60 → ∀ j, (h : j < xs.length) → j < k + 1 → Sm1 xs[j]) := Lib.hid (fun g1 g2 g3 g4 j h hj => by
        by_cases e : j = k
        · subst e
          rw [hs] at g1 g2 g3 g4
          exact ⟨g1, g2, g3, g4⟩
        · exact HS.out j h (by omega))
      rw [← hs] at c0 c1 c2 c3 c4 c5 c6 c7 c8 c9
      rw [← hrr] at c6 c7 c8 c9
      obtain ⟨W1, hW1, hbk, hal⟩ : ∃ W : World, W = wr.alloc (.cells #[.int .i64 s.t, .int .i64 s.h.schema, .int .u64 s.h.zero, .int .u64 s.h.zc, .int .u64 s.h.cnt, .int .u64 s.h.sum, .slice r.A s.h.pos.length r.c, .slice r.B s.h.neg.length r.d, .slice r.C s.h.pc.length r.cc, .slice r.D s.h.nc.length r.dd] 74) ∧ W.heap[wr.heap.size]? = some (.cells #[.int .i64 s.t, .int .i64 s.h.schema, .int .u64 s.h.zero, .int .u64 s.h.zc, .int .u64 s.h.cnt, .int .u64 s.h.sum, .slice r.A s.h.pos.length r.c, .slice r.B s.h.neg.length r.d, .slice r.C s.h.pc.length r.cc, .slice r.D s.h.nc.length r.dd] 74 (0, 0)) ∧ Below wr.heap.size wr W := ⟨_, rfl, blk_last wr _, below_alloc (Below.refl _ _) _⟩
      have HCS : Hid (∀ W : World, Below W1.heap.size W1 W → (W.cell? ⟨wr.heap.size, 0, none⟩ = some (.int .i64 s.t) ∧ W.cell? ⟨wr.heap.size, 1, none⟩ = some (.int .i64 s.h.schema) ∧ W.cell? ⟨wr.heap.size, 2, none⟩ = some (.int .u64 s.h.zero) ∧ W.cell? ⟨wr.heap.size, 3, none⟩ = some (.int .u64 s.h.zc) ∧ W.cell? ⟨wr.heap.size, 4, none⟩ = some (.int .u64 s.h.cnt) ∧ W.cell? ⟨wr.heap.size, 5, none⟩ = some (.int .u64 s.h.sum) ∧ W.cell? ⟨wr.heap.size, 6, none⟩ = some (.slice r.A s.h.pos.length r.c) ∧ W.cell? ⟨wr.heap.size, 7, none⟩ = some (.slice r.B s.h.neg.length r.d) ∧ W.cell? ⟨wr.heap.size, 8, none⟩ = some (.slice r.C s.h.pc.length r.cc) ∧ W.cell? ⟨wr.heap.size, 9, none⟩ = some (.slice r.D s.h.nc.length r.dd))) := Lib.hid (fun W h => by
        have hb := (h.block _ (blk_lt hbk)).trans hbk
        exact ⟨obj_cell hb rfl, obj_cell hb rfl, obj_cell hb rfl, obj_cell hb rfl, obj_cell hb rfl, obj_cell hb rfl, obj_cell hb rfl, obj_cell hb rfl, obj_cell hb rfl, obj_cell hb rfl⟩)
      have HF3 := Lib.hid (fun W (hb : Below W1.heap.size W1 W) => Law18A.few_calls r.A r.c s.h.pos W (q6.below (below_then hal hal.size hb)) l6)
      have HF4 := Lib.hid (fun W (hb : Below W1.heap.size W1 W) => Law18A.few_calls r.B r.d s.h.neg W (q7.below (below_then hal hal.size hb)) l7)
      have HE1 := Lib.hid (fun W (hb : Below W1.heap.size W1 W) => below_then HB.out HB.out.size (below_then hal hal.size hb))
      have HW1 := Lib.hid hW1
      obtain ⟨s0, s1, s2, s3, s4, s5, s6, s7, s8, s9⟩ := HCS.out _ (Below.refl _ _)
      clear h6 h7 h8 h9 q6 q7 l6 l7 hs hrr hW1 hbk hal
      go_wp2_with (fail)
      rw [← HW1.out]
      refine (HF3.out _ (Below.refl _ _)).mono ?_
      rintro e w3 ⟨rfl, hb3⟩
      have B3 := Lib.hid hb3
      clear hb3 HF3 c0 c1 c2 c3 c4 c5 c6 c7 c8 c9 s0 s1 s2 s3 s4 s5 s6 s7 s8 s9
      obtain ⟨b3, hb3⟩ : ∃ b, b = few s.h.pos := ⟨_, rfl⟩
      have G3 := Lib.hid hb3.symm
      rw [← hb3]
      clear hb3
      cases b3 with
      | false =>
        go_wp2
        go_ret
        exact ⟨⟨false, rfl, fun h => by cases h⟩, HEND.out _ (HE1.out _ B3.out)⟩
      | true =>
      obtain ⟨s0, s1, s2, s3, s4, s5, s6, s7, s8, s9⟩ := HCS.out _ B3.out
      go_wp2_with (fail)
      refine (HF4.out _ B3.out).mono ?_
      rintro e w4 ⟨rfl, hb4⟩
      have B4 := Lib.hid (below_then B3.out B3.out.size hb4)
      clear hb4 HF4 B3 s0 s1 s2 s3 s4 s5 s6 s7 s8 s9
      obtain ⟨b4, hb4⟩ : ∃ b, b = few s.h.neg := ⟨_, rfl⟩
      have G4 := Lib.hid hb4.symm
      rw [← hb4]
      clear hb4
      obtain ⟨s0, s1, s2, s3, s4, s5, s6, s7, s8, s9⟩ := HCS.out _ B4.out
      cases b4 with
      | false =>
        go_wp2
        go_ret
        exact ⟨⟨false, rfl, fun h => by cases h⟩, HEND.out _ (HE1.out _ B4.out)⟩
      | true =>
      by_cases g3 : s.h.pc.length ≤ 60
      case neg =>
        have e3 : decide ((60 : Int) < s.h.pc.length) = true := decide_eq_true (by omega)
        go_wp2
        go_ret
        exact ⟨⟨false, rfl, fun h => by cases h⟩, HEND.out _ (HE1.out _ B4.out)⟩
      by_cases g4 : s.h.nc.length ≤ 60
      case neg =>
        have e3 : decide ((60 : Int) < s.h.pc.length) = false := decide_eq_false (by omega)
        have e4 : decide ((60 : Int) < s.h.nc.length) = true := decide_eq_true (by omega)
        go_wp2
        go_ret
        exact ⟨⟨false, rfl, fun h => by cases h⟩, HEND.out _ (HE1.out _ B4.out)⟩
      have e3 : decide ((60 : Int) < s.h.pc.length) = false := decide_eq_false (by omega)
      have e4 : decide ((60 : Int) < s.h.nc.length) = false := decide_eq_false (by omega)
      have HSK := Lib.hid (HSM.out G3.out G4.out g3 g4)
      go_wp2
      go_roundw
      case rel => exact ⟨k + 1, by omega, by go_num, HSK, Lib.hid (HE1.out _ B4.out)⟩
      case measure => simp [intOf]; omega
    · obtain rfl : k = n := by omega
      have HFIN : Hid (Sm ⟨vr, hint, schema, zt, pos, neg⟩ xs) := Lib.hid ⟨G1.out, G2.out, by rw [← HN.out]; exact h16, fun x hx => by
        obtain ⟨j, hj, rfl⟩ := List.getElem_of_mem hx
        exact HS.out j hj (by rw [HN.out]; exact hj)⟩
      go_wp2
      go_ret
      exact ⟨⟨true, rfl, fun _ => HFIN.out⟩, HEND.out _ HB.out⟩
end Go.Proofs.YtjfekjbmgckkcaaGreatDoor.Law18F
namespace Go.Proofs.YtjfekjbmgckkcaaGreatDoor.Ref06P
open Go.RowKit Go.Proofs.YtjfekjbmgckkcaaGreatDoorW.PrintWords
open Go.Proofs.YtjfekjbmgckkcaaGreatDoor.Base Go.Proofs.YtjfekjbmgckkcaaGreatDoor.SpanPure Go.Proofs.YtjfekjbmgckkcaaGreatDoor.SpanBase Go.Proofs.YtjfekjbmgckkcaaGreatDoor.SpanA Go.Proofs.YtjfekjbmgckkcaaGreatDoor.SpanB Go.Proofs.YtjfekjbmgckkcaaGreatDoor.SpanD Go.Proofs.YtjfekjbmgckkcaaGreatDoor.SpanQ
set_option maxRecDepth 100000 in
set_option maxHeartbeats 1600000 in
theorem places_calls (A : Option Addr) (c : Nat) (l : List Sp) (w : World) (hr : RdSp w A l) (hm : l.length ≤ 1000000000) (h0 : chk l = 0) :
    Calls Tryz.prog 115 #[.slice A l.length c] w fun e w' => ∃ v, e = .returned v ∧ OwI 3 .i64 w' w.heap.size v (places l) ∧ Below w.heap.size w w' := by
  have HR := Lib.hid hr
  have hR := right_of h0
  have HRR := Lib.hid hR
  have hpl := places_len hR
  clear hr h0 hR
  go_enter Tryz.func115, Tryz.ntmps115
  go_wp2
  go_loopw [3, 4, 5] (fun v a i wr => ∃ (k : Nat) (E : Int), k ≤ l.length ∧ i = .int .i64 k ∧ a = .int .i64 E ∧ Hid (E = endF 0 (l.take k)) ∧ OwI 3 .i64 wr w.heap.size v (placesF 0 (l.take k)) ∧ Below w.heap.size w wr) (fun _ _ i _ => l.length - (intOf i).toNat)
  case atStart => exact ⟨0, 0, by omega, rfl, rfl, Lib.hid rfl, OwI.nil _ _ _ _, Below.refl _ _⟩
  case round =>
    obtain ⟨k, E, hk, rfl, rfl, hE, ho, hb⟩ := hrel
    have HO := Lib.hid ho
    have HB := Lib.hid hb
    have hsz := hb.size
    by_cases hlt : k < l.length
    · obtain ⟨ad, hA, c0, c1⟩ := (HR.out.below hb).at_ k hlt
      have HRA := Lib.hid HR.out
      subst hA
      obtain ⟨r1, r2, r3, r4, r5, r6⟩ := right_at HRR.out k hlt
      have HPT := Lib.hid (placesF_take l k hlt)
      have HET := Lib.hid (endF_take l k hlt)
      have HPX := Lib.hid (places_prefix l k hlt)
      have HAT := Lib.hid (fun W (h : Below w.heap.size w W) => (HR.out.below h).at_ k hlt)
      obtain ⟨s, hs⟩ : ∃ s, s = l[k] := ⟨_, rfl⟩
      rw [← hs] at c0 c1 r1 r2 r3 r4 HPT HET HPX HAT
      rw [← hE.out] at r3 r4 r5 r6 HPT HET HPX
      obtain ⟨o, q⟩ := s
      simp only at c0 c1 r1 r2 r3 r4 HPT HET HPX HAT
      obtain ⟨Q, rfl⟩ := Int.eq_ofNat_of_zero_le r1
      rw [Int.toNat_natCast] at HPT HPX
      obtain ⟨D, hD⟩ : ∃ D, D = E + o := ⟨_, rfl⟩
      rw [← hD] at r3 r4 HPT HET HPX
      clear hs ho hb
      obtain ⟨wo, rfl⟩ : ∃ wo : World, wo = wr := ⟨_, rfl⟩
      go_wp2_with (fail)
      rw [← hD]
      have HD := Lib.hid hD
      clear hD
      go_loopw [3, 4, 6] (fun v a i wr => ∃ j : Nat, j ≤ Q ∧ i = .int .i64 j ∧ a = .int .i64 (D + (j : Int)) ∧ OwI 3 .i64 wr w.heap.size v (placesF 0 (l.take k) ++ runP D j) ∧ Below w.heap.size w wr) (fun _ _ i _ => Q - (intOf i).toNat)
      case atStart => exact ⟨0, by omega, rfl, by simp, by rw [runP_zero, List.append_nil]; exact HO.out, HB.out⟩
      case round =>
        clear HO HB hsz c0 c1
        obtain ⟨j, hj, rfl, rfl, ho, hb⟩ := hrel
        have HO := Lib.hid ho
        have HB := Lib.hid hb
        have hsz := hb.size
        obtain ⟨ad', hA', c0, c1⟩ := HAT.out _ hb
        injection hA' with hA'
        subst hA'
        clear ho hb
        by_cases hjl : j < Q
        · have hlen := (HPX.out (j + 1) (by omega)).length_le
          rw [List.length_append, runP_length] at hlen
          go_wp2_with (at_builtin; refine append_one (w0 := w) w.heap.size rfl (.tmp 29) (.tmp 31) 174 3 .i64 8 rfl Tryz.underlying174 infoInt (by decide) _ (placesF 0 (l.take k) ++ runP D j) (D + (j : Int)) rfl rfl HO.out HB.out hsz (by rw [List.length_append, runP_length]; omega) ?_; intro v2 w2 ho2 hb2 _ _; have HO2 := Lib.hid ho2; have HB2 := Lib.hid hb2; clear ho2 hb2)
          go_roundw
          case rel => exact ⟨j + 1, by omega, by go_num, by go_num, by rw [runP_snoc, ← List.append_assoc]; exact HO2.out, HB2.out⟩
          case measure => simp [intOf]; omega
        · obtain rfl : j = Q := by omega
          rw [← HPT.out] at HO
          have HE1 : Hid (D + (j : Int) = endF 0 (l.take (k + 1))) := Lib.hid (by rw [HET.out])
          go_wp2_with (fail)
          go_roundw
          case rel => exact ⟨k + 1, D + (j : Int), by omega, by go_num, rfl, HE1, HO.out, HB.out⟩
          case measure => simp [intOf]; omega
    · obtain rfl : k = l.length := by omega
      rw [List.take_length] at HO
      obtain ⟨A1, c1, rfl, -, -⟩ := HO.out.reads
      clear ho hb
      go_wp2
      go_ret
      exact ⟨_, rfl, HO.out, HB.out⟩
end Go.Proofs.YtjfekjbmgckkcaaGreatDoor.Ref06P
namespace Go.Proofs.YtjfekjbmgckkcaaGreatDoor.Ref10
open Go.RowKit Go.Proofs.YtjfekjbmgckkcaaGreatDoorW.PrintWords
open Go.Proofs.YtjfekjbmgckkcaaGreatDoor.Bits Go.Proofs.YtjfekjbmgckkcaaGreatDoor.Base Go.Proofs.YtjfekjbmgckkcaaGreatDoor.StreamA Go.Proofs.YtjfekjbmgckkcaaGreatDoor.Ref13 Go.Proofs.YtjfekjbmgckkcaaGreatDoor.SpanPure Go.Proofs.YtjfekjbmgckkcaaGreatDoor.SpanBase Go.Proofs.YtjfekjbmgckkcaaGreatDoor.ThrPure Go.Proofs.YtjfekjbmgckkcaaGreatDoor.HeadA Go.Proofs.YtjfekjbmgckkcaaGreatDoor.HeadB Go.Proofs.YtjfekjbmgckkcaaGreatDoor.FcPure Go.Proofs.YtjfekjbmgckkcaaGreatDoor.FcObj Go.Proofs.YtjfekjbmgckkcaaGreatDoor.FhistA
theorem right_calls (v : Nat) (w : World) :
    Calls Tryz.prog 116 #[.int .u64 v] w fun e w' => e = .returned (.bool (!decide (inf ≤ v))) ∧ w = w' := by
  have e1 : decide ((v : Int) < 9218868437227405312) = !decide (inf ≤ v) := by
    unfold inf
    rw [Bool.eq_iff_iff]
    simp
    omega
  have e1n : decide (v < 9218868437227405312) = !decide (inf ≤ v) := by
    unfold inf
    rw [Bool.eq_iff_iff]
    simp
  obtain ⟨b, hb⟩ : ∃ b, b = !decide (inf ≤ v) := ⟨_, rfl⟩
  rw [← hb] at e1 e1n ⊢
  clear hb
  go_enter Tryz.func116, Tryz.ntmps116
  go_wp2
  go_ret
  exact ⟨rfl, rfl⟩
set_option maxRecDepth 100000 in
set_option maxHeartbeats 3200000 in
theorem side_calls (A C : Option Addr) (c cc : Nat) (l : List Sp) (n : List Nat) (w : World) (hs : Spl w A c l) (hn : Nul w C cc n) :
    Calls Tryz.prog 117 #[.slice A l.length c, .slice C n.length cc] w fun e w' => e = .returned (.int .i64 (sideF l n)) ∧ Below w.heap.size w w' := by
  have hm : l.length ≤ 1000000000 := by have := hs.len; omega
  have HCK := Lib.hid (Ref06K.check_calls A c l w hs.rd hm)
  have HPL := Lib.hid (fun W (h : Below w.heap.size w W) => Ref06P.places_calls A c l W (hs.rd.below h) hm)
  have hnl := hn.len
  have HNR := Lib.hid hn.rd
  have HSF : Hid (sideF l n = _) := Lib.hid rfl
  unfold sideF at HSF
  have HSF' : Hid (sideF l n = if chk l ≠ 0 then chk l else if (places l).length ≠ n.length then 23 else if n.any (fun v => decide (inf ≤ v)) then 22 else 0) := Lib.hid rfl
  have HPLN := Lib.hid (fun (h : chk l = 0) => places_len (SpanQ.right_of h))
  clear hs hm hn HSF
  go_enter Tryz.func117, Tryz.ntmps117
  go_wp2_with (fail)
  refine HCK.out.mono ?_
  rintro e w1 ⟨rfl, hb⟩
  by_cases h1 : chk l ≠ 0
  · have HE := Lib.hid (HSF'.out.trans (if_pos h1))
    have e1 : ((chk l : Int) != 0) = true := by simp; exact h1
    have HB := Lib.hid hb
    obtain ⟨k, hk⟩ : ∃ k, k = chk l := ⟨_, rfl⟩
    rw [← hk] at e1 HE ⊢
    clear h1 hb hk HSF' HPL HCK HPLN
    go_wp2
    go_ret
    exact ⟨by rw [HE.out]; rfl, HB.out⟩
  have h0 : chk l = 0 := by omega
  have HPQ := Lib.hid (fun W (h : Below w.heap.size w W) => HPL.out W h h0)
  have hpl := HPLN.out h0
  have HS2 := Lib.hid (HSF'.out.trans (if_neg h1))
  rw [h0]
  have HB1 := Lib.hid hb
  have hsz := hb.size
  clear h1 hb HSF' HPL HCK HPLN h0
  go_wp2_with (fail)
  refine (HPQ.out _ HB1.out).mono ?_
  rintro e w2 ⟨v, rfl, ho, hb2⟩
  obtain ⟨A1, c1, rfl, -, -⟩ := ho.reads
  have HB2 := Lib.hid (below_then HB1.out hsz hb2)
  have hsz2 := HB2.out.size
  clear ho hb2
  obtain ⟨m, hm⟩ : ∃ m, m = (places l).length := ⟨_, rfl⟩
  rw [← hm] at hpl HS2 ⊢
  clear hm HPQ
  by_cases h2 : m ≠ n.length
  · have HE := Lib.hid (HS2.out.trans (if_pos h2))
    have e2 : ((m : Int) != (n.length : Int)) = true := by simp; omega
    have e2n : (m != n.length) = true := by simp; exact h2
    clear HS2 h2
    go_wp2
    go_ret
    exact ⟨by rw [HE.out]; rfl, HB2.out⟩
  have HS3 := Lib.hid (HS2.out.trans (if_neg h2))
  have e2 : ((m : Int) != (n.length : Int)) = false := by simp; omega
  have e2n : (m != n.length) = false := by simp; omega
  clear HS2 h2
  go_wp2_with (fail)
  go_loopw [6] (fun i wr => ∃ k : Nat, k ≤ n.length ∧ i = .int .i64 k ∧ Hid (anyInf (n.take k) = false) ∧ Below w.heap.size w wr) (fun i _ => n.length - (intOf i).toNat)
  case atStart => exact ⟨0, by omega, rfl, Lib.hid rfl, HB2.out⟩
  case round =>
    obtain ⟨k, hk, rfl, hf, hb⟩ := hrel
    have HB := Lib.hid hb
    by_cases hlt : k < n.length
    · obtain ⟨ad, hA, hc⟩ := nat_at (HNR.out.below hb) k hlt
      subst hA
      have HT : Hid (anyInf (n.take (k + 1)) = decide (inf ≤ n[k])) := Lib.hid (by
        have := hf.out
        unfold anyInf at this ⊢
        rw [List.take_succ_eq_append_getElem hlt, List.any_append, this]
        simp)
      have HU : Hid (decide (inf ≤ n[k]) = true → sideF l n = 22) := Lib.hid (fun h => by
        rw [HS3.out, if_pos]
        rw [List.any_eq_true]
        exact ⟨n[k], List.getElem_mem _, h⟩)
      obtain ⟨v, hv⟩ : ∃ v, v = n[k] := ⟨_, rfl⟩
      rw [← hv] at hc HT HU
      have HW := Lib.hid (right_calls v)
      cases hd : decide (inf ≤ v) with
      | true =>
        rw [hd] at HW
        have HU' := Lib.hid (HU.out hd)
        clear hv hd HU HT hf hb e2 e2n HS3
        go_wp2_with (go_at_call 116; refine (HW.out _).mono ?_; rintro e w' ⟨rfl, rfl⟩)
        go_ret
        exact ⟨by rw [HU'.out]; rfl, HB.out⟩
      | false =>
        rw [hd] at HW HT
        clear hv hd HU hf hb e2 e2n HS3
        go_wp2_with (go_at_call 116; refine (HW.out _).mono ?_; rintro e w' ⟨rfl, rfl⟩)
        go_roundw
        case rel => exact ⟨k + 1, by omega, by go_num, HT, HB.out⟩
        case measure => simp [intOf]; omega
    · obtain rfl : k = n.length := by omega
      have HE : Hid (sideF l n = 0) := Lib.hid (by
        rw [List.take_length] at hf
        rw [HS3.out, if_neg]
        intro h
        have := hf.out
        unfold anyInf at this
        rw [this] at h
        cases h)
      clear hf hb e2 e2n HS3
      go_wp2
      go_ret
      exact ⟨by rw [HE.out]; rfl, HB.out⟩
set_option maxRecDepth 100000 in
set_option maxHeartbeats 3200000 in
theorem check_calls (h : FH) (p : Lh) (w : World) (hh : FhIn w h p) :
    Calls Tryz.prog 46 #[.agg (fcs h p).toArray] w fun e w' => e = .returned (.int .i64 (errF h)) ∧ Below w.heap.size w w' := by
  obtain ⟨sc, z, zc, cn, su, pos, neg, pc, nc⟩ := h
  obtain ⟨A, c, B, d, C, cc, D, dd⟩ := p
  obtain ⟨hp, hn, hpc, hnc, -⟩ := hh
  simp only at hp hn hpc hnc
  show Calls Tryz.prog 46 #[.agg #[.int .i64 sc, .int .u64 z, .int .u64 zc, .int .u64 cn, .int .u64 su, .slice A pos.length c, .slice B neg.length d, .slice C pc.length cc, .slice D nc.length dd]] w _
  obtain ⟨W0, hW0, hbk, hal⟩ : ∃ W0 : World, W0 = w.alloc (.cells #[.int .i64 sc, .int .u64 z, .int .u64 zc, .int .u64 cn, .int .u64 su, .slice A pos.length c, .slice B neg.length d, .slice C pc.length cc, .slice D nc.length dd] 80) ∧ W0.heap[w.heap.size]? = some (.cells #[.int .i64 sc, .int .u64 z, .int .u64 zc, .int .u64 cn, .int .u64 su, .slice A pos.length c, .slice B neg.length d, .slice C pc.length cc, .slice D nc.length dd] 80 (0, 0)) ∧ Below w.heap.size w W0 := ⟨_, rfl, blk_last w _, below_alloc (Below.refl _ _) _⟩
  have HCEL : Hid (∀ W, Below W0.heap.size W0 W → (W.cell? ⟨w.heap.size, 0, none⟩ = some (.int .i64 sc) ∧ W.cell? ⟨w.heap.size, 1, none⟩ = some (.int .u64 z) ∧ W.cell? ⟨w.heap.size, 2, none⟩ = some (.int .u64 zc) ∧ W.cell? ⟨w.heap.size, 3, none⟩ = some (.int .u64 cn) ∧ W.cell? ⟨w.heap.size, 4, none⟩ = some (.int .u64 su) ∧ W.cell? ⟨w.heap.size, 5, none⟩ = some (.slice A pos.length c) ∧ W.cell? ⟨w.heap.size, 6, none⟩ = some (.slice B neg.length d) ∧ W.cell? ⟨w.heap.size, 7, none⟩ = some (.slice C pc.length cc) ∧ W.cell? ⟨w.heap.size, 8, none⟩ = some (.slice D nc.length dd))) := Lib.hid (fun W h => by
    have hb := (Ch.of_below (S := fun _ => False) h).blk hbk (fun x => x)
    exact ⟨obj_cell hb rfl, obj_cell hb rfl, obj_cell hb rfl, obj_cell hb rfl, obj_cell hb rfl, obj_cell hb rfl, obj_cell hb rfl, obj_cell hb rfl, obj_cell hb rfl⟩)
  have HSP := Lib.hid (fun W (h : Below W0.heap.size W0 W) => side_calls A C c cc pos pc W ((hp.below hal).below h) ((hpc.below hal).below h))
  have HSN := Lib.hid (fun W (h : Below W0.heap.size W0 W) => side_calls B D d dd neg nc W ((hn.below hal).below h) ((hnc.below hal).below h))
  have HZC := Lib.hid (fun W => right_calls zc W)
  have HCN := Lib.hid (fun W => right_calls cn W)
  have HW0 := Lib.hid hW0
  have HB0 := Lib.hid hal
  have HOE := Lib.hid (fun (k : Nat) (he : errF ⟨sc, z, zc, cn, su, pos, neg, pc, nc⟩ = k) W (hb : Below W0.heap.size W0 W) => (⟨by rw [he], below_then hal hal.size hb⟩ : Ending.returned (.int .i64 (k : Int)) = Ending.returned (.int .i64 (errF ⟨sc, z, zc, cn, su, pos, neg, pc, nc⟩)) ∧ Below w.heap.size w W))
  have hEF : errF ⟨sc, z, zc, cn, su, pos, neg, pc, nc⟩ = if sc < -4 ∨ 8 < sc then 21 else if inf ≤ z then 11 else if inf ≤ zc ∨ inf ≤ cn then 22 else if sideF pos pc ≠ 0 then sideF pos pc else sideF neg nc := rfl
  have B0 := Below.refl W0.heap.size W0
  obtain ⟨k0, k1, k2, k3, k4, k5, k6, k7, k8⟩ := HCEL.out _ B0
  clear hp hn hpc hnc hbk hW0 hal
  by_cases h1 : sc < -4
  · have HE := Lib.hid (hEF.trans (if_pos (.inl h1)))
    have d1 : decide (sc < -4) = true := by simpa using h1
    clear hEF
    go_enter Tryz.func46, Tryz.ntmps46
    go_wp2_with (fail)
    rw [← HW0.out]
    go_wp2
    go_ret
    exact HOE.out 21 HE.out _ B0
  have d1 : decide (sc < -4) = false := by simpa using h1
  by_cases h2 : 8 < sc
  · have HE := Lib.hid (hEF.trans (if_pos (.inr h2)))
    have d2 : decide (8 < sc) = true := by simpa using h2
    have d2' : decide (sc > 8) = true := by simpa using h2
    clear hEF
    go_enter Tryz.func46, Tryz.ntmps46
    go_wp2_with (fail)
    rw [← HW0.out]
    go_wp2
    go_ret
    exact HOE.out 21 HE.out _ B0
  have d2 : decide (8 < sc) = false := by simpa using h2
  have d2' : decide (sc > 8) = false := by simpa using h2
  rw [if_neg (show ¬ (sc < -4 ∨ 8 < sc) by omega)] at hEF
  clear h1 h2
  by_cases h3 : inf ≤ z
  · have HE := Lib.hid (hEF.trans (if_pos h3))
    have d3 : decide ((z : Int) ≥ 9218868437227405312) = true := by unfold inf at h3; simp; omega
    have d3' : decide (9218868437227405312 ≤ (z : Int)) = true := by unfold inf at h3; simp; omega
    have d3n : decide (9218868437227405312 ≤ z) = true := by unfold inf at h3; simp; omega
    clear hEF h3
    go_enter Tryz.func46, Tryz.ntmps46
    go_wp2_with (fail)
    rw [← HW0.out]
    go_wp2
    go_ret
    exact HOE.out 11 HE.out _ B0
  have d3 : decide ((z : Int) ≥ 9218868437227405312) = false := by unfold inf at h3; simp; omega
  have d3' : decide (9218868437227405312 ≤ (z : Int)) = false := by unfold inf at h3; simp; omega
  have d3n : decide (9218868437227405312 ≤ z) = false := by unfold inf at h3; simp; omega
  rw [if_neg h3] at hEF
  clear h3
  by_cases h4 : inf ≤ zc
  · have HE := Lib.hid (hEF.trans (if_pos (.inl h4)))
    rw [decide_eq_true h4] at HZC
    clear hEF h4
    go_enter Tryz.func46, Tryz.ntmps46
    go_wp2_with (fail)
    rw [← HW0.out]
    go_wp2_with (first
      | (go_at_call 116; refine (HZC.out _).mono ?_; rintro e w' ⟨rfl, rfl⟩; clear HZC)
      | (go_at_call 116; refine (HCN.out _).mono ?_; rintro e w' ⟨rfl, rfl⟩; clear HCN))
    go_ret
    exact HOE.out 22 HE.out _ B0
  rw [decide_eq_false h4] at HZC
  by_cases h5 : inf ≤ cn
  · have HE := Lib.hid (hEF.trans (if_pos (.inr h5)))
    rw [decide_eq_true h5] at HCN
    clear hEF h4 h5
    go_enter Tryz.func46, Tryz.ntmps46
    go_wp2_with (fail)
    rw [← HW0.out]
    go_wp2_with (first
      | (go_at_call 116; refine (HZC.out _).mono ?_; rintro e w' ⟨rfl, rfl⟩; clear HZC)
      | (go_at_call 116; refine (HCN.out _).mono ?_; rintro e w' ⟨rfl, rfl⟩; clear HCN))
    go_ret
    exact HOE.out 22 HE.out _ B0
  rw [decide_eq_false h5] at HCN
  rw [if_neg (show ¬ (inf ≤ zc ∨ inf ≤ cn) by omega)] at hEF
  have HEF := Lib.hid hEF
  clear h4 h5 hEF
  go_enter Tryz.func46, Tryz.ntmps46
  go_wp2_with (fail)
  rw [← HW0.out]
  go_wp2_with (first
    | (go_at_call 116; refine (HZC.out _).mono ?_; rintro e w' ⟨rfl, rfl⟩; clear HZC)
    | (go_at_call 116; refine (HCN.out _).mono ?_; rintro e w' ⟨rfl, rfl⟩; clear HCN))
  refine (HSP.out _ B0).mono ?_
  rintro e w1 ⟨rfl, hb1⟩
  by_cases h0 : sideF pos pc ≠ 0
  · have HE := Lib.hid (HEF.out.trans (if_pos h0))
    have e1 : ((sideF pos pc : Int) != 0) = true := by simp; exact h0
    have B1 := Lib.hid hb1
    clear hb1 h0
    obtain ⟨k, hk⟩ : ∃ k, k = sideF pos pc := ⟨_, rfl⟩
    rw [← hk] at e1 HE ⊢
    clear hk
    go_wp2
    go_ret
    exact HOE.out k HE.out _ B1.out
  have HE := Lib.hid (HEF.out.trans (if_neg h0))
  rw [show sideF pos pc = 0 by omega]
  have B1 := Lib.hid hb1
  obtain ⟨k0, k1, k2, k3, k4, k5, k6, k7, k8⟩ := HCEL.out _ hb1
  clear hb1 h0
  go_wp2_with (fail)
  refine (HSN.out _ B1.out).mono ?_
  rintro e w2 ⟨rfl, hb2⟩
  have B2 := Lib.hid (below_then B1.out B1.out.size hb2)
  clear hb2
  obtain ⟨k, hk⟩ : ∃ k, k = sideF neg nc := ⟨_, rfl⟩
  rw [← hk] at HE ⊢
  clear hk
  go_wp2
  go_ret
  exact HOE.out k HE.out _ B2.out
end Go.Proofs.YtjfekjbmgckkcaaGreatDoor.Ref10
namespace Go.Proofs.YtjfekjbmgckkcaaGreatDoor.Ref18B
open Go.RowKit Go.Proofs.YtjfekjbmgckkcaaGreatDoorW.PrintWords
open Go.Proofs.YtjfekjbmgckkcaaGreatDoor.Bits Go.Proofs.YtjfekjbmgckkcaaGreatDoor.Base Go.Proofs.YtjfekjbmgckkcaaGreatDoor.VarPure Go.Proofs.YtjfekjbmgckkcaaGreatDoor.VarbitA Go.Proofs.YtjfekjbmgckkcaaGreatDoor.VarKit Go.Proofs.YtjfekjbmgckkcaaGreatDoor.StreamA Go.Proofs.YtjfekjbmgckkcaaGreatDoor.SpanPure Go.Proofs.YtjfekjbmgckkcaaGreatDoor.SpanBase Go.Proofs.YtjfekjbmgckkcaaGreatDoor.FailAs Go.Proofs.YtjfekjbmgckkcaaGreatDoor.FailB Go.Proofs.YtjfekjbmgckkcaaGreatDoor.FailC Go.Proofs.YtjfekjbmgckkcaaGreatDoor.HeadA Go.Proofs.YtjfekjbmgckkcaaGreatDoor.HeadB Go.Proofs.YtjfekjbmgckkcaaGreatDoor.HeadC Go.Proofs.YtjfekjbmgckkcaaGreatDoor.HeadE Go.Proofs.YtjfekjbmgckkcaaGreatDoor.HeadPure Go.Proofs.YtjfekjbmgckkcaaGreatDoor.Ref01 Go.Proofs.YtjfekjbmgckkcaaGreatDoor.Ref12 Go.Proofs.YtjfekjbmgckkcaaGreatDoor.Ref13 Go.Proofs.YtjfekjbmgckkcaaGreatDoor.TimesPure Go.Proofs.YtjfekjbmgckkcaaGreatDoor.TimesA Go.Proofs.YtjfekjbmgckkcaaGreatDoor.XorPure Go.Proofs.YtjfekjbmgckkcaaGreatDoor.XorA Go.Proofs.YtjfekjbmgckkcaaGreatDoor.XorB Go.Proofs.YtjfekjbmgckkcaaGreatDoor.FcPure Go.Proofs.YtjfekjbmgckkcaaGreatDoor.FcObj Go.Proofs.YtjfekjbmgckkcaaGreatDoor.FsArg Go.Proofs.YtjfekjbmgckkcaaGreatDoor.FcC Go.Proofs.YtjfekjbmgckkcaaGreatDoor.FcD Go.Proofs.YtjfekjbmgckkcaaGreatDoor.FcI Go.Proofs.YtjfekjbmgckkcaaGreatDoor.HdArg Go.Proofs.YtjfekjbmgckkcaaGreatDoor.Ref14A Go.Proofs.YtjfekjbmgckkcaaGreatDoor.Ref14B Go.Proofs.YtjfekjbmgckkcaaGreatDoor.Ref18A Go.Proofs.YtjfekjbmgckkcaaGreatDoor.Law18D Go.Proofs.YtjfekjbmgckkcaaGreatDoor.Law14A
theorem enc_le {q : Hd} (he : (headErr q).1 = 0) : (encH q).length ≤ 400000 := by
  obtain ⟨-, -, -, -, -, -, g7, g8⟩ := err_zero he
  have h1 := encSp_le q.pos
  have h2 := encSp_le q.neg
  have h3 := encS_le q.schema
  have h4 := ThrPure.encT_length q.zero
  have h5 := (sides_in g7).1
  have h6 := (sides_in g8).1
  simp only [encH, List.length_append, nb_length]
  omega
set_option maxRecDepth 100000 in
set_option maxHeartbeats 3200000 in
theorem bits_calls (q : Hd) (p : Lc) (X : Option Addr) (cx : Nat) (xs : List FsX) (P N : Nat) (w : World) (hx : HdIn w q p) (he : (headErr q).1 = 0) (h : FsL w X xs) (hc : xs.length ≤ cx) (hcx : cx ≤ 9223372036854775807) (hw : ∀ y ∈ xs, (fsOf y).h.pc.length = P ∧ (fsOf y).h.nc.length = N) (hP : P ≤ 8192) (hN : N ≤ 8192) :
    Calls Tryz.prog 102 #[.agg (hcs q p).toArray, .slice X xs.length cx] w fun e w' => e = .returned (.string (txt (allBits q (xs.map fsOf)))) ∧ Below w.heap.size w w' := by
  obtain ⟨l, hl⟩ : ∃ l, l = xs.map fsOf := ⟨_, rfl⟩
  have hln : l.length = xs.length := by rw [hl, List.length_map]
  have HTX : Hid (txt (allBits q l) = txt (nb l.length 16 ++ encH q ++ bitsB l)) := Lib.hid (by unfold allBits chunkB; rw [List.append_assoc])
  rw [← hl, HTX.out]
  have h64 : ∀ s ∈ l, In64S s := fun s hs => by
    rw [hl] at hs
    obtain ⟨z, hz, rfl⟩ := List.mem_map.1 hs
    exact (h.el z hz).2.2
  have hvl : ∀ s ∈ l, (vals s.h).length ≤ 3 + P + N := fun s hs => by
    rw [hl] at hs
    obtain ⟨z, hz, rfl⟩ := List.mem_map.1 hs
    rw [vals_length, (hw z hz).1, (hw z hz).2]
    omega
  have hle := h.len
  have HSZ : Hid (∀ k, k ≤ l.length → (txt (nb l.length 16 ++ encH q ++ bitsB (l.take k))).size ≤ 2000000000) := Lib.hid (fun k hk => by
    have h1 := enc_le he
    have h2 := bitsB_le (m := 3 + P + N) (l.take k) (fun s hs => h64 s (List.mem_of_mem_take hs)) (fun s hs => hvl s (List.mem_of_mem_take hs))
    rw [List.length_take, Nat.min_eq_left hk] at h2
    have h3 : k * (72 + 77 * (3 + P + N)) ≤ 1000 * (72 + 77 * (3 + P + N)) := Nat.mul_le_mul_right _ (by omega)
    rw [txt_size, List.length_append, List.length_append, nb_length]
    omega)
  have HLS : Hid (∀ k, (hk : k < xs.length) → (txt (lastB (l.take k) (fsOf xs[k]))).size ≤ 2000000) := Lib.hid (fun k hk => by
    rw [txt_size]
    have hm : fsOf xs[k] ∈ l := by rw [hl]; exact List.mem_map_of_mem (List.getElem_mem hk)
    have h1 := lastB_le (l := l.take k) (s := fsOf xs[k]) (fun s hs => h64 s (List.mem_of_mem_take hs)) (h64 _ hm)
    have h2 := hvl _ hm
    omega)
  have HBS : Hid (∀ k, (hk : k < xs.length) → bitsB (l.take (k + 1)) = bitsB (l.take k) ++ lastB (l.take k) (fsOf xs[k])) := Lib.hid (fun k hk => by
    rw [List.take_succ_eq_append_getElem (by rw [hln]; exact hk), bitsB_snoc]
    congr 2
    simp only [hl, List.getElem_map])
  have HLC : Hid (∀ W, Below w.heap.size w W → ∀ k, (hk : k < xs.length) → Calls Tryz.prog 167 #[.slice X (k + 1 : Nat) cx] W fun e w' => e = .returned (.string (txt (lastB (l.take k) (fsOf xs[k])))) ∧ Below w.heap.size w w') := Lib.hid (fun W hb k hk => by
    have hf := (h.below hb).take (k + 1)
    rw [List.take_succ_eq_append_getElem hk] at hf
    have := last_calls X cx (xs.take k) xs[k] P N W hf (fun y hy => by
      rcases List.mem_append.1 hy with hy | hy
      · exact hw y (List.mem_of_mem_take hy)
      · rw [List.mem_singleton.1 hy]; exact hw _ (List.getElem_mem hk)) hP hN
    rw [show ((xs.take k).length + 1 : Nat) = k + 1 from by rw [List.length_take]; omega] at this
    refine this.mono ?_
    rintro e w' ⟨rfl, hb'⟩
    exact ⟨by rw [hl, List.map_take], below_then hb hb.size hb'⟩)
  have HB := Lib.hid (fun W (h : Below w.heap.size w W) => Bits14_calls q p W (hx.below h) he)
  obtain ⟨n, hn⟩ : ∃ n, n = xs.length := ⟨_, rfl⟩
  have hnl : l.length = n := by omega
  rw [hnl] at HSZ ⊢
  have hn1000 : n ≤ 1000 := by omega
  have HNU : Hid (∀ W, Calls Tryz.prog 80 #[.int .u64 n, .int .i64 16] W fun e w' => e = .returned (.string (txt (nb n 16))) ∧ W = w') := Lib.hid (fun W => number_calls n 16 W (by omega) (by decide))
  have hu := wrap_u64n (n := n) (by omega)
  have hXA : n ≠ 0 → ∃ ad, X = some ad := fun h0 => by
    obtain ⟨ad, hA, -⟩ := h.elem 0 (by omega)
    exact ⟨ad, hA⟩
  have HXA := Lib.hid hXA
  have HT0 : Hid (txt (nb n 16 ++ encH q ++ bitsB (l.take 0)) = txt (nb n 16) ++ txt (encH q)) := Lib.hid (by
    rw [List.take_zero, bitsB_nil, List.append_nil, txt_append])
  have z1 : (txt (nb n 16)).size ≤ 16 := by rw [txt_size, nb_length]; omega
  have z2 : (txt (encH q)).size ≤ 400000 := by rw [txt_size]; exact enc_le he
  rw [← hn]
  rw [← hn] at hc
  have HN2 := Lib.hid hn
  have HCX := Lib.hid hcx
  obtain ⟨sN, hsN⟩ : ∃ s, s = txt (nb n 16) := ⟨_, rfl⟩
  obtain ⟨sE, hsE⟩ : ∃ s, s = txt (encH q) := ⟨_, rfl⟩
  rw [← hsN] at z1 HNU HT0
  rw [← hsE] at z2 HB HT0
  have n1 : ¬ (9223372036854775807 < sN.size + sE.size) := by omega
  have HNL := Lib.hid hnl
  obtain ⟨F, hF⟩ : ∃ F : Nat → ByteArray, F = fun k => txt (nb n 16 ++ encH q ++ bitsB (l.take k)) := ⟨_, rfl⟩
  have HF0 : Hid (F 0 = sN ++ sE) := Lib.hid (by rw [hF]; exact HT0.out)
  have HFS : Hid (∀ k, (hk : k < xs.length) → F (k + 1) = F k ++ txt (lastB (l.take k) (fsOf xs[k]))) := Lib.hid (fun k hk => by
    rw [hF]
    show txt _ = txt _ ++ txt _
    rw [HBS.out k hk, ← txt_append, List.append_assoc, List.append_assoc, List.append_assoc])
  have HFZ : Hid (∀ k, k ≤ n → (F k).size ≤ 2000000000) := Lib.hid (fun k hk => by rw [hF]; exact HSZ.out k hk)
  have HFN : Hid (txt (nb n 16 ++ encH q ++ bitsB l) = F n) := Lib.hid (by
    rw [hF]
    show _ = txt (_ ++ _ ++ bitsB (l.take n))
    rw [List.take_of_length_le (by rw [HNL.out]; exact Nat.le_refl _)])
  rw [HFN.out]
  obtain ⟨vr, hint, schema, zt, pos, neg⟩ := q
  obtain ⟨A, c, B, d⟩ := p
  obtain ⟨W0, hW0, hbk, hal⟩ : ∃ W : World, W = w.alloc (.cells #[.int .i64 vr, .int .i64 hint, .int .i64 schema, .int .u64 zt, .slice A pos.length c, .slice B neg.length d] 41) ∧ W.heap[w.heap.size]? = some (.cells #[.int .i64 vr, .int .i64 hint, .int .i64 schema, .int .u64 zt, .slice A pos.length c, .slice B neg.length d] 41 (0, 0)) ∧ Below w.heap.size w W := ⟨_, rfl, blk_last w _, below_alloc (Below.refl _ _) _⟩
  have HS : Hid (∀ W : World, Below W0.heap.size W0 W → (Below W0.heap.size W0 W ∧ W.cell? ⟨w.heap.size, 0, none⟩ = some (.int .i64 vr) ∧ W.cell? ⟨w.heap.size, 1, none⟩ = some (.int .i64 hint) ∧ W.cell? ⟨w.heap.size, 2, none⟩ = some (.int .i64 schema) ∧ W.cell? ⟨w.heap.size, 3, none⟩ = some (.int .u64 zt) ∧ W.cell? ⟨w.heap.size, 4, none⟩ = some (.slice A pos.length c) ∧ W.cell? ⟨w.heap.size, 5, none⟩ = some (.slice B neg.length d))) := Lib.hid (fun W h => by
    have hb := (h.block _ (blk_lt hbk)).trans hbk
    exact ⟨h, obj_cell hb rfl, obj_cell hb rfl, obj_cell hb rfl, obj_cell hb rfl, obj_cell hb rfl, obj_cell hb rfl⟩)
  have HB : Hid (∀ W, Below W0.heap.size W0 W → Calls Tryz.prog 23 #[.agg #[.int .i64 vr, .int .i64 hint, .int .i64 schema, .int .u64 zt, .slice A pos.length c, .slice B neg.length d]] W fun e w' => e = .returned (.string sE) ∧ Below W0.heap.size W0 w') := Lib.hid (fun W h => lift h h.size (HB.out W (below_then hal hal.size h)))
  have HW0 := Lib.hid hW0
  have HAL := Lib.hid hal
  have hs0 := HS.out W0 (Below.refl _ _)
  clear hx he hsN hsE hbk hal hW0 z1 z2 HTX HSZ HBS hw hP hN h64 hvl h hF hXA hln hn hcx hnl hle hl
  show Calls Tryz.prog 102 #[.agg #[.int .i64 vr, .int .i64 hint, .int .i64 schema, .int .u64 zt, .slice A pos.length c, .slice B neg.length d], .slice X n cx] w _
  go_enter Tryz.func102, Tryz.ntmps102
  go_wp2_with (fail)
  rw [← HW0.out]
  go_region_held3 (fun W => Below W0.heap.size W0 W ∧ W.cell? ⟨w.heap.size, 0, none⟩ = some (.int .i64 vr) ∧ W.cell? ⟨w.heap.size, 1, none⟩ = some (.int .i64 hint) ∧ W.cell? ⟨w.heap.size, 2, none⟩ = some (.int .i64 schema) ∧ W.cell? ⟨w.heap.size, 3, none⟩ = some (.int .u64 zt) ∧ W.cell? ⟨w.heap.size, 4, none⟩ = some (.slice A pos.length c) ∧ W.cell? ⟨w.heap.size, 5, none⟩ = some (.slice B neg.length d))
    (first | (with_reducible exact HS.out _ (below_drew (Below.refl _ _))) | (with_reducible exact HS.out _ hb2) | assumption)
    (first
    | (go_at_call 80; refine (HNU.out _).mono ?_; rintro e w1 ⟨rfl, rfl⟩)
    | (go_at_call 23; refine (HB.out _ (And.left (by assumption))).mono ?_; rintro e w2 ⟨rfl, hb2⟩; have hs2 := HS.out _ hb2))
  have B2 := Lib.hid (below_then HAL.out HAL.out.size hb2)
  clear hb2 hs2 hs0
  rw [← HF0.out]
  go_wp2
  go_loopw [5, 6] (fun t i wr => ∃ k : Nat, k ≤ n ∧ i = .int .i64 k ∧ t = .string (F k) ∧ Hid (Below w.heap.size w wr)) (fun _ i _ => n - (intOf i).toNat)
  case atStart => exact ⟨0, by omega, rfl, rfl, B2⟩
  case round =>
    obtain ⟨k, hk, rfl, rfl, HBK⟩ := hrel
    by_cases hlt : k < n
    · have hkx : k < xs.length := by rw [← HN2.out]; exact hlt
      obtain ⟨ad, hA⟩ := HXA.out (by omega)
      subst hA
      have HL := Lib.hid (HLC.out _ HBK.out k hkx)
      have HFK := Lib.hid (HFS.out k hkx)
      have hz := HLS.out k hkx
      have hz2 := HFZ.out k (by omega)
      go_wp2_with (fail)
      refine HL.out.mono ?_
      rintro e w3 ⟨rfl, hb3⟩
      have B3 := Lib.hid hb3
      clear hb3
      go_wp2_with (fail)
      go_roundw
      case rel => exact ⟨k + 1, by omega, by go_num, by rw [HFK.out], B3⟩
      case measure => simp [intOf]; omega
    · obtain rfl : k = n := by omega
      go_wp2
      go_ret
      exact ⟨rfl, HBK.out⟩
end Go.Proofs.YtjfekjbmgckkcaaGreatDoor.Ref18B
