/- what HeadChecks stands on, part 6: Law14D, HeadLaid, HeadChecks. -/
import Derived.Test.YtjfekjbmgckkcaaDoorPartHeadChecksE
import Derived.Test.YtjfekjbmgckkcaaDoorPartHeadChecksC
import Derived.Test.YtjfekjbmgckkcaaDoorPartHeadChecksB
import Derived.Test.YtjfekjbmgckkcaaDoorRows
import Derived.LaidMore
import Derived.Lib.LaidTab
import Derived.Stop.LaidErr
import Derived.Test.YtjfekjbmgckkcaaDoorPartHeadChecksA

/- law 14: a head as the document has it. -/
namespace Go.Proofs.YtjfekjbmgckkcaaDoor.Law14D
open Go.RowKit Go.Proofs.YtjfekjbmgckkcaaDoorW.PrintWords
open Go.Proofs.YtjfekjbmgckkcaaDoor.Bits Go.Proofs.YtjfekjbmgckkcaaDoor.Base Go.Proofs.YtjfekjbmgckkcaaDoor.VarKit Go.Proofs.YtjfekjbmgckkcaaDoor.StreamA Go.Proofs.YtjfekjbmgckkcaaDoor.SpanPure Go.Proofs.YtjfekjbmgckkcaaDoor.SpanBase Go.Proofs.YtjfekjbmgckkcaaDoor.HeadA Go.Proofs.YtjfekjbmgckkcaaDoor.HeadB Go.Proofs.YtjfekjbmgckkcaaDoor.HeadL Go.Proofs.YtjfekjbmgckkcaaDoor.Ref12 Go.Proofs.YtjfekjbmgckkcaaDoor.Law14A

/-- what stands while a head is told anew. -/
structure St (w : World) (o : Obj) (W : World) : Prop where
  b : Below w.heap.size w W
  o : W.heap[w.heap.size]? = some o
  z : ∃ cs : Array Value, cs.size = 6 ∧ W.heap[w.heap.size + 1]? = some (.cells cs 50 (0, 0))
theorem St.drew {w W : World} {o : Obj} (h : St w o W) : St w o W.drew := ⟨below_drew h.b, h.o, h.z⟩
theorem St.six {w W : World} {o : Obj} (h : St w o W) (v0 v1 v2 v3 v4 v5 : Value) : St w o (six W (w.heap.size + 1) v0 v1 v2 v3 v4 v5) :=
  ⟨(((((h.b.setCell (Nat.le_succ _) v0).setCell (Nat.le_succ _) v1).setCell (Nat.le_succ _) v2).setCell (Nat.le_succ _) v3).setCell (Nat.le_succ _) v4).setCell (Nat.le_succ _) v5,
    (six_ch W (w.heap.size + 1) v0 v1 v2 v3 v4 v5).blk h.o (by omega), by
    obtain ⟨cs, hs, hz⟩ := h.z
    exact ⟨_, by simpa using hs, blk_set (blk_set (blk_set (blk_set (blk_set (blk_set hz 0 v0) 1 v1) 2 v2) 3 v3) 4 v4) 5 v5⟩⟩
theorem St.below {w W W2 : World} {o : Obj} (h : St w o W) (hb : Below W.heap.size W W2) : St w o W2 :=
  ⟨below_then h.b h.b.size hb, (Ch.of_below (S := fun _ => False) hb).blk h.o (fun x => x), by
    obtain ⟨cs, hs, hz⟩ := h.z
    exact ⟨cs, hs, (Ch.of_below (S := fun _ => False) hb).blk hz (fun x => x)⟩⟩
theorem St.free {w W : World} {o : Obj} (h : St w o W) : ∃ u0 u1 u2 u3 u4 u5 : Value, (W.frozen? ⟨w.heap.size + 1, 0, none⟩ = false ∧ W.frozen? ⟨w.heap.size + 1, 1, none⟩ = false ∧ W.frozen? ⟨w.heap.size + 1, 2, none⟩ = false ∧ W.frozen? ⟨w.heap.size + 1, 3, none⟩ = false ∧ W.frozen? ⟨w.heap.size + 1, 4, none⟩ = false ∧ W.frozen? ⟨w.heap.size + 1, 5, none⟩ = false) ∧
    (W.cell? ⟨w.heap.size + 1, 0, none⟩ = some u0 ∧ W.cell? ⟨w.heap.size + 1, 1, none⟩ = some u1 ∧ W.cell? ⟨w.heap.size + 1, 2, none⟩ = some u2 ∧ W.cell? ⟨w.heap.size + 1, 3, none⟩ = some u3 ∧ W.cell? ⟨w.heap.size + 1, 4, none⟩ = some u4 ∧ W.cell? ⟨w.heap.size + 1, 5, none⟩ = some u5) := by
  obtain ⟨cs, hs, hz⟩ := h.z
  have hc : ∀ i, i < 6 → cs[i]? = some (cs.getD i undef) := fun i hi => by simp [Array.getD, hs, hi]
  exact ⟨_, _, _, _, _, _, ⟨obj_free hz, obj_free hz, obj_free hz, obj_free hz, obj_free hz, obj_free hz⟩, ⟨obj_cell hz (hc 0 (by decide)), obj_cell hz (hc 1 (by decide)), obj_cell hz (hc 2 (by decide)), obj_cell hz (hc 3 (by decide)), obj_cell hz (hc 4 (by decide)), obj_cell hz (hc 5 (by decide))⟩⟩
theorem sps_any {S : Nat → Prop} {e base : Nat} {w w1 : World} {v : Value} {l : List Sp} (h : OwSp e w base v l) (hc : Ch S w w1) (hS : ∀ k, S k → k < base) : OwSp e w1 base v l :=
  h.move fun g hg => hc.block g (h.lt_ g hg) fun hs => Nat.lt_irrefl _ (Nat.lt_of_lt_of_le (hS g hs) (h.base_ g hg))
theorem spl_any {w : World} {base : Nat} {e : Nat} {A : Option Addr} {n c : Nat} {l : List Sp} (h : OwSp e w base (.slice A n c) l) (hl : l.length ≤ 1000000) : Spl w A c l := by
  obtain ⟨A', c', he, h1, h2, h3⟩ := h.reads
  injection he with e1 e2 e3
  subst e1 e3
  exact ⟨h3, hl, h1, h2⟩
set_option maxRecDepth 100000 in
set_option maxHeartbeats 3200000 in
theorem ref_calls (h : Hd) (p : Lc) (w : World) (hh : HdIn w h p) :
    Calls Tryd.prog 18 #[.agg (hcs h p).toArray] w fun e w' => ∃ r : Lc, e = .returned (.agg (hcs h r).toArray) ∧ HdIn w' h r ∧ Below w.heap.size w w' := by
  obtain ⟨vr, hint, schema, zt, pos, neg⟩ := h
  obtain ⟨A, c, B, d⟩ := p
  obtain ⟨hp, hn, hz⟩ := hh
  simp only at hp hn hz
  show Calls Tryd.prog 18 #[.agg #[.int .i64 vr, .int .i64 hint, .int .i64 schema, .int .u64 zt, .slice A pos.length c, .slice B neg.length d]] w _
  obtain ⟨o0, ho0, hs0⟩ : ∃ o : Obj, o = (.cells #[.int .i64 vr, .int .i64 hint, .int .i64 schema, .int .u64 zt, .slice A pos.length c, .slice B neg.length d] 34 (0, 0)) ∧ St w o ((w.alloc (.cells #[.int .i64 vr, .int .i64 hint, .int .i64 schema, .int .u64 zt, .slice A pos.length c, .slice B neg.length d] 34)).alloc (.cells #[.int .i64 0, .int .i64 0, .int .i64 0, .int .u64 0, .slice none 0 0, .slice none 0 0] 50)) := ⟨_, rfl, ⟨below_alloc (below_alloc (Below.refl _ _) _) _, (Below.heap_alloc (w.alloc (.cells #[.int .i64 vr, .int .i64 hint, .int .i64 schema, .int .u64 zt, .slice A pos.length c, .slice B neg.length d] 34)) (.cells #[.int .i64 0, .int .i64 0, .int .i64 0, .int .u64 0, .slice none 0 0, .slice none 0 0] 50) w.heap.size (blk_lt (blk_last w _))).trans (blk_last w _), ⟨_, rfl, by
    have := blk_last (w.alloc (.cells #[.int .i64 vr, .int .i64 hint, .int .i64 schema, .int .u64 zt, .slice A pos.length c, .slice B neg.length d] 34)) (.cells #[.int .i64 0, .int .i64 0, .int .i64 0, .int .u64 0, .slice none 0 0, .slice none 0 0] 50)
    rwa [show (w.alloc (.cells #[.int .i64 vr, .int .i64 hint, .int .i64 schema, .int .u64 zt, .slice A pos.length c, .slice B neg.length d] 34)).heap.size = w.heap.size + 1 from by simp] at this⟩⟩⟩
  have HSF : Hid (∀ W, St w (.cells #[.int .i64 vr, .int .i64 hint, .int .i64 schema, .int .u64 zt, .slice A pos.length c, .slice B neg.length d] 34 (0, 0)) W → (St w (.cells #[.int .i64 vr, .int .i64 hint, .int .i64 schema, .int .u64 zt, .slice A pos.length c, .slice B neg.length d] 34 (0, 0)) W ∧ W.cell? ⟨w.heap.size, 0, none⟩ = some (.int .i64 vr) ∧ W.cell? ⟨w.heap.size, 1, none⟩ = some (.int .i64 hint) ∧ W.cell? ⟨w.heap.size, 2, none⟩ = some (.int .i64 schema) ∧ W.cell? ⟨w.heap.size, 3, none⟩ = some (.int .u64 zt) ∧ W.cell? ⟨w.heap.size, 4, none⟩ = some (.slice A pos.length c) ∧ W.cell? ⟨w.heap.size, 5, none⟩ = some (.slice B neg.length d))) := Lib.hid (fun W h => ⟨h, obj_cell h.o rfl, obj_cell h.o rfl, obj_cell h.o rfl, obj_cell h.o rfl, obj_cell h.o rfl, obj_cell h.o rfl⟩)
  rw [← ho0] at HSF
  have HPN : Hid (∀ (A' : Option Addr) (c' : Nat) (l : List Sp) W, St w o0 W → Spl w A' c' l → Calls Tryd.prog 39 #[.slice A' l.length c'] W fun e w' =>
      ∃ v, e = .returned v ∧ OwSp 108 w' W.heap.size v l ∧ Below W.heap.size W w' ∧ St w o0 w') := Lib.hid (by
    intro A' c' l W hb hl
    refine (spans_calls _ _ l W (hl.below hb.b).rd hl.len).mono ?_
    rintro e w' ⟨v, he, hw, hb'⟩
    exact ⟨v, he, hw, hb', hb.below hb'⟩)
  have HS0 := Lib.hid hs0
  have HZ := Lib.hid hz
  have HPS := Lib.hid hp
  have HNS := Lib.hid hn
  clear hp hn hz ho0 hs0
  go_enter Tryd.func18, Tryd.ntmps18
  go_wp2_with (fail)
  go_region_held3 (fun W => St w o0 W ∧ W.cell? ⟨w.heap.size, 0, none⟩ = some (.int .i64 vr) ∧ W.cell? ⟨w.heap.size, 1, none⟩ = some (.int .i64 hint) ∧ W.cell? ⟨w.heap.size, 2, none⟩ = some (.int .i64 schema) ∧ W.cell? ⟨w.heap.size, 3, none⟩ = some (.int .u64 zt) ∧ W.cell? ⟨w.heap.size, 4, none⟩ = some (.slice A pos.length c) ∧ W.cell? ⟨w.heap.size, 5, none⟩ = some (.slice B neg.length d))
    (first | (with_reducible exact HSF.out _ (St.drew HS0.out)) | (with_reducible exact HSF.out _ hst2) | (with_reducible exact HSF.out _ hst1) | (exact HSF.out _ (St.six hst2 _ _ _ _ _ _)))
    (first
    | (go_at_call 39; (with_reducible show Calls _ _ #[Value.slice A pos.length c] _ _); refine (HPN.out _ _ _ _ (And.left (by assumption)) HPS.out).mono ?_; rintro e w2 ⟨v1, rfl, ho1, hb1, hst1⟩; obtain ⟨A1, c1, rfl, -, -, -⟩ := ho1.reads; have hS1 := HSF.out _ hst1)
    | (go_at_call 39; refine (HPN.out _ _ _ _ (And.left (by assumption)) HNS.out).mono ?_; rintro e w3 ⟨v2, rfl, ho2, hb2, hst2⟩; obtain ⟨A2, c2, rfl, -, -, -⟩ := ho2.reads; have hS2 := HSF.out _ hst2; obtain ⟨u0, u1, u2, u3, u4, u5, ⟨f0, f1, f2, f3, f4, f5⟩, ⟨e0, e1, e2, e3, e4, e5⟩⟩ := hst2.free))
  have h6 := (St.six hst2 (.int .i64 vr) (.int .i64 hint) (.int .i64 schema) (.int .u64 zt) (.slice A1 pos.length c1) (.slice A2 neg.length c2)).b
  have hx := six_ch w3 (w.heap.size + 1) (.int .i64 vr) (.int .i64 hint) (.int .i64 schema) (.int .u64 zt) (.slice A1 pos.length c1) (.slice A2 neg.length c2)
  have hst1s := hst1.b.size
  have q1 := sps_any (ho1.below hb2) hx (fun k hk => by rw [hk]; simp)
  have q2 := sps_any ho2 hx (fun k hk => by rw [hk]; obtain ⟨cs, -, hz⟩ := hst1.z; exact blk_lt hz)
  have H6 := Lib.hid h6
  have Q1 := Lib.hid q1
  have Q2 := Lib.hid q2
  clear h6 hx q1 q2 ho1 ho2 hb1 hb2 hS1 hS2 hst1 hst2 hst1s
  go_wp2
  refine bodyPost_ret (v := .agg #[.int .i64 vr, .int .i64 hint, .int .i64 schema, .int .u64 zt, .slice A1 pos.length c1, .slice A2 neg.length c2]) (by rw [results_cell1 rfl]; go_simp) rfl ?_
  exact ⟨⟨A1, c1, A2, c2⟩, rfl, ⟨spl_any Q1.out HPS.out.len, spl_any Q2.out HNS.out.len, HZ.out⟩, H6.out⟩
end Go.Proofs.YtjfekjbmgckkcaaDoor.Law14D

/- what head asks of the world, out of the row's condition. -/
namespace Go.Proofs.YtjfekjbmgckkcaaDoor.HeadLaid
open Go.RowKit Go.Proofs.YtjfekjbmgckkcaaDoorW.PrintWords
open Go.Proofs.YtjfekjbmgckkcaaDoor.Base Go.Proofs.YtjfekjbmgckkcaaDoor.VarPure Go.Proofs.YtjfekjbmgckkcaaDoor.VarbitA Go.Proofs.YtjfekjbmgckkcaaDoor.FailAs Go.Proofs.YtjfekjbmgckkcaaDoor.FailD

abbrev laidAll : List (String × DataW Unit) := [("errors.errorType", Rows.laid_errors_errorType), ("tidepole/varbit.behinds", Rows.laid_tidepole_varbit_behinds)]
theorem rt : (Tryd.prog.cutTypes.find? (·.1 == "internal/reflectlite.rtype")).map (·.2) = some 130 := by kernel_rfl
theorem gEt : Tryd.prog.globalNamed "errors.errorType" = some 0 := by kernel_rfl
theorem oneRow : ((List.range 174).filter fun t => Tryd.prog.rowNamed t [101, 114, 114, 111, 114]) = [36] := by kernel_rfl
theorem tySize : Tryd.prog.types.size = 174 := by kernel_rfl
theorem split_laid (w : World) : laidMetH Tryd.prog laidAll w = (laidMet Tryd.prog [("tidepole/varbit.behinds", Rows.laid_tidepole_varbit_behinds)] w ∧ handlesMet Tryd.prog [("errors.errorType", Rows.laid_errors_errorType)] w) := by kernel_rfl
theorem handle_of {w : World} (h : handlesMet Tryd.prog [("errors.errorType", Rows.laid_errors_errorType)] w) : GlE w := by
  have h1 : ∃ name u ty, (Rows.laid_errors_errorType (H := Unit)).handleName? = some name ∧ (Tryd.prog.cutTypes.find? (·.1 == "internal/reflectlite.rtype")).map (·.2) = some u ∧ ty < Tryd.prog.types.size ∧ Tryd.prog.rowNamed ty name = true ∧ w.var? Tryd.prog "errors.errorType" = some #[.iface u (.agg #[typeHandle Tryd.prog ty])] := h _ (List.mem_singleton.2 rfl)
  obtain ⟨name, u, ty, e1, e2, e3, e4, e5⟩ := h1
  have en : name = [101, 114, 114, 111, 114] := (Option.some.inj e1).symm
  subst en
  obtain rfl := Option.some.inj (rt.symm.trans e2)
  have hm : ty ∈ (List.range 174).filter fun t => Tryd.prog.rowNamed t [101, 114, 114, 111, 114] := List.mem_filter.2 ⟨List.mem_range.2 (by rw [← tySize]; exact e3), e4⟩
  rw [oneRow] at hm
  obtain rfl := List.mem_singleton.1 hm
  have hh : typeHandle Tryd.prog 36 = .pointer (some ⟨2, 36, none⟩) := by kernel_rfl
  rw [hh] at e5
  simpa [GlE] using World.var?_cell gEt e5 0
theorem tab_met {w : World} (h2 : laidMet Tryd.prog [("tidepole/varbit.behinds", Lib.tabData .i64 ([0, 3, 6, 9, 12, 18, 25, 56, 64].map Int.ofNat))] w) : Tab w := by
  have hv := Lib.tabIs_of_head gTab tTab Tryd.underlying143 Tryd.underlying3 cEl cTab h2
  intro j hj
  have := World.var?_cell gTab hv j
  rw [this]
  have : j = 0 ∨ j = 1 ∨ j = 2 ∨ j = 3 ∨ j = 4 ∨ j = 5 ∨ j = 6 ∨ j = 7 ∨ j = 8 := by omega
  rcases this with rfl | rfl | rfl | rfl | rfl | rfl | rfl | rfl | rfl <;> rfl
theorem of_laid {w : World} (h : laidMetH Tryd.prog laidAll w) : Tab w ∧ GlE w := by
  rw [split_laid] at h
  exact ⟨tab_met h.1, handle_of h.2⟩
theorem wf_in {n : Int} (h : (Lit.int .i64 n).wf = true) : -9223372036854775808 ≤ n ∧ n ≤ 9223372036854775807 := by
  simp [Lit.wf, IntKind.min, IntKind.max, IntKind.bits, IntKind.signed] at h
  omega
end Go.Proofs.YtjfekjbmgckkcaaDoor.HeadLaid

/- law 14: any head is right just if the document says so, or the first thing that is wrong is told, with its place. -/
namespace Go.Proofs.YtjfekjbmgckkcaaDoor.HeadChecks
open Go.RowKit Go.Proofs.YtjfekjbmgckkcaaDoorW.PrintWords
open Go.Proofs.YtjfekjbmgckkcaaDoor.Bits Go.Proofs.YtjfekjbmgckkcaaDoor.Base Go.Proofs.YtjfekjbmgckkcaaDoor.VarPure Go.Proofs.YtjfekjbmgckkcaaDoor.VarbitA Go.Proofs.YtjfekjbmgckkcaaDoor.VarKit Go.Proofs.YtjfekjbmgckkcaaDoor.StreamA Go.Proofs.YtjfekjbmgckkcaaDoor.SpanPure Go.Proofs.YtjfekjbmgckkcaaDoor.SpanBase Go.Proofs.YtjfekjbmgckkcaaDoor.FailAs Go.Proofs.YtjfekjbmgckkcaaDoor.FailB Go.Proofs.YtjfekjbmgckkcaaDoor.FailC Go.Proofs.YtjfekjbmgckkcaaDoor.HeadA Go.Proofs.YtjfekjbmgckkcaaDoor.HeadB Go.Proofs.YtjfekjbmgckkcaaDoor.HeadC Go.Proofs.YtjfekjbmgckkcaaDoor.HeadE Go.Proofs.YtjfekjbmgckkcaaDoor.HeadJ Go.Proofs.YtjfekjbmgckkcaaDoor.Ref14A Go.Proofs.YtjfekjbmgckkcaaDoor.Law14A Go.Proofs.YtjfekjbmgckkcaaDoor.Law14B Go.Proofs.YtjfekjbmgckkcaaDoor.Law14C Go.Proofs.YtjfekjbmgckkcaaDoor.Law14D Go.Proofs.YtjfekjbmgckkcaaDoor.HeadLaid Go.Proofs.YtjfekjbmgckkcaaDoor.LawBase

/-- a head that came in. -/
structure HdRd (w : World) (h : Hd) (p : Lc) : Prop where
  pos : RdSp w p.A h.pos
  neg : RdSp w p.B h.neg
  lp : h.pos.length ≤ 9223372036854775807
  ln : h.neg.length ≤ 9223372036854775807
theorem HdRd.below {w W : World} {h : Hd} {p : Lc} (x : HdRd w h p) (hb : Below w.heap.size w W) : HdRd W h p := ⟨x.pos.below hb, x.neg.below hb, x.lp, x.ln⟩
/-- both arguments stand. -/
structure Sx (w : World) (o1 o2 : Obj) (W : World) : Prop where
  b : Below w.heap.size w W
  o1 : W.heap[w.heap.size]? = some o1
  o2 : W.heap[w.heap.size + 1]? = some o2
theorem Sx.drew {w W : World} {o1 o2 : Obj} (h : Sx w o1 o2 W) : Sx w o1 o2 W.drew := ⟨below_drew h.b, h.o1, h.o2⟩
theorem Sx.below {w W W2 : World} {o1 o2 : Obj} (h : Sx w o1 o2 W) (hb : Below W.heap.size W W2) : Sx w o1 o2 W2 :=
  ⟨below_then h.b h.b.size hb, (Ch.of_below (S := fun _ => False) hb).blk h.o1 (fun x => x), (Ch.of_below (S := fun _ => False) hb).blk h.o2 (fun x => x)⟩
theorem Sx.start (w : World) (cs1 cs2 : Array Value) (t1 t2 : Nat) : Sx w (.cells cs1 t1 (0, 0)) (.cells cs2 t2 (0, 0)) ((w.alloc (.cells cs1 t1)).alloc (.cells cs2 t2)) :=
  ⟨below_alloc (below_alloc (Below.refl _ _) _) _, (Below.heap_alloc (w.alloc (.cells cs1 t1)) (.cells cs2 t2) w.heap.size (blk_lt (blk_last w _))).trans (blk_last w _), by
    have := blk_last (w.alloc (.cells cs1 t1)) (.cells cs2 t2)
    rwa [show (w.alloc (.cells cs1 t1)).heap.size = w.heap.size + 1 from by simp] at this⟩

set_option maxRecDepth 100000 in
set_option maxHeartbeats 3200000 in
theorem narrow (x y : Hd) (p r : Lc) (w : World) (hT : Tab w) (hE : GlE w) (hx : HdRd w x p) (hy : HdRd w y r) (hf : few x.pos = false ∨ (few x.pos = true ∧ few x.neg = false) ∨ (few x.pos = true ∧ few x.neg = true ∧ few y.pos = false) ∨ (few x.pos = true ∧ few x.neg = true ∧ few y.pos = true ∧ few y.neg = false)) :
    Calls Tryd.prog 4 #[.agg (hcs x p).toArray, .agg (hcs y r).toArray] w fun e w' => e = .returned (.bool true) ∧ Below w.heap.size w w' := by
  obtain ⟨v1, i1, s1, z1, l1, m1⟩ := x
  obtain ⟨v2, i2, s2, z2, l2, m2⟩ := y
  obtain ⟨A, c, B, d⟩ := p
  obtain ⟨A', c', B', d'⟩ := r
  simp only at hf
  show Calls Tryd.prog 4 #[.agg #[.int .i64 v1, .int .i64 i1, .int .i64 s1, .int .u64 z1, .slice A l1.length c, .slice B m1.length d], .agg #[.int .i64 v2, .int .i64 i2, .int .i64 s2, .int .u64 z2, .slice A' l2.length c', .slice B' m2.length d']] w _
  obtain ⟨o1, o2, ho1, ho2, hs0⟩ : ∃ o1 o2 : Obj, o1 = (.cells #[.int .i64 v1, .int .i64 i1, .int .i64 s1, .int .u64 z1, .slice A l1.length c, .slice B m1.length d] 34 (0, 0)) ∧ o2 = (.cells #[.int .i64 v2, .int .i64 i2, .int .i64 s2, .int .u64 z2, .slice A' l2.length c', .slice B' m2.length d'] 34 (0, 0)) ∧ Sx w o1 o2 ((w.alloc (.cells #[.int .i64 v1, .int .i64 i1, .int .i64 s1, .int .u64 z1, .slice A l1.length c, .slice B m1.length d] 34)).alloc (.cells #[.int .i64 v2, .int .i64 i2, .int .i64 s2, .int .u64 z2, .slice A' l2.length c', .slice B' m2.length d'] 34)) := ⟨_, _, rfl, rfl, Sx.start w _ _ _ _⟩
  have HSF : Hid (∀ W, Sx w o1 o2 W → (Sx w o1 o2 W ∧ W.cell? ⟨w.heap.size, 0, none⟩ = some (.int .i64 v1) ∧ W.cell? ⟨w.heap.size, 1, none⟩ = some (.int .i64 i1) ∧ W.cell? ⟨w.heap.size, 2, none⟩ = some (.int .i64 s1) ∧ W.cell? ⟨w.heap.size, 3, none⟩ = some (.int .u64 z1) ∧ W.cell? ⟨w.heap.size, 4, none⟩ = some (.slice A l1.length c) ∧ W.cell? ⟨w.heap.size, 5, none⟩ = some (.slice B m1.length d) ∧ W.cell? ⟨w.heap.size + 1, 0, none⟩ = some (.int .i64 v2) ∧ W.cell? ⟨w.heap.size + 1, 1, none⟩ = some (.int .i64 i2) ∧ W.cell? ⟨w.heap.size + 1, 2, none⟩ = some (.int .i64 s2) ∧ W.cell? ⟨w.heap.size + 1, 3, none⟩ = some (.int .u64 z2) ∧ W.cell? ⟨w.heap.size + 1, 4, none⟩ = some (.slice A' l2.length c') ∧ W.cell? ⟨w.heap.size + 1, 5, none⟩ = some (.slice B' m2.length d'))) := Lib.hid (fun W h => by
    subst ho1 ho2
    exact ⟨h, obj_cell h.o1 rfl, obj_cell h.o1 rfl, obj_cell h.o1 rfl, obj_cell h.o1 rfl, obj_cell h.o1 rfl, obj_cell h.o1 rfl, obj_cell h.o2 rfl, obj_cell h.o2 rfl, obj_cell h.o2 rfl, obj_cell h.o2 rfl, obj_cell h.o2 rfl, obj_cell h.o2 rfl⟩)
  have HS0 := Lib.hid hs0
  have HX := Lib.hid (fun W (h : Sx w o1 o2 W) => hx.below h.b)
  have HY := Lib.hid (fun W (h : Sx w o1 o2 W) => hy.below h.b)
  have HT := Lib.hid (fun W (h : Sx w o1 o2 W) => hT.below h.b)
  have HE := Lib.hid (fun W (h : Sx w o1 o2 W) => gle_below hE h.b)
  have HAW := Lib.hid (fun W (h : Sx w o1 o2 W) => awake_calls W (HT.out W h) (HE.out W h))
  clear hT hE hx hy ho1 ho2 hs0
  rcases hf with f1 | ⟨f1, f2⟩ | ⟨f1, f2, f3⟩ | ⟨f1, f2, f3, f4⟩
  · skip
    have HF0 := Lib.hid (fun W (h : Sx w o1 o2 W) => few_calls A c l1 W (HX.out W h).pos (HX.out _ HS0.out).lp)
    rw [f1] at HF0
    clear f1
    go_enter Tryd.func4, Tryd.ntmps4
    go_wp2_with (fail)
    refine (HF0.out _ HS0.out).mono ?_
    rintro e u1 ⟨rfl, hb⟩
    have X1 := Lib.hid (Sx.below HS0.out hb)
    obtain ⟨-, k0, k1, k2, k3, k4, k5, e0, e1, e2, e3, e4, e5⟩ := HSF.out _ X1.out
    clear hb
    go_wp2_with (fail)
    refine (HAW.out _ X1.out).mono ?_
    rintro e u9 ⟨rfl, hb⟩
    have X9 := Lib.hid (Sx.below X1.out hb)
    clear hb k0 k1 k2 k3 k4 k5 e0 e1 e2 e3 e4 e5
    go_wp2
    go_ret
    exact ⟨rfl, X9.out.b⟩
  · skip
    have HF0 := Lib.hid (fun W (h : Sx w o1 o2 W) => few_calls A c l1 W (HX.out W h).pos (HX.out _ HS0.out).lp)
    rw [f1] at HF0
    have HF1 := Lib.hid (fun W (h : Sx w o1 o2 W) => few_calls B d m1 W (HX.out W h).neg (HX.out _ HS0.out).ln)
    rw [f2] at HF1
    clear f1 f2
    go_enter Tryd.func4, Tryd.ntmps4
    go_wp2_with (fail)
    refine (HF0.out _ HS0.out).mono ?_
    rintro e u1 ⟨rfl, hb⟩
    have X1 := Lib.hid (Sx.below HS0.out hb)
    obtain ⟨-, k0, k1, k2, k3, k4, k5, e0, e1, e2, e3, e4, e5⟩ := HSF.out _ X1.out
    clear hb
    go_wp2_with (fail)
    refine (HF1.out _ X1.out).mono ?_
    rintro e u2 ⟨rfl, hb⟩
    have X2 := Lib.hid (Sx.below X1.out hb)
    clear k0 k1 k2 k3 k4 k5 e0 e1 e2 e3 e4 e5
    obtain ⟨-, k0, k1, k2, k3, k4, k5, e0, e1, e2, e3, e4, e5⟩ := HSF.out _ X2.out
    clear hb
    go_wp2_with (fail)
    refine (HAW.out _ X2.out).mono ?_
    rintro e u9 ⟨rfl, hb⟩
    have X9 := Lib.hid (Sx.below X2.out hb)
    clear hb k0 k1 k2 k3 k4 k5 e0 e1 e2 e3 e4 e5
    go_wp2
    go_ret
    exact ⟨rfl, X9.out.b⟩
  · skip
    have HF0 := Lib.hid (fun W (h : Sx w o1 o2 W) => few_calls A c l1 W (HX.out W h).pos (HX.out _ HS0.out).lp)
    rw [f1] at HF0
    have HF1 := Lib.hid (fun W (h : Sx w o1 o2 W) => few_calls B d m1 W (HX.out W h).neg (HX.out _ HS0.out).ln)
    rw [f2] at HF1
    have HF2 := Lib.hid (fun W (h : Sx w o1 o2 W) => few_calls A' c' l2 W (HY.out W h).pos (HY.out _ HS0.out).lp)
    rw [f3] at HF2
    clear f1 f2 f3
    go_enter Tryd.func4, Tryd.ntmps4
    go_wp2_with (fail)
    refine (HF0.out _ HS0.out).mono ?_
    rintro e u1 ⟨rfl, hb⟩
    have X1 := Lib.hid (Sx.below HS0.out hb)
    obtain ⟨-, k0, k1, k2, k3, k4, k5, e0, e1, e2, e3, e4, e5⟩ := HSF.out _ X1.out
    clear hb
    go_wp2_with (fail)
    refine (HF1.out _ X1.out).mono ?_
    rintro e u2 ⟨rfl, hb⟩
    have X2 := Lib.hid (Sx.below X1.out hb)
    clear k0 k1 k2 k3 k4 k5 e0 e1 e2 e3 e4 e5
    obtain ⟨-, k0, k1, k2, k3, k4, k5, e0, e1, e2, e3, e4, e5⟩ := HSF.out _ X2.out
    clear hb
    go_wp2_with (fail)
    refine (HF2.out _ X2.out).mono ?_
    rintro e u3 ⟨rfl, hb⟩
    have X3 := Lib.hid (Sx.below X2.out hb)
    clear k0 k1 k2 k3 k4 k5 e0 e1 e2 e3 e4 e5
    obtain ⟨-, k0, k1, k2, k3, k4, k5, e0, e1, e2, e3, e4, e5⟩ := HSF.out _ X3.out
    clear hb
    go_wp2_with (fail)
    refine (HAW.out _ X3.out).mono ?_
    rintro e u9 ⟨rfl, hb⟩
    have X9 := Lib.hid (Sx.below X3.out hb)
    clear hb k0 k1 k2 k3 k4 k5 e0 e1 e2 e3 e4 e5
    go_wp2
    go_ret
    exact ⟨rfl, X9.out.b⟩
  · skip
    have HF0 := Lib.hid (fun W (h : Sx w o1 o2 W) => few_calls A c l1 W (HX.out W h).pos (HX.out _ HS0.out).lp)
    rw [f1] at HF0
    have HF1 := Lib.hid (fun W (h : Sx w o1 o2 W) => few_calls B d m1 W (HX.out W h).neg (HX.out _ HS0.out).ln)
    rw [f2] at HF1
    have HF2 := Lib.hid (fun W (h : Sx w o1 o2 W) => few_calls A' c' l2 W (HY.out W h).pos (HY.out _ HS0.out).lp)
    rw [f3] at HF2
    have HF3 := Lib.hid (fun W (h : Sx w o1 o2 W) => few_calls B' d' m2 W (HY.out W h).neg (HY.out _ HS0.out).ln)
    rw [f4] at HF3
    clear f1 f2 f3 f4
    go_enter Tryd.func4, Tryd.ntmps4
    go_wp2_with (fail)
    refine (HF0.out _ HS0.out).mono ?_
    rintro e u1 ⟨rfl, hb⟩
    have X1 := Lib.hid (Sx.below HS0.out hb)
    obtain ⟨-, k0, k1, k2, k3, k4, k5, e0, e1, e2, e3, e4, e5⟩ := HSF.out _ X1.out
    clear hb
    go_wp2_with (fail)
    refine (HF1.out _ X1.out).mono ?_
    rintro e u2 ⟨rfl, hb⟩
    have X2 := Lib.hid (Sx.below X1.out hb)
    clear k0 k1 k2 k3 k4 k5 e0 e1 e2 e3 e4 e5
    obtain ⟨-, k0, k1, k2, k3, k4, k5, e0, e1, e2, e3, e4, e5⟩ := HSF.out _ X2.out
    clear hb
    go_wp2_with (fail)
    refine (HF2.out _ X2.out).mono ?_
    rintro e u3 ⟨rfl, hb⟩
    have X3 := Lib.hid (Sx.below X2.out hb)
    clear k0 k1 k2 k3 k4 k5 e0 e1 e2 e3 e4 e5
    obtain ⟨-, k0, k1, k2, k3, k4, k5, e0, e1, e2, e3, e4, e5⟩ := HSF.out _ X3.out
    clear hb
    go_wp2_with (fail)
    refine (HF3.out _ X3.out).mono ?_
    rintro e u4 ⟨rfl, hb⟩
    have X4 := Lib.hid (Sx.below X3.out hb)
    clear k0 k1 k2 k3 k4 k5 e0 e1 e2 e3 e4 e5
    obtain ⟨-, k0, k1, k2, k3, k4, k5, e0, e1, e2, e3, e4, e5⟩ := HSF.out _ X4.out
    clear hb
    go_wp2_with (fail)
    refine (HAW.out _ X4.out).mono ?_
    rintro e u9 ⟨rfl, hb⟩
    have X9 := Lib.hid (Sx.below X4.out hb)
    clear hb k0 k1 k2 k3 k4 k5 e0 e1 e2 e3 e4 e5
    go_wp2
    go_ret
    exact ⟨rfl, X9.out.b⟩
set_option maxRecDepth 100000 in
set_option maxHeartbeats 6400000 in
theorem core (x y : Hd) (p r : Lc) (w : World) (hT : Tab w) (hE : GlE w) (hx : HdIn w x p) (hy : HdIn w y r) (hf : few x.pos = true ∧ few x.neg = true ∧ few y.pos = true ∧ few y.neg = true) :
    Calls Tryd.prog 4 #[.agg (hcs x p).toArray, .agg (hcs y r).toArray] w fun e w' => e = .returned (.bool true) ∧ Below w.heap.size w w' := by
  obtain ⟨v1, i1, s1, z1, l1, m1⟩ := x
  obtain ⟨v2, i2, s2, z2, l2, m2⟩ := y
  obtain ⟨A, c, B, d⟩ := p
  obtain ⟨A', c', B', d'⟩ := r
  simp only at hf
  show Calls Tryd.prog 4 #[.agg #[.int .i64 v1, .int .i64 i1, .int .i64 s1, .int .u64 z1, .slice A l1.length c, .slice B m1.length d], .agg #[.int .i64 v2, .int .i64 i2, .int .i64 s2, .int .u64 z2, .slice A' l2.length c', .slice B' m2.length d']] w _
  obtain ⟨o1, o2, ho1, ho2, hs0⟩ : ∃ o1 o2 : Obj, o1 = (.cells #[.int .i64 v1, .int .i64 i1, .int .i64 s1, .int .u64 z1, .slice A l1.length c, .slice B m1.length d] 34 (0, 0)) ∧ o2 = (.cells #[.int .i64 v2, .int .i64 i2, .int .i64 s2, .int .u64 z2, .slice A' l2.length c', .slice B' m2.length d'] 34 (0, 0)) ∧ Sx w o1 o2 ((w.alloc (.cells #[.int .i64 v1, .int .i64 i1, .int .i64 s1, .int .u64 z1, .slice A l1.length c, .slice B m1.length d] 34)).alloc (.cells #[.int .i64 v2, .int .i64 i2, .int .i64 s2, .int .u64 z2, .slice A' l2.length c', .slice B' m2.length d'] 34)) := ⟨_, _, rfl, rfl, Sx.start w _ _ _ _⟩
  have HSF : Hid (∀ W, Sx w o1 o2 W → (Sx w o1 o2 W ∧ W.cell? ⟨w.heap.size, 0, none⟩ = some (.int .i64 v1) ∧ W.cell? ⟨w.heap.size, 1, none⟩ = some (.int .i64 i1) ∧ W.cell? ⟨w.heap.size, 2, none⟩ = some (.int .i64 s1) ∧ W.cell? ⟨w.heap.size, 3, none⟩ = some (.int .u64 z1) ∧ W.cell? ⟨w.heap.size, 4, none⟩ = some (.slice A l1.length c) ∧ W.cell? ⟨w.heap.size, 5, none⟩ = some (.slice B m1.length d) ∧ W.cell? ⟨w.heap.size + 1, 0, none⟩ = some (.int .i64 v2) ∧ W.cell? ⟨w.heap.size + 1, 1, none⟩ = some (.int .i64 i2) ∧ W.cell? ⟨w.heap.size + 1, 2, none⟩ = some (.int .i64 s2) ∧ W.cell? ⟨w.heap.size + 1, 3, none⟩ = some (.int .u64 z2) ∧ W.cell? ⟨w.heap.size + 1, 4, none⟩ = some (.slice A' l2.length c') ∧ W.cell? ⟨w.heap.size + 1, 5, none⟩ = some (.slice B' m2.length d'))) := Lib.hid (fun W h => by
    subst ho1 ho2
    exact ⟨h, obj_cell h.o1 rfl, obj_cell h.o1 rfl, obj_cell h.o1 rfl, obj_cell h.o1 rfl, obj_cell h.o1 rfl, obj_cell h.o1 rfl, obj_cell h.o2 rfl, obj_cell h.o2 rfl, obj_cell h.o2 rfl, obj_cell h.o2 rfl, obj_cell h.o2 rfl, obj_cell h.o2 rfl⟩)
  have HS0 := Lib.hid hs0
  have HX := Lib.hid (fun W (h : Sx w o1 o2 W) => hx.below h.b)
  have HY := Lib.hid (fun W (h : Sx w o1 o2 W) => hy.below h.b)
  have HT := Lib.hid (fun W (h : Sx w o1 o2 W) => hT.below h.b)
  have HE := Lib.hid (fun W (h : Sx w o1 o2 W) => gle_below hE h.b)
  obtain ⟨f1, f2, f3, f4⟩ := hf
  have HF0 := Lib.hid (fun W (h : Sx w o1 o2 W) => few_calls A c l1 W (HX.out W h).pos.rd (Nat.le_trans (HX.out _ HS0.out).pos.len (by decide)))
  rw [f1] at HF0
  have HF1 := Lib.hid (fun W (h : Sx w o1 o2 W) => few_calls B d m1 W (HX.out W h).neg.rd (Nat.le_trans (HX.out _ HS0.out).neg.len (by decide)))
  rw [f2] at HF1
  have HF2 := Lib.hid (fun W (h : Sx w o1 o2 W) => few_calls A' c' l2 W (HY.out W h).pos.rd (Nat.le_trans (HY.out _ HS0.out).pos.len (by decide)))
  rw [f3] at HF2
  have HF3 := Lib.hid (fun W (h : Sx w o1 o2 W) => few_calls B' d' m2 W (HY.out W h).neg.rd (Nat.le_trans (HY.out _ HS0.out).neg.len (by decide)))
  rw [f4] at HF3
  obtain ⟨b, hbq⟩ : ∃ b, b = eqH ⟨v1, i1, s1, z1, l1, m1⟩ ⟨v2, i2, s2, z2, l2, m2⟩ := ⟨_, rfl⟩
  have hbr : eqH ⟨v2, i2, s2, z2, l2, m2⟩ ⟨v1, i1, s1, z1, l1, m1⟩ = b := by rw [hbq]; unfold eqH; exact decide_eq_decide.2 eq_comm
  have hbb : (b != b) = false := by simp
  have hbb2 : (b == b) = true := by simp
  have HQ1 : Hid (∀ W, Sx w o1 o2 W → Calls Tryd.prog 16 #[.agg #[.int .i64 v1, .int .i64 i1, .int .i64 s1, .int .u64 z1, .slice A l1.length c, .slice B m1.length d], .agg #[.int .i64 v1, .int .i64 i1, .int .i64 s1, .int .u64 z1, .slice A l1.length c, .slice B m1.length d]] W fun e w' => e = .returned (.bool true) ∧ Sx w o1 o2 w') := Lib.hid (fun W h => (Equal_calls ⟨v1, i1, s1, z1, l1, m1⟩ ⟨v1, i1, s1, z1, l1, m1⟩ ⟨A, c, B, d⟩ ⟨A, c, B, d⟩ W (HX.out W h) (HX.out W h)).mono fun e w' ⟨he, hb⟩ => ⟨by rw [he, show eqH ⟨v1, i1, s1, z1, l1, m1⟩ ⟨v1, i1, s1, z1, l1, m1⟩ = true from decide_eq_true rfl], h.below hb⟩)
  have HQ2 : Hid (∀ W, Sx w o1 o2 W → Calls Tryd.prog 16 #[.agg #[.int .i64 v1, .int .i64 i1, .int .i64 s1, .int .u64 z1, .slice A l1.length c, .slice B m1.length d], .agg #[.int .i64 v2, .int .i64 i2, .int .i64 s2, .int .u64 z2, .slice A' l2.length c', .slice B' m2.length d']] W fun e w' => e = .returned (.bool b) ∧ Sx w o1 o2 w') := Lib.hid (fun W h => (Equal_calls ⟨v1, i1, s1, z1, l1, m1⟩ ⟨v2, i2, s2, z2, l2, m2⟩ ⟨A, c, B, d⟩ ⟨A', c', B', d'⟩ W (HX.out W h) (HY.out W h)).mono fun e w' ⟨he, hb⟩ => ⟨by rw [he, ← hbq], h.below hb⟩)
  have HQ3 : Hid (∀ W, Sx w o1 o2 W → Calls Tryd.prog 16 #[.agg #[.int .i64 v2, .int .i64 i2, .int .i64 s2, .int .u64 z2, .slice A' l2.length c', .slice B' m2.length d'], .agg #[.int .i64 v1, .int .i64 i1, .int .i64 s1, .int .u64 z1, .slice A l1.length c, .slice B m1.length d]] W fun e w' => e = .returned (.bool b) ∧ Sx w o1 o2 w') := Lib.hid (fun W h => (Equal_calls ⟨v2, i2, s2, z2, l2, m2⟩ ⟨v1, i1, s1, z1, l1, m1⟩ ⟨A', c', B', d'⟩ ⟨A, c, B, d⟩ W (HY.out W h) (HX.out W h)).mono fun e w' ⟨he, hb⟩ => ⟨by rw [he, hbr], h.below hb⟩)
  have HR1 : Hid (∀ W, Sx w o1 o2 W → Calls Tryd.prog 18 #[.agg #[.int .i64 v1, .int .i64 i1, .int .i64 s1, .int .u64 z1, .slice A l1.length c, .slice B m1.length d]] W fun e w' => ∃ r : Lc, e = .returned (.agg (hcs ⟨v1, i1, s1, z1, l1, m1⟩ r).toArray) ∧ HdIn w' ⟨v1, i1, s1, z1, l1, m1⟩ r ∧ Sx w o1 o2 w') := Lib.hid (fun W h => (ref_calls ⟨v1, i1, s1, z1, l1, m1⟩ ⟨A, c, B, d⟩ W (HX.out W h)).mono fun e w' ⟨r, he, hi, hb⟩ => ⟨r, he, hi, h.below hb⟩)
  have HR2 : Hid (∀ q W, Sx w o1 o2 W → HdIn W ⟨v1, i1, s1, z1, l1, m1⟩ q → Calls Tryd.prog 18 #[.agg #[.int .i64 v2, .int .i64 i2, .int .i64 s2, .int .u64 z2, .slice A' l2.length c', .slice B' m2.length d']] W fun e w' => ∃ r : Lc, e = .returned (.agg (hcs ⟨v2, i2, s2, z2, l2, m2⟩ r).toArray) ∧ HdIn w' ⟨v2, i2, s2, z2, l2, m2⟩ r ∧ Sx w o1 o2 w' ∧ HdIn w' ⟨v1, i1, s1, z1, l1, m1⟩ q) := Lib.hid (fun q W h hq => (ref_calls ⟨v2, i2, s2, z2, l2, m2⟩ ⟨A', c', B', d'⟩ W (HY.out W h)).mono fun e w' ⟨r, he, hi, hb⟩ => ⟨r, he, hi, h.below hb, hq.below hb⟩)
  have HO : Hid (∀ q r W, Sx w o1 o2 W → HdIn W ⟨v1, i1, s1, z1, l1, m1⟩ q → HdIn W ⟨v2, i2, s2, z2, l2, m2⟩ r → Calls Tryd.prog 17 #[.agg (hcs ⟨v1, i1, s1, z1, l1, m1⟩ q).toArray, .agg (hcs ⟨v2, i2, s2, z2, l2, m2⟩ r).toArray] W fun e w' => e = .returned (.bool b) ∧ Sx w o1 o2 w') := Lib.hid (fun q r W h hq hr => (one_calls ⟨v1, i1, s1, z1, l1, m1⟩ ⟨v2, i2, s2, z2, l2, m2⟩ q r W hq hr).mono fun e w' ⟨he, hb⟩ => ⟨by rw [he, ← hbq], h.below hb⟩)
  have HCK := Lib.hid (fun W (h : HdIn W ⟨v1, i1, s1, z1, l1, m1⟩ ⟨A, c, B, d⟩) (g : GlE W) => check_calls ⟨v1, i1, s1, z1, l1, m1⟩ ⟨A, c, B, d⟩ W h g)
  have HC14 := Lib.hid (fun q W (h : HdIn W ⟨v1, i1, s1, z1, l1, m1⟩ q) => Check14_calls ⟨v1, i1, s1, z1, l1, m1⟩ q W h)
  have HAW := Lib.hid (fun W (hb : Below w.heap.size w W) => lift hb hb.size (awake_calls W (hT.below hb) (gle_below hE hb)))
  have HXB := Lib.hid (fun W (hb : Below w.heap.size w W) => hx.below hb)
  have HEB := Lib.hid (fun W (hb : Below w.heap.size w W) => gle_below hE hb)
  clear hT hE hx hy ho1 ho2 hs0 f1 f2 f3 f4 hbq hbr
  go_enter Tryd.func4, Tryd.ntmps4
  go_wp2_with (fail)
  refine (HF0.out _ HS0.out).mono ?_
  rintro e u1 ⟨rfl, hb⟩
  have X1 := Lib.hid (Sx.below HS0.out hb)
  obtain ⟨-, k0, k1, k2, k3, k4, k5, e0, e1, e2, e3, e4, e5⟩ := HSF.out _ X1.out
  clear hb
  go_wp2_with (fail)
  refine (HF1.out _ X1.out).mono ?_
  rintro e u2 ⟨rfl, hb⟩
  have X2 := Lib.hid (Sx.below X1.out hb)
  clear k0 k1 k2 k3 k4 k5 e0 e1 e2 e3 e4 e5
  obtain ⟨-, k0, k1, k2, k3, k4, k5, e0, e1, e2, e3, e4, e5⟩ := HSF.out _ X2.out
  clear hb
  go_wp2_with (fail)
  refine (HF2.out _ X2.out).mono ?_
  rintro e u3 ⟨rfl, hb⟩
  have X3 := Lib.hid (Sx.below X2.out hb)
  clear k0 k1 k2 k3 k4 k5 e0 e1 e2 e3 e4 e5
  obtain ⟨-, k0, k1, k2, k3, k4, k5, e0, e1, e2, e3, e4, e5⟩ := HSF.out _ X3.out
  clear hb
  go_wp2_with (fail)
  refine (HF3.out _ X3.out).mono ?_
  rintro e u4 ⟨rfl, hb⟩
  have X4 := Lib.hid (Sx.below X3.out hb)
  clear k0 k1 k2 k3 k4 k5 e0 e1 e2 e3 e4 e5
  obtain ⟨-, k0, k1, k2, k3, k4, k5, e0, e1, e2, e3, e4, e5⟩ := HSF.out _ X4.out
  clear hb
  go_wp2_with (fail)
  clear k0 k1 k2 k3 k4 k5 e0 e1 e2 e3 e4 e5 HF0 HF1 HF2 HF3
  have hst := X4.out
  have hcells := HSF.out _ hst
  go_region_held3 (fun W => Sx w o1 o2 W ∧ W.cell? ⟨w.heap.size, 0, none⟩ = some (.int .i64 v1) ∧ W.cell? ⟨w.heap.size, 1, none⟩ = some (.int .i64 i1) ∧ W.cell? ⟨w.heap.size, 2, none⟩ = some (.int .i64 s1) ∧ W.cell? ⟨w.heap.size, 3, none⟩ = some (.int .u64 z1) ∧ W.cell? ⟨w.heap.size, 4, none⟩ = some (.slice A l1.length c) ∧ W.cell? ⟨w.heap.size, 5, none⟩ = some (.slice B m1.length d) ∧ W.cell? ⟨w.heap.size + 1, 0, none⟩ = some (.int .i64 v2) ∧ W.cell? ⟨w.heap.size + 1, 1, none⟩ = some (.int .i64 i2) ∧ W.cell? ⟨w.heap.size + 1, 2, none⟩ = some (.int .i64 s2) ∧ W.cell? ⟨w.heap.size + 1, 3, none⟩ = some (.int .u64 z2) ∧ W.cell? ⟨w.heap.size + 1, 4, none⟩ = some (.slice A' l2.length c') ∧ W.cell? ⟨w.heap.size + 1, 5, none⟩ = some (.slice B' m2.length d'))
    (first | (with_reducible exact HSF.out _ (Sx.drew X4.out)) | (with_reducible exact HSF.out _ hst))
    (first
    | (go_at_call 16; (with_reducible show Calls _ _ #[Value.agg #[Value.int .i64 v1, _, _, _, _, _], Value.agg #[Value.int .i64 v1, _, _, _, _, _]] _ _); refine (HQ1.out _ (by first | (with_reducible exact hst) | (with_reducible exact Sx.drew X4.out))).mono ?_; rintro e u5 ⟨rfl, hst⟩; have hcells := HSF.out _ hst)
    | (go_at_call 16; (with_reducible show Calls _ _ #[Value.agg #[Value.int .i64 v1, _, _, _, _, _], Value.agg #[Value.int .i64 v2, _, _, _, _, _]] _ _); refine (HQ2.out _ hst).mono ?_; rintro e u6 ⟨rfl, hst⟩; have hcells := HSF.out _ hst)
    | (go_at_call 16; (with_reducible show Calls _ _ #[Value.agg #[Value.int .i64 v2, _, _, _, _, _], Value.agg #[Value.int .i64 v1, _, _, _, _, _]] _ _); refine (HQ3.out _ hst).mono ?_; rintro e u7 ⟨rfl, hst⟩; have hcells := HSF.out _ hst)
    | (go_at_call 18; (with_reducible show Calls _ _ #[Value.agg #[Value.int .i64 v1, _, _, _, _, _]] _ _); refine (HR1.out _ hst).mono ?_; rintro e u8 ⟨⟨qa, qc, qb, qd⟩, rfl, hq1, hst⟩; dsimp only [hcs]; have hcells := HSF.out _ hst)
    | (go_at_call 18; (with_reducible show Calls _ _ #[Value.agg #[Value.int .i64 v2, _, _, _, _, _]] _ _); refine (HR2.out _ _ hst hq1).mono ?_; rintro e u9 ⟨⟨ra, rc, rb, rd⟩, rfl, hq2, hst, hq1⟩; dsimp only [hcs]; have hcells := HSF.out _ hst)
    | (go_at_call 17; refine (HO.out ⟨qa, qc, qb, qd⟩ ⟨ra, rc, rb, rd⟩ _ hst hq1 hq2).mono ?_; rintro e u10 ⟨rfl, hst⟩; have hcells := HSF.out _ hst))
  have HST := Lib.hid hst
  obtain ⟨-, k0, k1, k2, k3, k4, k5, e0, e1, e2, e3, e4, e5⟩ := HSF.out _ hst
  clear hst hcells hq1 hq2
  go_wp2_with (fail)
  refine (HR1.out _ HST.out).mono ?_
  rintro e y1 ⟨⟨qa, qc, qb, qd⟩, rfl, hq1, hst⟩
  have HC := Lib.hid (HC14.out ⟨qa, qc, qb, qd⟩ y1 hq1)
  have HST1 := Lib.hid hst
  clear hst hq1 k0 k1 k2 k3 k4 k5 e0 e1 e2 e3 e4 e5
  dsimp only [hcs]
  go_wp2_with (fail)
  refine HC.out.mono ?_
  rintro e y2 ⟨rfl, hb⟩
  have HST2 := Lib.hid (Sx.below HST1.out hb)
  clear hb HC HQ1 HQ2 HQ3 HR1 HR2 HO HC14
  obtain ⟨ep, hep⟩ : ∃ ep, ep = headErr ⟨v1, i1, s1, z1, l1, m1⟩ := ⟨_, rfl⟩
  rw [← hep] at HCK ⊢
  obtain ⟨ec, en⟩ := ep
  simp only at HCK ⊢
  clear hep
  by_cases h0 : ec = 0
  · subst h0
    rw [show wr 0 en 0 = .agg #[.int .i64 0, .string ⟨#[]⟩, .int .i64 0] from rfl]
    have hba := below_alloc (Below.refl y2.heap.size y2) (.cells #[.int .i64 0, .string ⟨#[]⟩, .int .i64 0] 53)
    have hsa := Sx.below HST2.out hba
    have HKW := Lib.hid (blk_last y2 (.cells #[.int .i64 0, .string ⟨#[]⟩, .int .i64 0] 53))
    have HCH := Lib.hid (HCK.out _ (HXB.out _ hsa.b) (HEB.out _ hsa.b))
    obtain ⟨-, k0, k1, k2, k3, k4, k5, e0, e1, e2, e3, e4, e5⟩ := HSF.out _ hsa
    have HSA := Lib.hid hsa
    clear hba hsa
    go_wp2_with (fail)
    refine HCH.out.mono ?_
    rintro e y3 ⟨v, rfl, he, hb⟩
    have HST3 := Lib.hid (Sx.below HSA.out hb)
    have hkw := (Ch.of_below (S := fun _ => False) hb).blk HKW.out (fun x => x)
    have q0 := obj_cell (i := 0) hkw rfl
    have q1 := obj_cell (i := 1) hkw rfl
    have q2 := obj_cell (i := 2) hkw rfl
    obtain rfl := err_none he
    clear he hb hkw HCH HCK k0 k1 k2 k3 k4 k5 e0 e1 e2 e3 e4 e5
    go_wp2_with (fail)
    refine (HAW.out _ HST3.out.b).mono ?_
    rintro e y4 ⟨rfl, hb4⟩
    clear q0 q1 q2
    go_wp2
    go_ret
    exact ⟨rfl, hb4⟩
  · skip
    rw [show wr ec en 0 = .agg #[.int .i64 ec, .string en, .int .i64 0] from if_neg h0]
    have hba := below_alloc (Below.refl y2.heap.size y2) (.cells #[.int .i64 ec, .string en, .int .i64 0] 53)
    have hsa := Sx.below HST2.out hba
    have HKW := Lib.hid (blk_last y2 (.cells #[.int .i64 ec, .string en, .int .i64 0] 53))
    have HCH := Lib.hid (HCK.out _ (HXB.out _ hsa.b) (HEB.out _ hsa.b))
    obtain ⟨-, k0, k1, k2, k3, k4, k5, e0, e1, e2, e3, e4, e5⟩ := HSF.out _ hsa
    have HSA := Lib.hid hsa
    clear hba hsa
    go_wp2_with (fail)
    refine HCH.out.mono ?_
    rintro e y3 ⟨v, rfl, he, hb⟩
    have HST3 := Lib.hid (Sx.below HSA.out hb)
    have hkw := (Ch.of_below (S := fun _ => False) hb).blk HKW.out (fun x => x)
    have q0 := obj_cell (i := 0) hkw rfl
    have q1 := obj_cell (i := 1) hkw rfl
    have q2 := obj_cell (i := 2) hkw rfl
    have HTL : Hid (Calls Tryd.prog 20 #[v, .agg #[.int .i64 ec, .string en, .int .i64 0]] y3 fun e w' => e = .returned (.bool true) ∧ Below y3.heap.size y3 w') := Lib.hid (tells_calls v ec en 0 y3 he h0)
    obtain ⟨ge, rfl⟩ := err_some (by omega) he
    have d0 : ((ec : Int) == 0) = false := by simp; omega
    clear h0 he hb hkw HCH HCK k0 k1 k2 k3 k4 k5 e0 e1 e2 e3 e4 e5
    go_wp2_with (fail)
    refine HTL.out.mono ?_
    rintro e y4 ⟨rfl, hb4⟩
    have HST4 := Lib.hid (Sx.below HST3.out hb4)
    clear hb4 HTL
    go_wp2_with (fail)
    refine (HAW.out _ HST4.out.b).mono ?_
    rintro e y5 ⟨rfl, hb5⟩
    clear q0 q1 q2
    go_wp2
    go_ret
    exact ⟨rfl, hb5⟩
/-- spans that lie in memory. -/
theorem rd_sp {w : World} {A : Option Addr} {l : List (Int × Int)} (h : RdC w A (Rep.all (Rep.pair (Rep.int .i64) (Rep.int .i64)) l)) : RdSp w A l := h
abbrev rSp : Rep.Rep (Int × Int) := Rep.pair (Rep.int .i64) (Rep.int .i64)
abbrev rHd : Rep.Rep (Int × Int × Int × Int × Rep.Sl (Int × Int) × Rep.Sl (Int × Int)) := Rep.pair (Rep.int .i64) (Rep.pair (Rep.int .i64) (Rep.pair (Rep.int .i64) (Rep.pair (Rep.int .u64) (Rep.pair (Rep.slice rSp) (Rep.slice rSp)))))
/-- a head that came in, as the row hands it. -/
def hdOf (x : Int × Int × Int × Int × Rep.Sl (Int × Int) × Rep.Sl (Int × Int)) : Hd := ⟨x.1, x.2.1, x.2.2.1, x.2.2.2.1.toNat, x.2.2.2.2.1.l, x.2.2.2.2.2.l⟩
def lcOf (x : Int × Int × Int × Int × Rep.Sl (Int × Int) × Rep.Sl (Int × Int)) : Lc := ⟨x.2.2.2.2.1.at_, x.2.2.2.2.1.cap, x.2.2.2.2.2.at_, x.2.2.2.2.2.cap⟩
theorem u64_in {n : Int} (h : (Lit.int .u64 n).wf = true) : 0 ≤ n ∧ n < 18446744073709551616 := by
  simp [Lit.wf, IntKind.min, IntKind.max, IntKind.bits, IntKind.signed] at h
  omega
theorem enc_hd {w : World} {x : Int × Int × Int × Int × Rep.Sl (Int × Int) × Rep.Sl (Int × Int)} (h : rHd.ok w x) : rHd.enc x = hcs (hdOf x) (lcOf x) ∧ HdRd w (hdOf x) (lcOf x) ∧ (hdOf x).zero < 18446744073709551616 ∧
    (x.2.2.2.2.1.l.length ≤ x.2.2.2.2.1.cap ∧ (x.2.2.2.2.1.at_ = none → x.2.2.2.2.1.cap = 0)) ∧ (x.2.2.2.2.2.l.length ≤ x.2.2.2.2.2.cap ∧ (x.2.2.2.2.2.at_ = none → x.2.2.2.2.2.cap = 0)) := by
  obtain ⟨v, i, s, z, p, q⟩ := x
  obtain ⟨h1, h2, h3, h4, ⟨h5, -⟩, ⟨h6, -⟩⟩ := h
  have hz := u64_in h4
  have e1 := h5.le
  have e2 := h5.max
  have e3 := h6.le
  have e4 := h6.max
  unfold maxLen at e2 e4
  simp only at e1 e2 e3 e4 hz
  refine ⟨?_, ⟨rd_sp h5.rd, rd_sp h6.rd, ?_, ?_⟩, ?_, ⟨h5.le, h5.nil⟩, ⟨h6.le, h6.nil⟩⟩
  · show [Value.int .i64 v, .int .i64 i, .int .i64 s, .int .u64 z, .slice p.at_ p.l.length p.cap, .slice q.at_ q.l.length q.cap] = [Value.int .i64 v, .int .i64 i, .int .i64 s, .int .u64 (z.toNat : Int), .slice p.at_ p.l.length p.cap, .slice q.at_ q.l.length q.cap]
    rw [Int.toNat_of_nonneg hz.1]
  · show p.l.length ≤ _
    omega
  · show q.l.length ≤ _
    omega
  · show z.toNat < _
    omega
theorem hdin_of {w : World} {x : Int × Int × Int × Int × Rep.Sl (Int × Int) × Rep.Sl (Int × Int)} (h : rHd.ok w x) (h1 : few (hdOf x).pos = true) (h2 : few (hdOf x).neg = true) : HdIn w (hdOf x) (lcOf x) := by
  obtain ⟨-, ⟨g1, g2, -, -⟩, g5, g6, g7⟩ := enc_hd h
  exact ⟨⟨g1, Nat.le_trans (few_len h1) (by decide), g6.1, g6.2⟩, ⟨g2, Nat.le_trans (few_len h2) (by decide), g7.1, g7.2⟩, g5⟩

theorem walk (x y : Int × Int × Int × Int × Rep.Sl (Int × Int) × Rep.Sl (Int × Int)) (w : World) (hx : rHd.ok w x) (hy : rHd.ok w y) (hL : laidMetH Tryd.prog laidAll w) :
    Calls Tryd.prog 4 #[.agg (rHd.enc x).toArray, .agg (rHd.enc y).toArray] w fun e w' => e = .returned (.bool true) ∧ Below w.heap.size w w' := by
  obtain ⟨hT, hE⟩ := of_laid hL
  obtain ⟨e1, x1, -⟩ := enc_hd hx
  obtain ⟨e2, y1, -⟩ := enc_hd hy
  rw [e1, e2]
  cases f1 : few (hdOf x).pos with
  | false => exact narrow _ _ _ _ w hT hE x1 y1 (.inl f1)
  | true =>
    cases f2 : few (hdOf x).neg with
    | false => exact narrow _ _ _ _ w hT hE x1 y1 (.inr (.inl ⟨f1, f2⟩))
    | true =>
      cases f3 : few (hdOf y).pos with
      | false => exact narrow _ _ _ _ w hT hE x1 y1 (.inr (.inr (.inl ⟨f1, f2, f3⟩)))
      | true =>
        cases f4 : few (hdOf y).neg with
        | false => exact narrow _ _ _ _ w hT hE x1 y1 (.inr (.inr (.inr ⟨f1, f2, f3, f4⟩)))
        | true => exact core _ _ _ _ w hT hE (hdin_of hx f1 f2) (hdin_of hy f3 f4) ⟨f1, f2, f3, f4⟩
end Go.Proofs.YtjfekjbmgckkcaaDoor.HeadChecks
