/- what HeadReads stands on, part 1: Law14D, Ref14C, Ref14D, Ref14E, HeadLaid, HeadReads. -/
import Derived.Test.YtjfekjbmgckkcaaGreatDoorLaw14C
import Derived.Test.YtjfekjbmgckkcaaGreatDoorRef12
import Derived.Test.YtjfekjbmgckkcaaGreatDoorVarPure2
import Derived.Deep.RegionHeld3
import Derived.Test.YtjfekjbmgckkcaaGreatDoorRef14A
import Derived.Test.YtjfekjbmgckkcaaGreatDoorHeadI
import Derived.Test.YtjfekjbmgckkcaaGreatDoorHeadK
import Derived.Test.YtjfekjbmgckkcaaGreatDoorLaw14A
import Derived.Test.YtjfekjbmgckkcaaGreatDoorHeadL
import Derived.Test.YtjfekjbmgckkcaaGreatDoorFailE
import Derived.Test.YtjfekjbmgckkcaaGreatDoorVarbitA
import Derived.Test.YtjfekjbmgckkcaaGreatDoorLawBase
import Derived.Test.YtjfekjbmgckkcaaGreatDoorRows
import Derived.LaidMore
import Derived.Lib.LaidTab
import Derived.Stop.LaidErr
import Derived.Test.YtjfekjbmgckkcaaGreatDoorLaw14B

/- law 14: a head as the document has it. -/
namespace Go.Proofs.YtjfekjbmgckkcaaGreatDoor.Law14D
open Go.RowKit Go.Proofs.YtjfekjbmgckkcaaGreatDoorW.PrintWords
open Go.Proofs.YtjfekjbmgckkcaaGreatDoor.Bits Go.Proofs.YtjfekjbmgckkcaaGreatDoor.Base Go.Proofs.YtjfekjbmgckkcaaGreatDoor.VarKit Go.Proofs.YtjfekjbmgckkcaaGreatDoor.StreamA Go.Proofs.YtjfekjbmgckkcaaGreatDoor.SpanPure Go.Proofs.YtjfekjbmgckkcaaGreatDoor.SpanBase Go.Proofs.YtjfekjbmgckkcaaGreatDoor.HeadA Go.Proofs.YtjfekjbmgckkcaaGreatDoor.HeadB Go.Proofs.YtjfekjbmgckkcaaGreatDoor.HeadL Go.Proofs.YtjfekjbmgckkcaaGreatDoor.Ref12 Go.Proofs.YtjfekjbmgckkcaaGreatDoor.Law14A

/-- what stands while a head is told anew. -/
structure St (w : World) (o : Obj) (W : World) : Prop where
  b : Below w.heap.size w W
  o : W.heap[w.heap.size]? = some o
  z : ∃ cs : Array Value, cs.size = 6 ∧ W.heap[w.heap.size + 1]? = some (.cells cs 41 (0, 0))
theorem St.drew {w W : World} {o : Obj} (h : St w o W) : St w o W.drew := ⟨below_drew h.b, h.o, h.z⟩
theorem St.six {w W : World} {o : Obj} (h : St w o W) (v0 v1 v2 v3 v4 v5 : Value) : St w o (six W (w.heap.size + 1) v0 v1 v2 v3 v4 v5) :=
  ⟨(((((h.b.setCell (Nat.le_succ _) v0).setCell (Nat.le_succ _) v1).setCell (Nat.le_succ _) v2).setCell (Nat.le_succ _) v3).setCell (Nat.le_succ _) v4).setCell (Nat.le_succ _) v5,
    (six_ch W (w.heap.size + 1) v0 v1 v2 v3 v4 v5).blk h.o (by omega), by
    obtain ⟨cs, hs, hz⟩ := h.z
    exact ⟨_, by simpa using hs, blk_set (blk_set (blk_set (blk_set (blk_set (blk_set hz 0 v0) 1 v1) 2 v2) 3 v3) 4 v4) 5 v5⟩⟩
theorem St.below {w W W2 : World} {o : Obj} (h : St w o W) (hb : Below W.heap.size W W2) : St w o W2 :=
  ⟨below_then h.b h.b.size hb, (Ch.of_below (S := fun _ => False) hb).blk h.o (fun x => x), by
    obtain ⟨cs, hs, hz⟩ := h.z
    exact ⟨cs, hs, (Ch.of_below (S := fun _ => False) hb).blk hz (fun x => x)⟩⟩
theorem St.free {w W : World} {o : Obj} (h : St w o W) : ∃ u0 u1 u2 u3 u4 u5 : Value, (W.frozen? ⟨w.heap.size + 1, 0, none⟩ = false ∧ W.frozen? ⟨w.heap.size + 1, 1, none⟩ = false ∧ W.frozen? ⟨w.heap.size + 1, 2, none⟩ = false ∧ W.frozen? ⟨w.heap.size + 1, 3, none⟩ = false ∧ W.frozen? ⟨w.heap.size + 1, 4, none⟩ = false ∧ W.frozen? ⟨w.heap.size + 1, 5, none⟩ = false) ∧
    (W.cell? ⟨w.heap.size + 1, 0, none⟩ = some u0 ∧ W.cell? ⟨w.heap.size + 1, 1, none⟩ = some u1 ∧ W.cell? ⟨w.heap.size + 1, 2, none⟩ = some u2 ∧ W.cell? ⟨w.heap.size + 1, 3, none⟩ = some u3 ∧ W.cell? ⟨w.heap.size + 1, 4, none⟩ = some u4 ∧ W.cell? ⟨w.heap.size + 1, 5, none⟩ = some u5) := by
  obtain ⟨cs, hs, hz⟩ := h.z
  have hc : ∀ i, i < 6 → cs[i]? = some (cs.getD i undef) := fun i hi => by simp [Array.getD, hs, hi]
  exact ⟨_, _, _, _, _, _, ⟨obj_free hz, obj_free hz, obj_free hz, obj_free hz, obj_free hz, obj_free hz⟩, ⟨obj_cell hz (hc 0 (by decide)), obj_cell hz (hc 1 (by decide)), obj_cell hz (hc 2 (by decide)), obj_cell hz (hc 3 (by decide)), obj_cell hz (hc 4 (by decide)), obj_cell hz (hc 5 (by decide))⟩⟩
theorem sps_any {S : Nat → Prop} {e base : Nat} {w w1 : World} {v : Value} {l : List Sp} (h : OwSp e w base v l) (hc : Ch S w w1) (hS : ∀ k, S k → k < base) : OwSp e w1 base v l :=
  h.move fun g hg => hc.block g (h.lt_ g hg) fun hs => Nat.lt_irrefl _ (Nat.lt_of_lt_of_le (hS g hs) (h.base_ g hg))
theorem spl_any {w : World} {base : Nat} {e : Nat} {A : Option Addr} {n c : Nat} {l : List Sp} (h : OwSp e w base (.slice A n c) l) (hl : l.length ≤ 1000000) : Spl w A c l := by
  obtain ⟨A', c', he, h1, h2, h3⟩ := h.reads
  injection he with e1 e2 e3
  subst e1 e3
  exact ⟨h3, hl, h1, h2⟩
set_option maxRecDepth 100000 in
set_option maxHeartbeats 3200000 in
theorem ref_calls (h : Hd) (p : Lc) (w : World) (hh : HdIn w h p) :
    Calls Tryz.prog 19 #[.agg (hcs h p).toArray] w fun e w' => ∃ r : Lc, e = .returned (.agg (hcs h r).toArray) ∧ HdIn w' h r ∧ Below w.heap.size w w' := by
  obtain ⟨vr, hint, schema, zt, pos, neg⟩ := h
  obtain ⟨A, c, B, d⟩ := p
  obtain ⟨hp, hn, hz⟩ := hh
  simp only at hp hn hz
  show Calls Tryz.prog 19 #[.agg #[.int .i64 vr, .int .i64 hint, .int .i64 schema, .int .u64 zt, .slice A pos.length c, .slice B neg.length d]] w _
  obtain ⟨o0, ho0, hs0⟩ : ∃ o : Obj, o = (.cells #[.int .i64 vr, .int .i64 hint, .int .i64 schema, .int .u64 zt, .slice A pos.length c, .slice B neg.length d] 25 (0, 0)) ∧ St w o ((w.alloc (.cells #[.int .i64 vr, .int .i64 hint, .int .i64 schema, .int .u64 zt, .slice A pos.length c, .slice B neg.length d] 25)).alloc (.cells #[.int .i64 0, .int .i64 0, .int .i64 0, .int .u64 0, .slice none 0 0, .slice none 0 0] 41)) := ⟨_, rfl, ⟨below_alloc (below_alloc (Below.refl _ _) _) _, (Below.heap_alloc (w.alloc (.cells #[.int .i64 vr, .int .i64 hint, .int .i64 schema, .int .u64 zt, .slice A pos.length c, .slice B neg.length d] 25)) (.cells #[.int .i64 0, .int .i64 0, .int .i64 0, .int .u64 0, .slice none 0 0, .slice none 0 0] 41) w.heap.size (blk_lt (blk_last w _))).trans (blk_last w _), ⟨_, rfl, by
    have := blk_last (w.alloc (.cells #[.int .i64 vr, .int .i64 hint, .int .i64 schema, .int .u64 zt, .slice A pos.length c, .slice B neg.length d] 25)) (.cells #[.int .i64 0, .int .i64 0, .int .i64 0, .int .u64 0, .slice none 0 0, .slice none 0 0] 41)
    rwa [show (w.alloc (.cells #[.int .i64 vr, .int .i64 hint, .int .i64 schema, .int .u64 zt, .slice A pos.length c, .slice B neg.length d] 25)).heap.size = w.heap.size + 1 from by simp] at this⟩⟩⟩
  have HSF : Hid (∀ W, St w (.cells #[.int .i64 vr, .int .i64 hint, .int .i64 schema, .int .u64 zt, .slice A pos.length c, .slice B neg.length d] 25 (0, 0)) W → (St w (.cells #[.int .i64 vr, .int .i64 hint, .int .i64 schema, .int .u64 zt, .slice A pos.length c, .slice B neg.length d] 25 (0, 0)) W ∧ W.cell? ⟨w.heap.size, 0, none⟩ = some (.int .i64 vr) ∧ W.cell? ⟨w.heap.size, 1, none⟩ = some (.int .i64 hint) ∧ W.cell? ⟨w.heap.size, 2, none⟩ = some (.int .i64 schema) ∧ W.cell? ⟨w.heap.size, 3, none⟩ = some (.int .u64 zt) ∧ W.cell? ⟨w.heap.size, 4, none⟩ = some (.slice A pos.length c) ∧ W.cell? ⟨w.heap.size, 5, none⟩ = some (.slice B neg.length d))) := Lib.hid (fun W h => ⟨h, obj_cell h.o rfl, obj_cell h.o rfl, obj_cell h.o rfl, obj_cell h.o rfl, obj_cell h.o rfl, obj_cell h.o rfl⟩)
  rw [← ho0] at HSF
  have HPN : Hid (∀ (A' : Option Addr) (c' : Nat) (l : List Sp) W, St w o0 W → Spl w A' c' l → Calls Tryz.prog 78 #[.slice A' l.length c'] W fun e w' =>
      ∃ v, e = .returned v ∧ OwSp 214 w' W.heap.size v l ∧ Below W.heap.size W w' ∧ St w o0 w') := Lib.hid (by
    intro A' c' l W hb hl
    refine (spans_calls _ _ l W (hl.below hb.b).rd hl.len).mono ?_
    rintro e w' ⟨v, he, hw, hb'⟩
    exact ⟨v, he, hw, hb', hb.below hb'⟩)
  have HS0 := Lib.hid hs0
  have HZ := Lib.hid hz
  have HPS := Lib.hid hp
  have HNS := Lib.hid hn
  clear hp hn hz ho0 hs0
  go_enter Tryz.func19, Tryz.ntmps19
  go_wp2_with (fail)
  go_region_held3 (fun W => St w o0 W ∧ W.cell? ⟨w.heap.size, 0, none⟩ = some (.int .i64 vr) ∧ W.cell? ⟨w.heap.size, 1, none⟩ = some (.int .i64 hint) ∧ W.cell? ⟨w.heap.size, 2, none⟩ = some (.int .i64 schema) ∧ W.cell? ⟨w.heap.size, 3, none⟩ = some (.int .u64 zt) ∧ W.cell? ⟨w.heap.size, 4, none⟩ = some (.slice A pos.length c) ∧ W.cell? ⟨w.heap.size, 5, none⟩ = some (.slice B neg.length d))
    (first | (with_reducible exact HSF.out _ (St.drew HS0.out)) | (with_reducible exact HSF.out _ hst2) | (with_reducible exact HSF.out _ hst1) | (exact HSF.out _ (St.six hst2 _ _ _ _ _ _)))
    (first
    | (go_at_call 78; (with_reducible show Calls _ _ #[Value.slice A pos.length c] _ _); refine (HPN.out _ _ _ _ (And.left (by assumption)) HPS.out).mono ?_; rintro e w2 ⟨v1, rfl, ho1, hb1, hst1⟩; obtain ⟨A1, c1, rfl, -, -, -⟩ := ho1.reads; have hS1 := HSF.out _ hst1)
    | (go_at_call 78; refine (HPN.out _ _ _ _ (And.left (by assumption)) HNS.out).mono ?_; rintro e w3 ⟨v2, rfl, ho2, hb2, hst2⟩; obtain ⟨A2, c2, rfl, -, -, -⟩ := ho2.reads; have hS2 := HSF.out _ hst2; obtain ⟨u0, u1, u2, u3, u4, u5, ⟨f0, f1, f2, f3, f4, f5⟩, ⟨e0, e1, e2, e3, e4, e5⟩⟩ := hst2.free))
  have h6 := (St.six hst2 (.int .i64 vr) (.int .i64 hint) (.int .i64 schema) (.int .u64 zt) (.slice A1 pos.length c1) (.slice A2 neg.length c2)).b
  have hx := six_ch w3 (w.heap.size + 1) (.int .i64 vr) (.int .i64 hint) (.int .i64 schema) (.int .u64 zt) (.slice A1 pos.length c1) (.slice A2 neg.length c2)
  have hst1s := hst1.b.size
  have q1 := sps_any (ho1.below hb2) hx (fun k hk => by rw [hk]; simp)
  have q2 := sps_any ho2 hx (fun k hk => by rw [hk]; obtain ⟨cs, -, hz⟩ := hst1.z; exact blk_lt hz)
  have H6 := Lib.hid h6
  have Q1 := Lib.hid q1
  have Q2 := Lib.hid q2
  clear h6 hx q1 q2 ho1 ho2 hb1 hb2 hS1 hS2 hst1 hst2 hst1s
  go_wp2
  refine bodyPost_ret (v := .agg #[.int .i64 vr, .int .i64 hint, .int .i64 schema, .int .u64 zt, .slice A1 pos.length c1, .slice A2 neg.length c2]) (by rw [results_cell1 rfl]; go_simp) rfl ?_
  exact ⟨⟨A1, c1, A2, c2⟩, rfl, ⟨spl_any Q1.out HPS.out.len, spl_any Q2.out HNS.out.len, HZ.out⟩, H6.out⟩
end Go.Proofs.YtjfekjbmgckkcaaGreatDoor.Law14D

/- the reference of layer 14: the number at the beginning of a text. -/
namespace Go.Proofs.YtjfekjbmgckkcaaGreatDoor.Ref14C
open Go.RowKit Go.Proofs.YtjfekjbmgckkcaaGreatDoorW.PrintWords
open Go.Proofs.YtjfekjbmgckkcaaGreatDoor.Bits Go.Proofs.YtjfekjbmgckkcaaGreatDoor.Base Go.Proofs.YtjfekjbmgckkcaaGreatDoor.VarPure Go.Proofs.YtjfekjbmgckkcaaGreatDoor.VarbitD Go.Proofs.YtjfekjbmgckkcaaGreatDoor.VarKit Go.Proofs.YtjfekjbmgckkcaaGreatDoor.ReadP Go.Proofs.YtjfekjbmgckkcaaGreatDoor.HeadA Go.Proofs.YtjfekjbmgckkcaaGreatDoor.Ref01 Go.Proofs.YtjfekjbmgckkcaaGreatDoor.Ref04 Go.Proofs.YtjfekjbmgckkcaaGreatDoor.Ref12

/-- what Whole hands back. -/
def WP (r : PR Nat) (w : World) (e : Ending) (w' : World) : Prop := e = .returned (.tuple #[.int .u64 r.val, .int .i64 r.used, .int .i64 r.err]) ∧ Below w.heap.size w w'
/-- what Signed hands back. -/
def SP (r : PR Int) (w : World) (e : Ending) (w' : World) : Prop := e = .returned (.tuple #[.int .i64 r.val, .int .i64 r.used, .int .i64 r.err]) ∧ Below w.heap.size w w'
theorem wrap_back (y : Nat) (c : Int) (h : (y : Int) - c < 9223372036854775808) (h2 : -9223372036854775808 ≤ (y : Int) - c) : IntKind.i64.wrap (IntKind.u64.wrap ((y : Int) - c)) = (y : Int) - c := by
  rw [IntKind.wrap_u64, IntKind.wrap_i64]
  omega
set_option maxRecDepth 100000 in
set_option maxHeartbeats 1600000 in
theorem Whole_calls (q : List Bool) (w : World) (hm : q.length ≤ 1000000) :
    Calls Tryz.prog 165 #[.string (txt q)] w (WP (pU q) w) := by
  have HPA := Lib.hid (Ref04.Parse_calls q w hm)
  have hsz := txt_size q
  have HQ := Lib.hid hm
  obtain ⟨s, hs⟩ : ∃ s, s = txt q := ⟨_, rfl⟩
  rw [← hs] at HPA hsz ⊢
  have HS := Lib.hid hs
  clear hs hm
  go_enter Tryz.func165, Tryz.ntmps165
  go_wp2_with (fail)
  refine HPA.out.mono ?_
  rintro e w1 ⟨hb, hcase⟩
  have HB := Lib.hid hb
  clear hb HPA
  rcases hcase with ⟨hp, rfl⟩ | ⟨k, x, t, hp, he⟩
  · have HP : Hid (pU q = ⟨16, 0, 0, []⟩) := Lib.hid (by unfold pU; rw [hp])
    clear hp
    go_wp2
    go_ret3
    exact ⟨by rw [HP.out]; rfl, HB.out⟩
  obtain ⟨hk, hqe, hx⟩ := parse_some hp
  have hen := enc_parse hp
  have hle : front k + behind k ≤ q.length := by
    rw [hqe, List.length_append, List.length_append, ones_length, hx]
    omega
  have hcut0 := fun W => cut_lo (P := Tryz.prog) 9 Tryz.underlying9 s q (front k + behind k) HS.out hle W
  rw [hen] at hcut0
  have hb64 := behind_le (g := k)
  have hvlt : val x < 2 ^ behind k := by have := val_lt x; rwa [hx] at this
  have HV := Lib.hid (fun W => value_calls x W (by rw [hx]; exact hb64))
  have hsx := txt_size x
  rw [hx] at hsx
  have hv64 : val x < 18446744073709551616 := Nat.lt_of_lt_of_le hvlt (Nat.pow_le_pow_right (by decide) hb64)
  have HU := Lib.hid (fun W (h : Below w.heap.size w W) => lift h h.size (U_calls (val x) W hv64))
  have HPU : Hid (pU q = if okU k x then ⟨0, val x, front k + behind k, t⟩ else ⟨10, 0, 0, []⟩) := Lib.hid (by unfold pU; rw [hp])
  have hcu : okU k x = true → txt (encU (val x)) = txt (enc k (val x)) := fun h => by rw [encU, show gU (val x) = k from of_decide_eq_true h]
  have hcn : okU k x = false → ((txt (encU (val x))).toList == (txt (enc k (val x))).toList) = false := fun h => by
    rw [beq_str, decide_eq_false]
    intro he
    exact of_decide_eq_false h (enc_inj (gU_lt _) hk (txt_inj he))
  obtain ⟨m, hmm⟩ : ∃ m, m = front k + behind k := ⟨_, rfl⟩
  rw [← hmm] at he hcut0 HPU
  subst he
  obtain ⟨sx, hsx2⟩ : ∃ s, s = txt x := ⟨_, rfl⟩
  obtain ⟨sE, hsE⟩ : ∃ s, s = txt (enc k (val x)) := ⟨_, rfl⟩
  obtain ⟨sU, hsU⟩ : ∃ s, s = txt (encU (val x)) := ⟨_, rfl⟩
  obtain ⟨y, hy⟩ : ∃ y, y = val x := ⟨_, rfl⟩
  rw [← hsx2] at HV ⊢
  rw [← hsE] at hcut0 hcu hcn
  rw [← hsU] at HU hcu hcn
  rw [← hy] at HV HU HPU
  have hm0 : decide ((m : Int) < 0) = false := by simp
  clear hp hqe hx hen hle hb64 hvlt hv64 hmm hsx hsx2 hsE hsU hy hk
  cases hok : okU k x with
  | true =>
    have HPC : Hid (pU q = ⟨0, y, m, t⟩) := Lib.hid (by rw [HPU.out, hok]; rfl)
    have e1 := hcu hok
    subst e1
    clear hcu hcn hok HPU
    go_wp2_with (fail)
    refine (HV.out _).mono ?_
    rintro e w2 ⟨rfl, rfl⟩
    go_wp2_with (fail)
    go_region_held3 (fun W => Below w.heap.size w W)
      (first | (with_reducible exact below_drew HB.out) | (with_reducible exact hbu))
      (first
      | (go_at_call 156; refine (HU.out _ (by assumption)).mono ?_; rintro e w3 ⟨rfl, hbu⟩))
    all_goals
      have HBU := Lib.hid hbu
      go_wp2
      go_ret3
      exact ⟨by rw [HPC.out]; rfl, HBU.out⟩
  | false =>
    have HPC : Hid (pU q = ⟨10, 0, 0, []⟩) := Lib.hid (by rw [HPU.out, hok]; rfl)
    have e1 := hcn hok
    clear hcu hcn hok HPU
    go_wp2_with (fail)
    refine (HV.out _).mono ?_
    rintro e w2 ⟨rfl, rfl⟩
    go_wp2_with (fail)
    go_region_held3 (fun W => Below w.heap.size w W)
      (first | (with_reducible exact below_drew HB.out) | (with_reducible exact hbu))
      (first
      | (go_at_call 156; refine (HU.out _ (by assumption)).mono ?_; rintro e w3 ⟨rfl, hbu⟩))
    all_goals
      have HBU := Lib.hid hbu
      go_wp2
      go_ret3
      exact ⟨by rw [HPC.out]; rfl, HBU.out⟩
set_option maxRecDepth 100000 in
set_option maxHeartbeats 6400000 in
theorem Signed_calls (q : List Bool) (w : World) (hm : q.length ≤ 1000000) :
    Calls Tryz.prog 91 #[.string (txt q)] w (SP (pS q) w) := by
  have HPA := Lib.hid (Ref04.Parse_calls q w hm)
  have hsz := txt_size q
  have HQ := Lib.hid hm
  obtain ⟨s, hs⟩ : ∃ s, s = txt q := ⟨_, rfl⟩
  rw [← hs] at HPA hsz ⊢
  have HS := Lib.hid hs
  clear hs hm
  go_enter Tryz.func91, Tryz.ntmps91
  go_wp2_with (fail)
  refine HPA.out.mono ?_
  rintro e w1 ⟨hb, hcase⟩
  have HB := Lib.hid hb
  clear hb HPA
  rcases hcase with ⟨hp, rfl⟩ | ⟨k, x, t, hp, he⟩
  · have HP : Hid (pS q = ⟨16, 0, 0, []⟩) := Lib.hid (by unfold pS; rw [hp])
    clear hp
    go_wp2
    go_ret3
    exact ⟨by rw [HP.out]; rfl, HB.out⟩
  obtain ⟨hk, hqe, hx⟩ := parse_some hp
  have hen := enc_parse hp
  have hle : front k + behind k ≤ q.length := by
    rw [hqe, List.length_append, List.length_append, ones_length, hx]
    omega
  have hcut0 := fun W => cut_lo (P := Tryz.prog) 9 Tryz.underlying9 s q (front k + behind k) HS.out hle W
  rw [hen] at hcut0
  have hb64 := behind_le (g := k)
  have hvlt : val x < 2 ^ behind k := by have := val_lt x; rwa [hx] at this
  have HV := Lib.hid (fun W => value_calls x W (by rw [hx]; exact hb64))
  have hsx := txt_size x
  rw [hx] at hsx
  have hr := sgd_range _ _ hk hvlt
  have HS4 := Lib.hid (fun W (h : Below w.heap.size w W) => lift h h.size (S_calls (sgd (val x) (behind k)) W hr.1 hr.2))
  have HPU : Hid (pS q = if okS k x then ⟨0, sgd (val x) (behind k), front k + behind k, t⟩ else ⟨10, 0, 0, []⟩) := Lib.hid (by unfold pS; rw [hp])
  have hcu : okS k x = true → txt (encS (sgd (val x) (behind k))) = txt (enc k (val x)) := fun h => by rw [encS_sgd hk hx (of_decide_eq_true h)]
  have hcn : okS k x = false → ((txt (encS (sgd (val x) (behind k)))).toList == (txt (enc k (val x))).toList) = false := fun h => by
    rw [beq_str, decide_eq_false]
    intro he
    exact of_decide_eq_false h (enc_inj (gS_lt _) hk (txt_inj he))
  obtain ⟨m, hmm⟩ : ∃ m, m = front k + behind k := ⟨_, rfl⟩
  rw [← hmm] at he hcut0 HPU
  subst he
  obtain ⟨sx, hsx2⟩ : ∃ s, s = txt x := ⟨_, rfl⟩
  obtain ⟨sE, hsE⟩ : ∃ s, s = txt (enc k (val x)) := ⟨_, rfl⟩
  obtain ⟨sS, hsS⟩ : ∃ s, s = txt (encS (sgd (val x) (behind k))) := ⟨_, rfl⟩
  obtain ⟨y, hy⟩ : ∃ y, y = val x := ⟨_, rfl⟩
  obtain ⟨ok, hok⟩ : ∃ b, b = okS k x := ⟨_, rfl⟩
  rw [← hsx2] at HV hsx ⊢
  rw [← hsE] at hcut0 hcu hcn
  rw [← hsS] at HS4 hcu hcn
  rw [← hok] at HPU hcu hcn
  rw [← hy] at HV HS4 HPU hvlt
  have hm0 : decide ((m : Int) < 0) = false := by simp
  clear hp hqe hx hen hle hb64 hmm hsx2 hsE hsS hy hok hr
  have : k = 0 ∨ k = 1 ∨ k = 2 ∨ k = 3 ∨ k = 4 ∨ k = 5 ∨ k = 6 ∨ k = 7 ∨ k = 8 := by omega
  rcases this with rfl | rfl | rfl | rfl | rfl | rfl | rfl | rfl | rfl
  · rw [show behind 0 = 0 from rfl] at hvlt hsx HS4 HPU
    obtain rfl : y = 0 := by simpa using hvlt
    rw [show sgd 0 0 = 0 from rfl] at HS4 HPU
    clear hvlt
    cases ok with
    | true =>
      have HPC : Hid (pS q = ⟨0, 0, m, t⟩) := Lib.hid (by rw [HPU.out]; rfl)
      have e1 := hcu rfl
      subst e1
      clear hcu hcn HPU
      go_wp2_with (fail)
      refine (HV.out _).mono ?_
      rintro e w2 ⟨rfl, rfl⟩
      go_wp2_with (fail)
      go_region_held3 (fun W => Below w.heap.size w W)
        (first | (with_reducible exact below_drew HB.out) | (with_reducible exact hbu))
        (first
        | (go_at_call 81; refine (HS4.out _ (by assumption)).mono ?_; rintro e w3 ⟨rfl, hbu⟩))
      all_goals
        have HBU := Lib.hid hbu
        go_wp2
        go_ret3
        exact ⟨by rw [HPC.out]; rfl, HBU.out⟩
    | false =>
      have HPC : Hid (pS q = ⟨10, 0, 0, []⟩) := Lib.hid (by rw [HPU.out]; rfl)
      have e1 := hcn rfl
      clear hcu hcn HPU
      go_wp2_with (fail)
      refine (HV.out _).mono ?_
      rintro e w2 ⟨rfl, rfl⟩
      go_wp2_with (fail)
      go_region_held3 (fun W => Below w.heap.size w W)
        (first | (with_reducible exact below_drew HB.out) | (with_reducible exact hbu))
        (first
        | (go_at_call 81; refine (HS4.out _ (by assumption)).mono ?_; rintro e w3 ⟨rfl, hbu⟩))
      all_goals
        have HBU := Lib.hid hbu
        go_wp2
        go_ret3
        exact ⟨by rw [HPC.out]; rfl, HBU.out⟩
  · rw [show behind 1 = 3 from rfl] at hvlt hsx HS4 HPU
    have hy2 : y < 8 := hvlt
    by_cases ha : 4 < y
    · have d1 : decide ((y : Int) > 4) = true := by simp; omega
      have d1' : decide (4 < (y : Int)) = true := by simp; omega
      have d1n : decide (4 < y) = true := by simp; omega
      have hsg : sgd y 3 = (y : Int) - 8 := by simp [sgd, ha]
      have hwb := wrap_back y 8 (by omega) (by omega)
      rw [hsg] at HS4 HPU
      clear hsg hvlt ha
      cases ok with
      | true =>
        have HPC : Hid (pS q = ⟨0, (y : Int) - 8, m, t⟩) := Lib.hid (by rw [HPU.out]; rfl)
        have e1 := hcu rfl
        subst e1
        clear hcu hcn HPU
        go_wp2_with (fail)
        refine (HV.out _).mono ?_
        rintro e w2 ⟨rfl, rfl⟩
        go_wp2_with (fail)
        go_region_held3 (fun W => Below w.heap.size w W)
          (first | (with_reducible exact below_drew HB.out) | (with_reducible exact hbu))
          (first
          | (go_at_call 81; refine (HS4.out _ (by assumption)).mono ?_; rintro e w3 ⟨rfl, hbu⟩))
        all_goals
          have HBU := Lib.hid hbu
          go_wp2
          go_ret3
          exact ⟨by rw [HPC.out]; rfl, HBU.out⟩
      | false =>
        have HPC : Hid (pS q = ⟨10, 0, 0, []⟩) := Lib.hid (by rw [HPU.out]; rfl)
        have e1 := hcn rfl
        clear hcu hcn HPU
        go_wp2_with (fail)
        refine (HV.out _).mono ?_
        rintro e w2 ⟨rfl, rfl⟩
        go_wp2_with (fail)
        go_region_held3 (fun W => Below w.heap.size w W)
          (first | (with_reducible exact below_drew HB.out) | (with_reducible exact hbu))
          (first
          | (go_at_call 81; refine (HS4.out _ (by assumption)).mono ?_; rintro e w3 ⟨rfl, hbu⟩))
        all_goals
          have HBU := Lib.hid hbu
          go_wp2
          go_ret3
          exact ⟨by rw [HPC.out]; rfl, HBU.out⟩
    · have d1 : decide ((y : Int) > 4) = false := by simp; omega
      have d1' : decide (4 < (y : Int)) = false := by simp; omega
      have d1n : decide (4 < y) = false := by simp; omega
      have hw : IntKind.i64.wrap (y : Int) = y := by rw [IntKind.wrap_i64]; omega
      have hsg : sgd y 3 = (y : Int) := by simp [sgd]; omega
      rw [hsg] at HS4 HPU
      clear hsg hvlt ha
      cases ok with
      | true =>
        have HPC : Hid (pS q = ⟨0, (y : Int), m, t⟩) := Lib.hid (by rw [HPU.out]; rfl)
        have e1 := hcu rfl
        subst e1
        clear hcu hcn HPU
        go_wp2_with (fail)
        refine (HV.out _).mono ?_
        rintro e w2 ⟨rfl, rfl⟩
        go_wp2_with (fail)
        go_region_held3 (fun W => Below w.heap.size w W)
          (first | (with_reducible exact below_drew HB.out) | (with_reducible exact hbu))
          (first
          | (go_at_call 81; refine (HS4.out _ (by assumption)).mono ?_; rintro e w3 ⟨rfl, hbu⟩))
        all_goals
          have HBU := Lib.hid hbu
          go_wp2
          go_ret3
          exact ⟨by rw [HPC.out]; rfl, HBU.out⟩
      | false =>
        have HPC : Hid (pS q = ⟨10, 0, 0, []⟩) := Lib.hid (by rw [HPU.out]; rfl)
        have e1 := hcn rfl
        clear hcu hcn HPU
        go_wp2_with (fail)
        refine (HV.out _).mono ?_
        rintro e w2 ⟨rfl, rfl⟩
        go_wp2_with (fail)
        go_region_held3 (fun W => Below w.heap.size w W)
          (first | (with_reducible exact below_drew HB.out) | (with_reducible exact hbu))
          (first
          | (go_at_call 81; refine (HS4.out _ (by assumption)).mono ?_; rintro e w3 ⟨rfl, hbu⟩))
        all_goals
          have HBU := Lib.hid hbu
          go_wp2
          go_ret3
          exact ⟨by rw [HPC.out]; rfl, HBU.out⟩
  · rw [show behind 2 = 6 from rfl] at hvlt hsx HS4 HPU
    have hy2 : y < 64 := hvlt
    by_cases ha : 32 < y
    · have d1 : decide ((y : Int) > 32) = true := by simp; omega
      have d1' : decide (32 < (y : Int)) = true := by simp; omega
      have d1n : decide (32 < y) = true := by simp; omega
      have hsg : sgd y 6 = (y : Int) - 64 := by simp [sgd, ha]
      have hwb := wrap_back y 64 (by omega) (by omega)
      rw [hsg] at HS4 HPU
      clear hsg hvlt ha
      cases ok with
      | true =>
        have HPC : Hid (pS q = ⟨0, (y : Int) - 64, m, t⟩) := Lib.hid (by rw [HPU.out]; rfl)
        have e1 := hcu rfl
        subst e1
        clear hcu hcn HPU
        go_wp2_with (fail)
        refine (HV.out _).mono ?_
        rintro e w2 ⟨rfl, rfl⟩
        go_wp2_with (fail)
        go_region_held3 (fun W => Below w.heap.size w W)
          (first | (with_reducible exact below_drew HB.out) | (with_reducible exact hbu))
          (first
          | (go_at_call 81; refine (HS4.out _ (by assumption)).mono ?_; rintro e w3 ⟨rfl, hbu⟩))
        all_goals
          have HBU := Lib.hid hbu
          go_wp2
          go_ret3
          exact ⟨by rw [HPC.out]; rfl, HBU.out⟩
      | false =>
        have HPC : Hid (pS q = ⟨10, 0, 0, []⟩) := Lib.hid (by rw [HPU.out]; rfl)
        have e1 := hcn rfl
        clear hcu hcn HPU
        go_wp2_with (fail)
        refine (HV.out _).mono ?_
        rintro e w2 ⟨rfl, rfl⟩
        go_wp2_with (fail)
        go_region_held3 (fun W => Below w.heap.size w W)
          (first | (with_reducible exact below_drew HB.out) | (with_reducible exact hbu))
          (first
          | (go_at_call 81; refine (HS4.out _ (by assumption)).mono ?_; rintro e w3 ⟨rfl, hbu⟩))
        all_goals
          have HBU := Lib.hid hbu
          go_wp2
          go_ret3
          exact ⟨by rw [HPC.out]; rfl, HBU.out⟩
    · have d1 : decide ((y : Int) > 32) = false := by simp; omega
      have d1' : decide (32 < (y : Int)) = false := by simp; omega
      have d1n : decide (32 < y) = false := by simp; omega
      have hw : IntKind.i64.wrap (y : Int) = y := by rw [IntKind.wrap_i64]; omega
      have hsg : sgd y 6 = (y : Int) := by simp [sgd]; omega
      rw [hsg] at HS4 HPU
      clear hsg hvlt ha
      cases ok with
      | true =>
        have HPC : Hid (pS q = ⟨0, (y : Int), m, t⟩) := Lib.hid (by rw [HPU.out]; rfl)
        have e1 := hcu rfl
        subst e1
        clear hcu hcn HPU
        go_wp2_with (fail)
        refine (HV.out _).mono ?_
        rintro e w2 ⟨rfl, rfl⟩
        go_wp2_with (fail)
        go_region_held3 (fun W => Below w.heap.size w W)
          (first | (with_reducible exact below_drew HB.out) | (with_reducible exact hbu))
          (first
          | (go_at_call 81; refine (HS4.out _ (by assumption)).mono ?_; rintro e w3 ⟨rfl, hbu⟩))
        all_goals
          have HBU := Lib.hid hbu
          go_wp2
          go_ret3
          exact ⟨by rw [HPC.out]; rfl, HBU.out⟩
      | false =>
        have HPC : Hid (pS q = ⟨10, 0, 0, []⟩) := Lib.hid (by rw [HPU.out]; rfl)
        have e1 := hcn rfl
        clear hcu hcn HPU
        go_wp2_with (fail)
        refine (HV.out _).mono ?_
        rintro e w2 ⟨rfl, rfl⟩
        go_wp2_with (fail)
        go_region_held3 (fun W => Below w.heap.size w W)
          (first | (with_reducible exact below_drew HB.out) | (with_reducible exact hbu))
          (first
          | (go_at_call 81; refine (HS4.out _ (by assumption)).mono ?_; rintro e w3 ⟨rfl, hbu⟩))
        all_goals
          have HBU := Lib.hid hbu
          go_wp2
          go_ret3
          exact ⟨by rw [HPC.out]; rfl, HBU.out⟩
  · rw [show behind 3 = 9 from rfl] at hvlt hsx HS4 HPU
    have hy2 : y < 512 := hvlt
    by_cases ha : 256 < y
    · have d1 : decide ((y : Int) > 256) = true := by simp; omega
      have d1' : decide (256 < (y : Int)) = true := by simp; omega
      have d1n : decide (256 < y) = true := by simp; omega
      have hsg : sgd y 9 = (y : Int) - 512 := by simp [sgd, ha]
      have hwb := wrap_back y 512 (by omega) (by omega)
      rw [hsg] at HS4 HPU
      clear hsg hvlt ha
      cases ok with
      | true =>
        have HPC : Hid (pS q = ⟨0, (y : Int) - 512, m, t⟩) := Lib.hid (by rw [HPU.out]; rfl)
        have e1 := hcu rfl
        subst e1
        clear hcu hcn HPU
        go_wp2_with (fail)
        refine (HV.out _).mono ?_
        rintro e w2 ⟨rfl, rfl⟩
        go_wp2_with (fail)
        go_region_held3 (fun W => Below w.heap.size w W)
          (first | (with_reducible exact below_drew HB.out) | (with_reducible exact hbu))
          (first
          | (go_at_call 81; refine (HS4.out _ (by assumption)).mono ?_; rintro e w3 ⟨rfl, hbu⟩))
        all_goals
          have HBU := Lib.hid hbu
          go_wp2
          go_ret3
          exact ⟨by rw [HPC.out]; rfl, HBU.out⟩
      | false =>
        have HPC : Hid (pS q = ⟨10, 0, 0, []⟩) := Lib.hid (by rw [HPU.out]; rfl)
        have e1 := hcn rfl
        clear hcu hcn HPU
        go_wp2_with (fail)
        refine (HV.out _).mono ?_
        rintro e w2 ⟨rfl, rfl⟩
        go_wp2_with (fail)
        go_region_held3 (fun W => Below w.heap.size w W)
          (first | (with_reducible exact below_drew HB.out) | (with_reducible exact hbu))
          (first
          | (go_at_call 81; refine (HS4.out _ (by assumption)).mono ?_; rintro e w3 ⟨rfl, hbu⟩))
        all_goals
          have HBU := Lib.hid hbu
          go_wp2
          go_ret3
          exact ⟨by rw [HPC.out]; rfl, HBU.out⟩
    · have d1 : decide ((y : Int) > 256) = false := by simp; omega
      have d1' : decide (256 < (y : Int)) = false := by simp; omega
      have d1n : decide (256 < y) = false := by simp; omega
      have hw : IntKind.i64.wrap (y : Int) = y := by rw [IntKind.wrap_i64]; omega
      have hsg : sgd y 9 = (y : Int) := by simp [sgd]; omega
      rw [hsg] at HS4 HPU
      clear hsg hvlt ha
      cases ok with
      | true =>
        have HPC : Hid (pS q = ⟨0, (y : Int), m, t⟩) := Lib.hid (by rw [HPU.out]; rfl)
        have e1 := hcu rfl
        subst e1
        clear hcu hcn HPU
        go_wp2_with (fail)
        refine (HV.out _).mono ?_
        rintro e w2 ⟨rfl, rfl⟩
        go_wp2_with (fail)
        go_region_held3 (fun W => Below w.heap.size w W)
          (first | (with_reducible exact below_drew HB.out) | (with_reducible exact hbu))
          (first
          | (go_at_call 81; refine (HS4.out _ (by assumption)).mono ?_; rintro e w3 ⟨rfl, hbu⟩))
        all_goals
          have HBU := Lib.hid hbu
          go_wp2
          go_ret3
          exact ⟨by rw [HPC.out]; rfl, HBU.out⟩
      | false =>
        have HPC : Hid (pS q = ⟨10, 0, 0, []⟩) := Lib.hid (by rw [HPU.out]; rfl)
        have e1 := hcn rfl
        clear hcu hcn HPU
        go_wp2_with (fail)
        refine (HV.out _).mono ?_
        rintro e w2 ⟨rfl, rfl⟩
        go_wp2_with (fail)
        go_region_held3 (fun W => Below w.heap.size w W)
          (first | (with_reducible exact below_drew HB.out) | (with_reducible exact hbu))
          (first
          | (go_at_call 81; refine (HS4.out _ (by assumption)).mono ?_; rintro e w3 ⟨rfl, hbu⟩))
        all_goals
          have HBU := Lib.hid hbu
          go_wp2
          go_ret3
          exact ⟨by rw [HPC.out]; rfl, HBU.out⟩
  · rw [show behind 4 = 12 from rfl] at hvlt hsx HS4 HPU
    have hy2 : y < 4096 := hvlt
    by_cases ha : 2048 < y
    · have d1 : decide ((y : Int) > 2048) = true := by simp; omega
      have d1' : decide (2048 < (y : Int)) = true := by simp; omega
      have d1n : decide (2048 < y) = true := by simp; omega
      have hsg : sgd y 12 = (y : Int) - 4096 := by simp [sgd, ha]
      have hwb := wrap_back y 4096 (by omega) (by omega)
      rw [hsg] at HS4 HPU
      clear hsg hvlt ha
      cases ok with
      | true =>
        have HPC : Hid (pS q = ⟨0, (y : Int) - 4096, m, t⟩) := Lib.hid (by rw [HPU.out]; rfl)
        have e1 := hcu rfl
        subst e1
        clear hcu hcn HPU
        go_wp2_with (fail)
        refine (HV.out _).mono ?_
        rintro e w2 ⟨rfl, rfl⟩
        go_wp2_with (fail)
        go_region_held3 (fun W => Below w.heap.size w W)
          (first | (with_reducible exact below_drew HB.out) | (with_reducible exact hbu))
          (first
          | (go_at_call 81; refine (HS4.out _ (by assumption)).mono ?_; rintro e w3 ⟨rfl, hbu⟩))
        all_goals
          have HBU := Lib.hid hbu
          go_wp2
          go_ret3
          exact ⟨by rw [HPC.out]; rfl, HBU.out⟩
      | false =>
        have HPC : Hid (pS q = ⟨10, 0, 0, []⟩) := Lib.hid (by rw [HPU.out]; rfl)
        have e1 := hcn rfl
        clear hcu hcn HPU
        go_wp2_with (fail)
        refine (HV.out _).mono ?_
        rintro e w2 ⟨rfl, rfl⟩
        go_wp2_with (fail)
        go_region_held3 (fun W => Below w.heap.size w W)
          (first | (with_reducible exact below_drew HB.out) | (with_reducible exact hbu))
          (first
          | (go_at_call 81; refine (HS4.out _ (by assumption)).mono ?_; rintro e w3 ⟨rfl, hbu⟩))
        all_goals
          have HBU := Lib.hid hbu
          go_wp2
          go_ret3
          exact ⟨by rw [HPC.out]; rfl, HBU.out⟩
    · have d1 : decide ((y : Int) > 2048) = false := by simp; omega
      have d1' : decide (2048 < (y : Int)) = false := by simp; omega
      have d1n : decide (2048 < y) = false := by simp; omega
      have hw : IntKind.i64.wrap (y : Int) = y := by rw [IntKind.wrap_i64]; omega
      have hsg : sgd y 12 = (y : Int) := by simp [sgd]; omega
      rw [hsg] at HS4 HPU
      clear hsg hvlt ha
      cases ok with
      | true =>
        have HPC : Hid (pS q = ⟨0, (y : Int), m, t⟩) := Lib.hid (by rw [HPU.out]; rfl)
        have e1 := hcu rfl
        subst e1
        clear hcu hcn HPU
        go_wp2_with (fail)
        refine (HV.out _).mono ?_
        rintro e w2 ⟨rfl, rfl⟩
        go_wp2_with (fail)
        go_region_held3 (fun W => Below w.heap.size w W)
          (first | (with_reducible exact below_drew HB.out) | (with_reducible exact hbu))
          (first
          | (go_at_call 81; refine (HS4.out _ (by assumption)).mono ?_; rintro e w3 ⟨rfl, hbu⟩))
        all_goals
          have HBU := Lib.hid hbu
          go_wp2
          go_ret3
          exact ⟨by rw [HPC.out]; rfl, HBU.out⟩
      | false =>
        have HPC : Hid (pS q = ⟨10, 0, 0, []⟩) := Lib.hid (by rw [HPU.out]; rfl)
        have e1 := hcn rfl
        clear hcu hcn HPU
        go_wp2_with (fail)
        refine (HV.out _).mono ?_
        rintro e w2 ⟨rfl, rfl⟩
        go_wp2_with (fail)
        go_region_held3 (fun W => Below w.heap.size w W)
          (first | (with_reducible exact below_drew HB.out) | (with_reducible exact hbu))
          (first
          | (go_at_call 81; refine (HS4.out _ (by assumption)).mono ?_; rintro e w3 ⟨rfl, hbu⟩))
        all_goals
          have HBU := Lib.hid hbu
          go_wp2
          go_ret3
          exact ⟨by rw [HPC.out]; rfl, HBU.out⟩
  · rw [show behind 5 = 18 from rfl] at hvlt hsx HS4 HPU
    have hy2 : y < 262144 := hvlt
    by_cases ha : 131072 < y
    · have d1 : decide ((y : Int) > 131072) = true := by simp; omega
      have d1' : decide (131072 < (y : Int)) = true := by simp; omega
      have d1n : decide (131072 < y) = true := by simp; omega
      have hsg : sgd y 18 = (y : Int) - 262144 := by simp [sgd, ha]
      have hwb := wrap_back y 262144 (by omega) (by omega)
      rw [hsg] at HS4 HPU
      clear hsg hvlt ha
      cases ok with
      | true =>
        have HPC : Hid (pS q = ⟨0, (y : Int) - 262144, m, t⟩) := Lib.hid (by rw [HPU.out]; rfl)
        have e1 := hcu rfl
        subst e1
        clear hcu hcn HPU
        go_wp2_with (fail)
        refine (HV.out _).mono ?_
        rintro e w2 ⟨rfl, rfl⟩
        go_wp2_with (fail)
        go_region_held3 (fun W => Below w.heap.size w W)
          (first | (with_reducible exact below_drew HB.out) | (with_reducible exact hbu))
          (first
          | (go_at_call 81; refine (HS4.out _ (by assumption)).mono ?_; rintro e w3 ⟨rfl, hbu⟩))
        all_goals
          have HBU := Lib.hid hbu
          go_wp2
          go_ret3
          exact ⟨by rw [HPC.out]; rfl, HBU.out⟩
      | false =>
        have HPC : Hid (pS q = ⟨10, 0, 0, []⟩) := Lib.hid (by rw [HPU.out]; rfl)
        have e1 := hcn rfl
        clear hcu hcn HPU
        go_wp2_with (fail)
        refine (HV.out _).mono ?_
        rintro e w2 ⟨rfl, rfl⟩
        go_wp2_with (fail)
        go_region_held3 (fun W => Below w.heap.size w W)
          (first | (with_reducible exact below_drew HB.out) | (with_reducible exact hbu))
          (first
          | (go_at_call 81; refine (HS4.out _ (by assumption)).mono ?_; rintro e w3 ⟨rfl, hbu⟩))
        all_goals
          have HBU := Lib.hid hbu
          go_wp2
          go_ret3
          exact ⟨by rw [HPC.out]; rfl, HBU.out⟩
    · have d1 : decide ((y : Int) > 131072) = false := by simp; omega
      have d1' : decide (131072 < (y : Int)) = false := by simp; omega
      have d1n : decide (131072 < y) = false := by simp; omega
      have hw : IntKind.i64.wrap (y : Int) = y := by rw [IntKind.wrap_i64]; omega
      have hsg : sgd y 18 = (y : Int) := by simp [sgd]; omega
      rw [hsg] at HS4 HPU
      clear hsg hvlt ha
      cases ok with
      | true =>
        have HPC : Hid (pS q = ⟨0, (y : Int), m, t⟩) := Lib.hid (by rw [HPU.out]; rfl)
        have e1 := hcu rfl
        subst e1
        clear hcu hcn HPU
        go_wp2_with (fail)
        refine (HV.out _).mono ?_
        rintro e w2 ⟨rfl, rfl⟩
        go_wp2_with (fail)
        go_region_held3 (fun W => Below w.heap.size w W)
          (first | (with_reducible exact below_drew HB.out) | (with_reducible exact hbu))
          (first
          | (go_at_call 81; refine (HS4.out _ (by assumption)).mono ?_; rintro e w3 ⟨rfl, hbu⟩))
        all_goals
          have HBU := Lib.hid hbu
          go_wp2
          go_ret3
          exact ⟨by rw [HPC.out]; rfl, HBU.out⟩
      | false =>
        have HPC : Hid (pS q = ⟨10, 0, 0, []⟩) := Lib.hid (by rw [HPU.out]; rfl)
        have e1 := hcn rfl
        clear hcu hcn HPU
        go_wp2_with (fail)
        refine (HV.out _).mono ?_
        rintro e w2 ⟨rfl, rfl⟩
        go_wp2_with (fail)
        go_region_held3 (fun W => Below w.heap.size w W)
          (first | (with_reducible exact below_drew HB.out) | (with_reducible exact hbu))
          (first
          | (go_at_call 81; refine (HS4.out _ (by assumption)).mono ?_; rintro e w3 ⟨rfl, hbu⟩))
        all_goals
          have HBU := Lib.hid hbu
          go_wp2
          go_ret3
          exact ⟨by rw [HPC.out]; rfl, HBU.out⟩
  · rw [show behind 6 = 25 from rfl] at hvlt hsx HS4 HPU
    have hy2 : y < 33554432 := hvlt
    by_cases ha : 16777216 < y
    · have d1 : decide ((y : Int) > 16777216) = true := by simp; omega
      have d1' : decide (16777216 < (y : Int)) = true := by simp; omega
      have d1n : decide (16777216 < y) = true := by simp; omega
      have hsg : sgd y 25 = (y : Int) - 33554432 := by simp [sgd, ha]
      have hwb := wrap_back y 33554432 (by omega) (by omega)
      rw [hsg] at HS4 HPU
      clear hsg hvlt ha
      cases ok with
      | true =>
        have HPC : Hid (pS q = ⟨0, (y : Int) - 33554432, m, t⟩) := Lib.hid (by rw [HPU.out]; rfl)
        have e1 := hcu rfl
        subst e1
        clear hcu hcn HPU
        go_wp2_with (fail)
        refine (HV.out _).mono ?_
        rintro e w2 ⟨rfl, rfl⟩
        go_wp2_with (fail)
        go_region_held3 (fun W => Below w.heap.size w W)
          (first | (with_reducible exact below_drew HB.out) | (with_reducible exact hbu))
          (first
          | (go_at_call 81; refine (HS4.out _ (by assumption)).mono ?_; rintro e w3 ⟨rfl, hbu⟩))
        all_goals
          have HBU := Lib.hid hbu
          go_wp2
          go_ret3
          exact ⟨by rw [HPC.out]; rfl, HBU.out⟩
      | false =>
        have HPC : Hid (pS q = ⟨10, 0, 0, []⟩) := Lib.hid (by rw [HPU.out]; rfl)
        have e1 := hcn rfl
        clear hcu hcn HPU
        go_wp2_with (fail)
        refine (HV.out _).mono ?_
        rintro e w2 ⟨rfl, rfl⟩
        go_wp2_with (fail)
        go_region_held3 (fun W => Below w.heap.size w W)
          (first | (with_reducible exact below_drew HB.out) | (with_reducible exact hbu))
          (first
          | (go_at_call 81; refine (HS4.out _ (by assumption)).mono ?_; rintro e w3 ⟨rfl, hbu⟩))
        all_goals
          have HBU := Lib.hid hbu
          go_wp2
          go_ret3
          exact ⟨by rw [HPC.out]; rfl, HBU.out⟩
    · have d1 : decide ((y : Int) > 16777216) = false := by simp; omega
      have d1' : decide (16777216 < (y : Int)) = false := by simp; omega
      have d1n : decide (16777216 < y) = false := by simp; omega
      have hw : IntKind.i64.wrap (y : Int) = y := by rw [IntKind.wrap_i64]; omega
      have hsg : sgd y 25 = (y : Int) := by simp [sgd]; omega
      rw [hsg] at HS4 HPU
      clear hsg hvlt ha
      cases ok with
      | true =>
        have HPC : Hid (pS q = ⟨0, (y : Int), m, t⟩) := Lib.hid (by rw [HPU.out]; rfl)
        have e1 := hcu rfl
        subst e1
        clear hcu hcn HPU
        go_wp2_with (fail)
        refine (HV.out _).mono ?_
        rintro e w2 ⟨rfl, rfl⟩
        go_wp2_with (fail)
        go_region_held3 (fun W => Below w.heap.size w W)
          (first | (with_reducible exact below_drew HB.out) | (with_reducible exact hbu))
          (first
          | (go_at_call 81; refine (HS4.out _ (by assumption)).mono ?_; rintro e w3 ⟨rfl, hbu⟩))
        all_goals
          have HBU := Lib.hid hbu
          go_wp2
          go_ret3
          exact ⟨by rw [HPC.out]; rfl, HBU.out⟩
      | false =>
        have HPC : Hid (pS q = ⟨10, 0, 0, []⟩) := Lib.hid (by rw [HPU.out]; rfl)
        have e1 := hcn rfl
        clear hcu hcn HPU
        go_wp2_with (fail)
        refine (HV.out _).mono ?_
        rintro e w2 ⟨rfl, rfl⟩
        go_wp2_with (fail)
        go_region_held3 (fun W => Below w.heap.size w W)
          (first | (with_reducible exact below_drew HB.out) | (with_reducible exact hbu))
          (first
          | (go_at_call 81; refine (HS4.out _ (by assumption)).mono ?_; rintro e w3 ⟨rfl, hbu⟩))
        all_goals
          have HBU := Lib.hid hbu
          go_wp2
          go_ret3
          exact ⟨by rw [HPC.out]; rfl, HBU.out⟩
  · rw [show behind 7 = 56 from rfl] at hvlt hsx HS4 HPU
    have hy2 : y < 72057594037927936 := hvlt
    by_cases ha : 36028797018963968 < y
    · have d1 : decide ((y : Int) > 36028797018963968) = true := by simp; omega
      have d1' : decide (36028797018963968 < (y : Int)) = true := by simp; omega
      have d1n : decide (36028797018963968 < y) = true := by simp; omega
      have hsg : sgd y 56 = (y : Int) - 72057594037927936 := by simp [sgd, ha]
      have hwb := wrap_back y 72057594037927936 (by omega) (by omega)
      rw [hsg] at HS4 HPU
      clear hsg hvlt ha
      cases ok with
      | true =>
        have HPC : Hid (pS q = ⟨0, (y : Int) - 72057594037927936, m, t⟩) := Lib.hid (by rw [HPU.out]; rfl)
        have e1 := hcu rfl
        subst e1
        clear hcu hcn HPU
        go_wp2_with (fail)
        refine (HV.out _).mono ?_
        rintro e w2 ⟨rfl, rfl⟩
        go_wp2_with (fail)
        go_region_held3 (fun W => Below w.heap.size w W)
          (first | (with_reducible exact below_drew HB.out) | (with_reducible exact hbu))
          (first
          | (go_at_call 81; refine (HS4.out _ (by assumption)).mono ?_; rintro e w3 ⟨rfl, hbu⟩))
        all_goals
          have HBU := Lib.hid hbu
          go_wp2
          go_ret3
          exact ⟨by rw [HPC.out]; rfl, HBU.out⟩
      | false =>
        have HPC : Hid (pS q = ⟨10, 0, 0, []⟩) := Lib.hid (by rw [HPU.out]; rfl)
        have e1 := hcn rfl
        clear hcu hcn HPU
        go_wp2_with (fail)
        refine (HV.out _).mono ?_
        rintro e w2 ⟨rfl, rfl⟩
        go_wp2_with (fail)
        go_region_held3 (fun W => Below w.heap.size w W)
          (first | (with_reducible exact below_drew HB.out) | (with_reducible exact hbu))
          (first
          | (go_at_call 81; refine (HS4.out _ (by assumption)).mono ?_; rintro e w3 ⟨rfl, hbu⟩))
        all_goals
          have HBU := Lib.hid hbu
          go_wp2
          go_ret3
          exact ⟨by rw [HPC.out]; rfl, HBU.out⟩
    · have d1 : decide ((y : Int) > 36028797018963968) = false := by simp; omega
      have d1' : decide (36028797018963968 < (y : Int)) = false := by simp; omega
      have d1n : decide (36028797018963968 < y) = false := by simp; omega
      have hw : IntKind.i64.wrap (y : Int) = y := by rw [IntKind.wrap_i64]; omega
      have hsg : sgd y 56 = (y : Int) := by simp [sgd]; omega
      rw [hsg] at HS4 HPU
      clear hsg hvlt ha
      cases ok with
      | true =>
        have HPC : Hid (pS q = ⟨0, (y : Int), m, t⟩) := Lib.hid (by rw [HPU.out]; rfl)
        have e1 := hcu rfl
        subst e1
        clear hcu hcn HPU
        go_wp2_with (fail)
        refine (HV.out _).mono ?_
        rintro e w2 ⟨rfl, rfl⟩
        go_wp2_with (fail)
        go_region_held3 (fun W => Below w.heap.size w W)
          (first | (with_reducible exact below_drew HB.out) | (with_reducible exact hbu))
          (first
          | (go_at_call 81; refine (HS4.out _ (by assumption)).mono ?_; rintro e w3 ⟨rfl, hbu⟩))
        all_goals
          have HBU := Lib.hid hbu
          go_wp2
          go_ret3
          exact ⟨by rw [HPC.out]; rfl, HBU.out⟩
      | false =>
        have HPC : Hid (pS q = ⟨10, 0, 0, []⟩) := Lib.hid (by rw [HPU.out]; rfl)
        have e1 := hcn rfl
        clear hcu hcn HPU
        go_wp2_with (fail)
        refine (HV.out _).mono ?_
        rintro e w2 ⟨rfl, rfl⟩
        go_wp2_with (fail)
        go_region_held3 (fun W => Below w.heap.size w W)
          (first | (with_reducible exact below_drew HB.out) | (with_reducible exact hbu))
          (first
          | (go_at_call 81; refine (HS4.out _ (by assumption)).mono ?_; rintro e w3 ⟨rfl, hbu⟩))
        all_goals
          have HBU := Lib.hid hbu
          go_wp2
          go_ret3
          exact ⟨by rw [HPC.out]; rfl, HBU.out⟩
  · rw [show behind 8 = 64 from rfl] at hvlt hsx HS4 HPU
    have hs8 : sgd y 64 = VarPure.i64 y := if_pos rfl
    have hw8 : IntKind.i64.wrap (y : Int) = VarPure.i64 y := wrap_i64 y hvlt
    rw [hs8] at HS4 HPU
    obtain ⟨Y, hY⟩ : ∃ Y, Y = VarPure.i64 y := ⟨_, rfl⟩
    rw [← hY] at HS4 HPU hw8
    clear hs8 hY hvlt
    cases ok with
    | true =>
      have HPC : Hid (pS q = ⟨0, Y, m, t⟩) := Lib.hid (by rw [HPU.out]; rfl)
      have e1 := hcu rfl
      subst e1
      clear hcu hcn HPU
      go_wp2_with (fail)
      refine (HV.out _).mono ?_
      rintro e w2 ⟨rfl, rfl⟩
      go_wp2_with (fail)
      go_region_held3 (fun W => Below w.heap.size w W)
        (first | (with_reducible exact below_drew HB.out) | (with_reducible exact hbu))
        (first
        | (go_at_call 81; refine (HS4.out _ (by assumption)).mono ?_; rintro e w3 ⟨rfl, hbu⟩))
      all_goals
        have HBU := Lib.hid hbu
        go_wp2
        go_ret3
        exact ⟨by rw [HPC.out]; rfl, HBU.out⟩
    | false =>
      have HPC : Hid (pS q = ⟨10, 0, 0, []⟩) := Lib.hid (by rw [HPU.out]; rfl)
      have e1 := hcn rfl
      clear hcu hcn HPU
      go_wp2_with (fail)
      refine (HV.out _).mono ?_
      rintro e w2 ⟨rfl, rfl⟩
      go_wp2_with (fail)
      go_region_held3 (fun W => Below w.heap.size w W)
        (first | (with_reducible exact below_drew HB.out) | (with_reducible exact hbu))
        (first
        | (go_at_call 81; refine (HS4.out _ (by assumption)).mono ?_; rintro e w3 ⟨rfl, hbu⟩))
      all_goals
        have HBU := Lib.hid hbu
        go_wp2
        go_ret3
        exact ⟨by rw [HPC.out]; rfl, HBU.out⟩
end Go.Proofs.YtjfekjbmgckkcaaGreatDoor.Ref14C

/- the reference of layer 14: the spans at the beginning of a text. -/
namespace Go.Proofs.YtjfekjbmgckkcaaGreatDoor.Ref14D
open Go.RowKit Go.Proofs.YtjfekjbmgckkcaaGreatDoorW.PrintWords
open Go.Proofs.YtjfekjbmgckkcaaGreatDoor.Bits Go.Proofs.YtjfekjbmgckkcaaGreatDoor.Base Go.Proofs.YtjfekjbmgckkcaaGreatDoor.VarPure Go.Proofs.YtjfekjbmgckkcaaGreatDoor.VarKit Go.Proofs.YtjfekjbmgckkcaaGreatDoor.StreamA Go.Proofs.YtjfekjbmgckkcaaGreatDoor.SpanPure Go.Proofs.YtjfekjbmgckkcaaGreatDoor.SpanBase Go.Proofs.YtjfekjbmgckkcaaGreatDoor.ReadP Go.Proofs.YtjfekjbmgckkcaaGreatDoor.HeadA Go.Proofs.YtjfekjbmgckkcaaGreatDoor.HeadB Go.Proofs.YtjfekjbmgckkcaaGreatDoor.HeadF Go.Proofs.YtjfekjbmgckkcaaGreatDoor.HeadH Go.Proofs.YtjfekjbmgckkcaaGreatDoor.HeadK Go.Proofs.YtjfekjbmgckkcaaGreatDoor.Ref01 Go.Proofs.YtjfekjbmgckkcaaGreatDoor.Ref04 Go.Proofs.YtjfekjbmgckkcaaGreatDoor.Ref12 Go.Proofs.YtjfekjbmgckkcaaGreatDoor.Ref14A Go.Proofs.YtjfekjbmgckkcaaGreatDoor.Ref14C
open Go.Proofs.YtjfekjbmgckkcaaGreatDoor.Law14A (infoRs)

/-- what side hands back. -/
def DP (r : PR (List Sp)) (pl : ByteArray) (w : World) (e : Ending) (w' : World) : Prop :=
  Below w.heap.size w w' ∧ ((r.err ≠ 0 ∧ e = .returned (.tuple #[.slice none 0 0, .string ⟨#[]⟩, .agg #[.int .i64 r.err, .string pl, .int .i64 r.val.length]])) ∨
    (r.err = 0 ∧ ∃ A c, e = .returned (.tuple #[.slice A r.val.length c, .string (txt r.rest), .agg #[.int .i64 0, .string ⟨#[]⟩, .int .i64 0]]) ∧ OwSp 214 w' w.heap.size (.slice A r.val.length c) r.val))
/-- what holds at the loop's head. -/
def Ls (W0 : World) (n : Nat) (q0 : List Bool) (k : Nat) (s v : Value) (W : World) : Prop :=
  ∃ (l : List Sp) (u : Nat) (q : List Bool), l.length = k ∧ q.length ≤ 1000000 ∧ s = .string (txt q) ∧ OwSp 214 W W0.heap.size v l ∧ Below W0.heap.size W0 W ∧
    Hid (pSpans n q0 = ⟨(pSpans (n - k) q).err, l ++ (pSpans (n - k) q).val, u + (pSpans (n - k) q).used, (pSpans (n - k) q).rest⟩)
theorem three_ch (w1 : World) (b : Nat) (v0 v1 v2 : Value) : Ch (fun k => k = b) w1 (((w1.setCell ⟨b, 0, none⟩ v0).setCell ⟨b, 1, none⟩ v1).setCell ⟨b, 2, none⟩ v2) :=
  (((Ch.refl (fun k => k = b) w1).setCell (p := ⟨b, 0, none⟩) (.inl rfl) v0).setCell (p := ⟨b, 1, none⟩) (.inl rfl) v1).setCell (p := ⟨b, 2, none⟩) (.inl rfl) v2
theorem cutU {q : List Bool} (h : (pU q).err = 0) : (pU q).used ≤ q.length ∧ q.drop (pU q).used = (pU q).rest := by
  obtain ⟨h1, h2, -⟩ := pU_inv h
  rw [h2]
  obtain ⟨v, hv⟩ : ∃ v, v = encU (pU q).val := ⟨_, rfl⟩
  obtain ⟨r, hr⟩ : ∃ r, r = (pU q).rest := ⟨_, rfl⟩
  rw [← hv, ← hr] at h1
  rw [← hv, ← hr, h1]
  exact ⟨by rw [List.length_append]; omega, List.drop_left' rfl⟩
theorem cutS {q : List Bool} (h : (pS q).err = 0) : (pS q).used ≤ q.length ∧ q.drop (pS q).used = (pS q).rest := by
  obtain ⟨h1, h2, -⟩ := pS_inv h
  rw [h2]
  obtain ⟨v, hv⟩ : ∃ v, v = encS (pS q).val := ⟨_, rfl⟩
  obtain ⟨r, hr⟩ : ∃ r, r = (pS q).rest := ⟨_, rfl⟩
  rw [← hv, ← hr] at h1
  rw [← hv, ← hr, h1]
  exact ⟨by rw [List.length_append]; omega, List.drop_left' rfl⟩
theorem restU {q : List Bool} (h : (pU q).err = 0) : (pU q).rest.length ≤ q.length := by rw [← (cutU h).2, List.length_drop]; omega
theorem restS {q : List Bool} (h : (pS q).err = 0) : (pS q).rest.length ≤ q.length := by rw [← (cutS h).2, List.length_drop]; omega

theorem sps_any' {S : Nat → Prop} {e base : Nat} {w w1 : World} {v : Value} {l : List Sp} (h : OwSp e w base v l) (hc : Ch S w w1) (hS : ∀ k, S k → k < base) : OwSp e w1 base v l :=
  h.move fun g hg => hc.block g (h.lt_ g hg) fun hs => Nat.lt_irrefl _ (Nat.lt_of_lt_of_le (hS g hs) (h.base_ g hg))
set_option maxRecDepth 100000 in
set_option maxHeartbeats 3200000 in
theorem side_calls (q : List Bool) (pl : ByteArray) (w : World) (hm : q.length ≤ 1000000) :
    Calls Tryz.prog 93 #[.string (txt q), .string pl] w (DP (pGet q) pl w) := by
  have hal : Below w.heap.size w (w.alloc (.cells #[.int .i64 0, .string ⟨#[]⟩, .int .i64 0] 37)) := below_alloc (Below.refl _ _) _
  obtain ⟨W0, hW0, hbk, hsz⟩ : ∃ W0 : World, W0 = w.alloc (.cells #[.int .i64 0, .string ⟨#[]⟩, .int .i64 0] 37) ∧ W0.heap[w.heap.size]? = some (.cells #[.int .i64 0, .string ⟨#[]⟩, .int .i64 0] 37 (0, 0)) ∧ W0.heap.size = w.heap.size + 1 := ⟨_, rfl, blk_last w _, by simp⟩
  have HCEL : Hid (∀ W, Below W0.heap.size W0 W → ((W.frozen? ⟨w.heap.size, 0, none⟩ = false ∧ W.frozen? ⟨w.heap.size, 1, none⟩ = false ∧ W.frozen? ⟨w.heap.size, 2, none⟩ = false) ∧ (W.cell? ⟨w.heap.size, 0, none⟩ = some (.int .i64 0) ∧ W.cell? ⟨w.heap.size, 1, none⟩ = some (.string ⟨#[]⟩) ∧ W.cell? ⟨w.heap.size, 2, none⟩ = some (.int .i64 0)))) := Lib.hid (fun W h => by
    have h := (Ch.of_below (S := fun _ => False) h).blk hbk (fun x => x)
    exact ⟨⟨obj_free h, obj_free h, obj_free h⟩, ⟨obj_cell h rfl, obj_cell h rfl, obj_cell h rfl⟩⟩)
  rw [← hW0] at hal
  have HSZ := Lib.hid hsz
  have HEND := Lib.hid (fun W (h : Below W0.heap.size W0 W) v0 v1 v2 => below_three (below_then hal hal.size h) (Nat.le_refl _) v0 v1 v2)
  have HWH := Lib.hid (Whole_calls q W0 hm)
  have HM := Lib.hid hm
  have HP : Hid (∀ r, r = pU q → pGet q = if r.err ≠ 0 then ⟨r.err, [], 0, []⟩ else if 1024 < r.val then ⟨12, [], 0, []⟩ else if (pSpans r.val r.rest).err ≠ 0 then ⟨(pSpans r.val r.rest).err, (pSpans r.val r.rest).val, 0, []⟩
    else if sidesE (pSpans r.val r.rest).val ≠ 0 then ⟨sidesE (pSpans r.val r.rest).val, (pSpans r.val r.rest).val, 0, []⟩ else ⟨0, (pSpans r.val r.rest).val, r.used + (pSpans r.val r.rest).used, (pSpans r.val r.rest).rest⟩) := Lib.hid (by rintro r rfl; rfl)
  have HCU := Lib.hid (fun h => (⟨(cutU (q := q) h).1, (cutU (q := q) h).2, restU (q := q) h⟩ : (pU q).used ≤ q.length ∧ q.drop (pU q).used = (pU q).rest ∧ (pU q).rest.length ≤ q.length))
  obtain ⟨r, hr⟩ : ∃ r, r = pU q := ⟨_, rfl⟩
  have HP2 := Lib.hid (HP.out r hr)
  rw [← hr] at HWH HCU
  have HS : Hid (∀ s, s = txt q → r.err = 0 → ∀ W, (Instr.slice 9 (.string s) (some (.int .i64 r.used)) none none).run Tryz.prog W = .ok (.string (txt r.rest)) W) := Lib.hid (by
    rintro s rfl h W
    rw [cut_hi 9 Tryz.underlying9 _ q r.used rfl (HCU.out h).1 W, (HCU.out h).2.1])
  obtain ⟨s, hs⟩ : ∃ s, s = txt q := ⟨_, rfl⟩
  have HS2 := Lib.hid (HS.out s hs)
  rw [← hs] at HWH ⊢
  clear hal hbk hsz hm hr hs HP HS
  go_enter Tryz.func93, Tryz.ntmps93
  go_wp2_with (fail)
  rw [← hW0]
  refine HWH.out.mono ?_
  rintro e w1 ⟨rfl, hb1⟩
  have B1 := Lib.hid hb1
  clear hb1 HWH
  obtain ⟨re, rv, ru, rr⟩ := r
  simp only at HP2 HS2 HCU ⊢
  by_cases h1 : re ≠ 0
  · have HPC : Hid (pGet q = ⟨re, [], 0, []⟩) := Lib.hid (by rw [HP2.out, if_pos h1])
    have e1 : ((re : Int) != 0) = true := by simp; omega
    have H1 := Lib.hid h1
    clear h1
    obtain ⟨⟨f0, f1, f2⟩, ⟨c0, c1, c2⟩⟩ := HCEL.out _ B1.out
    go_wp2
    refine bodyPost_ret (v := .tuple #[.slice none 0 0, .string ⟨#[]⟩, .agg #[.int .i64 re, .string pl, .int .i64 0]]) (by rw [results_ttc rfl]; go_simp) rfl ?_
    rw [HPC.out]
    exact ⟨HEND.out _ B1.out _ _ _, .inl ⟨H1.out, rfl⟩⟩
  obtain rfl := Decidable.not_not.1 h1
  rw [show ((0 : Nat) : Int) = 0 from rfl]
  by_cases hbig : 1024 < rv
  · have HPC : Hid (pGet q = ⟨12, [], 0, []⟩) := Lib.hid (by rw [HP2.out, if_neg h1, if_pos hbig])
    have d2 : decide ((rv : Int) > 1024) = true := by simp; omega
    have d2' : decide (1024 < (rv : Int)) = true := by simp; omega
    have d2n : decide (1024 < rv) = true := by simp; omega
    clear h1 hbig
    obtain ⟨⟨f0, f1, f2⟩, ⟨c0, c1, c2⟩⟩ := HCEL.out _ B1.out
    go_wp2
    refine bodyPost_ret (v := .tuple #[.slice none 0 0, .string ⟨#[]⟩, .agg #[.int .i64 12, .string pl, .int .i64 0]]) (by rw [results_ttc rfl]; go_simp) rfl ?_
    rw [HPC.out]
    exact ⟨HEND.out _ B1.out _ _ _, .inl ⟨by decide, rfl⟩⟩
  have HPD : Hid (∀ T, T = pSpans rv rr → pGet q = if T.err ≠ 0 then ⟨T.err, T.val, 0, []⟩ else if sidesE T.val ≠ 0 then ⟨sidesE T.val, T.val, 0, []⟩ else ⟨0, T.val, ru + T.used, T.rest⟩) := Lib.hid (by rintro T rfl; rw [HP2.out, if_neg h1, if_neg hbig])
  have d2 : decide ((rv : Int) > 1024) = false := by simp; omega
  have d2' : decide (1024 < (rv : Int)) = false := by simp; omega
  have d2n : decide (1024 < rv) = false := by simp; omega
  have hrv : rv ≤ 1024 := by omega
  have hcut := HS2.out rfl
  have HRL := Lib.hid (Nat.le_trans (HCU.out rfl).2.2 HM.out)
  have hwr : IntKind.i64.wrap (rv : Int) = (rv : Int) := by rw [IntKind.wrap_i64]; omega
  clear h1 hbig HS2 HCU HP2
  go_wp2
  go_loopw [0, 4, 5, 10, 11] (fun sv x4 x5 v i W => x4 = .slice none 0 0 ∧ x5 = .string ⟨#[]⟩ ∧ ∃ k : Nat, k ≤ rv ∧ i = .int .i64 k ∧ Ls W0 rv rr k sv v W) (fun _ _ _ _ i _ => rv - (intOf i).toNat)
  case atStart => exact ⟨rfl, rfl, 0, by omega, rfl, [], 0, rr, rfl, HRL.out, rfl, OwSp.nil _ _ _, B1.out, Lib.hid (by simp)⟩
  case round =>
    obtain ⟨rfl, rfl, k, hk, rfl, l, u, q2, hlk, hql, rfl, ho, hb, HE⟩ := hrel
    have HO := Lib.hid ho
    have HB := Lib.hid hb
    have HQL := Lib.hid hql
    by_cases hlt : k < rv
    · have HW2 := Lib.hid (fun W => Whole_calls q2 W hql)
      have HONE : Hid (∀ r t, r = pU q2 → t = pS r.rest → pOne q2 = if r.err ≠ 0 then ⟨r.err, (0, 0), 0, []⟩ else if 4096 < r.val then ⟨20, (0, 0), 0, []⟩ else if t.err ≠ 0 then ⟨t.err, (t.val, r.val), 0, []⟩ else ⟨0, (t.val, r.val), r.used + t.used, t.rest⟩) := Lib.hid (by rintro r t rfl rfl; rfl)
      have HCU := Lib.hid (fun h => (⟨(cutU (q := q2) h).1, (cutU (q := q2) h).2, restU (q := q2) h⟩ : (pU q2).used ≤ q2.length ∧ q2.drop (pU q2).used = (pU q2).rest ∧ (pU q2).rest.length ≤ q2.length))
      have HERR : Hid (∀ c : Nat, c ≠ 0 → (pOne q2).err = c → pGet q = ⟨c, l, 0, []⟩) := Lib.hid (by
        intro c hc h1
        have h2 : pSpans (rv - k) q2 = ⟨c, [], 0, []⟩ := by rw [show rv - k = (rv - k - 1) + 1 from by omega, pSpans_err _ _ (by rw [h1]; exact hc), h1]
        have h3 : pSpans rv rr = ⟨c, l, u, []⟩ := by rw [HE.out, h2]; simp
        rw [HPD.out _ h3.symm, if_pos hc])
      obtain ⟨r, hr⟩ : ∃ r, r = pU q2 := ⟨_, rfl⟩
      rw [← hr] at HW2 HCU
      obtain ⟨t, ht⟩ : ∃ t, t = pS r.rest := ⟨_, rfl⟩
      have HON := Lib.hid (HONE.out r t hr ht)
      have HT := Lib.hid ht
      have HSC : Hid (r.err = 0 → ∀ W, (Instr.slice 9 (.string (txt q2)) (some (.int .i64 r.used)) none none).run Tryz.prog W = .ok (.string (txt r.rest)) W) := Lib.hid (by
        intro h W
        rw [cut_hi 9 Tryz.underlying9 _ q2 r.used rfl (HCU.out h).1 W, (HCU.out h).2.1])
      have HLK := Lib.hid hlk
      obtain ⟨s2, hs2⟩ : ∃ s, s = txt q2 := ⟨_, rfl⟩
      rw [← hs2] at HW2 HSC ⊢
      clear ho hb hql hr ht hlk hs2 HONE hcut
      go_wp2_with (fail)
      refine (HW2.out _).mono ?_
      rintro e w2 ⟨rfl, hb2⟩
      have B2 := Lib.hid (below_then HB.out HB.out.size hb2)
      have O2 := Lib.hid (HO.out.below hb2)
      clear hb2 HW2
      obtain ⟨ae, av, au, ar⟩ := r
      simp only at HON HSC HCU HT ⊢
      by_cases h1 : ae ≠ 0
      · have HPC := Lib.hid (HERR.out ae h1 (by rw [HON.out, if_pos h1]))
        have e1 : ((ae : Int) != 0) = true := by simp; omega
        have e2 : ((ae : Int) == 0) = false := by simp; omega
        have H1 := Lib.hid h1
        clear h1
        obtain ⟨⟨f0, f1, f2⟩, ⟨c0, c1, c2⟩⟩ := HCEL.out _ B2.out
        go_wp2
        refine bodyPost_ret (v := .tuple #[.slice none 0 0, .string ⟨#[]⟩, .agg #[.int .i64 ae, .string pl, .int .i64 k]]) (by rw [results_ttc rfl]; go_simp) rfl ?_
        rw [HPC.out]
        exact ⟨HEND.out _ B2.out _ _ _, .inl ⟨H1.out, by rw [HLK.out]⟩⟩
      obtain rfl := Decidable.not_not.1 h1
      by_cases hb4 : 4096 < av
      · have HPC := Lib.hid (HERR.out 20 (by decide) (by rw [HON.out, if_neg h1, if_pos hb4]))
        have a2 : decide ((av : Int) > 4096) = true := by simp; omega
        have a2' : decide (4096 < (av : Int)) = true := by simp; omega
        have a2n : decide (4096 < av) = true := by simp; omega
        clear h1 hb4
        obtain ⟨⟨f0, f1, f2⟩, ⟨c0, c1, c2⟩⟩ := HCEL.out _ B2.out
        go_wp2
        refine bodyPost_ret (v := .tuple #[.slice none 0 0, .string ⟨#[]⟩, .agg #[.int .i64 20, .string pl, .int .i64 k]]) (by rw [results_ttc rfl]; go_simp) rfl ?_
        rw [HPC.out]
        exact ⟨HEND.out _ B2.out _ _ _, .inl ⟨by simp, by rw [HLK.out]; rfl⟩⟩
      have a2 : decide ((av : Int) > 4096) = false := by simp; omega
      have a2' : decide (4096 < (av : Int)) = false := by simp; omega
      have a2n : decide (4096 < av) = false := by simp; omega
      have hcut := HSC.out rfl
      have hal := Nat.le_trans (HCU.out rfl).2.2 HQL.out
      have HAL := Lib.hid hal
      have HSG := Lib.hid (Signed_calls ar w2 hal)
      rw [← HT.out] at HSG
      have HON2 : Hid (pOne q2 = if t.err ≠ 0 then ⟨t.err, (t.val, av), 0, []⟩ else ⟨0, (t.val, av), au + t.used, t.rest⟩) := Lib.hid (by rw [HON.out, if_neg h1, if_neg hb4])
      have HCS : Hid (t.err = 0 → t.rest.length ≤ 1000000 ∧ ∀ W, (Instr.slice 9 (.string (txt ar)) (some (.int .i64 t.used)) none none).run Tryz.prog W = .ok (.string (txt t.rest)) W) := Lib.hid (by
        rw [HT.out]
        intro h
        exact ⟨Nat.le_trans (restS h) hal, fun W => by rw [cut_hi 9 Tryz.underlying9 _ ar _ rfl (cutS h).1 W, (cutS h).2]⟩)
      have hwa : IntKind.i64.wrap (av : Int) = (av : Int) := by rw [IntKind.wrap_i64]; omega
      obtain ⟨s3, hs3⟩ : ∃ s, s = txt ar := ⟨_, rfl⟩
      rw [← hs3] at HSG HCS hcut
      clear h1 hb4 hal hs3 HON HSC HCU
      go_wp2_with (fail)
      refine HSG.out.mono ?_
      rintro e w3 ⟨rfl, hb3⟩
      have B3 := Lib.hid (below_then B2.out B2.out.size hb3)
      have O3 := Lib.hid (O2.out.below hb3)
      clear hb3 HSG hcut HT
      obtain ⟨te, tv, tu, tr⟩ := t
      simp only at HON2 HCS ⊢
      by_cases h1 : te ≠ 0
      · have HPC := Lib.hid (HERR.out te h1 (by rw [HON2.out, if_pos h1]))
        have e1 : ((te : Int) != 0) = true := by simp; omega
        have H1 := Lib.hid h1
        clear h1
        obtain ⟨⟨f0, f1, f2⟩, ⟨c0, c1, c2⟩⟩ := HCEL.out _ B3.out
        go_wp2
        refine bodyPost_ret (v := .tuple #[.slice none 0 0, .string ⟨#[]⟩, .agg #[.int .i64 te, .string pl, .int .i64 k]]) (by rw [results_ttc rfl]; go_simp) rfl ?_
        rw [HPC.out]
        exact ⟨HEND.out _ B3.out _ _ _, .inl ⟨H1.out, by rw [HLK.out]⟩⟩
      obtain rfl := Decidable.not_not.1 h1
      have HP1 : Hid (pOne q2 = ⟨0, (tv, (av : Int)), au + tu, tr⟩) := Lib.hid (by rw [HON2.out, if_neg h1])
      obtain ⟨htl, hcut⟩ := HCS.out rfl
      have HTL := Lib.hid htl
      have hll := HLK.out
      have hsz3 := B3.out.size
      clear h1 htl HCS HON2 HERR
      go_wp2_with (at_builtin; refine append_span_at (w0 := W0) W0.heap.size rfl (.tmp 77) (.tmp 82) 39 214 16 rfl Tryz.underlying39 infoRs _ l tv av rfl w3.heap.size rfl rfl O3.out B3.out hsz3 (by omega) (by omega) ?_; intro g2 cap w4 ho4 hb4 hg4 hat4)
      have O4 := Lib.hid ho4
      have B4 := Lib.hid hb4
      have hps := pSpans_step hlt (by rw [HP1.out]) HE.out
      rw [HP1.out] at hps
      have HPS := Lib.hid hps
      clear ho4 hb4 hg4 hat4 hps hcut
      go_roundw
      case rel =>
        have ho := O4.out
        rw [HLK.out] at ho
        exact ⟨rfl, rfl, k + 1, by omega, by go_num, l ++ [(tv, (av : Int))], _, tr, by rw [List.length_append, HLK.out]; rfl, HTL.out, rfl, ho, B4.out, HPS⟩
      case measure => simp [intOf]; omega
    · obtain rfl : k = rv := by omega
      obtain ⟨A, c, rfl, -, -, hrd⟩ := ho.reads
      have HT : Hid (pSpans k rr = ⟨0, l, u, q2⟩) := Lib.hid (by rw [HE.out, Nat.sub_self, pSpans]; simp)
      have HSD := Lib.hid (Sides_calls A c l _ hrd (by omega))
      obtain ⟨sd, hsd⟩ : ∃ x, x = sidesE l := ⟨_, rfl⟩
      rw [← hsd] at HSD
      have HSE := Lib.hid hsd
      have HLK := Lib.hid hlk
      clear ho hb hql hrd hsd hlk hcut
      go_wp2_with (fail)
      refine HSD.out.mono ?_
      rintro e w5 ⟨rfl, hb5⟩
      have B5 := Lib.hid (below_then HB.out HB.out.size hb5)
      have O5 := Lib.hid (HO.out.below hb5)
      clear hb5 HSD
      by_cases h1 : sd ≠ 0
      · have HPC : Hid (pGet q = ⟨sd, l, 0, []⟩) := Lib.hid (by rw [HPD.out _ HT.out.symm]; simp only; rw [if_neg (fun h => h rfl), ← HSE.out, if_pos h1])
        have e1 : ((sd : Int) != 0) = true := by simp; omega
        have H1 := Lib.hid h1
        clear h1
        obtain ⟨⟨f0, f1, f2⟩, ⟨c0, c1, c2⟩⟩ := HCEL.out _ B5.out
        go_wp2
        refine bodyPost_ret (v := .tuple #[.slice none 0 0, .string ⟨#[]⟩, .agg #[.int .i64 sd, .string pl, .int .i64 k]]) (by rw [results_ttc rfl]; go_simp) rfl ?_
        rw [HPC.out]
        exact ⟨HEND.out _ B5.out _ _ _, .inl ⟨H1.out, by rw [HLK.out]⟩⟩
      obtain rfl := Decidable.not_not.1 h1
      have HPC : Hid (pGet q = ⟨0, l, ru + u, q2⟩) := Lib.hid (by rw [HPD.out _ HT.out.symm]; simp only; rw [if_neg (fun h => h rfl), ← HSE.out, if_neg h1])
      clear h1
      obtain ⟨⟨f0, f1, f2⟩, ⟨c0, c1, c2⟩⟩ := HCEL.out _ B5.out
      go_wp2
      refine bodyPost_ret (v := .tuple #[.slice A l.length c, .string (txt q2), .agg #[.int .i64 0, .string ⟨#[]⟩, .int .i64 0]]) (by rw [results_ttc rfl]; go_simp) rfl ?_
      rw [HPC.out]
      refine ⟨HEND.out _ B5.out _ _ _, .inr ⟨rfl, A, c, rfl, ?_⟩⟩
      exact (sps_any' O5.out (three_ch w5 w.heap.size _ _ _) (fun j hj => by rw [hj, HSZ.out]; exact Nat.lt_succ_self _)).lower (by rw [HSZ.out]; exact Nat.le_succ _)
end Go.Proofs.YtjfekjbmgckkcaaGreatDoor.Ref14D

/- the reference of layer 14: the head at the beginning of a text. -/
namespace Go.Proofs.YtjfekjbmgckkcaaGreatDoor.Ref14E
open Go.RowKit Go.Proofs.YtjfekjbmgckkcaaGreatDoorW.PrintWords
open Go.Proofs.YtjfekjbmgckkcaaGreatDoor.HeadE (sides_in)
open Go.Proofs.YtjfekjbmgckkcaaGreatDoor.Bits Go.Proofs.YtjfekjbmgckkcaaGreatDoor.Base Go.Proofs.YtjfekjbmgckkcaaGreatDoor.VarPure Go.Proofs.YtjfekjbmgckkcaaGreatDoor.VarKit Go.Proofs.YtjfekjbmgckkcaaGreatDoor.StreamA Go.Proofs.YtjfekjbmgckkcaaGreatDoor.SpanPure Go.Proofs.YtjfekjbmgckkcaaGreatDoor.SpanBase Go.Proofs.YtjfekjbmgckkcaaGreatDoor.ThrPure Go.Proofs.YtjfekjbmgckkcaaGreatDoor.ReadP Go.Proofs.YtjfekjbmgckkcaaGreatDoor.HeadA Go.Proofs.YtjfekjbmgckkcaaGreatDoor.HeadB Go.Proofs.YtjfekjbmgckkcaaGreatDoor.HeadF Go.Proofs.YtjfekjbmgckkcaaGreatDoor.HeadH Go.Proofs.YtjfekjbmgckkcaaGreatDoor.HeadJ Go.Proofs.YtjfekjbmgckkcaaGreatDoor.HeadK Go.Proofs.YtjfekjbmgckkcaaGreatDoor.HeadL Go.Proofs.YtjfekjbmgckkcaaGreatDoor.Ref01 Go.Proofs.YtjfekjbmgckkcaaGreatDoor.Ref04 Go.Proofs.YtjfekjbmgckkcaaGreatDoor.Ref12 Go.Proofs.YtjfekjbmgckkcaaGreatDoor.Ref14A Go.Proofs.YtjfekjbmgckkcaaGreatDoor.Ref14C Go.Proofs.YtjfekjbmgckkcaaGreatDoor.Ref14D

/-- what Parse hands back. -/
def TP (r : PB Hd) (w : World) (e : Ending) (w' : World) : Prop :=
  Below w.heap.size w w' ∧ ((r.err ≠ 0 ∧ e = .returned (.tuple #[.agg zcs, .string ⟨#[]⟩, .agg #[.int .i64 r.err, .string r.place, .int .i64 r.at_]])) ∨
    (r.err = 0 ∧ ∃ p, e = .returned (.tuple #[.agg (hcs r.val p).toArray, .string (txt r.rest), .agg #[.int .i64 0, .string ⟨#[]⟩, .int .i64 0]]) ∧ HdIn w' r.val p))
theorem below_six {n : Nat} {w w1 : World} {b : Nat} (h : Below n w w1) (hb : n ≤ b) (v0 v1 v2 v3 v4 v5 : Value) : Below n w (six w1 b v0 v1 v2 v3 v4 v5) :=
  (((((h.setCell hb v0).setCell hb v1).setCell hb v2).setCell hb v3).setCell hb v4).setCell hb v5
theorem spl_move {S : Nat → Prop} {e base : Nat} {w w1 : World} {A : Option Addr} {n c : Nat} {l : List Sp} (h : OwSp e w base (.slice A n c) l) (hl : l.length ≤ 1000000) (hc : Ch S w w1) (hS : ∀ g, (Value.slice A n c).ownBlock = some g → ¬ S g) : Spl w1 A c l := by
  have h2 : OwSp e w1 base (.slice A n c) l := h.move fun g hg => hc.block g (h.lt_ g hg) (hS g hg)
  obtain ⟨A', c', he, h1, h2, h3⟩ := h2.reads
  injection he with e1 e2 e3
  subst e1 e3
  exact ⟨h3, hl, h1, h2⟩
theorem fin_ch (w5 : World) (a b : Nat) (t0 t1 t2 z4 z5 v0 v1 v2 v3 v4 v5 u0 u1 u2 : Value) : Ch (fun k => k < a + 3 ∨ k = b) w5
    ((((six ((((((w5.setCell ⟨b, 0, none⟩ t0).setCell ⟨b, 1, none⟩ t1).setCell ⟨b, 2, none⟩ t2).setCell ⟨a + 1 + 1, 4, none⟩ z4).setCell ⟨a + 1 + 1, 5, none⟩ z5)) a v0 v1 v2 v3 v4 v5).setCell ⟨a + 1, 0, none⟩ u0).setCell ⟨a + 1, 1, none⟩ u1).setCell ⟨a + 1, 2, none⟩ u2).drew := by
  apply Ch.drew
  repeat refine Ch.setCell ?_ (.inl (by first | exact .inl (by simp only; omega) | exact .inr rfl)) _
  exact Ch.refl _ _
theorem five_bits {q : List Bool} (h : 8 ≤ q.length) : val (q.take 8) % 32 = val ((q.drop 3).take 5) ∧ val (q.take 8) / 64 = val (q.take 2) ∧ val (q.take 8) / 32 % 2 = val ((q.drop 2).take 1) := by
  match q, h with
  | a :: b :: c :: d :: e :: f :: g :: i :: q, _ =>
    have key : ∀ a b c d e f g i : Bool, val [a, b, c, d, e, f, g, i] % 32 = val [d, e, f, g, i] ∧ val [a, b, c, d, e, f, g, i] / 64 = val [a, b] ∧ val [a, b, c, d, e, f, g, i] / 32 % 2 = val [c] := by decide +kernel
    exact key a b c d e f g i
theorem five_zero {q : List Bool} (h : 8 ≤ q.length) : ((txt ((q.drop 3).take 5)).toList == ([48, 48, 48, 48, 48] : List UInt8)) = decide (val (q.take 8) % 32 = 0) := by
  rw [show ([48, 48, 48, 48, 48] : List UInt8) = (⟨#[48, 48, 48, 48, 48]⟩ : ByteArray).toList from by rw [Lib.toList_data]]
  have h5 : (⟨#[48, 48, 48, 48, 48]⟩ : ByteArray) = txt [false, false, false, false, false] := rfl
  have hl : ((q.drop 3).take 5).length = 5 := by rw [List.length_take, List.length_drop]; omega
  rw [h5, beq_str, (five_bits h).1, decide_eq_decide]
  constructor
  · intro h1
    rw [txt_inj h1]
    rfl
  · intro h1
    rw [val_inj (b := [false, false, false, false, false]) hl (by rw [h1]; rfl)]
set_option maxRecDepth 100000 in
set_option maxHeartbeats 3200000 in
theorem Parse14_calls (q : List Bool) (w : World) (hm : q.length ≤ 1000000) :
    Calls Tryz.prog 31 #[.string (txt q)] w (TP (pHead q) w) := by
  have hal : Below w.heap.size w ((w.alloc (.cells #[.int .i64 0, .int .i64 0, .int .i64 0, .int .u64 0, .slice none 0 0, .slice none 0 0] 41)).alloc (.cells #[.int .i64 0, .string ⟨#[]⟩, .int .i64 0] 37)) := below_alloc (below_alloc (Below.refl _ _) _) _
  have hsq := txt_size q
  by_cases h8 : q.length < 8
  · have HP : Hid (pHead q = ⟨16, pFlags, 0, hd0, 0, []⟩) := Lib.hid (by have h : pBegin q = ⟨16, pFlags, 0, hd0, 0, []⟩ := if_pos h8; unfold pHead; rw [h]; rfl)
    have d1 : decide ((q.length : Int) < 8) = true := by simp; omega
    have d1n : decide (q.length < 8) = true := by simp; omega
    obtain ⟨s, hs⟩ : ∃ s, s = txt q := ⟨_, rfl⟩
    rw [← hs] at hsq ⊢
    clear h8 hs hal
    go_enter Tryz.func31, Tryz.ntmps31
    go_wp2
    refine bodyPost_ret (v := .tuple #[.agg #[.int .i64 0, .int .i64 0, .int .i64 0, .int .u64 0, .slice none 0 0, .slice none 0 0], .string ⟨#[]⟩, .agg #[.int .i64 16, .string ⟨#[102, 108, 97, 103, 115]⟩, .int .i64 0]]) (by rw [results_ctc rfl]; go_simp) rfl ?_
    rw [HP.out]
    exact ⟨below_alloc (below_alloc (Below.refl _ _) _) _, .inl ⟨by decide, rfl⟩⟩
  have d1 : decide ((q.length : Int) < 8) = false := by simp; omega
  have d1n : decide (q.length < 8) = false := by simp; omega
  have hf := five_zero (q := q) (by omega)
  have hcut3 : ∀ W, (Instr.slice 9 (.string (txt q)) (some (.int .i64 3)) (some (.int .i64 8)) none).run Tryz.prog W = .ok (.string (txt ((q.drop 3).take 5))) W := fun W => cut_mid (P := Tryz.prog) 9 Tryz.underlying9 (txt q) q 3 8 rfl (by omega) (by omega) W
  by_cases h5 : val (q.take 8) % 32 ≠ 0
  · have HP : Hid (pHead q = ⟨10, pFlags, 0, hd0, 0, []⟩) := Lib.hid (by
      have h : pBegin q = ⟨10, pFlags, 0, hd0, 0, []⟩ := by
        unfold pBegin
        rw [if_neg h8, if_pos h5]
      unfold pHead
      rw [h]
      rfl)
    rw [decide_eq_false h5] at hf
    obtain ⟨s, hs⟩ : ∃ s, s = txt q := ⟨_, rfl⟩
    obtain ⟨s5, hs5⟩ : ∃ s, s = txt ((q.drop 3).take 5) := ⟨_, rfl⟩
    rw [← hs] at hsq hcut3 ⊢
    rw [← hs5] at hcut3 hf
    clear h8 h5 hs hs5 hal
    go_enter Tryz.func31, Tryz.ntmps31
    go_wp2
    refine bodyPost_ret (v := .tuple #[.agg #[.int .i64 0, .int .i64 0, .int .i64 0, .int .u64 0, .slice none 0 0, .slice none 0 0], .string ⟨#[]⟩, .agg #[.int .i64 10, .string ⟨#[102, 108, 97, 103, 115]⟩, .int .i64 0]]) (by rw [results_ctc rfl]; go_simp) rfl ?_
    rw [HP.out]
    exact ⟨below_alloc (below_alloc (Below.refl _ _) _) _, .inl ⟨by decide, rfl⟩⟩
  rw [decide_eq_true (Decidable.not_not.1 h5)] at hf
  obtain ⟨-, hI, hV⟩ := five_bits (q := q) (by omega)
  have hcut2 : ∀ W, (Instr.slice 9 (.string (txt q)) none (some (.int .i64 2)) none).run Tryz.prog W = .ok (.string (txt (q.take 2))) W := fun W => cut_lo (P := Tryz.prog) 9 Tryz.underlying9 (txt q) q 2 rfl (by omega) W
  have hcut1 : ∀ W, (Instr.slice 9 (.string (txt q)) (some (.int .i64 2)) (some (.int .i64 3)) none).run Tryz.prog W = .ok (.string (txt ((q.drop 2).take 1))) W := fun W => cut_mid (P := Tryz.prog) 9 Tryz.underlying9 (txt q) q 2 3 rfl (by omega) (by omega) W
  have hcut8 : ∀ W, (Instr.slice 9 (.string (txt q)) (some (.int .i64 8)) none none).run Tryz.prog W = .ok (.string (txt (q.drop 8))) W := fun W => cut_hi (P := Tryz.prog) 9 Tryz.underlying9 (txt q) q 8 rfl (by omega) W
  have hbI : val (q.take 2) < 4 := by have h := val_lt (q.take 2); rw [List.length_take] at h; have e : min 2 q.length = 2 := by omega
                                      rw [e] at h; exact h
  have hbV : val ((q.drop 2).take 1) < 2 := by have h := val_lt ((q.drop 2).take 1); rw [List.length_take, List.length_drop] at h; have e : min 1 (q.length - 2) = 1 := by omega
                                               rw [e] at h; exact h
  have HV2 := Lib.hid (fun W => value_calls (q.take 2) W (by rw [List.length_take]; omega))
  have HV1 := Lib.hid (fun W => value_calls ((q.drop 2).take 1) W (by rw [List.length_take]; omega))
  have HSG := Lib.hid (fun W => Signed_calls (q.drop 8) W (by rw [List.length_drop]; omega))
  have HP : Hid (∀ s, s = pS (q.drop 8) → pBegin q = if s.err ≠ 0 then ⟨s.err, pSchema, 0, hd0, 0, []⟩
    else if shapeE s.val ≠ 0 then ⟨shapeE s.val, pSchema, 0, hd0, 0, []⟩
    else if (parseT s.rest).1 ≠ 0 then ⟨(parseT s.rest).1, pZero, 0, hd0, 0, []⟩
    else ⟨0, pZero, 0, ⟨(val ((q.drop 2).take 1) : Nat), (val (q.take 2) : Nat), s.val, (parseT s.rest).2.1, [], []⟩, 8 + s.used + (parseT s.rest).2.2, s.rest.drop (parseT s.rest).2.2⟩) := Lib.hid (by
    rintro s rfl
    unfold pBegin
    rw [if_neg h8, if_neg h5, hI, hV])
  obtain ⟨I, hII⟩ : ∃ I, I = val (q.take 2) := ⟨_, rfl⟩
  obtain ⟨V, hVV⟩ : ∃ V, V = val ((q.drop 2).take 1) := ⟨_, rfl⟩
  rw [← hII] at HV2 HP hbI
  rw [← hVV] at HV1 HP hbV
  have hwI : IntKind.i64.wrap (I : Int) = (I : Int) := by rw [IntKind.wrap_i64]; omega
  have hwV : IntKind.i64.wrap (V : Int) = (V : Int) := by rw [IntKind.wrap_i64]; omega
  obtain ⟨s, hs⟩ : ∃ s, s = txt q := ⟨_, rfl⟩
  obtain ⟨s5, hs5⟩ : ∃ s, s = txt ((q.drop 3).take 5) := ⟨_, rfl⟩
  obtain ⟨s2, hs2⟩ : ∃ s, s = txt (q.take 2) := ⟨_, rfl⟩
  obtain ⟨s1, hs1⟩ : ∃ s, s = txt ((q.drop 2).take 1) := ⟨_, rfl⟩
  obtain ⟨s8, hs8⟩ : ∃ s, s = txt (q.drop 8) := ⟨_, rfl⟩
  rw [← hs] at hsq hcut3 hcut2 hcut1 hcut8 ⊢
  rw [← hs5] at hcut3 hf
  rw [← hs2] at hcut2 HV2
  rw [← hs1] at hcut1 HV1
  rw [← hs8] at hcut8 HSG
  have HS8 := Lib.hid hs8
  have HM := Lib.hid hm
  have HAL := Lib.hid hal
  clear h8 h5 hs hs5 hs2 hs1 hs8 hI hV hII hVV hm hal
  go_enter Tryz.func31, Tryz.ntmps31
  go_wp2_with (fail)
  refine Code.wp_mono (Q := fun e a w' => e = Exit.normal ∧ a = ⟨#[.string s, undef, .pointer (some ⟨w.heap.size, 0, none⟩), .string ⟨#[]⟩, .pointer (some ⟨w.heap.size + 1, 0, none⟩), .pointer (some ⟨w.heap.size + 1 + 1, 0, none⟩), undef, undef, undef, undef, undef, undef, undef, .string s, .int .i64 q.length, .bool false, undef, undef, .string s, .string s5, .bool false, undef, undef, .string s, .string s2, .int .u64 I, .int .i64 I, .string s, .string s1, .int .u64 V, .int .i64 V, .agg #[.int .i64 V, .int .i64 I, .int .i64 0, .int .u64 0, .slice none 0 0, .slice none 0 0], undef, undef, undef, undef, undef, undef, undef, undef, undef, undef, undef, undef, undef, undef, undef, undef, undef, undef, undef, undef, undef, undef, undef, undef, undef, undef, undef, undef, undef, undef, undef, undef, undef, undef, undef, undef, undef, undef, undef, undef, undef, undef, undef, undef, undef, undef, undef, undef, undef, undef, undef, undef, undef, undef, undef, undef, undef, undef, undef, undef, undef, undef, undef, undef, undef, undef], []⟩ ∧ w' = (((w.alloc (.cells #[.int .i64 0, .int .i64 0, .int .i64 0, .int .u64 0, .slice none 0 0, .slice none 0 0] 41)).alloc (.cells #[.int .i64 0, .string ⟨#[]⟩, .int .i64 0] 37)).alloc (.cells #[.int .i64 V, .int .i64 I, .int .i64 0, .int .u64 0, .slice none 0 0, .slice none 0 0] 41)).drew) ?cont ?reg
  case reg =>
    go_region_held3 (fun _ => True)
      (exact True.intro)
      (first
      | (go_at_call 90; (with_reducible show Calls _ _ #[Value.string s2] _ _); refine (HV2.out _).mono ?_; rintro e w2 ⟨rfl, rfl⟩)
      | (go_at_call 90; refine (HV1.out _).mono ?_; rintro e w2 ⟨rfl, rfl⟩))
    all_goals exact ⟨rfl, rfl, rfl⟩
  rintro _ _ _ ⟨rfl, rfl, rfl⟩
  obtain ⟨W1, hW1, hg2, hg4, hg5, hb1, hsz1⟩ : ∃ W1 : World, W1 = (((w.alloc (.cells #[.int .i64 0, .int .i64 0, .int .i64 0, .int .u64 0, .slice none 0 0, .slice none 0 0] 41)).alloc (.cells #[.int .i64 0, .string ⟨#[]⟩, .int .i64 0] 37)).alloc (.cells #[.int .i64 V, .int .i64 I, .int .i64 0, .int .u64 0, .slice none 0 0, .slice none 0 0] 41)).drew ∧ W1.heap[w.heap.size]? = some (.cells #[.int .i64 0, .int .i64 0, .int .i64 0, .int .u64 0, .slice none 0 0, .slice none 0 0] 41 (0, 0)) ∧ W1.heap[w.heap.size + 1]? = some (.cells #[.int .i64 0, .string ⟨#[]⟩, .int .i64 0] 37 (0, 0)) ∧ W1.heap[w.heap.size + 1 + 1]? = some (.cells #[.int .i64 V, .int .i64 I, .int .i64 0, .int .u64 0, .slice none 0 0, .slice none 0 0] 41 (0, 0)) ∧ Below w.heap.size w W1 ∧ W1.heap.size = w.heap.size + 3 :=
    ⟨_, rfl, (Below.heap_alloc _ _ _ (by simp; omega)).trans ((Below.heap_alloc _ _ _ (by simp)).trans (blk_last w _)), (Below.heap_alloc _ _ _ (by simp)).trans (by have := blk_last (w.alloc (.cells #[.int .i64 0, .int .i64 0, .int .i64 0, .int .u64 0, .slice none 0 0, .slice none 0 0] 41)) (.cells #[.int .i64 0, .string ⟨#[]⟩, .int .i64 0] 37); rwa [show (w.alloc (.cells #[.int .i64 0, .int .i64 0, .int .i64 0, .int .u64 0, .slice none 0 0, .slice none 0 0] 41)).heap.size = w.heap.size + 1 from by simp] at this),
      (by have := blk_last ((w.alloc (.cells #[.int .i64 0, .int .i64 0, .int .i64 0, .int .u64 0, .slice none 0 0, .slice none 0 0] 41)).alloc (.cells #[.int .i64 0, .string ⟨#[]⟩, .int .i64 0] 37)) (.cells #[.int .i64 V, .int .i64 I, .int .i64 0, .int .u64 0, .slice none 0 0, .slice none 0 0] 41); rwa [show ((w.alloc (.cells #[.int .i64 0, .int .i64 0, .int .i64 0, .int .u64 0, .slice none 0 0, .slice none 0 0] 41)).alloc (.cells #[.int .i64 0, .string ⟨#[]⟩, .int .i64 0] 37)).heap.size = w.heap.size + 1 + 1 from by simp] at this), below_drew (below_alloc HAL.out _), by show (((w.alloc (.cells #[.int .i64 0, .int .i64 0, .int .i64 0, .int .u64 0, .slice none 0 0, .slice none 0 0] 41)).alloc (.cells #[.int .i64 0, .string ⟨#[]⟩, .int .i64 0] 37)).alloc (.cells #[.int .i64 V, .int .i64 I, .int .i64 0, .int .u64 0, .slice none 0 0, .slice none 0 0] 41)).heap.size = _; simp⟩
  rw [← hW1]
  have HCEL : Hid (∀ W, Below W1.heap.size W1 W → ((W.frozen? ⟨w.heap.size, 0, none⟩ = false ∧ W.frozen? ⟨w.heap.size, 1, none⟩ = false ∧ W.frozen? ⟨w.heap.size, 2, none⟩ = false ∧ W.frozen? ⟨w.heap.size, 3, none⟩ = false ∧ W.frozen? ⟨w.heap.size, 4, none⟩ = false ∧ W.frozen? ⟨w.heap.size, 5, none⟩ = false) ∧ (W.cell? ⟨w.heap.size, 0, none⟩ = some (.int .i64 0) ∧ W.cell? ⟨w.heap.size, 1, none⟩ = some (.int .i64 0) ∧ W.cell? ⟨w.heap.size, 2, none⟩ = some (.int .i64 0) ∧ W.cell? ⟨w.heap.size, 3, none⟩ = some (.int .u64 0) ∧ W.cell? ⟨w.heap.size, 4, none⟩ = some (.slice none 0 0) ∧ W.cell? ⟨w.heap.size, 5, none⟩ = some (.slice none 0 0)) ∧ (W.frozen? ⟨w.heap.size + 1, 0, none⟩ = false ∧ W.frozen? ⟨w.heap.size + 1, 1, none⟩ = false ∧ W.frozen? ⟨w.heap.size + 1, 2, none⟩ = false) ∧ (W.cell? ⟨w.heap.size + 1, 0, none⟩ = some (.int .i64 0) ∧ W.cell? ⟨w.heap.size + 1, 1, none⟩ = some (.string ⟨#[]⟩) ∧ W.cell? ⟨w.heap.size + 1, 2, none⟩ = some (.int .i64 0)))) := Lib.hid (fun W h => by
    have k2 := (Ch.of_below (S := fun _ => False) h).blk hg2 (fun x => x)
    have k4 := (Ch.of_below (S := fun _ => False) h).blk hg4 (fun x => x)
    exact ⟨⟨obj_free k2, obj_free k2, obj_free k2, obj_free k2, obj_free k2, obj_free k2⟩, ⟨obj_cell k2 rfl, obj_cell k2 rfl, obj_cell k2 rfl, obj_cell k2 rfl, obj_cell k2 rfl, obj_cell k2 rfl⟩, ⟨obj_free k4, obj_free k4, obj_free k4⟩, ⟨obj_cell k4 rfl, obj_cell k4 rfl, obj_cell k4 rfl⟩⟩)
  have HK24 := Lib.hid (fun W (h : Below W1.heap.size W1 W) => And.intro ((Ch.of_below (S := fun _ => False) h).blk hg2 (fun x => x)) ((Ch.of_below (S := fun _ => False) h).blk hg4 (fun x => x)))
  have H5 := Lib.hid (fun W (h : Below W1.heap.size W1 W) => (Ch.of_below (S := fun _ => False) h).blk hg5 (fun x => x))
  have HBW := Lib.hid (fun W (h : Below W1.heap.size W1 W) => below_then hb1 hb1.size h)
  have HEND := Lib.hid (fun W (h : Below w.heap.size w W) v0 v1 v2 v3 v4 v5 u0 u1 u2 => below_three (below_six h (Nat.le_refl w.heap.size) v0 v1 v2 v3 v4 v5) (Nat.le_succ w.heap.size) u0 u1 u2)
  have HSZ1 := Lib.hid hsz1
  obtain ⟨sg, hsg⟩ : ∃ sg, sg = pS (q.drop 8) := ⟨_, rfl⟩
  have HPB := Lib.hid (HP.out sg hsg)
  have HSG2 := Lib.hid (HSG.out W1)
  rw [← hsg] at HSG2
  have HSGE := Lib.hid hsg
  clear hW1 hg2 hg4 hg5 hb1 hsz1 hsg HP HSG HV1 HV2 hcut1 hcut2 hcut3 hf
  go_wp2_with (fail)
  refine HSG2.out.mono ?_
  rintro e w3 ⟨rfl, hb3⟩
  have B3 := Lib.hid hb3
  clear hb3 HSG2 hcut8
  obtain ⟨se, sv, su, sr⟩ := sg
  simp only at HPB HSGE ⊢
  by_cases h1 : se ≠ 0
  · have HPC : Hid (pHead q = ⟨se, pSchema, 0, hd0, 0, []⟩) := Lib.hid (by
      unfold pHead
      rw [HPB.out, if_pos h1]
      exact if_pos h1)
    have e1 : ((se : Int) == 0) = false := by simp; omega
    have e2 : ((se : Int) != 0) = true := by simp; omega
    have H1 := Lib.hid h1
    clear h1
    obtain ⟨⟨f0, f1, f2, f3, f4, f5⟩, ⟨c0, c1, c2, c3, c4, c5⟩, ⟨g0, g1, g2⟩, ⟨h0, h1, h2⟩⟩ := HCEL.out _ B3.out
    go_wp2
    refine bodyPost_ret (v := .tuple #[.agg #[.int .i64 0, .int .i64 0, .int .i64 0, .int .u64 0, .slice none 0 0, .slice none 0 0], .string ⟨#[]⟩, .agg #[.int .i64 se, .string ⟨#[115, 99, 104, 101, 109, 97]⟩, .int .i64 0]]) (by rw [results_ctc rfl]; go_simp) rfl ?_
    rw [HPC.out]
    exact ⟨HEND.out _ (HBW.out _ B3.out) _ _ _ _ _ _ _ _ _, .inl ⟨H1.out, rfl⟩⟩
  obtain rfl := Decidable.not_not.1 h1
  rw [show ((0 : Nat) : Int) = 0 from rfl]
  have HHS := Lib.hid (Head_calls sv 0 w3)
  rw [headE_s] at HHS
  obtain ⟨c, hc⟩ : ∃ c, c = shapeE sv := ⟨_, rfl⟩
  rw [← hc] at HHS HPB
  have HPB1 := HPB.out
  rw [if_neg h1] at HPB1
  have HPB2 := Lib.hid HPB1
  clear hc h1 HPB1 HPB
  by_cases h2 : c ≠ 0
  · have HPC : Hid (pHead q = ⟨c, pSchema, 0, hd0, 0, []⟩) := Lib.hid (by
      unfold pHead
      rw [HPB2.out, if_pos h2]
      exact if_pos h2)
    have e2 : ((c : Int) != 0) = true := by simp; omega
    have H1 := Lib.hid h2
    clear h2
    go_wp2_with (fail)
    refine HHS.out.mono ?_
    rintro e w9 ⟨rfl, rfl⟩
    obtain ⟨⟨f0, f1, f2, f3, f4, f5⟩, ⟨c0, c1, c2, c3, c4, c5⟩, ⟨g0, g1, g2⟩, ⟨h0, h1, h2⟩⟩ := HCEL.out _ B3.out
    go_wp2
    refine bodyPost_ret (v := .tuple #[.agg #[.int .i64 0, .int .i64 0, .int .i64 0, .int .u64 0, .slice none 0 0, .slice none 0 0], .string ⟨#[]⟩, .agg #[.int .i64 c, .string ⟨#[115, 99, 104, 101, 109, 97]⟩, .int .i64 0]]) (by rw [results_ctc rfl]; go_simp) rfl ?_
    rw [HPC.out]
    exact ⟨HEND.out _ (HBW.out _ B3.out) _ _ _ _ _ _ _ _ _, .inl ⟨H1.out, rfl⟩⟩
  obtain rfl := Decidable.not_not.1 h2
  have HPB1 := HPB2.out
  rw [if_neg h2] at HPB1
  have HPB2 := Lib.hid HPB1
  have h5 := H5.out _ B3.out
  have k2 := obj_free (i := 2) h5
  have l2 := obj_cell (i := 2) h5 rfl
  have HSE2 : Hid (su ≤ (q.drop 8).length ∧ (q.drop 8).drop su = sr ∧ sr.length ≤ 1000000) := Lib.hid (by
    have e : (pS (q.drop 8)).err = 0 := by rw [← HSGE.out]
    have a := cutS e
    have b := restS e
    rw [← HSGE.out] at a b
    simp only at a b
    have := HM.out
    rw [List.length_drop] at b
    exact ⟨a.1, a.2, by omega⟩)
  have hcut : ∀ W, (Instr.slice 9 (.string s8) (some (.int .i64 su)) none none).run Tryz.prog W = .ok (.string (txt sr)) W := fun W => by
    rw [cut_hi 9 Tryz.underlying9 s8 (q.drop 8) su HS8.out HSE2.out.1 W, HSE2.out.2.1]
  have HPZ := Lib.hid (fun W => Parse12_calls sr W HSE2.out.2.2)
  clear h2 h5 HPB1
  go_wp2_with (fail)
  refine HHS.out.mono ?_
  rintro e w9 ⟨rfl, rfl⟩
  go_wp2_with (fail)
  refine (HPZ.out _).mono ?_
  rintro e w9 ⟨rfl, rfl⟩
  obtain ⟨T, hT⟩ : ∃ T, T = parseT sr := ⟨_, rfl⟩
  have HTE := Lib.hid hT
  have HTU := Lib.hid (parseT_used sr)
  have HTI := Lib.hid (parseT_in sr)
  rw [← hT] at HPB2 HTU HTI ⊢
  obtain ⟨te, tv, tu⟩ := T
  simp only at HPB2 HTU HTI ⊢
  have HB2 := Lib.hid ((HBW.out _ B3.out).setCell (p := ⟨w.heap.size + 1 + 1, 2, none⟩) (by simp only; omega) (.int .i64 sv))
  clear hT hcut HPZ
  by_cases h3 : te ≠ 0
  · have HPC : Hid (pHead q = ⟨te, pZero, 0, hd0, 0, []⟩) := Lib.hid (by
      unfold pHead
      rw [HPB2.out, if_pos h3]
      exact if_pos h3)
    have e2 : ((te : Int) != 0) = true := by simp; omega
    have H1 := Lib.hid h3
    clear h3
    obtain ⟨⟨f0, f1, f2, f3, f4, f5⟩, ⟨c0, c1, c2, c3, c4, c5⟩, ⟨g0, g1, g2⟩, ⟨h0, h1, h2⟩⟩ := HCEL.out _ B3.out
    go_wp2
    refine bodyPost_ret (v := .tuple #[.agg #[.int .i64 0, .int .i64 0, .int .i64 0, .int .u64 0, .slice none 0 0, .slice none 0 0], .string ⟨#[]⟩, .agg #[.int .i64 te, .string ⟨#[122, 101, 114, 111]⟩, .int .i64 0]]) (by rw [results_ctc rfl]; go_simp) rfl ?_
    rw [HPC.out]
    exact ⟨HEND.out _ HB2.out _ _ _ _ _ _ _ _ _, .inl ⟨H1.out, rfl⟩⟩
  obtain rfl := Decidable.not_not.1 h3
  rw [show ((0 : Nat) : Int) = 0 from rfl]
  have HPB3 : Hid (pBegin q = ⟨0, pZero, 0, ⟨(V : Nat), (I : Nat), sv, tv, [], []⟩, 8 + su + tu, sr.drop tu⟩) := Lib.hid (by rw [HPB2.out, if_neg h3])
  have k3 := obj_free (i := 3) (H5.out _ B3.out)
  have l3 := obj_cell (i := 3) (H5.out _ B3.out) rfl
  have hcut : ∀ W, (Instr.slice 9 (.string (txt sr)) (some (.int .i64 tu)) none none).run Tryz.prog W = .ok (.string (txt (sr.drop tu))) W := fun W => cut_hi 9 Tryz.underlying9 _ sr tu rfl HTU.out W
  have G5 := Lib.hid (blk_set (blk_set (H5.out _ B3.out) 2 (.int .i64 sv)) 3 (.int .u64 tv))
  have HB3 := Lib.hid (HB2.out.setCell (p := ⟨w.heap.size + 1 + 1, 3, none⟩) (by simp only; omega) (.int .u64 tv))
  have HSD := Lib.hid (side_calls (sr.drop tu) pPos ((w3.setCell ⟨w.heap.size + 1 + 1, 2, none⟩ (.int .i64 sv)).setCell ⟨w.heap.size + 1 + 1, 3, none⟩ (.int .u64 tv)) (by rw [List.length_drop]; have := HSE2.out.2.2; omega))
  clear h3
  go_wp2_with (fail)
  obtain ⟨W2, hW2, hg2, hg4, hg5, hb2, hsz2⟩ : ∃ W2 : World, W2 = ((w3.setCell ⟨w.heap.size + 1 + 1, 2, none⟩ (.int .i64 sv)).setCell ⟨w.heap.size + 1 + 1, 3, none⟩ (.int .u64 tv)) ∧ W2.heap[w.heap.size]? = some (.cells #[.int .i64 0, .int .i64 0, .int .i64 0, .int .u64 0, .slice none 0 0, .slice none 0 0] 41 (0, 0)) ∧ W2.heap[w.heap.size + 1]? = some (.cells #[.int .i64 0, .string ⟨#[]⟩, .int .i64 0] 37 (0, 0)) ∧ W2.heap[w.heap.size + 1 + 1]? = some (.cells #[.int .i64 V, .int .i64 I, .int .i64 sv, .int .u64 tv, .slice none 0 0, .slice none 0 0] 41 (0, 0)) ∧ Below w.heap.size w W2 ∧ w.heap.size + 3 ≤ W2.heap.size :=
    ⟨_, rfl, (Below.heap_setCell _ _ _ _ (by simp only; omega)).trans ((Below.heap_setCell _ _ _ _ (by simp only; omega)).trans (HK24.out _ B3.out).1), (Below.heap_setCell _ _ _ _ (by simp only; omega)).trans ((Below.heap_setCell _ _ _ _ (by simp only; omega)).trans (HK24.out _ B3.out).2), G5.out, HB3.out, by have h1 := B3.out.size; have h2 := HSZ1.out; simp; omega⟩
  rw [← hW2] at HSD ⊢
  have HCE2 : Hid (∀ W, Below W2.heap.size W2 W → ((W.frozen? ⟨w.heap.size, 0, none⟩ = false ∧ W.frozen? ⟨w.heap.size, 1, none⟩ = false ∧ W.frozen? ⟨w.heap.size, 2, none⟩ = false ∧ W.frozen? ⟨w.heap.size, 3, none⟩ = false ∧ W.frozen? ⟨w.heap.size, 4, none⟩ = false ∧ W.frozen? ⟨w.heap.size, 5, none⟩ = false) ∧ (W.cell? ⟨w.heap.size, 0, none⟩ = some (.int .i64 0) ∧ W.cell? ⟨w.heap.size, 1, none⟩ = some (.int .i64 0) ∧ W.cell? ⟨w.heap.size, 2, none⟩ = some (.int .i64 0) ∧ W.cell? ⟨w.heap.size, 3, none⟩ = some (.int .u64 0) ∧ W.cell? ⟨w.heap.size, 4, none⟩ = some (.slice none 0 0) ∧ W.cell? ⟨w.heap.size, 5, none⟩ = some (.slice none 0 0)) ∧ (W.frozen? ⟨w.heap.size + 1, 0, none⟩ = false ∧ W.frozen? ⟨w.heap.size + 1, 1, none⟩ = false ∧ W.frozen? ⟨w.heap.size + 1, 2, none⟩ = false) ∧ (W.cell? ⟨w.heap.size + 1, 0, none⟩ = some (.int .i64 0) ∧ W.cell? ⟨w.heap.size + 1, 1, none⟩ = some (.string ⟨#[]⟩) ∧ W.cell? ⟨w.heap.size + 1, 2, none⟩ = some (.int .i64 0)))) := Lib.hid (fun W h => by
    have k2 := (Ch.of_below (S := fun _ => False) h).blk hg2 (fun x => x)
    have k4 := (Ch.of_below (S := fun _ => False) h).blk hg4 (fun x => x)
    exact ⟨⟨obj_free k2, obj_free k2, obj_free k2, obj_free k2, obj_free k2, obj_free k2⟩, ⟨obj_cell k2 rfl, obj_cell k2 rfl, obj_cell k2 rfl, obj_cell k2 rfl, obj_cell k2 rfl, obj_cell k2 rfl⟩, ⟨obj_free k4, obj_free k4, obj_free k4⟩, ⟨obj_cell k4 rfl, obj_cell k4 rfl, obj_cell k4 rfl⟩⟩)
  have H52 := Lib.hid (fun W (h : Below W2.heap.size W2 W) => (Ch.of_below (S := fun _ => False) h).blk hg5 (fun x => x))
  have HBW2 := Lib.hid (fun W (h : Below W2.heap.size W2 W) => below_then hb2 hb2.size h)
  have HSZ2 := Lib.hid hsz2
  obtain ⟨R, hR⟩ : ∃ R, R = pGet (sr.drop tu) := ⟨_, rfl⟩
  rw [← hR] at HSD
  have HHD : Hid (∀ N, N = pGet R.rest → pHead q = if R.err ≠ 0 then ⟨R.err, pPos, R.val.length, hd0, 0, []⟩ else if N.err ≠ 0 then ⟨N.err, pNeg, N.val.length, hd0, 0, []⟩
      else ⟨0, pNeg, 0, ⟨(V : Nat), (I : Nat), sv, tv, R.val, N.val⟩, 8 + su + tu + R.used + N.used, N.rest⟩) := Lib.hid (by
    rintro N rfl
    unfold pHead
    rw [HPB3.out]
    simp only
    rw [if_neg (fun h => h rfl), ← hR])
  have HRE := Lib.hid hR
  have HRL : Hid (R.err = 0 → R.rest.length ≤ 1000000) := Lib.hid (by
    rw [hR]
    intro h
    obtain ⟨h1, -, -⟩ := pGet_inv h
    have h2 := congrArg List.length h1
    rw [List.length_append, List.length_drop] at h2
    have := HSE2.out.2.2
    omega)
  clear hW2 hg2 hg4 hg5 hb2 hsz2 hR k2 l2 k3 l3 hcut
  refine HSD.out.mono ?_
  rintro e w4 ⟨hb4, hcase⟩
  have B4 := Lib.hid hb4
  clear hb4 HSD
  rcases hcase with ⟨h4, rfl⟩ | ⟨h4, A4, c4, rfl, ho4⟩
  · have HPC : Hid (pHead q = ⟨R.err, pPos, R.val.length, hd0, 0, []⟩) := Lib.hid (by rw [HHD.out _ rfl, if_pos h4])
    obtain ⟨re, rv, ru, rr⟩ := R
    simp only at h4 HPC ⊢
    obtain ⟨rn, hrn⟩ : ∃ n, n = rv.length := ⟨_, rfl⟩
    rw [← hrn] at HPC ⊢
    have e2 : ((re : Int) != 0) = true := by simp; omega
    have hba := below_alloc (Below.refl w4.heap.size w4) (.cells #[.int .i64 re, .string pPos, .int .i64 rn] 37)
    have B4a := Lib.hid (below_then B4.out B4.out.size hba)
    have H1 := Lib.hid h4
    clear h4 hrn hba HHD HRL HPB3
    obtain ⟨⟨f0, f1, f2, f3, f4, f5⟩, ⟨c0, c1, c2, c3, c4, c5⟩, ⟨g0, g1, g2⟩, ⟨h0, h1, h2⟩⟩ := HCE2.out _ B4a.out
    have hn0 : w.heap.size + 3 ≤ w4.heap.size := Nat.le_trans HSZ2.out B4.out.size
    have hn1 : ¬ w4.heap.size = w.heap.size := by omega
    have hn2 : ¬ w.heap.size = w4.heap.size := by omega
    have hn3 : ¬ w4.heap.size = w.heap.size + 1 := by omega
    have hn4 : ¬ w.heap.size + 1 = w4.heap.size := by omega
    go_wp2
    go_region
    all_goals go_wp2
    all_goals
      refine bodyPost_ret (v := .tuple #[.agg #[.int .i64 0, .int .i64 0, .int .i64 0, .int .u64 0, .slice none 0 0, .slice none 0 0], .string ⟨#[]⟩, .agg #[.int .i64 re, .string pPos, .int .i64 rn]]) (by rw [results_ctc rfl]; go_simp) rfl ?_
      rw [HPC.out]
      exact ⟨below_drew (HEND.out _ (HBW2.out _ B4a.out) _ _ _ _ _ _ _ _ _), .inl ⟨H1.out, rfl⟩⟩
  have HRI : Hid (sidesE R.val = 0) := Lib.hid (by
    have e : R = pGet (sr.drop tu) := HRE.out
    rw [e] at h4 ⊢
    exact (pGet_inv h4).2.2)
  have hrl := HRL.out h4
  obtain ⟨re, rv, ru, rr⟩ := R
  simp only at h4 hrl HRI HHD ho4 ⊢
  subst h4
  have hba := below_alloc (Below.refl w4.heap.size w4) (.cells #[.int .i64 0, .string ⟨#[]⟩, .int .i64 0] 37)
  have B4a := Lib.hid (below_then B4.out B4.out.size hba)
  have O4a := Lib.hid (ho4.below hba)
  have HKL := Lib.hid (blk_last w4 (.cells #[.int .i64 0, .string ⟨#[]⟩, .int .i64 0] 37))
  have HSN := Lib.hid (side_calls rr pNeg (w4.alloc (.cells #[.int .i64 0, .string ⟨#[]⟩, .int .i64 0] 37)) hrl)
  obtain ⟨N, hN⟩ : ∃ N, N = pGet rr := ⟨_, rfl⟩
  rw [← hN] at HSN
  have HHN := Lib.hid (HHD.out N hN)
  have HNE := Lib.hid hN
  have hn0 : w.heap.size + 3 ≤ w4.heap.size := Nat.le_trans HSZ2.out B4.out.size
  have hn1 : ¬ w4.heap.size = w.heap.size := by omega
  have hn2 : ¬ w.heap.size = w4.heap.size := by omega
  have hn3 : ¬ w4.heap.size = w.heap.size + 1 := by omega
  have hn4 : ¬ w.heap.size + 1 = w4.heap.size := by omega
  have hn5 : ¬ w4.heap.size = w.heap.size + 1 + 1 := by omega
  have hn6 : ¬ w.heap.size + 1 + 1 = w4.heap.size := by omega
  have HLT := Lib.hid (fun g (hg : (Value.slice A4 rv.length c4).ownBlock = some g) => (⟨ho4.base_ g hg, ho4.lt_ g hg⟩ : W2.heap.size ≤ g ∧ g < w4.heap.size))
  clear hba ho4 hrl HRL hN HHD HPB3
  go_wp2_with (fail)
  refine HSN.out.mono ?_
  rintro e w5 ⟨hb5, hcase⟩
  have B5 := Lib.hid (below_then B4a.out B4a.out.size hb5)
  have O5 := Lib.hid (O4a.out.below hb5)
  have hkl := (Ch.of_below (S := fun _ => False) hb5).blk HKL.out (fun x => x)
  have m0 := obj_free (i := 0) hkl
  have m1 := obj_free (i := 1) hkl
  have m2 := obj_free (i := 2) hkl
  have p0 := obj_cell (i := 0) hkl rfl
  have p1 := obj_cell (i := 1) hkl rfl
  have p2 := obj_cell (i := 2) hkl rfl
  clear hb5 HSN hkl
  rcases hcase with ⟨h4, rfl⟩ | ⟨h4, A5, c5x, rfl, ho5⟩
  · have HPC : Hid (pHead q = ⟨N.err, pNeg, N.val.length, hd0, 0, []⟩) := Lib.hid (by rw [HHN.out, if_neg (fun h => h rfl), if_pos h4])
    obtain ⟨ne, nv, nu, nr⟩ := N
    simp only at h4 HPC ⊢
    obtain ⟨nn, hnn⟩ : ∃ n, n = nv.length := ⟨_, rfl⟩
    rw [← hnn] at HPC ⊢
    have e2 : ((ne : Int) != 0) = true := by simp; omega
    have H1 := Lib.hid h4
    clear h4 hnn
    obtain ⟨⟨f0, f1, f2, f3, f4, f5⟩, ⟨c0, c1, c2, c3, c4', c5⟩, ⟨g0, g1, g2⟩, ⟨h0, h1, h2⟩⟩ := HCE2.out _ B5.out
    have HBT := Lib.hid (below_three (HBW2.out _ B5.out) (show w.heap.size ≤ w4.heap.size from by omega) (.int .i64 ne) (.string pNeg) (.int .i64 nn))
    go_wp2
    go_region
    all_goals go_wp2
    all_goals
      refine bodyPost_ret (v := .tuple #[.agg #[.int .i64 0, .int .i64 0, .int .i64 0, .int .u64 0, .slice none 0 0, .slice none 0 0], .string ⟨#[]⟩, .agg #[.int .i64 ne, .string pNeg, .int .i64 nn]]) (by rw [results_ctc rfl]; go_simp) rfl ?_
      rw [HPC.out]
      exact ⟨below_drew (HEND.out _ HBT.out _ _ _ _ _ _ _ _ _), .inl ⟨H1.out, rfl⟩⟩
  have HNI : Hid (sidesE N.val = 0) := Lib.hid (by
    have e : N = pGet rr := HNE.out
    rw [e] at h4 ⊢
    exact (pGet_inv h4).2.2)
  have HPC : Hid (pHead q = ⟨0, pNeg, 0, ⟨(V : Nat), (I : Nat), sv, tv, rv, N.val⟩, 8 + su + tu + ru + N.used, N.rest⟩) := Lib.hid (by rw [HHN.out, if_neg (fun h => h rfl), if_neg (fun h => h h4)])
  obtain ⟨ne, nv, nu, nr⟩ := N
  simp only at h4 HNI HPC ho5 ⊢
  subst h4
  obtain ⟨⟨f0, f1, f2, f3, f4, f5⟩, ⟨c0, c1, c2, c3, c4', c5⟩, ⟨g0, g1, g2⟩, ⟨h0, h1, h2⟩⟩ := HCE2.out _ B5.out
  have h5b := H52.out _ B5.out
  have y4 := obj_free (i := 4) h5b
  have y5 := obj_free (i := 5) h5b
  have x0 := obj_cell (i := 0) h5b rfl
  have x1 := obj_cell (i := 1) h5b rfl
  have x2 := obj_cell (i := 2) h5b rfl
  have x3 := obj_cell (i := 3) h5b rfl
  have x4 := obj_cell (i := 4) h5b rfl
  have x5 := obj_cell (i := 5) h5b rfl
  have HO5 := Lib.hid ho5
  clear ho5 h5b HHN
  have hle : w.heap.size ≤ w4.heap.size := by omega
  have HBT := Lib.hid ((below_three (HBW2.out _ B5.out) hle (.int .i64 0) (.string ⟨#[]⟩) (.int .i64 0)).setCell (p := ⟨w.heap.size + 1 + 1, 4, none⟩) (by simp only; omega) (.slice A4 rv.length c4) |>.setCell (p := ⟨w.heap.size + 1 + 1, 5, none⟩) (by simp only; omega) (.slice A5 nv.length c5x))
  have HN0 := Lib.hid hn0
  go_wp2
  go_region
  all_goals go_wp2
  all_goals
    refine bodyPost_ret (v := .tuple #[.agg #[.int .i64 V, .int .i64 I, .int .i64 sv, .int .u64 tv, .slice A4 rv.length c4, .slice A5 nv.length c5x], .string (txt nr), .agg #[.int .i64 0, .string ⟨#[]⟩, .int .i64 0]]) (by rw [results_ctc rfl]; go_simp) rfl ?_
    rw [HPC.out]
    refine ⟨below_drew (HEND.out _ HBT.out _ _ _ _ _ _ _ _ _), .inr ⟨rfl, ⟨A4, c4, A5, c5x⟩, rfl, ⟨?_, ?_, HTI.out⟩⟩⟩
    · exact spl_move O5.out (Nat.le_trans (sides_in HRI.out).1 (by decide)) (fin_ch w5 w.heap.size w4.heap.size _ _ _ _ _ _ _ _ _ _ _ _ _ _) (fun g hg hs => by have h1 := HLT.out g hg; have h2 := HSZ2.out; omega)
    · exact spl_move HO5.out (Nat.le_trans (sides_in HNI.out).1 (by decide)) (fin_ch w5 w.heap.size w4.heap.size _ _ _ _ _ _ _ _ _ _ _ _ _ _) (fun g hg hs => by have h1 := HO5.out.base_ g hg; have h2 := HN0.out; simp at h1; omega)
end Go.Proofs.YtjfekjbmgckkcaaGreatDoor.Ref14E

/- what head asks of the world, out of the row's condition. -/
namespace Go.Proofs.YtjfekjbmgckkcaaGreatDoor.HeadLaid
open Go.RowKit Go.Proofs.YtjfekjbmgckkcaaGreatDoorW.PrintWords
open Go.Proofs.YtjfekjbmgckkcaaGreatDoor.Base Go.Proofs.YtjfekjbmgckkcaaGreatDoor.VarPure Go.Proofs.YtjfekjbmgckkcaaGreatDoor.VarbitA Go.Proofs.YtjfekjbmgckkcaaGreatDoor.FailAs Go.Proofs.YtjfekjbmgckkcaaGreatDoor.FailD

abbrev laidAll : List (String × DataW Unit) := [("errors.errorType", Rows.laid_errors_errorType), ("tidepole/varbit.behinds", Rows.laid_tidepole_varbit_behinds)]
theorem rt : (Tryz.prog.cutTypes.find? (·.1 == "internal/reflectlite.rtype")).map (·.2) = some 290 := by kernel_rfl
theorem gEt : Tryz.prog.globalNamed "errors.errorType" = some 0 := by kernel_rfl
theorem oneRow : ((List.range 373).filter fun t => Tryz.prog.rowNamed t [101, 114, 114, 111, 114]) = [34] := by kernel_rfl
theorem tySize : Tryz.prog.types.size = 373 := by kernel_rfl
theorem split_laid (w : World) : laidMetH Tryz.prog laidAll w = (laidMet Tryz.prog [("tidepole/varbit.behinds", Rows.laid_tidepole_varbit_behinds)] w ∧ handlesMet Tryz.prog [("errors.errorType", Rows.laid_errors_errorType)] w) := by kernel_rfl
theorem handle_of {w : World} (h : handlesMet Tryz.prog [("errors.errorType", Rows.laid_errors_errorType)] w) : GlE w := by
  have h1 : ∃ name u ty, (Rows.laid_errors_errorType (H := Unit)).handleName? = some name ∧ (Tryz.prog.cutTypes.find? (·.1 == "internal/reflectlite.rtype")).map (·.2) = some u ∧ ty < Tryz.prog.types.size ∧ Tryz.prog.rowNamed ty name = true ∧ w.var? Tryz.prog "errors.errorType" = some #[.iface u (.agg #[typeHandle Tryz.prog ty])] := h _ (List.mem_singleton.2 rfl)
  obtain ⟨name, u, ty, e1, e2, e3, e4, e5⟩ := h1
  have en : name = [101, 114, 114, 111, 114] := (Option.some.inj e1).symm
  subst en
  obtain rfl := Option.some.inj (rt.symm.trans e2)
  have hm : ty ∈ (List.range 373).filter fun t => Tryz.prog.rowNamed t [101, 114, 114, 111, 114] := List.mem_filter.2 ⟨List.mem_range.2 (by rw [← tySize]; exact e3), e4⟩
  rw [oneRow] at hm
  obtain rfl := List.mem_singleton.1 hm
  have hh : typeHandle Tryz.prog 34 = .pointer (some ⟨3, 34, none⟩) := by kernel_rfl
  rw [hh] at e5
  simpa [GlE] using World.var?_cell gEt e5 0
theorem tab_met {w : World} (h2 : laidMet Tryz.prog [("tidepole/varbit.behinds", Lib.tabData .i64 ([0, 3, 6, 9, 12, 18, 25, 56, 64].map Int.ofNat))] w) : Tab w := by
  have hv := Lib.tabIs_of_head gTab tTab Tryz.underlying269 Tryz.underlying3 cEl cTab h2
  intro j hj
  have := World.var?_cell gTab hv j
  rw [this]
  have : j = 0 ∨ j = 1 ∨ j = 2 ∨ j = 3 ∨ j = 4 ∨ j = 5 ∨ j = 6 ∨ j = 7 ∨ j = 8 := by omega
  rcases this with rfl | rfl | rfl | rfl | rfl | rfl | rfl | rfl | rfl <;> rfl
theorem of_laid {w : World} (h : laidMetH Tryz.prog laidAll w) : Tab w ∧ GlE w := by
  rw [split_laid] at h
  exact ⟨tab_met h.1, handle_of h.2⟩
theorem wf_in {n : Int} (h : (Lit.int .i64 n).wf = true) : -9223372036854775808 ≤ n ∧ n ≤ 9223372036854775807 := by
  simp [Lit.wf, IntKind.min, IntKind.max, IntKind.bits, IntKind.signed] at h
  omega
end Go.Proofs.YtjfekjbmgckkcaaGreatDoor.HeadLaid

/- law 14: any bits begin with a head, or not, as the document says. -/
namespace Go.Proofs.YtjfekjbmgckkcaaGreatDoor.HeadReads
open Go.RowKit Go.Proofs.YtjfekjbmgckkcaaGreatDoorW.PrintWords
open Go.Proofs.YtjfekjbmgckkcaaGreatDoor.Bits Go.Proofs.YtjfekjbmgckkcaaGreatDoor.Base Go.Proofs.YtjfekjbmgckkcaaGreatDoor.VarPure Go.Proofs.YtjfekjbmgckkcaaGreatDoor.VarbitA Go.Proofs.YtjfekjbmgckkcaaGreatDoor.VarbitD Go.Proofs.YtjfekjbmgckkcaaGreatDoor.VarKit Go.Proofs.YtjfekjbmgckkcaaGreatDoor.StreamA Go.Proofs.YtjfekjbmgckkcaaGreatDoor.StreamR Go.Proofs.YtjfekjbmgckkcaaGreatDoor.SpanPure Go.Proofs.YtjfekjbmgckkcaaGreatDoor.SpanBase Go.Proofs.YtjfekjbmgckkcaaGreatDoor.FailAs Go.Proofs.YtjfekjbmgckkcaaGreatDoor.FailB Go.Proofs.YtjfekjbmgckkcaaGreatDoor.FailC Go.Proofs.YtjfekjbmgckkcaaGreatDoor.ThrPure Go.Proofs.YtjfekjbmgckkcaaGreatDoor.ReadP Go.Proofs.YtjfekjbmgckkcaaGreatDoor.HeadA Go.Proofs.YtjfekjbmgckkcaaGreatDoor.HeadB Go.Proofs.YtjfekjbmgckkcaaGreatDoor.HeadC Go.Proofs.YtjfekjbmgckkcaaGreatDoor.HeadD Go.Proofs.YtjfekjbmgckkcaaGreatDoor.HeadPure Go.Proofs.YtjfekjbmgckkcaaGreatDoor.HeadE Go.Proofs.YtjfekjbmgckkcaaGreatDoor.HeadF Go.Proofs.YtjfekjbmgckkcaaGreatDoor.HeadG Go.Proofs.YtjfekjbmgckkcaaGreatDoor.HeadH Go.Proofs.YtjfekjbmgckkcaaGreatDoor.HeadJ Go.Proofs.YtjfekjbmgckkcaaGreatDoor.HeadK Go.Proofs.YtjfekjbmgckkcaaGreatDoor.HeadM Go.Proofs.YtjfekjbmgckkcaaGreatDoor.Ref01 Go.Proofs.YtjfekjbmgckkcaaGreatDoor.Ref12 Go.Proofs.YtjfekjbmgckkcaaGreatDoor.Law14A Go.Proofs.YtjfekjbmgckkcaaGreatDoor.Law14B Go.Proofs.YtjfekjbmgckkcaaGreatDoor.HeadLaid Go.Proofs.YtjfekjbmgckkcaaGreatDoor.Law14C Go.Proofs.YtjfekjbmgckkcaaGreatDoor.Law14D Go.Proofs.YtjfekjbmgckkcaaGreatDoor.Ref14E Go.Proofs.YtjfekjbmgckkcaaGreatDoor.LawBase

set_option maxHeartbeats 1600000 in
theorem narrow (A : Option Addr) (c : Nat) (l : List UInt8) (n : Int) (w : World) (hT : Tab w) (hE : GlE w) (hl : 150 < l.length ∨ n < 0 ∨ 8 * (l.length : Int) < n) :
    Calls Tryz.prog 4 #[.slice A l.length c, .int .i64 n] w fun e w' => e = .returned (.bool true) ∧ Below w.heap.size w w' := by
  have CAW := Lib.hid (awake_calls w hT hE)
  clear hT hE
  by_cases h1 : 150 < l.length
  · have d1 : decide ((l.length : Int) > 150) = true := by simp; omega
    have d1' : decide (150 < (l.length : Int)) = true := by simp; omega
    have d1n : decide (150 < l.length) = true := by simp; omega
    clear hl h1
    go_enter Tryz.func4, Tryz.ntmps4
    go_wp2_with (fail)
    refine CAW.out.mono ?_
    rintro e w1 ⟨rfl, hb⟩
    go_wp2
    go_ret
    exact ⟨rfl, hb⟩
  · have d1 : decide ((l.length : Int) > 150) = false := by simp; omega
    have d1' : decide (150 < (l.length : Int)) = false := by simp; omega
    have d1n : decide (150 < l.length) = false := by simp; omega
    by_cases h2 : n < 0
    · have d2 : decide (n < 0) = true := by simp; omega
      clear hl h1 h2
      go_enter Tryz.func4, Tryz.ntmps4
      go_wp2_with (fail)
      refine CAW.out.mono ?_
      rintro e w1 ⟨rfl, hb⟩
      go_wp2
      go_ret
      exact ⟨rfl, hb⟩
    · have d2 : decide (n < 0) = false := by simp; omega
      have d3 : decide (n > 8 * (l.length : Int)) = true := by simp; omega
      have d3' : decide (8 * (l.length : Int) < n) = true := by simp; omega
      go_enter Tryz.func4, Tryz.ntmps4
      go_wp2_with (fail)
      refine CAW.out.mono ?_
      rintro e w1 ⟨rfl, hb⟩
      go_wp2
      go_ret
      exact ⟨rfl, hb⟩

set_option maxRecDepth 100000 in
set_option maxHeartbeats 6400000 in
theorem core (A : Option Addr) (c n : Nat) (l : List UInt8) (w : World) (hT : Tab w) (hE : GlE w) (hr : RdB w A l) (hl : l.length ≤ 150) (hc : l.length ≤ c) (hA : A = none → c = 0) (hn : n ≤ 8 * l.length) :
    Calls Tryz.prog 4 #[.slice A l.length c, .int .i64 n] w fun e w' => e = .returned (.bool true) ∧ Below w.heap.size w w' := by
  have HT := Lib.hid hT
  have HE := Lib.hid hE
  have HR := Lib.hid hr
  have hq : ((bts l).take n).length = n := by rw [List.length_take, bts_length]; omega
  have HRD := Lib.hid (newReader_calls A c n l w hr (by omega) hc hA hn)
  have HTE := Lib.hid (fun W => text_calls (str l) n W (by rw [str_size]; omega) (by rw [str_size]; omega))
  rw [show (str l).data.toList = l from by simp [str]] at HTE
  have d1 : decide ((l.length : Int) > 150) = false := by simp; omega
  have d1' : decide (150 < (l.length : Int)) = false := by simp; omega
  have d1n : decide (150 < l.length) = false := by simp; omega
  have d2 : decide ((n : Int) < 0) = false := by simp
  have d3 : decide ((n : Int) > 8 * (l.length : Int)) = false := by simp; omega
  have d3' : decide (8 * (l.length : Int) < (n : Int)) = false := by simp; omega
  obtain ⟨q, hqq⟩ : ∃ q, q = (bts l).take n := ⟨_, rfl⟩
  rw [← hqq] at HTE HRD hq
  have HQ := Lib.hid hq
  have hn12 : n ≤ 1200 := by omega
  clear hT hE hr hA hqq hq
  go_enter Tryz.func4, Tryz.ntmps4
  go_wp2_with (fail)
  refine HRD.out.mono ?_
  rintro e w1 ⟨gr, SR, rfl, hR, hSR, hb1⟩
  have HRR := Lib.hid hR
  have HSR := Lib.hid hSR
  have HB1 := Lib.hid hb1
  have HT1 := Lib.hid (HT.out.below HB1.out)
  have HE1 := Lib.hid (gle_below HE.out HB1.out)
  have HNR := Lib.hid (not_old HT.out HSR.out)
  have HRE := Lib.hid (fun x => by have := HSR.out _ x; have := gle_lt HE.out; omega : ¬ SR 0)
  have HG := Lib.hid (Get_calls gr 0 SR q w1 HT1.out HE1.out HNR.out HRE.out hR)
  have HPA := Lib.hid (fun W => Parse14_calls q W (by have := HQ.out; omega))
  clear hR hSR hb1 HRD
  go_wp2_with (fail)
  refine HG.out.mono ?_
  rintro e w3 ⟨hc3, hcase⟩
  have HB3 := Lib.hid (ch_new HB1.out HB1.out.size HSR.out hc3)
  have HT3 := Lib.hid (HT1.out.ch hc3 HNR.out)
  have HE3 := Lib.hid (gle_ch HE1.out hc3 HRE.out)
  have HAW := Lib.hid (fun W (hb : Below w3.heap.size w3 W) => lift hb hb.size (awake_calls W (HT3.out.below hb) (gle_below HE3.out hb)))
  obtain ⟨sl, hsl⟩ : ∃ s, s = str l := ⟨_, rfl⟩
  obtain ⟨P, hP⟩ : ∃ P, P = pHead q := ⟨_, rfl⟩
  rw [← hP] at hcase
  have HPA2 := Lib.hid (fun W => (by have := HPA.out W; rw [← hP] at this; exact this : Calls Tryz.prog 31 #[.string (txt q)] W (TP P W)))
  have HPQ := Lib.hid hP
  obtain ⟨sq, hsq⟩ : ∃ s, s = txt q := ⟨_, rfl⟩
  rw [← hsl, ← hsq] at HTE
  rw [← hsq] at HPA2
  have HSL := Lib.hid hsl
  clear hc3 HPA hP hsq hsl HG
  rcases hcase with ⟨h1, ⟨v, rfl, he⟩, -⟩ | ⟨h1, ⟨p, rfl, ho⟩, h3⟩
  · have hba := below_alloc (Below.refl w3.heap.size w3) (.cells #[.int .i64 0, .int .i64 0, .int .i64 0, .int .u64 0, .slice none 0 0, .slice none 0 0] 25)
    have HBA := Lib.hid hba
    have HK7 := Lib.hid (blk_last w3 (.cells #[.int .i64 0, .int .i64 0, .int .i64 0, .int .u64 0, .slice none 0 0, .slice none 0 0] 25))
    have hcv := RdB.string (P := Tryz.prog) (src := 51) (dst := 9) (e := 5) (c := c) (HR.out.below (below_then HB3.out HB3.out.size hba)) rfl Tryz.underlying51 Tryz.underlying5 Tryz.underlying9
    rw [← HSL.out] at hcv
    have HE9 := Lib.hid he
    have H1 := Lib.hid h1
    obtain ⟨ge, rfl⟩ := err_some (by omega) he
    clear he h1 hba
    dsimp only [hcs, hd0, List.length]
    go_wp2_with (fail)
    refine (HTE.out _).mono ?_
    rintro e w4 ⟨rfl, rfl⟩
    go_wp2_with (fail)
    refine (HPA2.out _).mono ?_
    rintro e w4 ⟨hb4, hcase⟩
    obtain rfl : e = .returned (.tuple #[.agg HeadL.zcs, .string ⟨#[]⟩, .agg #[.int .i64 P.err, .string P.place, .int .i64 P.at_]]) := by
      rcases hcase with ⟨-, h⟩ | ⟨h, -⟩
      · exact h
      · exact absurd h H1.out
    have hba := below_alloc (below_alloc (Below.refl w4.heap.size w4) (.cells #[.int .i64 0, .int .i64 0, .int .i64 0, .int .u64 0, .slice none 0 0, .slice none 0 0] 41)) (.cells #[.int .i64 P.err, .string P.place, .int .i64 P.at_] 37)
    have HB4 := Lib.hid (below_then HBA.out HBA.out.size hb4)
    have HB5 := Lib.hid (below_then HB4.out HB4.out.size hba)
    have HTL := Lib.hid (tells_calls _ P.err P.place P.at_ _ (HE9.out.below HB5.out) H1.out)
    have HK7b := Lib.hid ((Ch.of_below (S := fun _ => False) hba).blk ((Ch.of_below (S := fun _ => False) hb4).blk HK7.out (fun x => x)) (fun x => x))
    have e1 : ((P.err : Int) != 0) = true := by have := H1.out; simp; omega
    clear hb4 hba hcase hcv
    go_wp2_with (fail)
    refine HTL.out.mono ?_
    rintro e w6 ⟨rfl, hb6⟩
    have HB6 := Lib.hid (below_then HB5.out HB5.out.size hb6)
    have k7 := (Ch.of_below (S := fun _ => False) hb6).blk HK7b.out (fun x => x)
    have k0 := obj_cell (i := 0) k7 rfl
    have k1 := obj_cell (i := 1) k7 rfl
    have k2 := obj_cell (i := 2) k7 rfl
    have k3 := obj_cell (i := 3) k7 rfl
    have k4 := obj_cell (i := 4) k7 rfl
    have k5 := obj_cell (i := 5) k7 rfl
    have HEQ := Lib.hid (Equal_calls hd0 hd0 ⟨none, 0, none, 0⟩ ⟨none, 0, none, 0⟩ w6 (hdin_nil _ 0 0 0 0 (by decide)) (hdin_nil _ 0 0 0 0 (by decide)))
    clear hb6 k7 HTL
    go_wp2_with (fail)
    refine HEQ.out.mono ?_
    rintro e w7 ⟨rfl, hb7⟩
    rw [show eqH hd0 hd0 = true from decide_eq_true rfl]
    have HB7 := Lib.hid (below_then HB6.out HB6.out.size hb7)
    clear hb7 HEQ k0 k1 k2 k3 k4 k5
    go_wp2_with (fail)
    refine (HAW.out _ HB7.out).mono ?_
    rintro e w8 ⟨rfl, hb8⟩
    have HB8 := Lib.hid hb8
    clear hb8
    go_wp2
    go_ret
    exact ⟨rfl, below_then HB3.out HB3.out.size HB8.out⟩
  · obtain ⟨i1, i2, i3, i4⟩ := pHead_inv (q := q) (by rw [← HPQ.out]; exact h1)
    rw [← HPQ.out] at i3 i4
    obtain ⟨z1, z2, z3, z4, z5, z6, z7, z8⟩ := err_zero i3
    have hin := hdin_out ho (Nat.le_trans (sides_in z7).1 (by decide)) (Nat.le_trans (sides_in z8).1 (by decide)) i4
    clear i1 i2 i3 i4 z1 z2 z3 z4 z5 z6 z7 z8 ho
    obtain ⟨pe, pp, pa, hd, pu, pr⟩ := P
    simp only at h1 h3 hin ⊢
    subst h1
    obtain ⟨A1, c1, B1, d1h⟩ := p
    obtain ⟨vr, hint, schema, zt, pos, neg⟩ := hd
    have hba := below_alloc (Below.refl w3.heap.size w3) (.cells #[.int .i64 vr, .int .i64 hint, .int .i64 schema, .int .u64 zt, .slice A1 pos.length c1, .slice B1 neg.length d1h] 25)
    have HBA := Lib.hid hba
    have HK7 := Lib.hid (blk_last w3 (.cells #[.int .i64 vr, .int .i64 hint, .int .i64 schema, .int .u64 zt, .slice A1 pos.length c1, .slice B1 neg.length d1h] 25))
    have hcv := RdB.string (P := Tryz.prog) (src := 51) (dst := 9) (e := 5) (c := c) (HR.out.below (below_then HB3.out HB3.out.size hba)) rfl Tryz.underlying51 Tryz.underlying5 Tryz.underlying9
    rw [← HSL.out] at hcv
    have HIN := Lib.hid hin
    have HRR := Lib.hid h3
    clear hba hin h3
    dsimp only [hcs]
    go_wp2_with (fail)
    refine (HTE.out _).mono ?_
    rintro e w4 ⟨rfl, rfl⟩
    go_wp2_with (fail)
    refine (HPA2.out _).mono ?_
    rintro e w4 ⟨hb4, hcase⟩
    obtain ⟨⟨A2, c2, B2, d2h⟩, rfl, hin2⟩ : ∃ p, e = .returned (.tuple #[.agg (hcs ⟨vr, hint, schema, zt, pos, neg⟩ p).toArray, .string (txt pr), .agg #[.int .i64 0, .string ⟨#[]⟩, .int .i64 0]]) ∧ HdIn w4 ⟨vr, hint, schema, zt, pos, neg⟩ p := by
      rcases hcase with ⟨h, -⟩ | ⟨-, h⟩
      · exact absurd rfl h
      · exact h
    dsimp only [hcs]
    have HB4 := Lib.hid (below_then HBA.out HBA.out.size hb4)
    have hk7 := (Ch.of_below (S := fun _ => False) hb4).blk HK7.out (fun x => x)
    have HIN4 := Lib.hid (HIN.out.below HB4.out)
    have HRR4 := Lib.hid (HRR.out.below HB4.out)
    have HLT := Lib.hid (blk_lt hk7)
    obtain ⟨W5, hW5, hg7, hg9, hb5⟩ : ∃ W5 : World, W5 = (w4.alloc (.cells #[.int .i64 vr, .int .i64 hint, .int .i64 schema, .int .u64 zt, .slice A2 pos.length c2, .slice B2 neg.length d2h] 41)).alloc (.cells #[.int .i64 0, .string ⟨#[]⟩, .int .i64 0] 37) ∧
        W5.heap[w3.heap.size]? = some (.cells #[.int .i64 vr, .int .i64 hint, .int .i64 schema, .int .u64 zt, .slice A1 pos.length c1, .slice B1 neg.length d1h] 25 (0, 0)) ∧ W5.heap[w4.heap.size]? = some (.cells #[.int .i64 vr, .int .i64 hint, .int .i64 schema, .int .u64 zt, .slice A2 pos.length c2, .slice B2 neg.length d2h] 41 (0, 0)) ∧ Below w4.heap.size w4 W5 :=
      ⟨_, rfl, (Below.heap_alloc _ _ _ (by have := HLT.out; simp; omega)).trans ((Below.heap_alloc _ _ _ HLT.out).trans hk7), (Below.heap_alloc _ _ _ (by simp)).trans (blk_last w4 _), below_alloc (below_alloc (Below.refl _ _) _) _⟩
    have HW5 := Lib.hid hW5
    have HIN5 := Lib.hid (HIN4.out.below hb5)
    have HIN25 := Lib.hid (hin2.below hb5)
    have HRR5 := Lib.hid (HRR4.out.below hb5)
    have HB5 := Lib.hid (below_then HB4.out HB4.out.size hb5)
    have HG7 := Lib.hid hg7
    have HG9 := Lib.hid hg9
    have hsr := txt_size pr
    obtain ⟨sr, hsr2⟩ : ∃ s, s = txt pr := ⟨_, rfl⟩
    rw [← hsr2] at hsr ⊢
    obtain ⟨nr, hnr⟩ : ∃ n, n = pr.length := ⟨_, rfl⟩
    have HLF := Lib.hid (fun W (hb : Below W5.heap.size W5 W) => left_calls gr (0 + pu) SR pr false W (HRR5.out.below hb))
    rw [← hnr] at hsr HLF
    clear hW5 hg7 hg9 hb5 hb4 hcase hin2 hk7 hcv hsr2 hnr
    go_wp2_with (fail)
    rw [← HW5.out]
    have HSF : Hid (∀ W, Below W5.heap.size W5 W → (Below W5.heap.size W5 W ∧ W.cell? ⟨w3.heap.size, 0, none⟩ = some (.int .i64 vr) ∧ W.cell? ⟨w3.heap.size, 1, none⟩ = some (.int .i64 hint) ∧ W.cell? ⟨w3.heap.size, 2, none⟩ = some (.int .i64 schema) ∧ W.cell? ⟨w3.heap.size, 3, none⟩ = some (.int .u64 zt) ∧ W.cell? ⟨w3.heap.size, 4, none⟩ = some (.slice A1 pos.length c1) ∧ W.cell? ⟨w3.heap.size, 5, none⟩ = some (.slice B1 neg.length d1h) ∧ W.cell? ⟨w4.heap.size, 0, none⟩ = some (.int .i64 vr) ∧ W.cell? ⟨w4.heap.size, 1, none⟩ = some (.int .i64 hint) ∧ W.cell? ⟨w4.heap.size, 2, none⟩ = some (.int .i64 schema) ∧ W.cell? ⟨w4.heap.size, 3, none⟩ = some (.int .u64 zt) ∧ W.cell? ⟨w4.heap.size, 4, none⟩ = some (.slice A2 pos.length c2) ∧ W.cell? ⟨w4.heap.size, 5, none⟩ = some (.slice B2 neg.length d2h))) := Lib.hid (fun W h => by
      have k7 := (Ch.of_below (S := fun _ => False) h).blk HG7.out (fun x => x)
      have k9 := (Ch.of_below (S := fun _ => False) h).blk HG9.out (fun x => x)
      exact ⟨h, obj_cell k7 rfl, obj_cell k7 rfl, obj_cell k7 rfl, obj_cell k7 rfl, obj_cell k7 rfl, obj_cell k7 rfl, obj_cell k9 rfl, obj_cell k9 rfl, obj_cell k9 rfl, obj_cell k9 rfl, obj_cell k9 rfl, obj_cell k9 rfl⟩)
    have HRF : Hid (∀ W, Below W5.heap.size W5 W → Calls Tryz.prog 19 #[.agg #[.int .i64 vr, .int .i64 hint, .int .i64 schema, .int .u64 zt, .slice A1 pos.length c1, .slice B1 neg.length d1h]] W fun e w' => ∃ r : Lc, e = .returned (.agg (hcs ⟨vr, hint, schema, zt, pos, neg⟩ r).toArray) ∧ HdIn w' ⟨vr, hint, schema, zt, pos, neg⟩ r ∧ Below W5.heap.size W5 w') := Lib.hid (fun W h => (ref_calls ⟨vr, hint, schema, zt, pos, neg⟩ ⟨A1, c1, B1, d1h⟩ W (HIN5.out.below h)).mono fun e w' ⟨r, he, hi, hb⟩ => ⟨r, he, hi, below_then h h.size hb⟩)
    have HON : Hid (∀ q W, Below W5.heap.size W5 W → HdIn W ⟨vr, hint, schema, zt, pos, neg⟩ q → Calls Tryz.prog 33 #[.agg (hcs ⟨vr, hint, schema, zt, pos, neg⟩ q).toArray, .agg (hcs ⟨vr, hint, schema, zt, pos, neg⟩ ⟨A2, c2, B2, d2h⟩).toArray] W fun e w' => e = .returned (.bool true) ∧ Below W5.heap.size W5 w') := Lib.hid (fun q W h hq => (one_calls ⟨vr, hint, schema, zt, pos, neg⟩ ⟨vr, hint, schema, zt, pos, neg⟩ q ⟨A2, c2, B2, d2h⟩ W hq (HIN25.out.below h)).mono fun e w' ⟨he, hb⟩ => ⟨by rw [he, show eqH ⟨vr, hint, schema, zt, pos, neg⟩ ⟨vr, hint, schema, zt, pos, neg⟩ = true from decide_eq_true rfl], below_then h h.size hb⟩)
    have HA5 := Lib.hid (fun W (h : Below W5.heap.size W5 W) => lift h h.size (awake_calls W ((HT3.out.below HB5.out).below h) (gle_below (gle_below HE3.out HB5.out) h)))
    have HD5 := Lib.hid (below_drew (Below.refl W5.heap.size W5))
    go_region_held3 (fun W => Below W5.heap.size W5 W ∧ W.cell? ⟨w3.heap.size, 0, none⟩ = some (.int .i64 vr) ∧ W.cell? ⟨w3.heap.size, 1, none⟩ = some (.int .i64 hint) ∧ W.cell? ⟨w3.heap.size, 2, none⟩ = some (.int .i64 schema) ∧ W.cell? ⟨w3.heap.size, 3, none⟩ = some (.int .u64 zt) ∧ W.cell? ⟨w3.heap.size, 4, none⟩ = some (.slice A1 pos.length c1) ∧ W.cell? ⟨w3.heap.size, 5, none⟩ = some (.slice B1 neg.length d1h) ∧ W.cell? ⟨w4.heap.size, 0, none⟩ = some (.int .i64 vr) ∧ W.cell? ⟨w4.heap.size, 1, none⟩ = some (.int .i64 hint) ∧ W.cell? ⟨w4.heap.size, 2, none⟩ = some (.int .i64 schema) ∧ W.cell? ⟨w4.heap.size, 3, none⟩ = some (.int .u64 zt) ∧ W.cell? ⟨w4.heap.size, 4, none⟩ = some (.slice A2 pos.length c2) ∧ W.cell? ⟨w4.heap.size, 5, none⟩ = some (.slice B2 neg.length d2h))
      (first | (with_reducible exact HSF.out _ HD5.out) | (with_reducible exact HSF.out _ hst))
      (first
      | (go_at_call 19; refine (HRF.out _ HD5.out).mono ?_; rintro e u6 ⟨⟨qa, qc, qb, qd⟩, rfl, hq1, hst⟩; dsimp only [hcs]; have hcells := HSF.out _ hst)
      | (go_at_call 33; refine (HON.out ⟨qa, qc, qb, qd⟩ _ hst hq1).mono ?_; rintro e u7 ⟨rfl, hst⟩; have hcells := HSF.out _ hst)
      | (go_at_call 30; refine (HLF.out _ hst).mono ?_; rintro e u8 ⟨rfl, nd, rfl⟩; have hst := pw_below_drewN hst nd; have hcells := HSF.out _ hst)
      | (go_at_call 15; refine (HA5.out _ hst).mono ?_; rintro e u9 ⟨rfl, hst⟩; have hcells := HSF.out _ hst))
    all_goals
      have HF := Lib.hid hst
      go_wp2
      go_ret
      exact ⟨rfl, below_then HB3.out HB3.out.size (below_then HB5.out HB5.out.size HF.out)⟩

theorem walk (a0 : Option Addr) (len0 cap0 : Nat) (z0 : List Int) (n : Int) (w : World) (h0 : IsRow .u8 w a0 len0 cap0 z0) (h1 : (Lit.int .i64 n).wf = true) (hL : laidMetH Tryz.prog laidAll w) :
    Calls Tryz.prog 4 #[.slice a0 len0 cap0, .int .i64 n] w fun e w' => e = .returned (.bool true) ∧ Below w.heap.size w w' := by
  obtain ⟨l, rfl, hl, hc, hA⟩ := h0.bytes
  obtain ⟨hT, hE⟩ := of_laid hL
  by_cases hin : 150 < l.length ∨ n < 0 ∨ 8 * (l.length : Int) < n
  · exact narrow a0 cap0 l n w hT hE hin
  · obtain ⟨k, rfl⟩ : ∃ k : Nat, n = k := ⟨n.toNat, by omega⟩
    exact core a0 cap0 k l w hT hE hl (by omega) hc hA (by omega)
end Go.Proofs.YtjfekjbmgckkcaaGreatDoor.HeadReads
