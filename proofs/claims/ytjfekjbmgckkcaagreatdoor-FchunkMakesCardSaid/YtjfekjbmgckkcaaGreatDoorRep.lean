/- data of any shape in memory: numbers, texts, structs, slices of such; a law's arguments read as such. -/
import Derived.Test.YtjfekjbmgckkcaaGreatDoorSpanBase
import Derived.Deep.Slices
import Derived.Deep.Fields
import Derived.ChangeSame
namespace Go.Proofs.YtjfekjbmgckkcaaGreatDoor.Rep
open Go.RowKit Go.ChangeShapes Go.WideShapes Go.Deep Go.Proofs.YtjfekjbmgckkcaaGreatDoorW.PrintWords
open Go.Proofs.YtjfekjbmgckkcaaGreatDoor.Base Go.Proofs.YtjfekjbmgckkcaaGreatDoor.SpanBase

/-- how data of a type stand in cells. -/
structure Rep (α : Type) where
  k : Nat
  enc : α → List Value
  ok : World → α → Prop
  len : ∀ a, (enc a).length = k
  one : ∀ a, ∀ u ∈ enc a, u.oneCell' = true
  below : ∀ {w w' : World} {a : α}, Below w.heap.size w w' → ok w a → ok w' a
/-- data of a type are such. -/
def Opens {α : Type} (r : Rep α) (P : Program) (t : TypeId) : Prop :=
  P.cellsOf t = r.k ∧ ∀ {H : Type} {enc : TypeId × Value → H} {w : World} {base : Nat} {spare : Nat → Bool} {held : Bool} {fuel : Nat} {cs : List Value} {x : DataW H × List MemPlace},
    DataW.trod enc P w base spare held fuel t cs = some x → ∃ a, cs = r.enc a ∧ r.ok w a
def int (k : IntKind) : Rep Int where
  k := 1
  enc n := [.int k n]
  ok _ n := (Lit.int k n).wf = true
  len _ := rfl
  one n u h := by rw [List.mem_singleton.1 h]; rfl
  below _ h := h
def bool : Rep Bool where
  k := 1
  enc b := [.bool b]
  ok _ _ := True
  len _ := rfl
  one n u h := by rw [List.mem_singleton.1 h]; rfl
  below _ h := h
def text : Rep ByteArray where
  k := 1
  enc s := [.string s]
  ok _ s := s.size ≤ maxLen
  len _ := rfl
  one n u h := by rw [List.mem_singleton.1 h]; rfl
  below _ h := h
def pair {α β : Type} (r : Rep α) (s : Rep β) : Rep (α × β) where
  k := r.k + s.k
  enc x := r.enc x.1 ++ s.enc x.2
  ok w x := r.ok w x.1 ∧ s.ok w x.2
  len x := by rw [List.length_append, r.len, s.len]
  one x u h := (List.mem_append.1 h).elim (r.one x.1 u) (s.one x.2 u)
  below hb h := ⟨r.below hb h.1, s.below hb h.2⟩
/-- a slice: where it lies, its capacity, what it has. -/
structure Sl (α : Type) where
  at_ : Option Addr
  cap : Nat
  l : List α
/-- all of some. -/
def all {α : Type} (r : Rep α) (l : List α) : List Value := l.flatMap r.enc
/-- a slice that is read. -/
structure RdL {α : Type} (r : Rep α) (w : World) (x : Sl α) : Prop where
  rd : RdC w x.at_ (all r x.l)
  le : x.l.length ≤ x.cap
  max : x.cap ≤ maxLen
  nil : x.at_ = none → x.cap = 0
theorem RdL.below {α : Type} {r : Rep α} {w w' : World} {x : Sl α} (h : RdL r w x) (hb : Below w.heap.size w w') : RdL r w' x := ⟨h.rd.below hb, h.le, h.max, h.nil⟩
def slice {α : Type} (r : Rep α) : Rep (Sl α) where
  k := 1
  enc x := [.slice x.at_ x.l.length x.cap]
  ok w x := RdL r w x ∧ ∀ y ∈ x.l, r.ok w y
  len _ := rfl
  one n u h := by rw [List.mem_singleton.1 h]; rfl
  below hb h := ⟨h.1.below hb, fun y hy => r.below hb (h.2 y hy)⟩
section
variable {α β : Type} {r : Rep α} {s : Rep β} {P : Program} {t : TypeId}
theorem all_nil : all r [] = [] := rfl
theorem all_cons (x : α) (l : List α) : all r (x :: l) = r.enc x ++ all r l := rfl
theorem all_append (l m : List α) : all r (l ++ m) = all r l ++ all r m := by simp [all]
theorem all_length (l : List α) : (all r l).length = l.length * r.k := by
  induction l with
  | nil => simp [all]
  | cons x l ih => rw [all_cons, List.length_append, r.len, ih, List.length_cons, Nat.succ_mul, Nat.add_comm]
theorem all_get (l : List α) : ∀ (i j : Nat) (h : i < l.length), j < r.k → (all r l)[i * r.k + j]? = (r.enc l[i])[j]? := by
  induction l with
  | nil => intro i j h; simp at h
  | cons x l ih =>
    intro i j h hj
    rw [all_cons]
    cases i with
    | zero =>
      rw [Nat.zero_mul, Nat.zero_add, List.getElem?_append_left (by rw [r.len]; exact hj)]
      rfl
    | succ i =>
      rw [List.getElem?_append_right (by rw [r.len, Nat.succ_mul]; omega), r.len, show (i + 1) * r.k + j - r.k = i * r.k + j from by rw [Nat.succ_mul]; omega]
      exact ih i j (by simpa using h) hj
theorem all_take (l : List α) (n : Nat) : all r (l.take n) = (all r l).take (n * r.k) := by
  induction l generalizing n with
  | nil => simp [all]
  | cons x l ih =>
    cases n with
    | zero => simp [all]
    | succ n =>
      rw [List.take_succ_cons, all_cons, all_cons, ih, List.take_append, r.len, Nat.succ_mul, Nat.add_sub_cancel, List.take_of_length_le (l := r.enc x) (by rw [r.len]; omega)]
theorem all_one (l : List α) : ∀ u ∈ all r l, u.oneCell' = true := by
  intro u hu
  obtain ⟨x, _, hx⟩ := List.mem_flatMap.1 hu
  exact r.one x u hx
/-- an element's cells. -/
theorem RdC.elem {w : World} {A : Option Addr} {l : List α} (h : RdC w A (all r l)) (i : Nat) (hi : i < l.length) (hk : 0 < r.k) :
    ∃ ad, A = some ad ∧ ∀ j u, (r.enc l[i])[j]? = some u → w.cell? (ad.add (i * r.k + j)) = some u := by
  obtain ⟨ad, he, hc⟩ := h (by rw [all_length]; exact Nat.mul_pos (by omega) hk)
  refine ⟨ad, he, fun j u hu => hc _ u ?_⟩
  have hj : j < r.k := by
    have := (List.getElem?_eq_some_iff.1 hu).1
    rwa [r.len] at this
  rw [all_get l i j hi hj]
  exact hu

/-! ### opening -/
theorem opens_int {k : IntKind} (h : P.underlying t = some (.int k)) (hc : P.cellsOf t = 1) : Opens (int k) P t := ⟨hc, fun hd => by
  obtain ⟨n, h1, -, h2⟩ := DataW.trod_int h hd
  exact ⟨n, h1, h2⟩⟩
theorem opens_bool (h : P.underlying t = some .bool) (hc : P.cellsOf t = 1) : Opens bool P t := ⟨hc, fun hd => by
  obtain ⟨n, h1, -⟩ := DataW.trod_bool h hd
  exact ⟨n, h1, trivial⟩⟩
theorem opens_text (h : P.underlying t = some .string) (hc : P.cellsOf t = 1) : Opens text P t := ⟨hc, fun hd => by
  obtain ⟨n, h1, -, h2⟩ := DataW.trod_string h hd
  exact ⟨n, h1, h2⟩⟩
theorem list_of {α : Type} {Q : Nat → α → Prop} (n : Nat) (h : ∀ i, i < n → ∃ p, Q i p) : ∃ l : List α, l.length = n ∧ ∀ (i : Nat) (hi : i < l.length), Q i l[i] := by
  induction n with
  | zero => exact ⟨[], rfl, fun i hi => absurd hi (by simp)⟩
  | succ n ih =>
    obtain ⟨l, h1, h2⟩ := ih fun i hi => h i (by omega)
    obtain ⟨p, hp⟩ := h n (by omega)
    refine ⟨l ++ [p], by simp [h1], fun i hi => ?_⟩
    rcases Nat.lt_or_ge i l.length with hl | hl
    · rw [List.getElem_append_left hl]; exact h2 i hl
    · have : i = l.length := by simp at hi; omega
      subst this
      rw [List.getElem_append_right (Nat.le_refl _)]
      simp only [Nat.sub_self, List.getElem_cons_zero]
      rw [h1]
      exact hp
theorem opens_slice {e : TypeId} (h : P.underlying t = some (.slice e)) (hc : P.cellsOf t = 1) (hk : 0 < r.k) (he : Opens r P e) : Opens (slice r) P t := ⟨hc, fun {H enc w base spare held fuel cs x} hd => by
  rcases open_slice h hd with ⟨rfl, -⟩ | ⟨a, len, cap, m, n, D, Pl, rfl, hb, hl, hm, hmm, -, hi⟩
  · exact ⟨⟨none, 0, []⟩, rfl, ⟨RdC.nil _ _, Nat.le_refl _, Nat.zero_le _, fun _ => rfl⟩, fun y hy => by cases hy⟩
  · obtain ⟨l, hll, hlc⟩ := list_of (Q := fun i (p : α) => (∀ j, j < r.k → w.cell? (a.add (i * r.k + j)) = (r.enc p)[j]?) ∧ r.ok w p) len fun i hil => by
      have him : i < m := by rw [hmm]; split <;> omega
      obtain ⟨cs', h1, h2⟩ := hi i him
      rw [he.1] at h1
      obtain ⟨p, rfl, hp⟩ := he.2 h2
      obtain ⟨_, _, hat⟩ := World.cells?_some h1
      refine ⟨p, fun j hj => ?_, hp⟩
      rw [← hat j hj, Go.Deep.add_add]
    subst hll
    refine ⟨⟨some a, cap, l⟩, rfl, ⟨fun _ => ⟨a, rfl, fun j u hj => ?_⟩, hl, hm, fun h => by cases h⟩, fun y hy => ?_⟩
    · have hlt := (List.getElem?_eq_some_iff.1 hj).1
      rw [all_length] at hlt
      have hq : j / r.k < l.length := Nat.div_lt_of_lt_mul (by rw [Nat.mul_comm]; exact hlt)
      have hmod : j % r.k < r.k := Nat.mod_lt _ hk
      have hjj : j / r.k * r.k + j % r.k = j := by rw [Nat.mul_comm]; exact Nat.div_add_mod j r.k
      have h1 := (hlc _ hq).1 _ hmod
      have h2 := all_get (r := r) l (j / r.k) (j % r.k) hq hmod
      rw [hjj] at h1 h2
      rw [h1, ← h2]
      exact hj
    · obtain ⟨i, hi2, rfl⟩ := List.mem_iff_getElem.1 hy
      exact (hlc i hi2).2⟩
/-- the fields of a struct, from an offset on. -/
inductive Fields (P : Program) : List Field → Nat → (α : Type) → Rep α → Prop
  | one {f : Field} {off : Nat} {α : Type} {r : Rep α} : f.offset = off → Opens r P f.type → Fields P [f] off α r
  | cons {f : Field} {fs : List Field} {off : Nat} {α β : Type} {r : Rep α} {s : Rep β} : f.offset = off → Opens r P f.type → Fields P fs (off + r.k) β s → Fields P (f :: fs) off (α × β) (pair r s)
theorem Fields.open_ {H : Type} {enc : TypeId × Value → H} {w : World} {base : Nat} {spare : Nat → Bool} {held : Bool} {n : Nat} {cs : List Value} {fs : List Field} {off : Nat} {α : Type} {r : Rep α} (h : Fields P fs off α r) :
    (∀ f ∈ fs, ∃ x, DataW.trod enc P w base spare held n f.type ((cs.drop f.offset).take (P.cellsOf f.type)) = some x) → ∃ a, (cs.drop off).take r.k = r.enc a ∧ r.ok w a := by
  induction h with
  | one ho hr =>
    intro hf
    obtain ⟨x, hx⟩ := hf _ List.mem_cons_self
    rw [ho, hr.1] at hx
    exact hr.2 hx
  | cons ho hr _ ih =>
    rename_i f fs off α β r s _
    intro hf
    obtain ⟨x, hx⟩ := hf _ List.mem_cons_self
    rw [ho, hr.1] at hx
    obtain ⟨a, ha, hoa⟩ := hr.2 hx
    obtain ⟨b, hb, hob⟩ := ih fun f hm => hf f (List.mem_cons_of_mem _ hm)
    refine ⟨(a, b), ?_, hoa, hob⟩
    show List.take (r.k + s.k) (List.drop off cs) = r.enc a ++ s.enc b
    rw [← ha, ← hb, List.take_add, List.drop_drop]
theorem opens_struct {fs : Array Field} (h : P.underlying t = some (.struct fs)) (hf : Fields P fs.toList 0 α r) (hc : P.cellsOf t = r.k) : Opens r P t := ⟨hc, fun {H enc w base spare held fuel cs x} hd => by
  obtain ⟨xs, n, -, -, hl, hxl, hx⟩ := DataW.trod_struct h hd
  obtain ⟨a, ha, hok⟩ := hf.open_ (enc := enc) (w := w) (base := base) (spare := spare) (held := held) (n := n) (cs := cs) fun f hm => by
    obtain ⟨i, hi, rfl⟩ := List.mem_iff_getElem.1 hm
    have hi' : i < xs.length := by rw [hxl]; simpa using hi
    refine ⟨xs[i], ?_⟩
    rw [hx i _ (by simp [Array.getElem?_eq_getElem (show i < fs.size by simpa using hi)]), List.getElem?_eq_getElem hi']
  refine ⟨a, ?_, hok⟩
  rw [List.drop_zero, ← hc, ← hl, List.take_length] at ha
  exact ha⟩

/-! ### a law's arguments -/
theorem arg_slice {H : Type} {enc : TypeId × Value → H} {W : World} {base : Nat} {spare : Nat → Bool} {held : Bool} {e : TypeId} {v : Value} {d : DataW H} {ps : List MemPlace} (ho : Opens (slice r) P t) (h : P.underlying t = some (.slice e))
    (hv : Value.okWide P W .any base t v) (hd : DataW.Trod enc P W 0 spare held t v d ps) : ∃ x : Sl α, v = .slice x.at_ x.l.length x.cap ∧ (slice r).ok W x := by
  obtain ⟨a, len, cap, rfl⟩ := okWide_slice h hv
  obtain ⟨fuel, hf⟩ := hd
  obtain ⟨x, hx, hok⟩ := ho.2 hf
  refine ⟨x, ?_, hok⟩
  simpa [Value.cells, slice] using hx
theorem arg_struct {H : Type} {enc : TypeId × Value → H} {W : World} {base : Nat} {spare : Nat → Bool} {held : Bool} {fs : Array Field} {v : Value} {d : DataW H} {ps : List MemPlace} (ho : Opens r P t) (h : P.underlying t = some (.struct fs))
    (hv : Value.okWide P W .any base t v) (hd : DataW.Trod enc P W 0 spare held t v d ps) : ∃ x : α, v = .agg (r.enc x).toArray ∧ r.ok W x := by
  obtain ⟨cs, rfl, -⟩ := okWide_struct h hv
  obtain ⟨fuel, hf⟩ := hd
  obtain ⟨x, hx, hok⟩ := ho.2 hf
  refine ⟨x, ?_, hok⟩
  have : cs.toList = r.enc x := by simpa [Value.cells] using hx
  rw [← this]
end

/-! ### rows of the call's own -/
/-- a new slice. -/
def OwX {α : Type} (r : Rep α) (e : Nat) (w : World) (base : Nat) (v : Value) (l : List α) : Prop := w.ownsRow base e r.k v l.length (all r l)
section
variable {α : Type} {r : Rep α} {e : Nat} {w w1 : World} {base : Nat} {v : Value} {l : List α}
theorem OwX.nil (r : Rep α) (e : Nat) (w : World) (base : Nat) : OwX r e w base (.slice none 0 0) [] := ⟨by simp [all], .inl ⟨rfl, rfl⟩⟩
theorem OwX.reads (h : OwX r e w base v l) : ∃ x : Sl α, v = .slice x.at_ x.l.length x.cap ∧ x.l = l ∧ RdL r w x := by
  rcases h.2 with ⟨rfl, hn⟩ | ⟨g, cap, cur, rfl, hb, hg, hc, hm, hs, ht⟩
  · have : l = [] := List.length_eq_zero_iff.1 hn
    subst this
    exact ⟨⟨none, 0, []⟩, rfl, rfl, RdC.nil _ _, Nat.le_refl _, Nat.zero_le _, fun _ => rfl⟩
  · refine ⟨⟨some ⟨g, 0, none⟩, cap, l⟩, rfl, rfl, fun _ => ⟨_, rfl, fun j u hj => ?_⟩, hc, hm, fun h => by cases h⟩
    have hlt := (List.getElem?_eq_some_iff.1 hj).1
    rw [all_length] at hlt
    rw [show (⟨g, 0, none⟩ : Addr).add j = ⟨g, j, none⟩ from by unfold Addr.add; split <;> simp_all]
    rw [World.ownsRow.cellAt (cap := cap) h j hlt]
    exact hj
theorem OwX.lower {base' : Nat} (h : OwX r e w base v l) (hb : base' ≤ base) : OwX r e w base' v l := own_weaken h hb
theorem OwX.lt_ (h : OwX r e w base v l) (g : Nat) (hg : v.ownBlock = some g) : g < w.heap.size := (World.ownsRow.lt h g hg).2
theorem OwX.base_ (h : OwX r e w base v l) (g : Nat) (hg : v.ownBlock = some g) : base ≤ g := (World.ownsRow.lt h g hg).1
theorem OwX.move (h : OwX r e w base v l) (hm : ∀ g, v.ownBlock = some g → w1.heap[g]? = w.heap[g]?) : OwX r e w1 base v l := by
  refine ⟨h.1, ?_⟩
  rcases h.2 with h2 | ⟨g, cap, cur, rfl, hb, hg, q⟩
  · exact .inl h2
  · exact .inr ⟨g, cap, cur, rfl, hb, (hm g rfl).trans hg, q⟩
theorem OwX.below (h : OwX r e w base v l) (hb : Below w.heap.size w w1) : OwX r e w1 base v l := h.move fun g hg => hb.block g (h.lt_ g hg)
end
section
variable {α : Type} {r : Rep α} {P : Program} {ops : Array Oper} {rest : List Oper} {o : Oper} {a : Act} {Q : Exit → Act → World → Prop}
/-- append(v, x), x's literal in a block of its own, told by its number. -/
theorem append_any {w0 W : World} (base : Nat) (hgd : o.guard = none) (s x : Operand) (t e : TypeId) (z : Value) (bytes : Nat)
    (ho : o.op = .call { callee := .builtin .append, args := #[s, x], argTypes := #[t, t] })
    (ht : P.underlying t = some (.slice e)) (hinfo : (P.info? e).map (fun i => (i.zero, i.size, i.bytes)) = some (some z, r.k, bytes)) (hzs : z.cells.size = r.k) (hk : 0 < r.k)
    (v : Value) (l : List α) (y : α) (cs : Array Value) (hcs : cs = (r.enc y).toArray) (hs : a.eval s = v) (H : Nat) (hH : W.heap.size = H) (hx : a.eval x = .slice (some ⟨H, 0, none⟩) 1 1)
    (HO : OwX r e W base v l) (HB : Below base w0 W) (hbase : base ≤ W.heap.size) (hl : (l.length + 1) * bytes ≤ 140737488355328) (hl2 : l.length ≤ 1000000000000)
    (h : ∀ v1 w1, OwX r e w1 base v1 (l ++ [y]) → Below base w0 w1 → W.grownBy w1 v.ownBlock → wpList P ops Q rest (a.put o.dst v1) w1) :
    wpList P ops Q (o :: rest) a (W.alloc (.cells cs e)) := by
  subst hcs
  obtain ⟨i0, hi, hz0, hz1, hz2⟩ := info_parts hinfo
  refine wpList_append_lies _ hgd s x t ho base e i0 _ r.k bytes ht hi hz0 hz1 hz2 hzs hk v l.length (all r l) hs (HO.below (below_alloc (Below.refl _ _) _)) ⟨H, 0, none⟩ 1 1 (r.enc y) hx (by rw [r.len]; omega)
    (World.news_of_block (by rw [← hH]; exact heap_alloc_new W _)) (r.one y) (by decide) (by unfold maxLen; omega) hl (by simp; omega) (W.heap.size + 1) (by simp) ?_
  intro g cap w1 h1 h2 h3 h4
  have hg : W.grownBy w1 v.ownBlock := World.grownBy.trans (World.grownBy_alloc W _ v.ownBlock) h2
  refine h _ w1 ?_ (HB.grown hg hbase fun k hk => (World.ownsRow.lt HO k hk).1) hg
  unfold OwX
  rw [List.length_append, List.length_singleton, all_append]
  simpa [all] using h1
end
end Go.Proofs.YtjfekjbmgckkcaaGreatDoor.Rep
