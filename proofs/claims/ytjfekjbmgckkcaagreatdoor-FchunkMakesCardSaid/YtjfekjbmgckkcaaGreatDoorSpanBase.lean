/- Slices of spans in memory: read, owned. -/
import Derived.Test.YtjfekjbmgckkcaaGreatDoorBase
import Derived.Test.YtjfekjbmgckkcaaGreatDoorSpanPure
namespace Go.Proofs.YtjfekjbmgckkcaaGreatDoor.SpanBase
open Go.RowKit Go.Proofs.YtjfekjbmgckkcaaGreatDoorW.PrintWords
open Go.Proofs.YtjfekjbmgckkcaaGreatDoor.Base Go.Proofs.YtjfekjbmgckkcaaGreatDoor.SpanPure

theorem add_add (a : Addr) (i j : Nat) : (a.add i).add j = a.add (i + j) := by
  unfold Addr.add
  by_cases hi : i = 0 <;> by_cases hj : j = 0 <;> simp [hi, hj, Nat.add_assoc]
theorem add_one (a : Addr) : a.add 1 = ⟨a.block, a.off + 1, none⟩ := rfl
/-- cells that are read at A. -/
def RdC (w : World) (A : Option Addr) (cs : List Value) : Prop := 0 < cs.length → ∃ ad, A = some ad ∧ ∀ j u, cs[j]? = some u → w.cell? (ad.add j) = some u
section
variable {w w1 : World} {A : Option Addr} {cs : List Value}
theorem RdC.nil (w : World) (A : Option Addr) : RdC w A [] := fun h => absurd h (by simp)
theorem RdC.at_ (h : RdC w A cs) (j : Nat) (u : Value) (hj : cs[j]? = some u) : ∃ ad, A = some ad ∧ w.cell? (ad.add j) = some u := by
  obtain ⟨ad, he, hc⟩ := h (by have := (List.getElem?_eq_some_iff.1 hj).1; omega)
  exact ⟨ad, he, hc j u hj⟩
theorem RdC.stay (h : RdC w A cs) (hb : ∀ ad, A = some ad → 0 < cs.length → w1.heap[ad.block]? = w.heap[ad.block]?) : RdC w1 A cs := fun hp => by
  obtain ⟨ad, he, hc⟩ := h hp
  refine ⟨ad, he, fun j u hj => ?_⟩
  rw [← hc j u hj]
  refine World.cell?_of_block ?_
  have hbk : (ad.add j).block = ad.block := by unfold Addr.add; split <;> rfl
  rw [hbk]
  exact hb ad he hp
theorem RdC.lt (h : RdC w A cs) (ad : Addr) (hA : A = some ad) (hp : 0 < cs.length) : ad.block < w.heap.size := by
  obtain ⟨ad', he, hc⟩ := h hp
  rw [hA] at he
  injection he with he
  subst he
  have h0 := hc 0 cs[0] (List.getElem?_eq_getElem hp)
  rcases Nat.lt_or_ge ad.block w.heap.size with hlt | hge
  · exact hlt
  · rw [show ad.add 0 = ad from rfl] at h0
    simp [World.cell?, Array.getElem?_eq_none hge] at h0
theorem RdC.below (h : RdC w A cs) (hb : Below w.heap.size w w1) : RdC w1 A cs := h.stay fun ad hA hp => hb.block _ (h.lt ad hA hp)
theorem RdC.drewN (h : RdC w A cs) (n : Nat) : RdC (w.drewN n) A cs := h
theorem RdC.take (h : RdC w A cs) (i : Nat) : RdC w A (cs.take i) := fun hp => by
  obtain ⟨ad, he, hc⟩ := h (by rw [List.length_take] at hp; omega)
  refine ⟨ad, he, fun j u hj => hc j u ?_⟩
  rw [List.getElem?_take] at hj
  split at hj
  · exact hj
  · cases hj
end

/-! ### spans -/
def spc (l : List Sp) : List Value := l.flatMap fun s => [.int .i64 s.1, .int .i64 s.2]
theorem spc_nil : spc [] = [] := rfl
theorem spc_cons (s : Sp) (l : List Sp) : spc (s :: l) = .int .i64 s.1 :: .int .i64 s.2 :: spc l := rfl
theorem spc_append (l m : List Sp) : spc (l ++ m) = spc l ++ spc m := by simp [spc]
theorem spc_length (l : List Sp) : (spc l).length = l.length * 2 := by
  induction l with
  | nil => rfl
  | cons s l ih => rw [spc_cons, List.length_cons, List.length_cons, ih, List.length_cons]; omega
theorem spc_get (l : List Sp) : ∀ (k : Nat) (h : k < l.length), (spc l)[k * 2]? = some (.int .i64 l[k].1) ∧ (spc l)[k * 2 + 1]? = some (.int .i64 l[k].2) := by
  induction l with
  | nil => intro k h; simp at h
  | cons s l ih =>
    intro k h
    rw [spc_cons]
    cases k with
    | zero => exact ⟨rfl, rfl⟩
    | succ k =>
      obtain ⟨h1, h2⟩ := ih k (by simpa using h)
      rw [show (k + 1) * 2 = k * 2 + 1 + 1 from by omega]
      exact ⟨by simpa using h1, by simpa using h2⟩
theorem spc_take (l : List Sp) (k : Nat) : spc (l.take k) = (spc l).take (k * 2) := by
  induction l generalizing k with
  | nil => simp [spc_nil]
  | cons s l ih =>
    cases k with
    | zero => simp [spc_nil]
    | succ k => rw [List.take_succ_cons, spc_cons, spc_cons, show (k + 1) * 2 = k * 2 + 1 + 1 from by omega, List.take_succ_cons, List.take_succ_cons, ih]
theorem spc_one (l : List Sp) : ∀ u ∈ spc l, u.oneCell' = true := by
  intro u hu
  simp only [spc, List.mem_flatMap, List.mem_cons, List.not_mem_nil, or_false] at hu
  obtain ⟨s, _, h | h⟩ := hu <;> subst h <;> rfl
/-- numbers of 64 bits. -/
def In64 (l : List Sp) : Prop := ∀ s ∈ l, -9223372036854775808 ≤ s.1 ∧ s.1 ≤ 9223372036854775807 ∧ -9223372036854775808 ≤ s.2 ∧ s.2 ≤ 9223372036854775807
/-- spans that are read at A. -/
def RdSp (w : World) (A : Option Addr) (l : List Sp) : Prop := RdC w A (spc l)
theorem RdSp.at_ {w : World} {A : Option Addr} {l : List Sp} (h : RdSp w A l) (k : Nat) (hk : k < l.length) : ∃ ad, A = some ad ∧ w.cell? (ad.add (k * 2)) = some (.int .i64 l[k].1) ∧ w.cell? ⟨(ad.add (k * 2)).block, (ad.add (k * 2)).off + 1, none⟩ = some (.int .i64 l[k].2) := by
  obtain ⟨h1, h2⟩ := spc_get l k hk
  obtain ⟨ad, rfl, c1⟩ := RdC.at_ h _ _ h1
  obtain ⟨ad', he, c2⟩ := RdC.at_ h _ _ h2
  injection he with he
  subst he
  exact ⟨_, rfl, c1, by rw [← add_one, add_add]; exact c2⟩
theorem RdSp.below {w w1 : World} {A : Option Addr} {l : List Sp} (h : RdSp w A l) (hb : Below w.heap.size w w1) : RdSp w1 A l := RdC.below h hb
theorem RdSp.nil (w : World) (A : Option Addr) : RdSp w A [] := RdC.nil w A
theorem RdSp.take {w : World} {A : Option Addr} {l : List Sp} (h : RdSp w A l) (k : Nat) : RdSp w A (l.take k) := by
  unfold RdSp; rw [spc_take]; exact RdC.take h _

/-! ### owned -/
/-- spans in a row (elements of type e) of the call's own. -/
def OwSp (e : Nat) (w : World) (base : Nat) (v : Value) (l : List Sp) : Prop := w.ownsRow base e 2 v l.length (spc l)
section
variable {e : Nat} {w w1 : World} {base : Nat} {v : Value} {l : List Sp}
theorem OwSp.nil (e : Nat) (w : World) (base : Nat) : OwSp e w base (.slice none 0 0) [] := ⟨rfl, .inl ⟨rfl, rfl⟩⟩
theorem OwSp.form (h : OwSp e w base v l) (hp : 0 < l.length) : ∃ g c, v = .slice (some ⟨g, 0, none⟩) l.length c ∧ base ≤ g ∧ g < w.heap.size ∧ l.length ≤ c := by
  obtain ⟨g, c, rfl, h1, h2⟩ := World.ownsRow.form h hp
  refine ⟨g, c, rfl, h1, h2, ?_⟩
  rcases h.2 with ⟨he, _⟩ | ⟨g', cap, cur, he, _, _, hc, _⟩
  · cases he
  · injection he with _ _ he
    omega
theorem OwSp.reads (h : OwSp e w base v l) : ∃ A c, v = .slice A l.length c ∧ l.length ≤ c ∧ (A = none → c = 0) ∧ RdSp w A l := by
  rcases h.2 with ⟨rfl, hn⟩ | ⟨g, cap, cur, rfl, hb, hg, hc, hm, hs, ht⟩
  · have : l = [] := List.length_eq_zero_iff.1 hn
    subst this
    exact ⟨none, 0, rfl, Nat.le_refl _, fun _ => rfl, RdSp.nil _ _⟩
  · refine ⟨_, cap, rfl, hc, (fun h => by cases h), fun _ => ⟨_, rfl, fun j u hj => ?_⟩⟩
    have hlt := (List.getElem?_eq_some_iff.1 hj).1
    rw [spc_length] at hlt
    rw [show (⟨g, 0, none⟩ : Addr).add j = ⟨g, j, none⟩ from by unfold Addr.add; split <;> simp_all]
    rw [World.ownsRow.cellAt (cap := cap) h j hlt]
    exact hj
theorem OwSp.len {A : Option Addr} {n c : Nat} (h : OwSp e w base (.slice A n c) l) : l.length = n := by
  obtain ⟨_, _, he, _⟩ := h.reads
  injection he with _ he _
  exact he.symm
theorem OwSp.lower {base' : Nat} (h : OwSp e w base v l) (hb : base' ≤ base) : OwSp e w base' v l := own_weaken h hb
theorem OwSp.lt_ (h : OwSp e w base v l) (g : Nat) (hg : v.ownBlock = some g) : g < w.heap.size := (World.ownsRow.lt h g hg).2
theorem OwSp.base_ (h : OwSp e w base v l) (g : Nat) (hg : v.ownBlock = some g) : base ≤ g := (World.ownsRow.lt h g hg).1
theorem OwSp.move (h : OwSp e w base v l) (hm : ∀ g, v.ownBlock = some g → w1.heap[g]? = w.heap[g]?) : OwSp e w1 base v l := by
  refine ⟨h.1, ?_⟩
  rcases h.2 with h2 | ⟨g, cap, cur, rfl, hb, hg, r⟩
  · exact .inl h2
  · exact .inr ⟨g, cap, cur, rfl, hb, (hm g rfl).trans hg, r⟩
theorem OwSp.below (h : OwSp e w base v l) (hb : Below w.heap.size w w1) : OwSp e w1 base v l := h.move fun g hg => hb.block g (h.lt_ g hg)
theorem OwSp.drewN (h : OwSp e w base v l) (n : Nat) : OwSp e (w.drewN n) base v l := h
theorem spc_set (l : List Sp) (s : Sp) (y : Int) : (spc (l ++ [s])).set (l.length * 2 + 1) (.int .i64 y) = spc (l ++ [(s.1, y)]) := by
  rw [spc_append, spc_append, List.set_append_right _ _ (by rw [spc_length]; omega), spc_length, Nat.add_sub_cancel_left]
  rfl
/-- the last one's length is another. -/
theorem OwSp.setLast {g c : Nat} {s : Sp} {y : Int} (h : OwSp e w base (.slice (some ⟨g, 0, none⟩) (l.length + 1) c) (l ++ [s])) :
    OwSp e (w.setCell ⟨g, l.length * 2 + 1, none⟩ (.int .i64 y)) base (.slice (some ⟨g, 0, none⟩) (l.length + 1) c) (l ++ [(s.1, y)]) := by
  have h' : w.ownsRow base e 2 (.slice (some ⟨g, 0, none⟩) (l.length + 1) c) (l.length + 1) (spc (l ++ [s])) := by
    have := h
    unfold OwSp at this
    rwa [List.length_append, List.length_singleton] at this
  have := (World.ownsRow.stored h' (l.length * 2 + 1) (.int .i64 y)).1
  rw [spc_set] at this
  unfold OwSp
  rw [List.length_append, List.length_singleton]
  exact this
theorem OwSp.last_ {g c : Nat} {s : Sp} (h : OwSp e w base (.slice (some ⟨g, 0, none⟩) (l.length + 1) c) (l ++ [s])) :
    w.cell? ⟨g, l.length * 2 + 1, none⟩ = some (.int .i64 s.2) ∧ w.frozen? ⟨g, l.length * 2 + 1, none⟩ = false := by
  have h' : w.ownsRow base e 2 (.slice (some ⟨g, 0, none⟩) (l.length + 1) c) (l.length + 1) (spc (l ++ [s])) := by
    have := h
    unfold OwSp at this
    rwa [List.length_append, List.length_singleton] at this
  refine ⟨?_, World.ownsRow.frozenAt h' _⟩
  rw [World.ownsRow.cellAt h' _ (by omega)]
  have := (spc_get (l ++ [s]) l.length (by simp)).2
  simpa using this
end
section
variable {P : Program} {ops : Array Oper} {rest : List Oper} {o : Oper} {a : Act} {Q : Exit → Act → World → Prop}
/-- append(v, Span{..}), where the literal's block is told by its number. -/
theorem append_span_at {w0 W : World} (base : Nat) (hgd : o.guard = none) (s x : Operand) (t e : TypeId) (bytes : Nat)
    (ho : o.op = .call { callee := .builtin .append, args := #[s, x], argTypes := #[t, t] })
    (ht : P.underlying t = some (.slice e)) (hinfo : (P.info? e).map (fun i => (i.zero, i.size, i.bytes)) = some (some (.agg #[.int .i64 0, .int .i64 0]), 2, bytes))
    (v : Value) (l : List Sp) (y z : Int) (hs : a.eval s = v) (H : Nat) (hH : W.heap.size = H) (hx : a.eval x = .slice (some ⟨H, 0, none⟩) 1 1)
    (HO : OwSp e W base v l) (HB : Below base w0 W) (hbase : base ≤ W.heap.size) (hl : (l.length + 1) * bytes ≤ 140737488355328) (hl2 : l.length ≤ 1000000000000)
    (h : ∀ g cap w1, OwSp e w1 base (.slice (some ⟨g, 0, none⟩) (l.length + 1) cap) (l ++ [(y, z)]) → Below base w0 w1 → W.grownBy w1 v.ownBlock → (v.ownBlock = some g ∨ W.heap.size ≤ g) → wpList P ops Q rest (a.put o.dst (.slice (some ⟨g, 0, none⟩) (l.length + 1) cap)) w1) :
    wpList P ops Q (o :: rest) a (W.alloc (.cells #[.int .i64 y, .int .i64 z] e)) := by
  obtain ⟨i0, hi, hz0, hz1, hz2⟩ := info_parts hinfo
  refine wpList_append_lies _ hgd s x t ho base e i0 _ 2 bytes ht hi hz0 hz1 hz2 rfl (by decide) v l.length (spc l) hs (HO.below (below_alloc (Below.refl _ _) _)) ⟨H, 0, none⟩ 1 1 [.int .i64 y, .int .i64 z] hx rfl
    (World.news_of_block (by rw [← hH]; exact heap_alloc_new W _)) (by intro u hu; simp only [List.mem_cons, List.not_mem_nil, or_false] at hu; rcases hu with rfl | rfl <;> rfl) (by decide) (by unfold maxLen; omega) hl (by simp; omega) (W.heap.size + 1) (by simp) ?_
  intro g cap w1 h1 h2 h3 h4
  have hg : W.grownBy w1 v.ownBlock := World.grownBy.trans (World.grownBy_alloc W _ v.ownBlock) h2
  refine h g cap w1 ?_ (HB.grown hg hbase fun k hk => (World.ownsRow.lt HO k hk).1) hg ?_
  · unfold OwSp
    rw [List.length_append, List.length_singleton, spc_append]
    exact h1
  · rcases h3 with h3 | h3
    · exact .inl h3
    · exact .inr (by omega)
/-- append(v, Span{..}). -/
theorem append_span {w0 W : World} (base : Nat) (hgd : o.guard = none) (s x : Operand) (t e : TypeId) (bytes : Nat)
    (ho : o.op = .call { callee := .builtin .append, args := #[s, x], argTypes := #[t, t] })
    (ht : P.underlying t = some (.slice e)) (hinfo : (P.info? e).map (fun i => (i.zero, i.size, i.bytes)) = some (some (.agg #[.int .i64 0, .int .i64 0]), 2, bytes))
    (v : Value) (l : List Sp) (y z : Int) (hs : a.eval s = v) (hx : a.eval x = .slice (some ⟨W.heap.size, 0, none⟩) 1 1)
    (HO : OwSp e W base v l) (HB : Below base w0 W) (hbase : base ≤ W.heap.size) (hl : (l.length + 1) * bytes ≤ 140737488355328) (hl2 : l.length ≤ 1000000000000)
    (h : ∀ g cap w1, OwSp e w1 base (.slice (some ⟨g, 0, none⟩) (l.length + 1) cap) (l ++ [(y, z)]) → Below base w0 w1 → W.grownBy w1 v.ownBlock → (v.ownBlock = some g ∨ W.heap.size ≤ g) → wpList P ops Q rest (a.put o.dst (.slice (some ⟨g, 0, none⟩) (l.length + 1) cap)) w1) :
    wpList P ops Q (o :: rest) a (W.alloc (.cells #[.int .i64 y, .int .i64 z] e)) := by
  exact append_span_at base hgd s x t e bytes ho ht hinfo v l y z hs W.heap.size rfl hx HO HB hbase hl hl2 h
end

/-! ### append(v, ys..): cells that are read, nil let in -/
section
variable {P : Program} (w : World)
theorem run_append_nil (base : Nat) (t ty e : TypeId) (i : TypeInfo) (size : Nat) (ht : P.underlying t = some (.slice e)) (hi : P.info? e = some i)
    (v : Value) (n : Nat) (xs : List Value) (hown : w.ownsRow base e size v n xs) (c : Nat) : (Builtin.append_ #[t, t] ty #[v, .slice none 0 c]).run P w = .ok v w := by
  rcases hown.2 with ⟨rfl, rfl⟩ | ⟨g, cap, cur, rfl, _, _, hnc, _⟩
  · simp [Builtin.append_, run_underlying ht, sizeOf, typeInfo, hi, Builtin.lenOf, Builtin.firstCells]
  · simp [Builtin.append_, run_underlying ht, sizeOf, typeInfo, hi, Builtin.lenOf, Builtin.firstCells, hnc, storeCells]
theorem run_append_cells (base : Nat) (t ty e : TypeId) (i : TypeInfo) (z : Value) (size bytes : Nat) (ht : P.underlying t = some (.slice e)) (hi : P.info? e = some i) (hz : i.zero = some z)
    (hsize : i.size = size) (hby : i.bytes = bytes) (hzs : z.cells.size = size) (hsz : 0 < size)
    (v : Value) (n : Nat) (xs : List Value) (hown : w.ownsRow base e size v n xs)
    (A : Option Addr) (m c : Nat) (news : List Value) (hl : news.length = m * size) (hr : RdC w A news) (h1 : ∀ u ∈ news, u.oneCell' = true)
    (h63 : n + m ≤ maxLen) (hbytes : (n + m) * bytes ≤ 140737488355328) (hbase : base ≤ w.heap.size) :
    ∃ v' w', (Builtin.append_ #[t, t] ty #[v, .slice A m c]).run P w = .ok v' w' ∧ w'.ownsRow base e size v' (n + m) (xs ++ news) ∧ w.grownBy w' v.ownBlock ∧
      (v'.ownBlock = v.ownBlock ∨ v'.ownBlock = some w.heap.size) := by
  have hzero : m = 0 → news = [] := fun h => by subst h; exact List.length_eq_zero_iff.1 (by omega)
  rcases A with _ | ad
  · have hm : m = 0 := by
      rcases Nat.eq_zero_or_pos m with h0 | h0
      · exact h0
      · obtain ⟨ad, h, _⟩ := hr (by rw [hl]; exact Nat.mul_pos h0 hsz)
        cases h
    rw [hzero hm, hm]
    exact ⟨v, w, run_append_nil w base t ty e i size ht hi v n xs hown c, by simpa using hown, World.grownBy.refl w _, .inl rfl⟩
  · have hcells : ∀ j u, news[j]? = some u → w.cell? (ad.add j) = some u := by
      intro j u hu
      obtain ⟨ad', h, hc⟩ := RdC.at_ hr j u hu
      injection h with h
      subst h
      exact hc
    obtain ⟨v', w', hrun, h2, h3, _, h5⟩ := run_append_own_at (P := P) w base t ty e i z size bytes ht hi hz hsize hby hzs hsz v n xs hown ad m c news hl hcells h1 h63 hbytes hbase
    exact ⟨v', w', hrun, h2, h3, h5⟩
theorem wp_append_cells {o : Oper} {a : Act} {K : Act → World → Prop} {Q : Exit → Act → World → Prop} (s x : Operand) (t : TypeId)
    (ho : o.op = .call { callee := .builtin .append, args := #[s, x], argTypes := #[t, t] })
    (base : Nat) (e : TypeId) (i : TypeInfo) (z : Value) (size bytes : Nat) (ht : P.underlying t = some (.slice e)) (hi : P.info? e = some i) (hz : i.zero = some z)
    (hsize : i.size = size) (hby : i.bytes = bytes) (hzs : z.cells.size = size) (hsz : 0 < size)
    (v : Value) (n : Nat) (xs : List Value) (hs : a.eval s = v) (hown : w.ownsRow base e size v n xs)
    (A : Option Addr) (m c : Nat) (news : List Value) (hx : a.eval x = .slice A m c) (hl : news.length = m * size) (hr : RdC w A news) (h1 : ∀ u ∈ news, u.oneCell' = true)
    (h63 : n + m ≤ maxLen) (hbytes : (n + m) * bytes ≤ 140737488355328) (hbase : base ≤ w.heap.size)
    (h : ∀ v' w', w'.ownsRow base e size v' (n + m) (xs ++ news) → w.grownBy w' v.ownBlock → (v'.ownBlock = v.ownBlock ∨ v'.ownBlock = some w.heap.size) → K (a.put o.dst v') w') : o.wp P a w K Q := by
  obtain ⟨v', w', hrun, h2, h3, h4⟩ := run_append_cells (P := P) w base t o.type e i z size bytes ht hi hz hsize hby hzs hsz v n xs hown A m c news hl hr h1 h63 hbytes hbase
  unfold Oper.wp execOp
  simp only [ho, resolve, invoke, builtin, Sem.run_bind, Sem.run_pure, Result.andThen_ok, List.map_toArray, List.map_cons, List.map_nil, hs, hx, hrun]
  exact h v' w' h2 h3 h4
end
section
variable {P : Program} {ops : Array Oper} {rest : List Oper} {o : Oper} {a : Act} {Q : Exit → Act → World → Prop}
/-- append(v, ys..), spans. -/
theorem append_spans {w0 W : World} (base : Nat) (hgd : o.guard = none) (s x : Operand) (t e : TypeId) (bytes : Nat)
    (ho : o.op = .call { callee := .builtin .append, args := #[s, x], argTypes := #[t, t] })
    (ht : P.underlying t = some (.slice e)) (hinfo : (P.info? e).map (fun i => (i.zero, i.size, i.bytes)) = some (some (.agg #[.int .i64 0, .int .i64 0]), 2, bytes))
    (v : Value) (l m : List Sp) (A : Option Addr) (c : Nat) (hs : a.eval s = v) (hx : a.eval x = .slice A m.length c)
    (HO : OwSp e W base v l) (HR : RdSp W A m) (HB : Below base w0 W) (hbase : base ≤ W.heap.size) (hl : (l.length + m.length) * bytes ≤ 140737488355328) (hl2 : l.length + m.length ≤ 1000000000000)
    (h : ∀ v1 w1, OwSp e w1 base v1 (l ++ m) → Below base w0 w1 → W.grownBy w1 v.ownBlock → (v1.ownBlock = v.ownBlock ∨ v1.ownBlock = some W.heap.size) → wpList P ops Q rest (a.put o.dst v1) w1) :
    wpList P ops Q (o :: rest) a W := by
  obtain ⟨i0, hi, hz0, hz1, hz2⟩ := info_parts hinfo
  refine wpList_plain hgd fun _ hK => wp_append_cells W s x t ho base e i0 _ 2 bytes ht hi hz0 hz1 hz2 rfl (by decide) v l.length (spc l) hs HO A m.length c (spc m) hx (spc_length m) HR (spc_one m) (by unfold maxLen; omega) hl hbase ?_
  intro v1 w1 h1 h2 h3
  refine hK _ _ (h v1 w1 ?_ (HB.grown h2 hbase fun k hk => (World.ownsRow.lt HO k hk).1) h2 h3)
  unfold OwSp
  rw [List.length_append, spc_append]
  exact h1
end
/-- a literal's row. -/
theorem OwSp.lit (W : World) (e : Nat) (l : List Sp) (hm : l.length ≤ 1000000000000) : OwSp e (W.alloc (.cells (spc l).toArray e)) W.heap.size (.slice (some ⟨W.heap.size, 0, none⟩) l.length l.length) l := by
  refine ⟨by rw [spc_length], .inr ⟨W.heap.size, l.length, (spc l).toArray, rfl, Nat.le_refl _, heap_alloc_new W _, Nat.le_refl _, by unfold maxLen; omega, by rw [List.size_toArray, spc_length], ?_⟩⟩
  rw [List.take_of_length_le (by rw [spc_length]; exact Nat.le_refl _)]
end Go.Proofs.YtjfekjbmgckkcaaGreatDoor.SpanBase
