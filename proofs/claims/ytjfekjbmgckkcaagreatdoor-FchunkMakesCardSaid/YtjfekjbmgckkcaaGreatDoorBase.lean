/- Lists of whole numbers in memory: read, owned; what a call has turned. -/
import Derived.Test.YtjfekjbmgckkcaaGreatDoorWWords
import Derived.Test.YtjfekjbmgckkcaaGreatDoorBits
import Derived.Lib.Hide
import Derived.Lib.SlBytesConst
import Derived.Laws.IdiomStrings
import Derived.Lib.Strings
import Derived.Laws.BitsAllLaws
import Derived.Laws.CopyOwn
namespace Go.Proofs.YtjfekjbmgckkcaaGreatDoor.Base
open Go.RowKit Go.Proofs.YtjfekjbmgckkcaaGreatDoorW.PrintWords
open Go.Proofs.YtjfekjbmgckkcaaGreatDoor.Bits

/-- bytes as numbers. -/
def ints (l : List UInt8) : List Int := l.map fun c => (c.toNat : Int)
theorem ints_length (l : List UInt8) : (ints l).length = l.length := by simp [ints]
theorem ints_append (a b : List UInt8) : ints (a ++ b) = ints a ++ ints b := by simp [ints]
theorem ints_take (l : List UInt8) (k : Nat) : ints (l.take k) = (ints l).take k := by simp [ints]
theorem ints_drop (l : List UInt8) (k : Nat) : ints (l.drop k) = (ints l).drop k := by simp [ints]
theorem ints_inj {a b : List UInt8} (h : ints a = ints b) : a = b := by
  induction a generalizing b with
  | nil => cases b with | nil => rfl | cons => simp [ints] at h
  | cons x a ih =>
    cases b with
    | nil => simp [ints] at h
    | cons y b =>
      simp only [ints, List.map_cons, List.cons.injEq] at h
      rw [ih (b := b) h.2, UInt8.toNat.inj (show x.toNat = y.toNat by omega)]
theorem ints_getD (l : List UInt8) (k : Nat) : (ints l).getD k 0 = ((l.getD k 0).toNat : Int) := by
  rcases Nat.lt_or_ge k l.length with h | h
  · simp [ints, List.getD_eq_getElem?_getD, h]
  · simp [ints, List.getD_eq_getElem?_getD, List.getElem?_eq_none h]
theorem ints_set (l : List UInt8) (k : Nat) (c : UInt8) : ints (l.set k c) = (ints l).set k (c.toNat : Int) := by simp [ints, List.map_set]
theorem ints_replicate (n : Nat) : ints (List.replicate n 0) = List.replicate n 0 := by simp [ints]
/-- numbers that are in range are bytes. -/
theorem ints_of (xs : List Int) (h : ∀ x ∈ xs, 0 ≤ x ∧ x ≤ 255) : ∃ l, xs = ints l := by
  induction xs with
  | nil => exact ⟨[], rfl⟩
  | cons x xs ih =>
    obtain ⟨l, rfl⟩ := ih fun y hy => h y (List.mem_cons_of_mem _ hy)
    have hx := h x List.mem_cons_self
    refine ⟨UInt8.ofNat x.toNat :: l, ?_⟩
    simp only [ints, List.map_cons, UInt8.toNat_ofNat']
    congr 1
    omega

theorem wrap_u64n {n : Nat} (h : n < 18446744073709551616) : IntKind.u64.wrap (n : Int) = n := by rw [IntKind.wrap_u64]; omega
theorem wrap_u32n {n : Nat} (h : n < 4294967296) : IntKind.u32.wrap (n : Int) = n := by rw [IntKind.wrap_u32]; omega

/-! ### read, owned -/
/-- numbers of kind k that are read at A. -/
def RdI (k : IntKind) (w : World) (A : Option Addr) (xs : List Int) : Prop := ReadsInt w k A xs.length xs
/-- numbers of kind k in a row (elements of type e) of the call's own. -/
def OwI (e : Nat) (k : IntKind) (w : World) (base : Nat) (v : Value) (xs : List Int) : Prop := w.ownsRow base e 1 v xs.length (nums k xs)
section
variable {k : IntKind} {e : Nat} {w w1 : World} {A : Option Addr} {xs : List Int} {base : Nat} {v : Value}
theorem RdI.max (h : RdI k w A xs) : xs.length ≤ 9223372036854775807 := h.2.1
theorem RdI.at_ (h : RdI k w A xs) (j : Nat) (hj : j < xs.length) : ∃ ad, A = some ad ∧ w.cell? (ad.add j) = some (.int k xs[j]) := by
  obtain ⟨ad, he, hc⟩ := h.2.2 (by omega)
  refine ⟨ad, he, ?_⟩
  rw [hc j hj]
  simp [List.getD_eq_getElem?_getD, hj]
theorem RdI.at_some {ad : Addr} (h : RdI k w (some ad) xs) (j : Nat) (hj : j < xs.length) : w.cell? (ad.add j) = some (.int k xs[j]) := by
  obtain ⟨ad', he, hc⟩ := h.at_ j hj
  cases he
  exact hc
theorem RdI.some_ (h : RdI k w A xs) (hp : 0 < xs.length) : ∃ ad, A = some ad := by
  obtain ⟨ad, he, _⟩ := h.2.2 hp
  exact ⟨ad, he⟩
theorem RdI.below (h : RdI k w A xs) (hb : Below w.heap.size w w1) : RdI k w1 A xs := ReadsInt.below h hb
theorem RdI.drew (h : RdI k w A xs) : RdI k w.drew A xs := h
theorem RdI.drewN (h : RdI k w A xs) (n : Nat) : RdI k (w.drewN n) A xs := h
theorem RdI.alloc (h : RdI k w A xs) (o : Obj) : RdI k (w.alloc o) A xs := h.below (below_alloc (Below.refl _ _) o)
theorem RdI.nil (k : IntKind) (w : World) (A : Option Addr) : RdI k w A [] := ⟨rfl, by simp, fun h => absurd h (by simp)⟩
theorem RdI.take (h : RdI k w A xs) (i : Nat) : RdI k w A (xs.take i) := by
  rcases Nat.lt_or_ge xs.length i with hi | hi
  · rw [List.take_of_length_le (by omega)]; exact h
  · have := ReadsInt.take_ h i hi
    unfold RdI
    rw [List.length_take, Nat.min_eq_left hi]
    exact this
theorem RdI.drop (h : RdI k w A xs) (i c : Nat) (hi : i ≤ xs.length) (hc : xs.length ≤ c) : RdI k w (if c = i then A else A.map (·.add i)) (xs.drop i) := by
  have := ReadsInt.drop_ h i hi hc
  unfold RdI
  rw [List.length_drop]
  exact this
/-- what is read stays where its block stays. -/
theorem RdI.stay (h : RdI k w A xs) (hb : ∀ ad, A = some ad → 0 < xs.length → w1.heap[ad.block]? = w.heap[ad.block]?) : RdI k w1 A xs := by
  refine ⟨h.1, h.2.1, fun hp => ?_⟩
  obtain ⟨ad, he, hc⟩ := h.2.2 hp
  refine ⟨ad, he, fun j hj => ?_⟩
  rw [← hc j hj]
  refine World.cell?_of_block ?_
  have hbk : (ad.add j).block = ad.block := by unfold Addr.add; split <;> rfl
  rw [hbk]
  exact hb ad he hp
theorem OwI.reads (h : OwI e k w base v xs) : ∃ A c, v = .slice A xs.length c ∧ xs.length ≤ c ∧ RdI k w A xs := by
  obtain ⟨A, c, rfl, hr⟩ := own_reads h
  exact ⟨A, c, rfl, own_le h, hr⟩
theorem OwI.below (h : OwI e k w base v xs) (hb : Below w.heap.size w w1) : OwI e k w1 base v xs := pw_own_below h hb
theorem OwI.lower {base' : Nat} (h : OwI e k w base v xs) (hb : base' ≤ base) : OwI e k w base' v xs := own_weaken h hb
theorem OwI.move (h : OwI e k w base v xs) (hm : ∀ g, v.ownBlock = some g → w1.heap[g]? = w.heap[g]?) : OwI e k w1 base v xs := own_move h hm
theorem OwI.nil (e : Nat) (k : IntKind) (w : World) (base : Nat) : OwI e k w base (.slice none 0 0) [] := own_nil _ _ _ _
theorem OwI.max (h : OwI e k w base v xs) : xs.length ≤ 9223372036854775807 := by
  obtain ⟨A, c, _, _, hr⟩ := h.reads
  exact hr.max
theorem OwI.base_ (h : OwI e k w base v xs) (g : Nat) (hg : v.ownBlock = some g) : base ≤ g := own_base h g hg
theorem OwI.lt_ (h : OwI e k w base v xs) (g : Nat) (hg : v.ownBlock = some g) : g < w.heap.size := own_lt h g hg
theorem OwI.lit (W : World) (base : Nat) (e : Nat) (k : IntKind) (xs : List Int) (hb : base ≤ W.heap.size) (hm : xs.length ≤ 9223372036854775807) :
    OwI e k (W.alloc (.cells (nums k xs).toArray e)) base (.slice (some ⟨W.heap.size, 0, none⟩) xs.length xs.length) xs := own_lit W base e k xs hb hm
end
theorem OwI.len {k : IntKind} {e : Nat} {w : World} {base n c : Nat} {A : Option Addr} {xs : List Int} (h : OwI e k w base (.slice A n c) xs) : xs.length = n := by
  obtain ⟨_, _, he, _⟩ := h.reads
  injection he with _ he _
  exact he.symm
theorem OwI.at_ {k : IntKind} {e : Nat} {w : World} {base g n c : Nat} {xs : List Int} (h : OwI e k w base (.slice (some ⟨g, 0, none⟩) n c) xs) (j : Nat) (hj : j < xs.length) :
    w.cell? ⟨g, j, none⟩ = some (.int k xs[j]) ∧ w.frozen? ⟨g, j, none⟩ = false := by
  have hl := h.len
  subst hl
  obtain ⟨h1, h2⟩ := own_at (i := (j : Int)) h (by omega) (by omega)
  simp only [Int.toNat_natCast, rd] at h1 h2
  refine ⟨?_, h2⟩
  rw [h1]
  simp [List.getD_eq_getElem?_getD, hj]
theorem OwI.set {k : IntKind} {e : Nat} {w : World} {base g n c : Nat} {xs : List Int} (h : OwI e k w base (.slice (some ⟨g, 0, none⟩) n c) xs) (j : Nat) (x : Int) :
    OwI e k (w.setCell ⟨g, j, none⟩ (.int k x)) base (.slice (some ⟨g, 0, none⟩) n c) (xs.set j x) := by
  have hl := h.len
  subst hl
  have := (own_store (i := (j : Int)) h x).1
  simp only [Int.toNat_natCast] at this
  unfold OwI
  rw [List.length_set]
  exact this
theorem OwI.form {k : IntKind} {e : Nat} {w : World} {base : Nat} {v : Value} {xs : List Int} (h : OwI e k w base v xs) (hp : 0 < xs.length) : ∃ g c, v = .slice (some ⟨g, 0, none⟩) xs.length c ∧ base ≤ g ∧ g < w.heap.size ∧ xs.length ≤ c := by
  obtain ⟨g, c, rfl, h1, h2⟩ := World.ownsRow.form h hp
  exact ⟨g, c, rfl, h1, h2, own_le h⟩
theorem OwI.far {k : IntKind} {e : Nat} {w : World} {base : Nat} {v : Value} {xs : List Int} (h : OwI e k w base v xs) {p : Addr} (hne : v.ownBlock ≠ some p.block) (u : Value) : OwI e k (w.setCell p u) base v xs :=
  h.move fun g hg => Below.heap_setCell w p u g (by rintro rfl; exact hne hg)
theorem OwI.drew {k : IntKind} {e : Nat} {w : World} {base : Nat} {v : Value} {xs : List Int} (h : OwI e k w base v xs) : OwI e k w.drew base v xs := h
theorem OwI.drewN {k : IntKind} {e : Nat} {w : World} {base : Nat} {v : Value} {xs : List Int} (h : OwI e k w base v xs) (n : Nat) : OwI e k (w.drewN n) base v xs := h
/-- bytes. -/
abbrev RdB (w : World) (A : Option Addr) (l : List UInt8) : Prop := RdI .u8 w A (ints l)
abbrev OwB (e : Nat) (w : World) (base : Nat) (v : Value) (l : List UInt8) : Prop := OwI e .u8 w base v (ints l)
theorem RdB.at_ {w : World} {A : Option Addr} {l : List UInt8} (h : RdB w A l) (j : Nat) (hj : j < l.length) : ∃ ad, A = some ad ∧ w.cell? (ad.add j) = some (.int .u8 (l[j].toNat : Int)) := by
  obtain ⟨ad, he, hc⟩ := RdI.at_ h j (by rw [ints_length]; exact hj)
  exact ⟨ad, he, by simpa [ints] using hc⟩
theorem RdB.rd {w : World} {A : Option Addr} {l : List UInt8} (h : RdB w A l) : ReadsInt w .u8 A l.length (ints l) := by
  unfold RdB RdI at h
  rw [ints_length] at h
  exact h
theorem OwB.reads {e : Nat} {w : World} {base : Nat} {v : Value} {l : List UInt8} (h : OwB e w base v l) : ∃ A c, v = .slice A l.length c ∧ l.length ≤ c ∧ RdB w A l := by
  obtain ⟨A, c, rfl, hc, hr⟩ := OwI.reads h
  rw [ints_length] at hc
  exact ⟨A, c, by rw [ints_length], hc, hr⟩

theorem OwB.len {e : Nat} {w : World} {base n c : Nat} {A : Option Addr} {l : List UInt8} (h : OwB e w base (.slice A n c) l) : l.length = n := by
  have := OwI.len h
  rwa [ints_length] at this
theorem OwB.at_ {e : Nat} {w : World} {base g n c : Nat} {l : List UInt8} (h : OwB e w base (.slice (some ⟨g, 0, none⟩) n c) l) (j : Nat) (hj : j < l.length) :
    w.cell? ⟨g, j, none⟩ = some (.int .u8 (l[j].toNat : Int)) ∧ w.frozen? ⟨g, j, none⟩ = false := by
  obtain ⟨h1, h2⟩ := OwI.at_ h j (by rw [ints_length]; exact hj)
  exact ⟨by simpa [ints] using h1, h2⟩
theorem OwB.set {e : Nat} {w : World} {base g n c : Nat} {l : List UInt8} (h : OwB e w base (.slice (some ⟨g, 0, none⟩) n c) l) (j : Nat) (x : UInt8) :
    OwB e (w.setCell ⟨g, j, none⟩ (.int .u8 (x.toNat : Int))) base (.slice (some ⟨g, 0, none⟩) n c) (l.set j x) := by
  have := OwI.set h j (x.toNat : Int)
  rwa [← ints_set] at this

theorem OwI.nilcap {k : IntKind} {e : Nat} {w : World} {base n c : Nat} {A : Option Addr} {xs : List Int} (h : OwI e k w base (.slice A n c) xs) : A = none → c = 0 := by
  rintro rfl
  rcases h.2 with ⟨he, _⟩ | ⟨_, _, _, he, _⟩
  · injection he
  · injection he with he; cases he
theorem strOf_ints (l : List UInt8) : strOfNums (ints l) = str l := by
  apply ByteArray.ext
  have : (ints l).map (fun n => UInt8.ofNat n.toNat) = l := by
    unfold ints
    rw [List.map_map]
    conv => rhs; rw [← List.map_id l]
    apply List.map_congr_left
    intro c _
    simp
  simp only [strOfNums, this, str]
/-- string(b). -/
theorem RdB.string {P : Program} {w : World} {src dst e : TypeId} {A : Option Addr} {n c : Nat} {l : List UInt8} (h : RdB w A l) (hn : l.length = n) (hs : P.underlying src = some (.slice e)) (he : P.underlying e = some (.int .u8)) (hd : P.underlying dst = some .string) :
    (convert src dst (.slice A n c)).run P w = .ok (.string (str l)) w := by
  subst hn
  have h1 := h.rd
  rw [string_of_reads hs he hd h1, strOf_ints]
/-- string([]byte{c}). -/
theorem string_one {P : Program} {src dst e : TypeId} (q : Int) (c : UInt8) (hq : q = (c.toNat : Int)) (hs : P.underlying src = some (.slice e)) (he : P.underlying e = some (.int .u8)) (hd : P.underlying dst = some .string) (w : World) :
    (convert src dst (.slice (some ⟨w.heap.size, 0, none⟩) 1 1)).run P (w.alloc (.cells #[.int .u8 q] e)) = .ok (.string (str [c])) (w.alloc (.cells #[.int .u8 q] e)) := by
  subst hq
  have h := OwI.lit w w.heap.size e .u8 (ints [c]) (Nat.le_refl _) (by simp [ints])
  obtain ⟨A, cc, he2, _, hr⟩ := OwB.reads (l := [c]) h
  injection he2 with he2 he3
  subst he2
  exact RdB.string (l := [c]) hr rfl hs he hd

/-- a literal's row, whatever its marks. -/
theorem RdI.lit (k : IntKind) (W : World) (e : Nat) (fr : Nat × Nat) (xs : List Int) (hm : xs.length ≤ 9223372036854775807) : RdI k (W.alloc (.cells (nums k xs).toArray e fr)) (some ⟨W.heap.size, 0, none⟩) xs := by
  refine ⟨rfl, hm, fun _ => ⟨_, rfl, fun j hj => ?_⟩⟩
  rw [add_plain, World.cell?_alloc_mark]
  simp [nums, hj, List.getD_eq_getElem?_getD]

/-! ### what a call has turned: of the elder blocks those of S alone -/
structure Ch (S : Nat → Prop) (w w' : World) : Prop where
  os : w'.os = w.os
  tape : w'.tape = w.tape
  output : w'.output = w.output
  size : w.heap.size ≤ w'.heap.size
  block : ∀ k, k < w.heap.size → ¬ S k → w'.heap[k]? = w.heap[k]?
theorem Ch.refl (S : Nat → Prop) (w : World) : Ch S w w := ⟨rfl, rfl, rfl, Nat.le_refl _, fun _ _ _ => rfl⟩
theorem Ch.of_below {S : Nat → Prop} {w w' : World} (h : Below w.heap.size w w') : Ch S w w' := ⟨h.os, h.tape, h.output, h.size, fun k hk _ => h.block k hk⟩
theorem Ch.below {w w' : World} (h : Ch (fun _ => False) w w') : Below w.heap.size w w' := ⟨h.os, h.tape, h.output, h.size, fun k hk => h.block k hk id⟩
theorem Ch.below_of {S : Nat → Prop} {B : Nat} {w w' : World} (h : Ch S w w') (hB : B ≤ w.heap.size) (hS : ∀ k, S k → B ≤ k) : Below B w w' :=
  ⟨h.os, h.tape, h.output, h.size, fun k hk => h.block k (by omega) fun hs => by have := hS k hs; omega⟩
theorem Ch.mono {S S' : Nat → Prop} {w w' : World} (h : Ch S w w') (hS : ∀ k, k < w.heap.size → S k → S' k) : Ch S' w w' := ⟨h.os, h.tape, h.output, h.size, fun k hk hs => h.block k hk fun hh => hs (hS k hk hh)⟩
/-- two calls; the second one may turn what the first one has made. -/
theorem Ch.trans {S S' : Nat → Prop} {a b c : World} (h : Ch S a b) (k : Ch S' b c) (hS : ∀ i, i < a.heap.size → S' i → S i) : Ch S a c :=
  ⟨k.os.trans h.os, k.tape.trans h.tape, k.output.trans h.output, Nat.le_trans h.size k.size, fun i hi hs => (k.block i (by have := h.size; omega) fun hh => hs (hS i hi hh)).trans (h.block i hi hs)⟩
theorem Ch.drew {S : Nat → Prop} {a w : World} (h : Ch S a w) : Ch S a w.drew := ⟨h.os, h.tape, h.output, h.size, h.block⟩
theorem Ch.drewN {S : Nat → Prop} {a w : World} (h : Ch S a w) (n : Nat) : Ch S a (w.drewN n) := ⟨h.os, h.tape, h.output, h.size, h.block⟩
theorem Ch.alloc {S : Nat → Prop} {a w : World} (h : Ch S a w) (o : Obj) : Ch S a (w.alloc o) :=
  h.trans (S' := fun _ => False) ⟨rfl, rfl, rfl, by simp, fun k hk _ => Below.heap_alloc _ _ _ hk⟩ (fun _ _ hf => hf.elim)
theorem Ch.setCell {S : Nat → Prop} {a w : World} (h : Ch S a w) {p : Addr} (hp : S p.block ∨ a.heap.size ≤ p.block) (u : Value) : Ch S a (w.setCell p u) :=
  h.trans (S' := fun k => k = p.block) ⟨rfl, rfl, rfl, by simp [World.setCell], fun k _ hs => Below.heap_setCell _ _ _ _ hs⟩ (fun i hi hf => by
    subst hf
    rcases hp with hp | hp
    · exact hp
    · omega)
theorem Ch.grown {S : Nat → Prop} {a w w' : World} {row : Option Nat} (h : Ch S a w) (hg : w.grownBy w' row) (hr : ∀ k, row = some k → S k ∨ a.heap.size ≤ k) : Ch S a w' :=
  h.trans (S' := fun k => row = some k) ⟨hg.os, hg.tape, hg.output, hg.size, fun k hk hs => hg.block k hk fun hh => hs hh.symm⟩ (fun i hi hf => by
    rcases hr i hf with hp | hp
    · exact hp
    · omega)
theorem Ch.then_below {S : Nat → Prop} {a w w' : World} (h : Ch S a w) (hb : Below w.heap.size w w') : Ch S a w' :=
  h.trans (Ch.of_below (S := fun _ => False) hb) (fun _ _ hf => hf.elim)

theorem Ch.blk {S : Nat → Prop} {w w' : World} {g : Nat} {o : Obj} (h : Ch S w w') (hb : w.heap[g]? = some o) (hg : ¬ S g) : w'.heap[g]? = some o := (h.block g (blk_lt hb) hg).trans hb
theorem Ch.cell {S : Nat → Prop} {w w' : World} {a : Addr} {v : Value} (h : Ch S w w') (hc : w.cell? a = some v) (hg : ¬ S a.block) : w'.cell? a = some v :=
  (World.cell?_of_block (h.block a.block (World.block_lt_of_cell? w a hc) hg)).trans hc
theorem OwI.ch {S : Nat → Prop} {k : IntKind} {e : Nat} {w w' : World} {base : Nat} {v : Value} {xs : List Int} (h : OwI e k w base v xs) (hc : Ch S w w') (hs : ∀ g, v.ownBlock = some g → ¬ S g) : OwI e k w' base v xs :=
  h.move fun g hg => hc.block g (h.lt_ g hg) (hs g hg)
theorem RdI.ch {S : Nat → Prop} {k : IntKind} {w w' : World} {A : Option Addr} {xs : List Int} (h : RdI k w A xs) (hc : Ch S w w') (hs : ∀ ad, A = some ad → ¬ S ad.block) : RdI k w' A xs :=
  h.stay fun ad he hp => by
    obtain ⟨ad', he', hc0⟩ := RdI.at_ h 0 hp
    rw [he] at he'
    cases he'
    have hl := World.block_lt_of_cell? w _ hc0
    have hbk : (ad.add 0).block = ad.block := by unfold Addr.add; split <;> rfl
    rw [hbk] at hl
    exact hc.block _ hl (hs ad he)
/-- an object that a call has turned: what it is made of now is of what it was made of, or new; nothing else has turned. -/
def Upd (O : World → (Nat → Prop) → Prop) (S : Nat → Prop) (w w' : World) : Prop := ∃ S', O w' S' ∧ (∀ k, S' k → S k ∨ w.heap.size ≤ k) ∧ Ch S w w'
theorem Upd.imp {O O' : World → (Nat → Prop) → Prop} {S : Nat → Prop} {w w' : World} (h : Upd O S w w') (hO : ∀ S', O w' S' → O' w' S') : Upd O' S w w' := by
  obtain ⟨S', h1, h2, h3⟩ := h
  exact ⟨S', hO S' h1, h2, h3⟩
/-- one turn behind another. -/
theorem Upd.then {O : World → (Nat → Prop) → Prop} {S S1 : Nat → Prop} {w w1 w2 : World} (h1 : ∀ k, S1 k → S k ∨ w.heap.size ≤ k) (hc : Ch S w w1) (h : Upd O S1 w1 w2) : Upd O S w w2 := by
  obtain ⟨S', ho, h2, h3⟩ := h
  refine ⟨S', ho, fun k hk => ?_, hc.trans h3 fun i hi hs => ?_⟩
  · rcases h2 k hk with h4 | h4
    · exact h1 k h4
    · exact .inr (Nat.le_trans hc.size h4)
  · rcases h1 i hs with h4 | h4
    · exact h4
    · omega

/-! ### laws for the walk -/
section
variable {P : Program} {ops : Array Oper} {rest : List Oper} {o : Oper} {a : Act} {Q : Exit → Act → World → Prop}
/-- append(v, x). The goal's world is the one in which x has a box of its own. -/
theorem append_one {w0 W : World} (base : Nat) (hgd : o.guard = none) (s x : Operand) (t e : TypeId) (k : IntKind) (bytes : Nat)
    (ho : o.op = .call { callee := .builtin .append, args := #[s, x], argTypes := #[t, t] })
    (ht : P.underlying t = some (.slice e)) (hinfo : (P.info? e).map (fun i => (i.zero, i.size, i.bytes)) = some (some (.int k 0), 1, bytes)) (hb0 : 0 < bytes)
    (v : Value) (xs : List Int) (y : Int) (hs : a.eval s = v) (hx : a.eval x = .slice (some ⟨W.heap.size, 0, none⟩) 1 1)
    (HO : OwI e k W base v xs) (HB : Below base w0 W) (hbase : base ≤ W.heap.size) (hl : (xs.length + 1) * bytes ≤ 140737488355328)
    (h : ∀ v1 w1, OwI e k w1 base v1 (xs ++ [y]) → Below base w0 w1 → W.grownBy w1 v.ownBlock → (v1.ownBlock = v.ownBlock ∨ ∃ b, v1.ownBlock = some b ∧ W.heap.size ≤ b) → wpList P ops Q rest (a.put o.dst v1) w1) :
    wpList P ops Q (o :: rest) a (W.alloc (.cells #[.int k y] e)) :=
  print_append_num base hgd s x t e k bytes ho ht hinfo hb0 v xs y hs hx HO HB hbase hl h
/-- append(v, x) as one step of a region that draws its order. -/
theorem append_one_step {K : Act → World → Prop} {w0 W : World} (base : Nat) (hgd : o.guard = none) (s x : Operand) (t e : TypeId) (k : IntKind) (bytes : Nat)
    (ho : o.op = .call { callee := .builtin .append, args := #[s, x], argTypes := #[t, t] })
    (ht : P.underlying t = some (.slice e)) (hinfo : (P.info? e).map (fun i => (i.zero, i.size, i.bytes)) = some (some (.int k 0), 1, bytes)) (hb0 : 0 < bytes)
    (v : Value) (xs : List Int) (y : Int) (hs : a.eval s = v) (hx : a.eval x = .slice (some ⟨W.heap.size, 0, none⟩) 1 1)
    (HO : OwI e k W base v xs) (HB : Below base w0 W) (hbase : base ≤ W.heap.size) (hl : (xs.length + 1) * bytes ≤ 140737488355328)
    (h : ∀ v1 w1, OwI e k w1 base v1 (xs ++ [y]) → Below base w0 w1 → W.grownBy w1 v.ownBlock → (v1.ownBlock = v.ownBlock ∨ ∃ b, v1.ownBlock = some b ∧ W.heap.size ≤ b) → K (a.put o.dst v1) w1) :
    if Region.wanted o (yielded ops a.tmps) = true then Oper.wp P o a (W.alloc (.cells #[.int k y] e)) K Q else K (a.put o.dst undef) (W.alloc (.cells #[.int k y] e)) :=
  step_append_cells base (by simp [Region.wanted, hgd]) s x t e (.int k 0) 1 bytes ho ht hinfo rfl (by decide) hb0 v xs.length (nums k xs) [.int k y] hs hx rfl (by simp [Value.oneCell']) HO HB hbase hl
    fun v1 w1 hown hb hg hat => h v1 w1 (by unfold OwI; simpa [nums] using hown) hb hg hat
/-- append(v, ys..). -/
theorem append_row {w0 W : World} (base : Nat) (hgd : o.guard = none) (s x : Operand) (t e : TypeId) (k : IntKind) (bytes : Nat)
    (ho : o.op = .call { callee := .builtin .append, args := #[s, x], argTypes := #[t, t] })
    (ht : P.underlying t = some (.slice e)) (hinfo : (P.info? e).map (fun i => (i.zero, i.size, i.bytes)) = some (some (.int k 0), 1, bytes)) (hb0 : 0 < bytes)
    (v : Value) (xs ys : List Int) (A : Option Addr) (m c : Nat) (hs : a.eval s = v) (hx : a.eval x = .slice A m c) (hm : ys.length = m)
    (HO : OwI e k W base v xs) (HR : RdI k W A ys) (HB : Below base w0 W) (hbase : base ≤ W.heap.size) (hl : (xs.length + m) * bytes ≤ 140737488355328)
    (h : ∀ v1 w1, OwI e k w1 base v1 (xs ++ ys) → Below base w0 w1 → W.grownBy w1 v.ownBlock → (v1.ownBlock = v.ownBlock ∨ ∃ b, v1.ownBlock = some b ∧ W.heap.size ≤ b) → wpList P ops Q rest (a.put o.dst v1) w1) :
    wpList P ops Q (o :: rest) a W := by
  subst hm
  exact print_append_row base hgd s x t e k bytes ho ht hinfo hb0 v xs ys A ys.length c hs hx HO HR HB hbase hl h
/-- make([]T, n). -/
theorem make_row {w0 W : World} (base : Nat) (hgd : o.guard = none) (s x : Operand) (t e : TypeId) (k : IntKind) (bytes : Nat) (ho : o.op = .makeSlice t s x)
    (ht : P.underlying t = some (.slice e)) (hinfo : (P.info? e).map (fun i => (i.zero, i.size, i.bytes)) = some (some (.int k 0), 1, bytes))
    (n : Nat) (hs : a.eval s = .int .i64 n) (hx : a.eval x = .int .i64 n) (hn : bytes * n ≤ 281474976710656) (hn2 : n ≤ 9223372036854775807) (HB : Below base w0 W) (hbase : base ≤ W.heap.size)
    (h : ∀ w1, OwI e k w1 base (.slice (some ⟨W.heap.size, 0, none⟩) n n) (List.replicate n 0) → Below base w0 w1 → W.grownBy w1 none → wpList P ops Q rest (a.put o.dst (.slice (some ⟨W.heap.size, 0, none⟩) n n)) w1) :
    wpList P ops Q (o :: rest) a W := by
  obtain ⟨i0, hi, hz0, hz1, hz2⟩ := info_parts hinfo
  refine wpList_make_full W hgd s x t ho base e i0 (.int k 0) 1 ht hi hz0 hz1 .i64 .i64 n n n hs hx rfl rfl (by rw [hz2]; exact hn) (by simpa [maxLen] using hn2) hbase ?_
  intro w1 ho1 hg
  refine h w1 ?_ (HB.grown hg hbase (by simp)) hg
  have hl : (madeCells (Value.int k 0).cells (n * 1)).toList = nums k (List.replicate n 0) := by
    apply List.ext_getElem
    · simp [nums, madeCells, Value.cells]
    · intro i h1 h2
      simp [nums, madeCells, Value.cells, Nat.mod_one]
  rw [hl] at ho1
  unfold OwI
  rw [List.length_replicate]
  exact ho1
/-- copy(dst, src), dst a whole row of the call's own, src as long. -/
theorem copy_row {w0 W : World} (base : Nat) (hgd : o.guard = none) (d s : Operand) (t t' e : TypeId) (k : IntKind) (bytes : Nat)
    (ho : o.op = .call { callee := .builtin .copy, args := #[d, s], argTypes := #[t, t'] })
    (ht : P.underlying t = some (.slice e)) (hinfo : (P.info? e).map (fun i => (i.zero, i.size, i.bytes)) = some (some (.int k 0), 1, bytes))
    (g n c : Nat) (A : Option Addr) (m c' : Nat) (xs ys : List Int) (hd : a.eval d = .slice (some ⟨g, 0, none⟩) n c) (hs : a.eval s = .slice A m c') (hn : xs.length = n) (hm : ys.length = m) (hnm : m = n)
    (HO : OwI e k W base (.slice (some ⟨g, 0, none⟩) n c) xs) (HR : RdI k W A ys) (HB : Below base w0 W)
    (h : ∀ w1, OwI e k w1 base (.slice (some ⟨g, 0, none⟩) n c) ys → Below base w0 w1 → wpList P ops Q rest (a.put o.dst (.int .i64 n)) w1) :
    wpList P ops Q (o :: rest) a W := by
  obtain ⟨i0, hi, hz0, hz1, hz2⟩ := info_parts hinfo
  subst hnm
  subst hm
  rcases HO.2 with ⟨he, _⟩ | ⟨g', cap, cur, he, hb, hg, hnc, hcm, hsz, htk⟩
  · cases he
  · injection he with he1 he2 he3
    injection he1 with he1
    injection he1 with he1
    subst he1 he3
    have hcs : cur = cur.toList.toArray := by simp
    rw [hcs] at hg
    have hlen : cur.toList.length = c := by simpa using hsz
    refine wpList_copy_splice hgd d s t t' ho e ht (by rw [hi]; simp [hz1]) (some ⟨g, 0, none⟩) A ys.length c ys.length c' hd hs g 0 cur.toList e hg (nums k ys) (by simp [nums]) ?_ ?_ ?_ base w0 HB hb ?_
    · intro hp
      refine ⟨rfl, ?_⟩
      have hp' : 0 < ys.length := by simpa [nums] using hp
      obtain ⟨ad, hA, _⟩ := RdI.at_ HR 0 hp'
      refine ⟨ad, hA, fun j v hj => ?_⟩
      have hjl : j < ys.length := by
        have := (List.getElem?_eq_some_iff.1 hj).1
        simpa [nums] using this
      subst hA
      rw [HR.at_some j hjl]
      simp [nums, hjl] at hj
      rw [hj]
    · rw [nums_length, hlen]; omega
    · intro v hv
      simp only [nums, List.mem_map] at hv
      obtain ⟨y, _, rfl⟩ := hv
      rfl
    · intro w1 hw1 hb1
      have hl : (nums k ys).length = ys.length := nums_length k ys
      have := h w1 ⟨by simp [nums], .inr ⟨g, c, (splice cur.toList 0 (nums k ys)).toArray, rfl, hb, hw1, by omega, hcm, ?_, ?_⟩⟩ hb1
      · rw [nums_length]
        exact this
      · rw [List.size_toArray, length_splice _ _ _ (by rw [hl, hlen]; omega), hlen, Nat.mul_one]
      · simp only [splice, List.take_zero, List.nil_append, Nat.mul_one, hl]
        rw [← hl, List.take_left]
end

/-! ### texts of 0 and 1 in the walk -/
/-- texts are held against each other. -/
theorem beq_str (a b : ByteArray) : (a.toList == b.toList) = decide (a = b) := by
  rw [Bool.eq_iff_iff, beq_iff_eq, decide_eq_true_iff, Lib.toList_data, Lib.toList_data]
  constructor
  · intro h
    apply ByteArray.ext
    exact Array.toList_inj.1 h
  · rintro rfl; rfl
/-- a sign, as a number. -/
def sg (b : Bool) : Int := ((sign b).toNat : Int)
theorem sg_eq49 (b : Bool) : (sg b == 49) = b := by cases b <;> rfl
theorem sg_eq48 (b : Bool) : (sg b == 48) = !b := by cases b <;> rfl
theorem sg_ne (a b : Bool) : (sg a != sg b) = (a ^^ b) := by cases a <;> cases b <;> rfl
theorem sg_sign (b : Bool) : sg b = ((sign b).toNat : Int) := rfl
theorem index_txt {P : Program} (t : TypeId) (ht : P.underlying t = some .string) (l : List Bool) (k : Nat) (h : k < l.length) (w : World) :
    (Instr.index t (.string (txt l)) (.int .i64 k)).run P w = .ok (.int .u8 (sg l[k])) w := by
  have hs := txt_size l
  rw [run_index_string w t (txt l) .i64 k ht, dif_pos ⟨by omega, by omega⟩]
  simp only [Int.toNat_natCast, sg]
  have : (txt l)[k]'(by omega) = sign l[k] := by
    have : (txt l)[k]'(by omega) = (l.map sign)[k]'(by simpa using h) := rfl
    rw [this, List.getElem_map]
  rw [this]
theorem extract_txt (l : List Bool) (a b : Nat) : (txt l).extract a b = txt ((l.drop a).take (b - a)) := by
  apply ByteArray.ext
  apply Array.ext'
  have := Lib.extract_data (txt l) a b
  rw [this]
  simp [txt]
end Go.Proofs.YtjfekjbmgckkcaaGreatDoor.Base
