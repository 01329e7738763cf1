/- spans and places: what is right, all places, the canonical list. No program in sight. -/
namespace Go.Proofs.YtjfekjbmgckkcaaGreatDoor.SpanPure

/-- a span: how far it lies behind the one ahead; how many places it has. -/
abbrev Sp := Int × Int
/-- places one behind the other. -/
def runP (a : Int) (k : Nat) : List Int := (List.range k).map fun (i : Nat) => a + (i : Int)
theorem runP_length (a : Int) (k : Nat) : (runP a k).length = k := by simp [runP]
theorem runP_zero (a : Int) : runP a 0 = [] := rfl
theorem runP_snoc (a : Int) (k : Nat) : runP a (k + 1) = runP a k ++ [a + (k : Int)] := by simp [runP, List.range_succ]
theorem runP_cons (a : Int) (k : Nat) : runP a (k + 1) = a :: runP (a + 1) k := by
  apply List.ext_getElem
  · simp [runP]
  · intro i h1 h2
    cases i with
    | zero => simp [runP]
    | succ i => simp [runP]; omega
theorem runP_get (a : Int) (k i : Nat) (h : i < (runP a k).length) : (runP a k)[i] = a + (i : Int) := by simp [runP]
theorem mem_runP {a x : Int} {k : Nat} : x ∈ runP a k ↔ a ≤ x ∧ x < a + (k : Int) := by
  simp only [runP, List.mem_map, List.mem_range]
  constructor
  · rintro ⟨i, hi, rfl⟩; omega
  · rintro ⟨h1, h2⟩; exact ⟨(x - a).toNat, by omega, by omega⟩

/-- all places of spans. -/
def placesF : Int → List Sp → List Int
  | _, [] => []
  | a, s :: t => runP (a + s.1) s.2.toNat ++ placesF (a + s.1 + s.2) t
/-- behind all of them. -/
def endF : Int → List Sp → Int
  | a, [] => a
  | a, s :: t => endF (a + s.1 + s.2) t
/-- how many. -/
def cntF : Int → List Sp → Int
  | n, [] => n
  | n, s :: t => cntF (n + s.2) t
theorem placesF_append (l m : List Sp) : ∀ a, placesF a (l ++ m) = placesF a l ++ placesF (endF a l) m := by
  induction l with
  | nil => intro a; rfl
  | cons s t ih => intro a; simp only [List.cons_append, placesF, endF, ih, List.append_assoc]
theorem endF_append (l m : List Sp) : ∀ a, endF a (l ++ m) = endF (endF a l) m := by
  induction l with
  | nil => intro a; rfl
  | cons s t ih => intro a; simp only [List.cons_append, endF, ih]
theorem cntF_append (l m : List Sp) : ∀ a, cntF a (l ++ m) = cntF (cntF a l) m := by
  induction l with
  | nil => intro a; rfl
  | cons s t ih => intro a; simp only [List.cons_append, cntF, ih]

/-- may a span stand behind others? f: it is the first one; a: where they end; n: how many places they have. -/
def okS1 (f : Bool) (a n : Int) (s : Sp) : Bool :=
  decide (0 ≤ s.2 ∧ s.2 ≤ 4096 ∧ s.1 ≤ 2097152 ∧ (f = false → 0 ≤ s.1) ∧ -1048576 ≤ a + s.1 ∧ a + s.1 ≤ 1048576 ∧ a + s.1 + s.2 ≤ 1048577 ∧ n + s.2 ≤ 4096)
def rightF : Bool → Int → Int → List Sp → Bool
  | _, _, _, [] => true
  | f, a, n, s :: t => okS1 f a n s && rightF false (a + s.1 + s.2) (n + s.2) t
theorem rightF_append (l m : List Sp) : ∀ f a n, rightF f a n (l ++ m) = (rightF f a n l && rightF (f && l.isEmpty) (endF a l) (cntF n l) m) := by
  induction l with
  | nil => intro f a n; simp [rightF, endF, cntF]
  | cons s t ih => intro f a n; simp [rightF, endF, cntF, ih, Bool.and_assoc]
/-- 0, if a list is right; an error's number. -/
def chk (l : List Sp) : Nat := if 1024 < l.length then 12 else if rightF true 0 0 l then 0 else 20
theorem chk_cases (l : List Sp) : (chk l = 12 ∧ 1024 < l.length) ∨ (chk l = 0 ∧ l.length ≤ 1024 ∧ rightF true 0 0 l = true) ∨ (chk l = 20 ∧ l.length ≤ 1024 ∧ rightF true 0 0 l = false) := by
  unfold chk
  by_cases h : 1024 < l.length
  · exact .inl ⟨if_pos h, h⟩
  · rw [if_neg h]
    cases hr : rightF true 0 0 l with
    | true => exact .inr (.inl ⟨rfl, by omega, rfl⟩)
    | false => exact .inr (.inr ⟨rfl, by omega, rfl⟩)
theorem chk_zero {l : List Sp} : chk l = 0 ↔ l.length ≤ 1024 ∧ rightF true 0 0 l = true := by
  rcases chk_cases l with ⟨h, h1⟩ | ⟨h, h1, h2⟩ | ⟨h, h1, h2⟩
  · rw [h]
    exact ⟨fun h => (by cases h), fun ⟨h2, _⟩ => (by omega)⟩
  · exact ⟨fun _ => ⟨h1, h2⟩, fun _ => h⟩
  · rw [h, h2]
    exact ⟨fun h => (by cases h), fun ⟨_, h3⟩ => (by cases h3)⟩

/-- strictly rising. -/
def Rise (l : List Int) : Prop := l.Pairwise (· < ·)
theorem runP_rise (a : Int) (k : Nat) : Rise (runP a k) := by
  unfold Rise runP
  rw [List.pairwise_map]
  exact List.Pairwise.imp (fun h => by omega) List.pairwise_lt_range
/-- what is right: how the numbers lie. -/
theorem rightF_facts (l : List Sp) : ∀ f a n, rightF f a n l = true → -1048576 ≤ a → a ≤ 1048577 →
    cntF n l = n + (placesF a l).length ∧ (cntF n l ≤ 4096 ∨ l = []) ∧ Rise (placesF a l) ∧ (∀ x ∈ placesF a l, -1048576 ≤ x ∧ x ≤ 1048576) ∧ (f = false → ∀ x ∈ placesF a l, a ≤ x) ∧ (∀ x ∈ placesF a l, x < endF a l) ∧
      -1048576 ≤ endF a l ∧ endF a l ≤ 1048577 ∧ n ≤ cntF n l := by
  induction l with
  | nil =>
    intro f a n _ h1 h2
    refine ⟨by simp [cntF, placesF], .inr rfl, List.Pairwise.nil, by simp [placesF], by simp [placesF], by simp [placesF], h1, h2, Int.le_refl _⟩
  | cons s t ih =>
    intro f a n hr h1 h2
    simp only [rightF, Bool.and_eq_true] at hr
    obtain ⟨ho, hr⟩ := hr
    simp only [okS1, decide_eq_true_eq] at ho
    obtain ⟨o1, o2, o3, o4, o5, o6, o7, o8⟩ := ho
    obtain ⟨i1, i2, i3, i4, i5, i6, i7, i8, i9⟩ := ih false _ (n + s.2) hr (by omega) (by omega)
    have hk : (s.2.toNat : Int) = s.2 := by omega
    have hend : a + s.1 + s.2 ≤ endF (a + s.1 + s.2) t := by
      clear ih i1 i2 i3 i4 i5 i6 i7 i8 i9
      have : ∀ (t : List Sp) (a n : Int), rightF false a n t = true → a ≤ endF a t := by
        intro t
        induction t with
        | nil => intro a n _; exact Int.le_refl _
        | cons u t ih =>
          intro a n h
          simp only [rightF, Bool.and_eq_true] at h
          obtain ⟨ho, h⟩ := h
          simp only [okS1, decide_eq_true_eq] at ho
          obtain ⟨p1, p2, p3, p4, -⟩ := ho
          have := ih _ _ h
          have := p4 (by simp)
          simp only [endF]
          omega
      exact this t _ _ hr
    refine ⟨?_, .inl ?_, ?_, ?_, ?_, ?_, i7, i8, ?_⟩
    · simp only [cntF, placesF, List.length_append, runP_length, i1]; omega
    · simp only [cntF]
      rcases i2 with h | h
      · exact h
      · subst h; simp only [cntF]; exact o8
    · simp only [placesF]
      refine List.pairwise_append.2 ⟨runP_rise _ _, i3, fun x hx y hy => ?_⟩
      have := (mem_runP.1 hx).2
      have := i5 rfl y hy
      omega
    · intro x hx
      rcases List.mem_append.1 hx with h | h
      · have := mem_runP.1 h; omega
      · exact i4 x h
    · intro hf x hx
      have := o4 hf
      rcases List.mem_append.1 hx with h | h
      · have := mem_runP.1 h; omega
      · have := i5 rfl x h; omega
    · intro x hx
      simp only [endF]
      rcases List.mem_append.1 hx with h | h
      · have := mem_runP.1 h; omega
      · exact i6 x h
    · simp only [cntF]; omega
/-- a right list's places. -/
def places (l : List Sp) : List Int := placesF 0 l
theorem places_rise {l : List Sp} (h : rightF true 0 0 l = true) : Rise (places l) := (rightF_facts l true 0 0 h (by decide) (by decide)).2.2.1
theorem places_in {l : List Sp} (h : rightF true 0 0 l = true) : ∀ x ∈ places l, -1048576 ≤ x ∧ x ≤ 1048576 := (rightF_facts l true 0 0 h (by decide) (by decide)).2.2.2.1
theorem places_cnt {l : List Sp} (h : rightF true 0 0 l = true) : cntF 0 l = (places l).length := by
  have := (rightF_facts l true 0 0 h (by decide) (by decide)).1
  rw [Int.zero_add] at this
  exact this
theorem places_len {l : List Sp} (h : rightF true 0 0 l = true) : (places l).length ≤ 4096 := by
  have h1 := places_cnt h
  rcases (rightF_facts l true 0 0 h (by decide) (by decide)).2.1 with h2 | h2
  · omega
  · subst h2; simp [places, placesF]

/-! ### the canonical list -/
/-- has no span without places; none behind another without a gap. -/
def canonF : Bool → List Sp → Bool
  | _, [] => true
  | f, s :: t => decide (s.2 ≠ 0) && (f || decide (s.1 ≠ 0)) && canonF false t
theorem canonF_append (l m : List Sp) : ∀ f, canonF f (l ++ m) = (canonF f l && canonF (f && l.isEmpty) m) := by
  induction l with
  | nil => intro f; simp [canonF]
  | cons s t ih => intro f; simp [canonF, ih, Bool.and_assoc]
def canonical (l : List Sp) : Bool := canonF true l && decide (chk l = 0)
/-- one more place: a new span, or the last one is longer. -/
def addP (out : List Sp) (fin p : Int) : List Sp :=
  if out = [] ∨ fin < p then out ++ [(p - fin, 1)] else out.dropLast ++ [((out.getLast?.getD (0, 0)).1, (out.getLast?.getD (0, 0)).2 + 1)]
/-- places as spans. -/
def buildF : List Sp → Int → List Int → List Sp
  | out, _, [] => out
  | out, fin, p :: ps => buildF (addP out fin p) (p + 1) ps
def fromL (ps : List Int) : List Sp := buildF [] 0 ps
/-- how many runs of places, one behind the other. -/
def runsF : Bool → Int → List Int → Nat
  | _, _, [] => 0
  | f, q, p :: ps => (if f = true ∨ p ≠ q then 1 else 0) + runsF false (p + 1) ps
def runs (ps : List Int) : Nat := runsF true 0 ps
/-- may places come? -/
def risingF : Bool → Int → List Int → Bool
  | _, _, [] => true
  | f, q, p :: ps => decide (-1048576 ≤ p ∧ p ≤ 1048576 ∧ (f = true ∨ q ≤ p)) && risingF false (p + 1) ps
def rising (ps : List Int) : Bool := risingF true 0 ps
theorem risingF_of {ps : List Int} : ∀ {f : Bool} {q : Int}, Rise ps → (∀ x ∈ ps, -1048576 ≤ x ∧ x ≤ 1048576) → (f = false → ∀ x ∈ ps, q ≤ x) → risingF f q ps = true := by
  induction ps with
  | nil => intros; rfl
  | cons p ps ih =>
    intro f q h1 h2 h3
    have h4 := List.pairwise_cons.1 h1
    simp only [risingF, Bool.and_eq_true, decide_eq_true_eq]
    have h5 := h2 p List.mem_cons_self
    refine ⟨⟨h5.1, h5.2, ?_⟩, ih h4.2 (fun x hx => h2 x (List.mem_cons_of_mem _ hx)) fun _ x hx => by have := h4.1 x hx; omega⟩
    cases f with
    | true => exact .inl rfl
    | false => exact .inr (h3 rfl p List.mem_cons_self)
theorem rise_of_risingF {ps : List Int} : ∀ {f : Bool} {q : Int}, risingF f q ps = true → Rise ps ∧ (∀ x ∈ ps, -1048576 ≤ x ∧ x ≤ 1048576) ∧ (f = false → ∀ x ∈ ps, q ≤ x) := by
  induction ps with
  | nil => intro f q _; exact ⟨List.Pairwise.nil, by simp, by simp⟩
  | cons p ps ih =>
    intro f q h
    simp only [risingF, Bool.and_eq_true, decide_eq_true_eq] at h
    obtain ⟨⟨h1, h2, h3⟩, h4⟩ := h
    obtain ⟨i1, i2, i3⟩ := ih h4
    refine ⟨List.pairwise_cons.2 ⟨fun x hx => by have := i3 rfl x hx; omega, i1⟩, ?_, ?_⟩
    · intro x hx
      rcases List.mem_cons.1 hx with rfl | hx
      · exact ⟨h1, h2⟩
      · exact i2 x hx
    · intro hf x hx
      rcases h3 with h3 | h3
      · rw [hf] at h3; cases h3
      · rcases List.mem_cons.1 hx with rfl | hx
        · exact h3
        · have := i3 rfl x hx; omega
theorem runsF_append (l m : List Int) : ∀ f q, runsF f q (l ++ m) = runsF f q l + runsF (f && l.isEmpty) (if l = [] then q else l.getLast?.getD 0 + 1) m := by
  induction l with
  | nil => intro f q; simp [runsF]
  | cons p ps ih =>
    intro f q
    simp only [List.cons_append, runsF, ih, List.isEmpty_cons, Bool.and_false, Bool.false_and]
    rw [Nat.add_assoc]
    congr 2
    cases ps with
    | nil => simp
    | cons x ps => simp
theorem runs_snoc (ps : List Int) (p : Int) : runs (ps ++ [p]) = runs ps + (if ps = [] ∨ p ≠ ps.getLast?.getD 0 + 1 then 1 else 0) := by
  unfold runs
  rw [runsF_append]
  simp only [runsF, Nat.add_zero, Bool.true_and]
  congr 1
  by_cases h : ps = []
  · subst h; simp
  · have : ps.isEmpty = false := by simpa using h
    simp [this, h]
/-- what a list that has been built is. -/
structure Built (out : List Sp) (fin : Int) (ps : List Int) : Prop where
  pl : places out = ps
  fin : endF 0 out = fin
  can : canonF true out = true
  right : (ps.length : Int) ≤ 4096 → rightF true 0 0 out = true
  cnt : cntF 0 out = ps.length
  runs : out = [] ↔ ps = []
  pos : ∀ s ∈ out, 1 ≤ s.2
  len : out.length = SpanPure.runs ps
theorem dropLast_snoc {l : List Sp} (h : l ≠ []) : ∃ i s, l = i ++ [s] ∧ l.dropLast = i ∧ l.getLast?.getD (0, 0) = s := by
  have he := List.dropLast_concat_getLast h
  refine ⟨l.dropLast, l.getLast h, he.symm, rfl, ?_⟩
  rw [List.getLast?_eq_some_getLast h]
  rfl
theorem Built.add {out : List Sp} {fin p : Int} {ps : List Int} (h : Built out fin ps) (h1 : -1048576 ≤ p) (h2 : p ≤ 1048576) (h3 : out = [] → fin = 0) (h4 : out ≠ [] → fin ≤ p) (h5 : -1048576 ≤ fin) (h6 : ps = [] ∨ ps.getLast?.getD 0 + 1 = fin) :
    Built (addP out fin p) (p + 1) (ps ++ [p]) := by
  unfold addP
  by_cases hc : out = [] ∨ fin < p
  · rw [if_pos hc]
    refine ⟨?_, ?_, ?_, ?_, ?_, by simp, ?_, ?_⟩
    · show placesF 0 _ = _
      rw [placesF_append, h.fin, show placesF 0 out = ps from h.pl]
      simp only [placesF, List.append_nil]
      rw [show (1 : Int).toNat = 1 from rfl, show runP (fin + (p - fin)) 1 = [p] from by simp [runP]; omega]
    · rw [endF_append, h.fin]; simp only [endF]; omega
    · rw [canonF_append, h.can]
      simp only [canonF, Bool.true_and, Bool.and_true, Bool.and_eq_true, decide_eq_true_eq]
      refine ⟨by decide, ?_⟩
      rcases hc with hc | hc
      · subst hc; rfl
      · cases out.isEmpty
        · simp; omega
        · rfl
    · intro hl
      rw [List.length_append, List.length_singleton] at hl
      rw [rightF_append, h.right (by omega), h.fin, h.cnt]
      simp only [rightF, Bool.true_and, Bool.and_true, okS1, decide_eq_true_eq]
      refine ⟨by decide, by decide, ?_, ?_, by omega, by omega, by omega, by omega⟩
      · rcases hc with hc | hc
        · have := h3 hc; omega
        · omega
      · intro hf
        rcases hc with hc | hc
        · subst hc; cases hf
        · omega
    · rw [cntF_append, h.cnt, List.length_append]; simp [cntF]
    · intro s hs
      rcases List.mem_append.1 hs with hs | hs
      · exact h.pos s hs
      · rw [List.mem_singleton.1 hs]; simp
    · rw [List.length_append, List.length_singleton, h.len, runs_snoc]
      rcases hc with hc | hc
      · rw [if_pos (.inl (h.runs.1 hc))]
      · rw [if_pos]
        rcases h6 with h6 | h6
        · exact .inl h6
        · right; rw [h6]; omega
  · rw [if_neg hc]
    have hne : out ≠ [] := fun h => hc (.inl h)
    have hfp : fin = p := by have := h4 hne; have : ¬ fin < p := fun h => hc (.inr h); omega
    obtain ⟨i, s, rfl, hd, hl⟩ := dropLast_snoc hne
    rw [hd, hl]
    have hpl := h.pl
    have hfn := h.fin
    have hcn := h.can
    have hct := h.cnt
    have hrt := h.right
    rw [endF_append] at hfn
    simp only [endF] at hfn
    rw [canonF_append] at hcn
    rw [cntF_append] at hct
    simp only [cntF] at hct
    rw [show places (i ++ [s]) = placesF 0 (i ++ [s]) from rfl, placesF_append] at hpl
    simp only [placesF, List.append_nil] at hpl
    simp only [rightF_append, rightF, Bool.and_true] at hrt
    have hs0 := h.pos s (by simp)
    refine ⟨?_, ?_, ?_, ?_, ?_, by simp, ?_, ?_⟩
    · show placesF 0 _ = _
      rw [placesF_append]
      simp only [placesF, List.append_nil]
      rw [show (s.2 + 1).toNat = s.2.toNat + 1 from by omega, runP_snoc, ← List.append_assoc, hpl]
      congr 2
      omega
    · rw [endF_append]; simp only [endF]; omega
    · rw [canonF_append]
      simp only [canonF, Bool.and_true, Bool.and_eq_true, decide_eq_true_eq, Bool.true_and] at hcn ⊢
      exact ⟨hcn.1, by omega, hcn.2.2⟩
    · intro hl2
      rw [List.length_append, List.length_singleton] at hl2
      have hr := hrt (by omega)
      simp only [rightF_append, rightF, Bool.and_true, Bool.and_eq_true] at hr ⊢
      obtain ⟨hr1, hr2⟩ := hr
      have hi := (rightF_facts i true 0 0 hr1 (by decide) (by decide)).2.2.2.2.2.2.2.2
      refine ⟨hr1, ?_⟩
      simp only [okS1, decide_eq_true_eq] at hr2 ⊢
      obtain ⟨o1, o2, o3, o4, o5, o6, o7, o8⟩ := hr2
      exact ⟨by omega, by omega, o3, o4, o5, o6, by omega, by omega⟩
    · rw [cntF_append, List.length_append, List.length_singleton]; simp only [cntF]; omega
    · intro u hu
      rcases List.mem_append.1 hu with hu | hu
      · exact h.pos u (List.mem_append_left _ hu)
      · rw [List.mem_singleton.1 hu]; show 1 ≤ s.2 + 1; omega
    · have hn : ps ≠ [] := fun he => by have := h.runs.2 he; simp at this
      have h7 := h.len
      rw [List.length_append, List.length_singleton] at h7 ⊢
      rw [runs_snoc, if_neg, h7, Nat.add_zero]
      rintro (hx | hx)
      · exact hn hx
      · rcases h6 with h6 | h6
        · exact hn h6
        · omega
theorem Built.nil : Built [] 0 [] := ⟨rfl, rfl, rfl, fun _ => rfl, rfl, by simp, by simp, rfl⟩
theorem built_of : ∀ (ps : List Int) {out : List Sp} {fin : Int} {qs : List Int}, Built out fin qs → (qs = [] → fin = 0) → (qs ≠ [] → fin = qs.getLast?.getD 0 + 1) → risingF qs.isEmpty fin ps = true → -1048576 ≤ fin →
    ∃ f, Built (buildF out fin ps) f (qs ++ ps)
  | [], out, fin, qs, h, _, _, _, _ => ⟨fin, by rw [List.append_nil]; exact h⟩
  | p :: ps, out, fin, qs, h, h1, h2, h3, h4 => by
    simp only [risingF, Bool.and_eq_true, decide_eq_true_eq] at h3
    obtain ⟨⟨a1, a2, a3⟩, a4⟩ := h3
    have hb := h.add a1 a2 (fun he => h1 (h.runs.1 he)) (fun he => by
      rcases a3 with a3 | a3
      · exact absurd (h.runs.2 (List.isEmpty_iff.1 a3)) he
      · exact a3) h4 (by
      by_cases hq : qs = []
      · exact .inl hq
      · exact .inr (by have := h2 hq; omega))
    obtain ⟨f, hf⟩ := built_of ps hb (by simp) (fun _ => by simp) (by rw [show (qs ++ [p]).isEmpty = false from by cases qs <;> rfl]; exact a4) (by omega)
    rw [List.append_assoc] at hf
    exact ⟨f, hf⟩
/-- the canonical list of rising places. -/
theorem fromL_built {ps : List Int} (h : rising ps = true) : ∃ f, Built (fromL ps) f ps := built_of ps Built.nil (fun _ => rfl) (fun h => absurd rfl h) h (by decide)
/-- spans that are canonical are the canonical list of their places. -/
theorem buildF_run (k : Nat) : ∀ (out : List Sp) (o : Int) (a j : Int) (ps : List Int), 0 ≤ j → buildF (out ++ [(o, j)]) a (runP a k ++ ps) = buildF (out ++ [(o, j + k)]) (a + k) ps := by
  induction k with
  | zero => intro out o a j ps _; simp [runP_zero]
  | succ k ih =>
    intro out o a j ps hj
    rw [runP_cons, List.cons_append, buildF]
    have : addP (out ++ [(o, j)]) a a = out ++ [(o, j + 1)] := by
      unfold addP
      rw [if_neg (by simp)]
      simp
    rw [this, ih out o (a + 1) (j + 1) ps (by omega)]
    congr 1
    · rw [show j + 1 + (k : Int) = j + ((k + 1 : Nat) : Int) from by omega]
    · omega
theorem buildF_canon : ∀ (l out : List Sp) (a : Int), canonF out.isEmpty l = true → (∀ s ∈ l, 0 ≤ s.2) → (out.isEmpty = false → ∀ s ∈ l, 0 ≤ s.1) → (∀ s ∈ l.tail, 0 ≤ s.1) → buildF out a (placesF a l) = out ++ l
  | [], out, a, _, _, _, _ => by simp [placesF, buildF]
  | s :: l, out, a, hc, hk, ho, ht => by
    simp only [canonF, Bool.and_eq_true, decide_eq_true_eq, Bool.or_eq_true] at hc
    obtain ⟨⟨c1, c2⟩, c3⟩ := hc
    have k0 := hk s List.mem_cons_self
    obtain ⟨k, hk1⟩ : ∃ k : Nat, s.2.toNat = k + 1 := ⟨s.2.toNat - 1, by omega⟩
    rw [placesF, hk1, runP_cons, List.cons_append, buildF]
    have hadd : addP out a (a + s.1) = out ++ [(s.1, 1)] := by
      unfold addP
      rw [if_pos]
      · rw [show a + s.1 - a = s.1 from by omega]
      · cases he : out.isEmpty with
        | true => exact .inl (List.isEmpty_iff.1 he)
        | false =>
          right
          rw [he] at c2
          have := ho he s List.mem_cons_self
          rcases c2 with c2 | c2
          · cases c2
          · omega
    rw [hadd, buildF_run k out s.1 (a + s.1 + 1) 1 _ (by decide), show a + s.1 + 1 + (k : Int) = a + s.1 + s.2 from by omega, show (1 : Int) + k = s.2 from by omega]
    rw [buildF_canon l (out ++ [(s.1, s.2)]) _ (by rw [show (out ++ [(s.1, s.2)]).isEmpty = false from by cases out <;> rfl]; exact c3) (fun u hu => hk u (List.mem_cons_of_mem _ hu)) (fun _ => ht) (fun u hu => ht u (List.mem_of_mem_tail hu))]
    simp
theorem rightF_pos (l : List Sp) : ∀ {f a n}, rightF f a n l = true → (∀ s ∈ l, 0 ≤ s.2) ∧ (f = false → ∀ s ∈ l, 0 ≤ s.1) ∧ ∀ s ∈ l.tail, 0 ≤ s.1 := by
  induction l with
  | nil => intro f a n _; simp
  | cons s t ih =>
    intro f a n h
    simp only [rightF, Bool.and_eq_true, okS1, decide_eq_true_eq] at h
    obtain ⟨⟨o1, o2, o3, o4, -⟩, h⟩ := h
    obtain ⟨i1, i2, i3⟩ := ih h
    refine ⟨?_, ?_, i2 rfl⟩
    · intro u hu
      rcases List.mem_cons.1 hu with rfl | hu
      · exact o1
      · exact i1 u hu
    · intro hf u hu
      rcases List.mem_cons.1 hu with rfl | hu
      · exact o4 hf
      · exact i2 rfl u hu
theorem fromL_places {l : List Sp} (hr : rightF true 0 0 l = true) (hc : canonF true l = true) : fromL (places l) = l := by
  obtain ⟨h1, -, h3⟩ := rightF_pos l hr
  exact buildF_canon l [] 0 hc h1 (by simp) h3
theorem places_rising {l : List Sp} (h : rightF true 0 0 l = true) : rising (places l) = true := risingF_of (places_rise h) (places_in h) (by simp)
/-- no list has fewer spans than runs. -/
theorem runsF_run (k : Nat) : ∀ (f : Bool) (q a : Int) (ps : List Int), runsF f q (runP a k ++ ps) ≤ 1 + runsF false (if k = 0 then q else a + k) ps ∨ (k = 0 ∧ runsF f q (runP a k ++ ps) = runsF f q ps) := by
  intro f q a ps
  cases k with
  | zero => right; simp [runP_zero]
  | succ k =>
    left
    have hall : ∀ (k : Nat) (a : Int) (ps : List Int), runsF false a (runP a k ++ ps) = runsF false (a + k) ps := by
      intro k
      induction k with
      | zero => intro a ps; simp [runP_zero]
      | succ k ih =>
        intro a ps
        rw [runP_cons, List.cons_append, runsF, if_neg (by simp), ih, Nat.zero_add]
        congr 1
        omega
    rw [runP_cons, List.cons_append, runsF, hall, if_neg (Nat.succ_ne_zero k), show a + 1 + (k : Int) = a + ((k + 1 : Nat) : Int) from by omega]
    split <;> omega
theorem runsF_le (l : List Sp) : ∀ (f : Bool) (q a : Int), runsF f q (placesF a l) ≤ l.length := by
  induction l with
  | nil => intro f q a; exact Nat.le_refl _
  | cons s t ih =>
    intro f q a
    rw [placesF, List.length_cons]
    rcases runsF_run s.2.toNat f q (a + s.1) (placesF (a + s.1 + s.2) t) with h | ⟨_, h⟩
    · have := ih false (if s.2.toNat = 0 then q else a + s.1 + s.2.toNat) (a + s.1 + s.2)
      omega
    · rw [h]
      have := ih f q (a + s.1 + s.2)
      omega
theorem runs_le (l : List Sp) : runs (places l) ≤ l.length := runsF_le l _ _ _

/-- places with their numbers. -/
def idx : Int → List Int → List (Int × Int)
  | _, [] => []
  | n, p :: t => (n, p) :: idx (n + 1) t
theorem idx_append (l m : List Int) : ∀ n, idx n (l ++ m) = idx n l ++ idx (n + l.length) m := by
  induction l with
  | nil => intro n; simp [idx]
  | cons p t ih =>
    intro n
    simp only [List.cons_append, idx, ih, List.length_cons]
    rw [show n + 1 + (t.length : Int) = n + ((t.length + 1 : Nat) : Int) from by omega]
theorem idx_snoc (n : Int) (l : List Int) (p : Int) : idx n (l ++ [p]) = idx n l ++ [(n + l.length, p)] := by rw [idx_append]; rfl
theorem idx_length (l : List Int) : ∀ n, (idx n l).length = l.length := by
  induction l with
  | nil => intro n; rfl
  | cons p t ih => intro n; simp [idx, ih]
theorem idx_snd (l : List Int) : ∀ n, (idx n l).map (·.2) = l := by
  induction l with
  | nil => intro n; rfl
  | cons p t ih => intro n; simp [idx, ih]
theorem idx_get (l : List Int) : ∀ (n : Int) (k : Nat) (h : k < l.length) (h' : k < (idx n l).length), (idx n l)[k] = (n + (k : Int), l[k]) := by
  induction l with
  | nil => intro n k h; simp at h
  | cons p t ih =>
    intro n k h h'
    cases k with
    | zero => simp [idx]
    | succ k =>
      simp only [idx, List.getElem_cons_succ]
      rw [ih (n + 1) k (by simpa using h)]
      simp; omega
theorem placesF_take (l : List Sp) (k : Nat) (h : k < l.length) : placesF 0 (l.take (k + 1)) = placesF 0 (l.take k) ++ runP (endF 0 (l.take k) + l[k].1) l[k].2.toNat := by
  rw [List.take_succ_eq_append_getElem h, placesF_append]; simp [placesF]
theorem endF_take (l : List Sp) (k : Nat) (h : k < l.length) : endF 0 (l.take (k + 1)) = endF 0 (l.take k) + l[k].1 + l[k].2 := by
  rw [List.take_succ_eq_append_getElem h, endF_append]; rfl
theorem places_split (l : List Sp) (k : Nat) (h : k < l.length) : places l = placesF 0 (l.take k) ++ (runP (endF 0 (l.take k) + l[k].1) l[k].2.toNat ++ placesF (endF 0 (l.take (k + 1))) (l.drop (k + 1))) := by
  conv => lhs; rw [← List.take_append_drop k l, List.drop_eq_getElem_cons h]
  rw [places, placesF_append, endF_take l k h]
  rfl
theorem idx_prefix {l m : List Int} (n : Int) (h : l <+: m) : idx n l <+: idx n m := by
  obtain ⟨t, rfl⟩ := h
  rw [idx_append]
  exact ⟨_, rfl⟩
theorem runP_prefix (a : Int) {j k : Nat} (h : j ≤ k) : runP a j <+: runP a k := by
  induction k with
  | zero => obtain rfl : j = 0 := by omega
            exact ⟨[], by simp⟩
  | succ k ih =>
    rcases Nat.lt_or_ge k j with h1 | h1
    · obtain rfl : j = k + 1 := by omega
      exact ⟨[], by simp⟩
    · rw [runP_snoc]
      obtain ⟨t, ht⟩ := ih h1
      exact ⟨t ++ [a + (k : Int)], by rw [← List.append_assoc, ht]⟩
theorem places_prefix (l : List Sp) (k : Nat) (h : k < l.length) (j : Nat) (hj : j ≤ l[k].2.toNat) : placesF 0 (l.take k) ++ runP (endF 0 (l.take k) + l[k].1) j <+: places l := by
  rw [places_split l k h]
  obtain ⟨t, ht⟩ := runP_prefix (endF 0 (l.take k) + l[k].1) hj
  exact ⟨t ++ placesF (endF 0 (l.take (k + 1))) (l.drop (k + 1)), by rw [List.append_assoc, ← List.append_assoc _ t, ht]⟩
/-- a part of what is right is right. -/
theorem right_take {l : List Sp} (h : rightF true 0 0 l = true) (k : Nat) : rightF true 0 0 (l.take k) = true := by
  rw [← List.take_append_drop k l, rightF_append] at h
  exact (Bool.and_eq_true _ _ ▸ h).1
theorem right_at {l : List Sp} (h : rightF true 0 0 l = true) (k : Nat) (hk : k < l.length) :
    0 ≤ l[k].2 ∧ l[k].2 ≤ 4096 ∧ -1048576 ≤ endF 0 (l.take k) + l[k].1 ∧ endF 0 (l.take k) + l[k].1 ≤ 1048576 ∧ -1048576 ≤ endF 0 (l.take k) ∧ endF 0 (l.take k) ≤ 1048577 := by
  have h1 := right_take h k
  have h2 := rightF_facts (l.take k) true 0 0 h1 (by decide) (by decide)
  have h3 := h
  rw [← List.take_append_drop k l, List.drop_eq_getElem_cons hk, rightF_append] at h3
  simp only [rightF, okS1, Bool.and_eq_true, decide_eq_true_eq] at h3
  obtain ⟨-, ⟨o1, o2, o3, o4, o5, o6, o7, o8⟩, -⟩ := h3
  exact ⟨o1, o2, o5, o6, h2.2.2.2.2.2.2.1, h2.2.2.2.2.2.2.2.1⟩
end Go.Proofs.YtjfekjbmgckkcaaGreatDoor.SpanPure
