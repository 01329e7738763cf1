/- numbers that are put are read again; objects of a call's own. -/
import Derived.Test.YtjfekjbmgckkcaaGreatDoorVarbitD
import Derived.Test.YtjfekjbmgckkcaaGreatDoorRef04P
namespace Go.Proofs.YtjfekjbmgckkcaaGreatDoor.VarKit
open Go.RowKit Go.Proofs.YtjfekjbmgckkcaaGreatDoorW.PrintWords
open Go.Proofs.YtjfekjbmgckkcaaGreatDoor.Bits Go.Proofs.YtjfekjbmgckkcaaGreatDoor.Base Go.Proofs.YtjfekjbmgckkcaaGreatDoor.VarPure Go.Proofs.YtjfekjbmgckkcaaGreatDoor.VarbitA Go.Proofs.YtjfekjbmgckkcaaGreatDoor.VarbitB Go.Proofs.YtjfekjbmgckkcaaGreatDoor.VarbitD Go.Proofs.YtjfekjbmgckkcaaGreatDoor.StreamA Go.Proofs.YtjfekjbmgckkcaaGreatDoor.StreamR

theorem parse_encS (v : Int) (t : List Bool) : parse (encS v ++ t) = some (gS v, nb (u64 v) (behind (gS v)), t) := parse_enc (gS_lt v) _ t
theorem parse_encU (x : Nat) (t : List Bool) : parse (encU x ++ t) = some (gU x, nb x (behind (gU x)), t) := parse_enc (gU_lt x) _ t
theorem encS_val (v : Int) (h1 : -9223372036854775808 ≤ v) (h2 : v ≤ 9223372036854775807) : sgd (val (nb (u64 v) (behind (gS v)))) (behind (gS v)) = v := by
  rw [val_nb]
  exact fits_bound (gS_lt v) (gS_fits v) h1 h2
theorem encU_val (x : Nat) (hx : x < 18446744073709551616) : val (nb x (behind (gU x))) = x := by
  rw [val_nb]
  exact Nat.mod_eq_of_lt (gU_fits hx)

theorem getS_enc (g a : Nat) (S : Nat → Prop) (v : Int) (t : List Bool) (w : World) (hT : Tab w) (hG : ¬ S 1) (h1 : -9223372036854775808 ≤ v) (h2 : v ≤ 9223372036854775807) (h : Rr w g S a (encS v ++ t) false) :
    Calls Tryz.prog 158 #[.pointer (some ⟨g, 0, none⟩)] w fun e w' => e = .returned (.tuple #[.int .i64 v, .int .i64 0]) ∧ Rr w' g S (a + (encS v).length) t false ∧ Ch S w w' := by
  refine (getS_calls g a S _ w hT hG h).mono ?_
  rintro e w' ⟨hc, ⟨hp, -, -⟩ | ⟨k, x, t', hp, he, hr⟩⟩
  · rw [parse_encS] at hp; cases hp
  · rw [parse_encS] at hp
    injection hp with hp
    injection hp with ha hb
    injection hb with hb hd
    subst ha hb hd
    have hv := encS_val v h1 h2
    have hok : okS (gS v) (nb (u64 v) (behind (gS v))) = true := by rw [okS, hv]; simp
    simp only [hok, if_true, hv] at he
    exact ⟨he, by rw [encS_length, ← Nat.add_assoc]; exact hr, hc⟩
theorem getU_enc (g a : Nat) (S : Nat → Prop) (x : Nat) (t : List Bool) (w : World) (hT : Tab w) (hG : ¬ S 1) (hx : x < 18446744073709551616) (h : Rr w g S a (encU x ++ t) false) :
    Calls Tryz.prog 160 #[.pointer (some ⟨g, 0, none⟩)] w fun e w' => e = .returned (.tuple #[.int .u64 x, .int .i64 0]) ∧ Rr w' g S (a + (encU x).length) t false ∧ Ch S w w' := by
  refine (getU_calls g a S _ w hT hG h).mono ?_
  rintro e w' ⟨hc, ⟨hp, -, -⟩ | ⟨k, y, t', hp, he, hr⟩⟩
  · rw [parse_encU] at hp; cases hp
  · rw [parse_encU] at hp
    injection hp with hp
    injection hp with ha hb
    injection hb with hb hd
    subst ha hb hd
    have hv := encU_val x hx
    have hok : okU (gU x) (nb x (behind (gU x))) = true := by rw [okU, hv]; simp
    simp only [hok, if_true, hv] at he
    exact ⟨he, by rw [encU_length, ← Nat.add_assoc]; exact hr, hc⟩

/-- what a call of an object that is the law's own leaves. -/
theorem upd_new {O : World → (Nat → Prop) → Prop} {S : Nat → Prop} {B : Nat} {w w1 w2 : World} (hb : Below B w w1) (hB : B ≤ w1.heap.size) (hS : ∀ k, S k → B ≤ k) (h : Upd O S w1 w2) :
    ∃ S', O w2 S' ∧ (∀ k, S' k → B ≤ k) ∧ Below B w w2 := by
  obtain ⟨S', h1, h2, h3⟩ := h
  exact ⟨S', h1, fun k hk => by rcases h2 k hk with h4 | h4
                                · exact hS k h4
                                · omega, hb.trans (h3.below_of hB hS)⟩
theorem ch_new {S : Nat → Prop} {B : Nat} {w w1 w2 : World} (hb : Below B w w1) (hB : B ≤ w1.heap.size) (hS : ∀ k, S k → B ≤ k) (h : Ch S w1 w2) : Below B w w2 := hb.trans (h.below_of hB hS)
theorem not_old {S : Nat → Prop} {w : World} (hT : Tab w) (hS : ∀ k, S k → w.heap.size ≤ k) : ¬ S 1 := fun h => by
  have := hS _ h
  have := hT.lt
  omega
/-- a contract, in the world of the law. -/
theorem lift {P : Program} {f : Nat} {args : Array Value} {n : Nat} {w W : World} {Q : Ending → Prop} (hb : Below n w W) (hn : n ≤ W.heap.size) (h : Calls P f args W fun e w' => Q e ∧ Below W.heap.size W w') :
    Calls P f args W fun e w' => Q e ∧ Below n w w' := h.mono fun _ _ ⟨h1, h2⟩ => ⟨h1, below_then hb hn h2⟩
theorem lift_eq {P : Program} {f : Nat} {args : Array Value} {n : Nat} {w W : World} {Q : Ending → Prop} (hb : Below n w W) (h : Calls P f args W fun e w' => Q e ∧ W = w') :
    Calls P f args W fun e w' => Q e ∧ Below n w w' := h.mono fun _ _ ⟨h1, h2⟩ => ⟨h1, h2 ▸ hb⟩
theorem pack_take_all (l : List Bool) : (bts (pack l)).take l.length = l := by rw [bts_pack _ _ rfl, List.take_left' rfl]
theorem nil_read (w : World) : RdB w none [] := RdI.nil _ _ _
end Go.Proofs.YtjfekjbmgckkcaaGreatDoor.VarKit
