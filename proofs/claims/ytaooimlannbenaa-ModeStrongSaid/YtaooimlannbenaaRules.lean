/-
  PROVED HERE: the walk of ModeRules returns true and leaves the world as it was.
  Conditions: the three arguments are numbers of the kind int.
-/
import Derived.Test.YtaooimlannbenaaScal
namespace Go.Proofs.Ytaooimlannbenaa
open Go.RowKit Pm

theorem mod3 (a : Int) : ∃ x : Int, (0 ≤ x ∧ x ≤ 2) ∧ (wrap64 (a.tmod 3 + 3)).tmod 3 = x := by
  have h1 := Int.tmod_lt_of_pos a (by omega : (0 : Int) < 3)
  have h2 : -3 < a.tmod 3 := by have := Int.lt_tmod_of_pos a (by omega : (0 : Int) < 3); omega
  refine ⟨_, ?_, rfl⟩
  rw [IntWalk.wrap64_in _ (by omega), Int.tmod_eq_emod_of_nonneg (by omega)]
  omega
theorem max_of {x y : Int} (hx : 0 ≤ x ∧ x ≤ 2) (hy : 0 ≤ y ∧ y ≤ 2) : maxM x y = (if x ≤ y then y else x) := by
  unfold maxM; rw [isB_true.2 hx, isB_true.2 hy]; rfl
theorem rest_of {x : Int} (hx : 0 ≤ x ∧ x ≤ 2) : restM x = 2 - x := by unfold restM; rw [isB_true.2 hx]; rfl
theorem coversB_iff {a b : Int} {p : Bool} (h : (p = true) ↔ (0 ≤ b ∧ b ≤ a ∧ a ≤ 2)) : coversB a b = p := by
  rw [Bool.eq_iff_iff, coversB_true, h]
theorem fitB_iff {a b : Int} {p : Bool} (h : (p = true) ↔ (0 ≤ a ∧ 0 ≤ b ∧ a + b ≤ 2)) : fitB a b = p := by
  rw [Bool.eq_iff_iff, fitB_true, h]

set_option maxHeartbeats 2000000 in
theorem rules_walk (a b c : Int) (w : World) (_ha : (Lit.int .i64 a).wf = true) (_hb : (Lit.int .i64 b).wf = true) (_hc : (Lit.int .i64 c).wf = true) :
    Calls Try.prog 6 #[.int .i64 a, .int .i64 b, .int .i64 c] w fun e w' => e = .returned (.bool true) ∧ Below w.heap.size w w' := by
  clear _ha _hb _hc
  obtain ⟨x, hx, ex⟩ := mod3 a
  obtain ⟨y, hy, ey⟩ := mod3 b
  obtain ⟨z, hz, ez⟩ := mod3 c
  have f2 : fitB y x = fitB x y := fitB_comm y x
  have f3 : maxM y x = maxM x y := by rw [max_of hx hy, max_of hy hx]; split <;> split <;> omega
  have f4 : fitB x (restM x) = true := by rw [rest_of hx, fitB_true]; omega
  have f5 : coversB (restM x) y = fitB x y := by rw [Bool.eq_iff_iff, coversB_true, fitB_true, rest_of hx]; omega
  have f6 : coversB (maxM x y) x = true := by rw [coversB_true, max_of hx hy]; split <;> omega
  have f7 : coversB (maxM x y) y = true := by rw [coversB_true, max_of hx hy]; split <;> omega
  have key1 : (fitB x y = false) ∨ (fitB x y = true ∧ coversB y z = false) ∨ (fitB x y = true ∧ coversB y z = true ∧ fitB x z = true) := by
    cases hp : fitB x y
    · exact .inl rfl
    · cases hq : coversB y z
      · exact .inr (.inl ⟨rfl, rfl⟩)
      · refine .inr (.inr ⟨rfl, rfl, ?_⟩)
        rw [fitB_true] at hp ⊢; rw [coversB_true] at hq; omega
  have key2 : (coversB z x = false) ∨ (coversB z x = true ∧ coversB z y = false) ∨ (coversB z x = true ∧ coversB z y = true ∧ coversB z (maxM x y) = true) := by
    cases hp : coversB z x
    · exact .inl rfl
    · cases hq : coversB z y
      · exact .inr (.inl ⟨rfl, rfl⟩)
      · refine .inr (.inr ⟨rfl, rfl, ?_⟩)
        rw [coversB_true] at hp hq ⊢; rw [max_of hx hy]; split <;> omega
  clear hx hy hz
  rcases key1 with h1 | ⟨h1, h2⟩ | ⟨h1, h2, h3⟩ <;> rcases key2 with k1 | ⟨k1, k2⟩ | ⟨k1, k2, k3⟩
  all_goals
    rw [h1] at f2 f5
    go_enter Try.func6, Try.ntmps6
    go_wp2_with (first
      | (go_at_call 9; refine (awake_any _).mono ?_; rintro e w' ⟨rfl, rfl⟩)
      | (go_at_call 13; refine (fit_any _ _ _).mono ?_; rintro e w' ⟨rfl, rfl⟩)
      | (go_at_call 17; refine (covers_any _ _ _).mono ?_; rintro e w' ⟨rfl, rfl⟩)
      | (go_at_call 19; refine (max_any _ _ _).mono ?_; rintro e w' ⟨rfl, rfl⟩)
      | (go_at_call 21; refine (rest_any _ _).mono ?_; rintro e w' ⟨rfl, rfl⟩))
    go_ret
    exact ⟨rfl, Below.refl _ _⟩
end Go.Proofs.Ytaooimlannbenaa
