/-
  PROVED HERE: calls of package mode's functions on numbers, and of the reference's, tell what the plain functions tell; the chapter's examples answer true.
  Conditions: an argument is a number of the kind int.
-/
import Derived.Test.YtaooimlannbenaaProg
import Derived.Test.YtaooimlannbenaaPlain
import Derived.WalkKit
import Derived.WalkSpells
import Derived.WalkLawsBesides
import Derived.Lib.Hide
namespace Go.Proofs.Ytaooimlannbenaa
open Go.RowKit Pm

theorem ret_bool {a b : Bool} (h : a = b) : Ending.returned (.bool a) = .returned (.bool b) := by rw [h]
theorem ret_i64 {a b : Int} (h : a = b) : Ending.returned (.int .i64 a) = .returned (.int .i64 b) := by rw [h]

set_option maxHeartbeats 400000 in
theorem is_any (m : Int) (w : World) : Calls Try.prog 12 #[.int .i64 m] w fun e w' => e = .returned (.bool (isB m)) ∧ w = w' := by
  by_cases h0 : 0 ≤ m
  · by_cases h2 : m ≤ 2
    · have hf := Lib.hid (isB_true.2 ⟨h0, h2⟩)
      go_enter Try.func12, Try.ntmps12
      go_wp2
      go_ret
      exact ⟨ret_bool hf.out.symm, rfl⟩
    · have hf := Lib.hid ((isB_false (m := m)).2 (.inr (by omega)))
      go_enter Try.func12, Try.ntmps12
      go_wp2
      go_ret
      exact ⟨ret_bool hf.out.symm, rfl⟩
  · have hf := Lib.hid ((isB_false (m := m)).2 (.inl (by omega)))
    go_enter Try.func12, Try.ntmps12
    go_wp2
    go_ret
    exact ⟨ret_bool hf.out.symm, rfl⟩

set_option maxHeartbeats 400000 in
theorem refIs_any (m : Int) (w : World) : Calls Try.prog 15 #[.int .i64 m] w fun e w' => e = .returned (.bool (isB m)) ∧ w = w' := by
  by_cases h0 : m = 0
  · subst h0
    go_enter Try.func15, Try.ntmps15
    go_wp2
    go_ret
    exact ⟨rfl, rfl⟩
  · by_cases h1 : m = 1
    · subst h1
      go_enter Try.func15, Try.ntmps15
      go_wp2
      go_ret
      exact ⟨rfl, rfl⟩
    · by_cases h2 : m = 2
      · subst h2
        go_enter Try.func15, Try.ntmps15
        go_wp2
        go_ret
        exact ⟨rfl, rfl⟩
      · have hf := Lib.hid (isB_false.2 (by omega : m < 0 ∨ 2 < m))
        have e0 : (m == 0) = false := by simpa using h0
        have e1 : (m == 1) = false := by simpa using h1
        have e2 : (m == 2) = false := by simpa using h2
        go_enter Try.func15, Try.ntmps15
        go_wp2
        go_ret
        exact ⟨ret_bool hf.out.symm, rfl⟩

set_option maxHeartbeats 400000 in
theorem fit_any (a b : Int) (w : World) : Calls Try.prog 13 #[.int .i64 a, .int .i64 b] w fun e w' => e = .returned (.bool (fitB a b)) ∧ w = w' := by
  cases ha : isB a with
  | false =>
    have hf : Hid (fitB a b = false) := Lib.hid (by unfold fitB; rw [ha]; rfl)
    go_enter Try.func13, Try.ntmps13
    go_wp2_with (go_at_call 12; refine (is_any _ _).mono ?_; rintro e w' ⟨rfl, rfl⟩)
    go_ret
    exact ⟨ret_bool hf.out.symm, rfl⟩
  | true =>
    cases hb : isB b with
    | false =>
      have hf : Hid (fitB a b = false) := Lib.hid (by unfold fitB; rw [ha, hb]; rfl)
      go_enter Try.func13, Try.ntmps13
      go_wp2_with (go_at_call 12; refine (is_any _ _).mono ?_; rintro e w' ⟨rfl, rfl⟩)
      go_ret
      exact ⟨ret_bool hf.out.symm, rfl⟩
    | true =>
      have ba := isB_true.1 ha
      have bb := isB_true.1 hb
      by_cases hs : a + b ≤ 2
      · have hf : Hid (fitB a b = true) := Lib.hid (fitB_true.2 ⟨ba.1, bb.1, hs⟩)
        go_enter Try.func13, Try.ntmps13
        go_wp2_with (go_at_call 12; refine (is_any _ _).mono ?_; rintro e w' ⟨rfl, rfl⟩)
        go_ret
        exact ⟨ret_bool hf.out.symm, rfl⟩
      · have hf : Hid (fitB a b = false) := Lib.hid (by unfold fitB; rw [decide_eq_false hs]; simp)
        have hd := decide_eq_false hs
        go_enter Try.func13, Try.ntmps13
        go_wp2_with (go_at_call 12; refine (is_any _ _).mono ?_; rintro e w' ⟨rfl, rfl⟩)
        go_ret
        exact ⟨ret_bool hf.out.symm, rfl⟩

set_option maxHeartbeats 400000 in
theorem covers_any (a b : Int) (w : World) : Calls Try.prog 17 #[.int .i64 a, .int .i64 b] w fun e w' => e = .returned (.bool (coversB a b)) ∧ w = w' := by
  cases ha : isB a with
  | false =>
    have hf : Hid (coversB a b = false) := Lib.hid (by unfold coversB; rw [ha]; rfl)
    go_enter Try.func17, Try.ntmps17
    go_wp2_with (go_at_call 12; refine (is_any _ _).mono ?_; rintro e w' ⟨rfl, rfl⟩)
    go_ret
    exact ⟨ret_bool hf.out.symm, rfl⟩
  | true =>
    cases hb : isB b with
    | false =>
      have hf : Hid (coversB a b = false) := Lib.hid (by unfold coversB; rw [ha, hb]; rfl)
      go_enter Try.func17, Try.ntmps17
      go_wp2_with (go_at_call 12; refine (is_any _ _).mono ?_; rintro e w' ⟨rfl, rfl⟩)
      go_ret
      exact ⟨ret_bool hf.out.symm, rfl⟩
    | true =>
      by_cases hs : b ≤ a
      · have hf : Hid (coversB a b = true) := Lib.hid (by unfold coversB; rw [ha, hb, decide_eq_true hs]; rfl)
        have hd := decide_eq_true hs
        go_enter Try.func17, Try.ntmps17
        go_wp2_with (go_at_call 12; refine (is_any _ _).mono ?_; rintro e w' ⟨rfl, rfl⟩)
        go_ret
        exact ⟨ret_bool hf.out.symm, rfl⟩
      · have hf : Hid (coversB a b = false) := Lib.hid (by unfold coversB; rw [decide_eq_false hs]; simp)
        have hd := decide_eq_false hs
        go_enter Try.func17, Try.ntmps17
        go_wp2_with (go_at_call 12; refine (is_any _ _).mono ?_; rintro e w' ⟨rfl, rfl⟩)
        go_ret
        exact ⟨ret_bool hf.out.symm, rfl⟩

set_option maxHeartbeats 400000 in
theorem max_any (a b : Int) (w : World) : Calls Try.prog 19 #[.int .i64 a, .int .i64 b] w fun e w' => e = .returned (.int .i64 (maxM a b)) ∧ w = w' := by
  cases ha : isB a with
  | false =>
    have hf : Hid (maxM a b = 0) := Lib.hid (by unfold maxM; rw [ha]; rfl)
    go_enter Try.func19, Try.ntmps19
    go_wp2_with (go_at_call 12; refine (is_any _ _).mono ?_; rintro e w' ⟨rfl, rfl⟩)
    go_ret
    exact ⟨ret_i64 hf.out.symm, rfl⟩
  | true =>
    cases hb : isB b with
    | false =>
      have hf : Hid (maxM a b = 0) := Lib.hid (by unfold maxM; rw [ha, hb]; rfl)
      go_enter Try.func19, Try.ntmps19
      go_wp2_with (go_at_call 12; refine (is_any _ _).mono ?_; rintro e w' ⟨rfl, rfl⟩)
      go_ret
      exact ⟨ret_i64 hf.out.symm, rfl⟩
    | true =>
      go_enter Try.func19, Try.ntmps19
      go_wp2_with (go_at_call 12; refine (is_any _ _).mono ?_; rintro e w' ⟨rfl, rfl⟩)
      · go_ret
        exact ⟨ret_i64 (by unfold maxM; rw [ha, hb]; simp; omega), rfl⟩
      · go_ret
        exact ⟨ret_i64 (by unfold maxM; rw [ha, hb]; simp; omega), rfl⟩

set_option maxHeartbeats 400000 in
theorem rest_any (m : Int) (w : World) : Calls Try.prog 21 #[.int .i64 m] w fun e w' => e = .returned (.int .i64 (restM m)) ∧ w = w' := by
  cases ha : isB m with
  | false =>
    have hf : Hid (restM m = 0) := Lib.hid (by unfold restM; rw [ha]; rfl)
    go_enter Try.func21, Try.ntmps21
    go_wp2_with (go_at_call 12; refine (is_any _ _).mono ?_; rintro e w' ⟨rfl, rfl⟩)
    go_ret
    exact ⟨ret_i64 hf.out.symm, rfl⟩
  | true =>
    have hf : Hid (restM m = 2 - m) := Lib.hid (by unfold restM; rw [ha]; rfl)
    have bm := isB_true.1 ha
    go_enter Try.func21, Try.ntmps21
    go_wp2_with (go_at_call 12; refine (is_any _ _).mono ?_; rintro e w' ⟨rfl, rfl⟩)
    go_ret
    exact ⟨ret_i64 hf.out.symm, rfl⟩

theorem ret_str {a b : ByteArray} (h : a = b) : Ending.returned (.string a) = .returned (.string b) := by rw [h]
def nameS (m : Int) : ByteArray := if m = 0 then ⟨#[110, 111, 110, 101]⟩ else if m = 1 then ⟨#[115, 104, 97, 114, 101]⟩ else if m = 2 then ⟨#[97, 108, 111, 110, 101]⟩ else ⟨#[]⟩

set_option maxHeartbeats 400000 in
theorem name_any (m : Int) (w : World) : Calls Try.prog 23 #[.int .i64 m] w fun e w' => e = .returned (.string (nameS m)) ∧ w = w' := by
  by_cases h0 : m = 0
  · subst h0
    go_enter Try.func23, Try.ntmps23
    go_wp2
    go_step3
    go_wp2
    go_step3
    go_wp2
    rw [Exit.noGoto_ret]
    go_ret
    exact ⟨rfl, rfl⟩
  · by_cases h1 : m = 1
    · subst h1
      go_enter Try.func23, Try.ntmps23
      go_wp2
      go_step3
      go_wp2
      go_step3
      go_wp2
      rw [Exit.noGoto_ret]
      go_ret
      exact ⟨rfl, rfl⟩
    · by_cases h2 : m = 2
      · subst h2
        go_enter Try.func23, Try.ntmps23
        go_wp2
        go_step3
        go_wp2
        go_step3
        go_wp2
        rw [Exit.noGoto_ret]
        go_ret
        exact ⟨rfl, rfl⟩
      · have hf : Hid (nameS m = ⟨#[]⟩) := Lib.hid (by unfold nameS; rw [if_neg h0, if_neg h1, if_neg h2])
        have e0 : (m == 0) = false := by simpa using h0
        have e1 : (m == 1) = false := by simpa using h1
        have e2 : (m == 2) = false := by simpa using h2
        go_enter Try.func23, Try.ntmps23
        go_wp2
        go_step3
        go_wp2
        go_step3
        go_wp2
        rw [Exit.noGoto_ret]
        go_ret
        exact ⟨ret_str hf.out.symm, rfl⟩
set_option maxHeartbeats 400000 in
theorem refName_any (m : Int) (w : World) : Calls Try.prog 24 #[.int .i64 m] w fun e w' => e = .returned (.string (nameS m)) ∧ w = w' := by
  by_cases h0 : m = 0
  · subst h0
    go_enter Try.func24, Try.ntmps24
    go_wp2
    go_ret
    exact ⟨rfl, rfl⟩
  · by_cases h1 : m = 1
    · subst h1
      go_enter Try.func24, Try.ntmps24
      go_wp2
      go_ret
      exact ⟨rfl, rfl⟩
    · by_cases h2 : m = 2
      · subst h2
        go_enter Try.func24, Try.ntmps24
        go_wp2
        go_ret
        exact ⟨rfl, rfl⟩
      · have hf : Hid (nameS m = ⟨#[]⟩) := Lib.hid (by unfold nameS; rw [if_neg h0, if_neg h1, if_neg h2])
        have e0 : (m == 0) = false := by simpa using h0
        have e1 : (m == 1) = false := by simpa using h1
        have e2 : (m == 2) = false := by simpa using h2
        go_enter Try.func24, Try.ntmps24
        go_wp2
        go_ret
        exact ⟨ret_str hf.out.symm, rfl⟩

set_option maxHeartbeats 400000 in
theorem refFit_any (a b : Int) (w : World) : Calls Try.prog 16 #[.int .i64 a, .int .i64 b] w fun e w' => e = .returned (.bool (fitB a b)) ∧ w = w' := by
  cases ha : isB a with
  | false =>
    have hf : Hid (fitB a b = false) := Lib.hid (by unfold fitB; rw [ha]; rfl)
    go_enter Try.func16, Try.ntmps16
    go_wp2_with (go_at_call 15; refine (refIs_any _ _).mono ?_; rintro e w' ⟨rfl, rfl⟩)
    go_ret
    exact ⟨ret_bool hf.out.symm, rfl⟩
  | true =>
    cases hb : isB b with
    | false =>
      have hf : Hid (fitB a b = false) := Lib.hid (by unfold fitB; rw [ha, hb]; rfl)
      go_enter Try.func16, Try.ntmps16
      go_wp2_with (go_at_call 15; refine (refIs_any _ _).mono ?_; rintro e w' ⟨rfl, rfl⟩)
      go_ret
      exact ⟨ret_bool hf.out.symm, rfl⟩
    | true =>
      have ba := isB_true.1 ha
      have bb := isB_true.1 hb
      by_cases a0 : a = 0
      · have hf : Hid (fitB a b = true) := Lib.hid (fitB_true.2 (by omega))
        have e0 : (a == 0) = true := by simpa using a0
        clear a0
        go_enter Try.func16, Try.ntmps16
        go_wp2_with (go_at_call 15; refine (refIs_any _ _).mono ?_; rintro e w' ⟨rfl, rfl⟩)
        go_ret
        exact ⟨ret_bool hf.out.symm, rfl⟩
      · have e0 : (a == 0) = false := by simpa using a0
        by_cases b0 : b = 0
        · have hf : Hid (fitB a b = true) := Lib.hid (fitB_true.2 (by omega))
          have f0 : (b == 0) = true := by simpa using b0
          clear b0
          go_enter Try.func16, Try.ntmps16
          go_wp2_with (go_at_call 15; refine (refIs_any _ _).mono ?_; rintro e w' ⟨rfl, rfl⟩)
          go_ret
          exact ⟨ret_bool hf.out.symm, rfl⟩
        · have f0 : (b == 0) = false := by simpa using b0
          by_cases a1 : a = 1
          · have e1 : (a == 1) = true := by simpa using a1
            by_cases b1 : b = 1
            · have hf : Hid (fitB a b = true) := Lib.hid (fitB_true.2 (by omega))
              have f1 : (b == 1) = true := by simpa using b1
              clear a1 b1
              go_enter Try.func16, Try.ntmps16
              go_wp2_with (go_at_call 15; refine (refIs_any _ _).mono ?_; rintro e w' ⟨rfl, rfl⟩)
              go_ret
              exact ⟨ret_bool hf.out.symm, rfl⟩
            · have hf : Hid (fitB a b = false) := Lib.hid (by rw [Bool.eq_false_iff]; intro h; have := fitB_true.1 h; omega)
              have f1 : (b == 1) = false := by simpa using b1
              clear a1
              go_enter Try.func16, Try.ntmps16
              go_wp2_with (go_at_call 15; refine (refIs_any _ _).mono ?_; rintro e w' ⟨rfl, rfl⟩)
              go_ret
              exact ⟨ret_bool hf.out.symm, rfl⟩
          · have e1 : (a == 1) = false := by simpa using a1
            have hf : Hid (fitB a b = false) := Lib.hid (by rw [Bool.eq_false_iff]; intro h; have := fitB_true.1 h; omega)
            go_enter Try.func16, Try.ntmps16
            go_wp2_with (go_at_call 15; refine (refIs_any _ _).mono ?_; rintro e w' ⟨rfl, rfl⟩)
            go_ret
            exact ⟨ret_bool hf.out.symm, rfl⟩

set_option maxHeartbeats 400000 in
theorem refCovers_any (a b : Int) (w : World) : Calls Try.prog 18 #[.int .i64 a, .int .i64 b] w fun e w' => e = .returned (.bool (coversB a b)) ∧ w = w' := by
  cases ha : isB a with
  | false =>
    have hf : Hid (coversB a b = false) := Lib.hid (by unfold coversB; rw [ha]; rfl)
    go_enter Try.func18, Try.ntmps18
    go_wp2_with (go_at_call 15; refine (refIs_any _ _).mono ?_; rintro e w' ⟨rfl, rfl⟩)
    go_ret
    exact ⟨ret_bool hf.out.symm, rfl⟩
  | true =>
    cases hb : isB b with
    | false =>
      have hf : Hid (coversB a b = false) := Lib.hid (by unfold coversB; rw [ha, hb]; rfl)
      go_enter Try.func18, Try.ntmps18
      go_wp2_with (go_at_call 15; refine (refIs_any _ _).mono ?_; rintro e w' ⟨rfl, rfl⟩)
      go_ret
      exact ⟨ret_bool hf.out.symm, rfl⟩
    | true =>
      by_cases hs : b ≤ a
      · have hf : Hid (coversB a b = true) := Lib.hid (by unfold coversB; rw [ha, hb, decide_eq_true hs]; rfl)
        have hd := decide_eq_true hs
        go_enter Try.func18, Try.ntmps18
        go_wp2_with (go_at_call 15; refine (refIs_any _ _).mono ?_; rintro e w' ⟨rfl, rfl⟩)
        go_ret
        exact ⟨ret_bool hf.out.symm, rfl⟩
      · have hf : Hid (coversB a b = false) := Lib.hid (by unfold coversB; rw [decide_eq_false hs]; simp)
        have hd := decide_eq_false hs
        go_enter Try.func18, Try.ntmps18
        go_wp2_with (go_at_call 15; refine (refIs_any _ _).mono ?_; rintro e w' ⟨rfl, rfl⟩)
        go_ret
        exact ⟨ret_bool hf.out.symm, rfl⟩

set_option maxHeartbeats 400000 in
theorem refMax_any (a b : Int) (w : World) : Calls Try.prog 20 #[.int .i64 a, .int .i64 b] w fun e w' => e = .returned (.int .i64 (maxM a b)) ∧ w = w' := by
  cases ha : isB a with
  | false =>
    have hf : Hid (maxM a b = 0) := Lib.hid (by unfold maxM; rw [ha]; rfl)
    go_enter Try.func20, Try.ntmps20
    go_wp2_with (go_at_call 15; refine (refIs_any _ _).mono ?_; rintro e w' ⟨rfl, rfl⟩)
    go_ret
    exact ⟨ret_i64 hf.out.symm, rfl⟩
  | true =>
    cases hb : isB b with
    | false =>
      have hf : Hid (maxM a b = 0) := Lib.hid (by unfold maxM; rw [ha, hb]; rfl)
      go_enter Try.func20, Try.ntmps20
      go_wp2_with (go_at_call 15; refine (refIs_any _ _).mono ?_; rintro e w' ⟨rfl, rfl⟩)
      go_ret
      exact ⟨ret_i64 hf.out.symm, rfl⟩
    | true =>
      by_cases hl : b < a
      · have hf : Hid (maxM a b = a) := Lib.hid (by unfold maxM; rw [ha, hb]; simp; omega)
        go_enter Try.func20, Try.ntmps20
        go_wp2_with (go_at_call 15; refine (refIs_any _ _).mono ?_; rintro e w' ⟨rfl, rfl⟩)
        go_ret
        exact ⟨ret_i64 hf.out.symm, rfl⟩
      · have hf : Hid (maxM a b = b) := Lib.hid (by unfold maxM; rw [ha, hb]; simp; omega)
        go_enter Try.func20, Try.ntmps20
        go_wp2_with (go_at_call 15; refine (refIs_any _ _).mono ?_; rintro e w' ⟨rfl, rfl⟩)
        go_ret
        exact ⟨ret_i64 hf.out.symm, rfl⟩

/-- the last one of the first n numbers that fits -/
def lastFit (m : Int) : Nat → Int
  | 0 => 0
  | n + 1 => if fitB m n = true then (n : Int) else lastFit m n
theorem lastFit_three (m : Int) (h : isB m = true) : lastFit m 3 = restM m := by
  have hb := isB_true.1 h
  have h0 : fitB m 0 = true ↔ m ≤ 2 := by rw [fitB_true]; omega
  have h1 : fitB m 1 = true ↔ m ≤ 1 := by rw [fitB_true]; omega
  have h2 : fitB m 2 = true ↔ m ≤ 0 := by rw [fitB_true]; omega
  show (if fitB m 2 = true then (2 : Int) else if fitB m 1 = true then 1 else if fitB m 0 = true then 0 else 0) = restM m
  unfold restM
  rw [if_pos h]
  by_cases c2 : m ≤ 0
  · rw [if_pos (h2.2 c2)]; omega
  · rw [if_neg (fun e => c2 (h2.1 e))]
    by_cases c1 : m ≤ 1
    · rw [if_pos (h1.2 c1)]; omega
    · rw [if_neg (fun e => c1 (h1.1 e))]
      split <;> omega

set_option maxHeartbeats 400000 in
theorem refRest_any (m : Int) (w : World) : Calls Try.prog 22 #[.int .i64 m] w fun e w' => e = .returned (.int .i64 (restM m)) ∧ w = w' := by
  cases ha : isB m with
  | false =>
    have hf : Hid (restM m = 0) := Lib.hid (by unfold restM; rw [ha]; rfl)
    go_enter Try.func22, Try.ntmps22
    go_wp2_with (go_at_call 15; refine (refIs_any _ _).mono ?_; rintro e w' ⟨rfl, rfl⟩)
    go_ret
    exact ⟨ret_i64 hf.out.symm, rfl⟩
  | true =>
    have hf : Hid (lastFit m 3 = restM m) := Lib.hid (lastFit_three m ha)
    go_enter Try.func22, Try.ntmps22
    go_wp2_with (go_at_call 15; refine (refIs_any _ _).mono ?_; rintro e w' ⟨rfl, rfl⟩)
    go_loop [4, 5] (fun t i => ∃ k : Nat, k ≤ 3 ∧ i = .int .i64 k ∧ t = .int .i64 (lastFit m k)) (fun _ i => 3 - (intOf i).toNat)
    case atStart => exact ⟨0, Nat.zero_le _, rfl, rfl⟩
    case round =>
      obtain ⟨k, hk, rfl, rfl⟩ := hrel
      by_cases hlt : k < 3
      · cases hb : fitB m k with
        | true =>
          have hs : Hid (lastFit m (k + 1) = k) := Lib.hid (by show (if fitB m k = true then (k : Int) else lastFit m k) = k; rw [if_pos hb])
          go_wp2_with (go_at_call 16; refine (refFit_any _ _ _).mono ?_; rintro e w' ⟨rfl, rfl⟩)
          go_round
          case rel => exact ⟨k + 1, by omega, by go_num, by rw [hs.out]⟩
          case measure => simp [intOf]; omega
        | false =>
          have hs : Hid (lastFit m (k + 1) = lastFit m k) := Lib.hid (by show (if fitB m k = true then (k : Int) else lastFit m k) = _; rw [hb]; rfl)
          generalize lastFit m k = t at *
          go_wp2_with (go_at_call 16; refine (refFit_any _ _ _).mono ?_; rintro e w' ⟨rfl, rfl⟩)
          go_round
          case rel => exact ⟨k + 1, by omega, by go_num, by rw [hs.out]⟩
          case measure => simp [intOf]; omega
      · obtain rfl : k = 3 := by omega
        generalize lastFit m 3 = t at *
        go_wp2_with fail
        go_ret
        exact ⟨ret_i64 hf.out, rfl⟩

theorem fit11 (w : World) : Calls Try.prog 13 #[.int .i64 1, .int .i64 1] w fun e w' => e = .returned (.bool true) ∧ w = w' := fit_any 1 1 w
theorem fit12 (w : World) : Calls Try.prog 13 #[.int .i64 1, .int .i64 2] w fun e w' => e = .returned (.bool false) ∧ w = w' := fit_any 1 2 w
theorem rest0 (w : World) : Calls Try.prog 21 #[.int .i64 0] w fun e w' => e = .returned (.int .i64 2) ∧ w = w' := rest_any 0 w
theorem rest1 (w : World) : Calls Try.prog 21 #[.int .i64 1] w fun e w' => e = .returned (.int .i64 1) ∧ w = w' := rest_any 1 w
theorem rest2 (w : World) : Calls Try.prog 21 #[.int .i64 2] w fun e w' => e = .returned (.int .i64 0) ∧ w = w' := rest_any 2 w
theorem name1 (w : World) : Calls Try.prog 23 #[.int .i64 1] w fun e w' => e = .returned (.string ⟨#[115, 104, 97, 114, 101]⟩) ∧ w = w' := name_any 1 w

set_option maxHeartbeats 400000 in
theorem awake_any (w : World) : Calls Try.prog 9 #[] w fun e w' => e = .returned (.bool true) ∧ w = w' := by
  go_enter Try.func9, Try.ntmps9
  go_wp2_with fail
  refine (fit11 _).mono ?_; rintro e w' ⟨rfl, rfl⟩
  go_wp2_with fail
  refine (fit12 _).mono ?_; rintro e w' ⟨rfl, rfl⟩
  go_wp2_with fail
  refine (rest0 _).mono ?_; rintro e w' ⟨rfl, rfl⟩
  go_wp2_with fail
  refine (rest1 _).mono ?_; rintro e w' ⟨rfl, rfl⟩
  go_wp2_with fail
  refine (rest2 _).mono ?_; rintro e w' ⟨rfl, rfl⟩
  go_wp2_with fail
  refine (name1 _).mono ?_; rintro e w' ⟨rfl, rfl⟩
  go_wp2_with fail
  go_ret
  exact ⟨rfl, rfl⟩
end Go.Proofs.Ytaooimlannbenaa
