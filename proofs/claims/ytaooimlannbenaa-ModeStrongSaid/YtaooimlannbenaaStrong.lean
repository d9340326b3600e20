/-
  PROVED HERE: the walk of ModeStrong returns true and writes nothing that was there.
  Conditions: the claims lie in memory as a row of pairs; the two numbers are of the kind int.
-/
import Derived.Test.YtaooimlannbenaaLaid
import Derived.Test.YtaooimlannbenaaRules
namespace Go.Proofs.Ytaooimlannbenaa
open Go.RowKit Pm

/-- is the strongest mode none, or one of the first k? -/
def someK (l : List (Int × Int)) (A : Int) (k : Nat) : Bool := (A == 0) || (l.take k).any (fun c => c.2 == A)
theorem someK_succ (l : List (Int × Int)) (A : Int) (k : Nat) (hk : k < l.length) : someK l A (k + 1) = (someK l A k || (l[k].2 == A)) := by
  unfold someK; rw [List.take_succ_eq_append_getElem hk, List.any_append]; simp [Bool.or_assoc]
theorem someK_end (l : List (Int × Int)) (but : Int) (k : Nat) (hk : l.length ≤ k) : someK l (best l but) k = true := by
  unfold someK
  rw [List.take_of_length_le hk, Bool.or_eq_true]
  rcases (best_facts l but).2.2.2 with h | ⟨c, hc, _, _, h⟩
  · exact .inl (by simpa using h)
  · exact .inr (by rw [List.any_eq_true]; exact ⟨c, hc, by simp [h]⟩)

theorem covers_rest {l : List (Int × Int)} {but : Int} (h : ∀ j : Nat, (h : j < l.length) → l[j].1 ≠ -1000000) : coversB (best l (-1000000)) (best l but) = true := by
  obtain ⟨a0, a1, a2, _⟩ := best_facts l (-1000000)
  obtain ⟨b0, _, _, b3⟩ := best_facts l but
  rw [coversB_true]
  refine ⟨b0, ?_, a1⟩
  rcases b3 with e | ⟨c, hc, _, hi, e⟩
  · omega
  · obtain ⟨j, hj, ec⟩ := List.getElem_of_mem hc
    rw [e]
    exact a2 c hc (by rw [← ec]; exact h j hj) hi
theorem covers_each {l : List (Int × Int)} {k : Nat} (hk : k < l.length) (h1 : l[k].1 ≠ -1000000) (h2 : isB l[k].2 = true) : coversB (best l (-1000000)) l[k].2 = true := by
  obtain ⟨a0, a1, a2, _⟩ := best_facts l (-1000000)
  rw [coversB_true]
  have := isB_true.1 h2
  exact ⟨this.1, a2 _ (List.getElem_mem _) h1 h2, a1⟩
theorem fit_less {A y x : Int} (h : coversB A y = true) (hf : fitB A x = true) : fitB y x = true := by
  rw [coversB_true] at h; rw [fitB_true] at hf ⊢; omega

set_option maxHeartbeats 2000000 in
theorem strong_walk (a : Option Addr) (len cap : Nat) (l0 : List (Int × Int)) (but m : Int) (w : World) (hin : ClaimsIn w a len cap l0) (_hb : (Lit.int .i64 but).wf = true) (_hm : (Lit.int .i64 m).wf = true) :
    Calls Try.prog 7 #[.slice a len cap, .int .i64 but, .int .i64 m] w fun e w' => e = .returned (.bool true) ∧ Below w.heap.size w w' := by
  clear _hb _hm
  obtain ⟨x, hx, ex⟩ := mod3 m
  have HX := Lib.hid ex; clear ex
  have HIn := Lib.hid hin; clear hin
  go_enter Try.func7, Try.ntmps7
  go_wp2_with fail
  refine (awake_any _).mono ?_; rintro e w' ⟨rfl, rfl⟩
  go_wp2_with fail
  refine (few_any cap HIn.out.1 HIn.out.2.1 HIn.out.2.2.1).mono ?_; rintro e w' ⟨n, rfl, hn12, hncap, hcl, _, rfl⟩
  generalize l0.take 12 = l at *
  have HC := Lib.hid hcl; clear hcl
  go_wp2_with fail
  refine (strong_any cap (-1000000) HC.out (by omega)).mono ?_; rintro e w1 ⟨rfl, hb1⟩
  have HB1 := Lib.hid hb1; clear hb1
  have HC1 := Lib.hid (claims_below HC.out HB1.out)
  go_wp2_with fail
  refine (strong_any cap but HC1.out (by omega)).mono ?_; rintro e w2 ⟨rfl, hb2⟩
  have HB2 := Lib.hid (HB1.out.trans (hb2.mono HB1.out.size)); clear hb2
  have HC2 := Lib.hid (claims_below HC.out HB2.out)
  have hend := Lib.hid (fun k hk => someK_end l (-1000000) k hk)
  have hcr := Lib.hid (fun h => covers_rest (l := l) (but := but) h)
  have hce := Lib.hid (fun k hk h1 h2 => covers_each (l := l) (k := k) hk h1 h2)
  generalize best l (-1000000) = A at *
  generalize best l but = R at *
  rcases HC2.out with ⟨rfl, rfl⟩ | ⟨b, off, rfl, rfl, hrow⟩
  · have h1 : (A == 0) = true := by have := hend.out 0 (by simp); simpa [someK] using this
    have h2 : coversB A R = true := hcr.out (fun j h => by simp at h)
    go_wp2_with fail
    refine wp_loop_rounds 1 ?_
    rw [rounds_succ]
    go_wp2_with (go_at_call 17; refine (covers_any _ _ _).mono ?_; rintro e w' ⟨rfl, rfl⟩)
    go_ret
    exact ⟨rfl, HB2.out⟩
  · have HR := Lib.hid hrow; clear hrow
    go_wp2_with fail
    rw [HX.out]
    go_loop [12, 13] (fun s i => ∃ k : Nat, k ≤ l.length ∧ i = .int .i64 k ∧ s = .bool (someK l A k) ∧ ∀ j : Nat, (h : j < l.length) → j < k → l[j].1 ≠ -1000000) (fun _ i => l.length - (intOf i).toNat)
    case atStart => exact ⟨0, Nat.zero_le _, rfl, by simp [someK], fun j _ h => absurd h (by omega)⟩
    case round =>
      obtain ⟨k, hk, rfl, rfl, hnodes⟩ := hrel
      have HN := Lib.hid hnodes; clear hnodes
      by_cases hlt : k < l.length
      · have hc := HR.out.2 k hlt
        have hc0 := hc.1
        have hc1 := hc.2
        clear hc
        have hs := Lib.hid (someK_succ l A k hlt)
        have hcv := Lib.hid (hce.out k hlt)
        obtain ⟨p, hp⟩ : ∃ p, l[k].1 = p := ⟨_, rfl⟩
        obtain ⟨y, hy⟩ : ∃ y, l[k].2 = y := ⟨_, rfl⟩
        rw [hp] at hc0 hcv
        rw [hy] at hc1 hcv hs
        have HP := Lib.hid hp; clear hp hy
        cases hi : isB y with
        | false =>
          go_wp2_with (first
            | (go_at_call 12; refine (is_any _ _).mono ?_; rintro e w' ⟨rfl, rfl⟩)
            | (go_at_call 13; refine (fit_any _ _ _).mono ?_; rintro e w' ⟨rfl, rfl⟩)
            | (go_at_call 17; refine (covers_any _ _ _).mono ?_; rintro e w' ⟨rfl, rfl⟩))
          go_ret
          exact ⟨rfl, HB2.out⟩
        | true =>
          by_cases hne : p = -1000000
          · have hn : (p == -1000000) = true := by simpa using hne
            clear hne
            go_wp2_with (first
            | (go_at_call 12; refine (is_any _ _).mono ?_; rintro e w' ⟨rfl, rfl⟩)
            | (go_at_call 13; refine (fit_any _ _ _).mono ?_; rintro e w' ⟨rfl, rfl⟩)
            | (go_at_call 17; refine (covers_any _ _ _).mono ?_; rintro e w' ⟨rfl, rfl⟩))
            go_ret
            exact ⟨rfl, HB2.out⟩
          · have hn : (p == -1000000) = false := by simpa using hne
            have HNe := Lib.hid hne; clear hne
            have hcov := hcv.out HNe.out hi
            have hkey : (fitB A x = false) ∨ (fitB A x = true ∧ fitB y x = true) := by
              cases hfx : fitB A x
              · exact .inl rfl
              · exact .inr ⟨rfl, fit_less hcov hfx⟩
            obtain ⟨s0, hs0⟩ : ∃ s, someK l A k = s := ⟨_, rfl⟩
            rw [hs0] at hs
            rw [hs0]
            clear hs0
            rcases hkey with hk1 | ⟨hk1, hk2⟩ <;> cases s0 <;> cases hya : (y == A)
            all_goals
              rw [hya] at hs
              go_wp2_with (first
                | (go_at_call 12; refine (is_any _ _).mono ?_; rintro e w' ⟨rfl, rfl⟩)
                | (go_at_call 13; refine (fit_any _ _ _).mono ?_; rintro e w' ⟨rfl, rfl⟩)
                | (go_at_call 17; refine (covers_any _ _ _).mono ?_; rintro e w' ⟨rfl, rfl⟩))
              go_round
              case rel =>
                refine ⟨k + 1, by omega, by go_num, by rw [hs.out]; rfl, fun j h hj => ?_⟩
                by_cases e : j = k
                · subst e; rw [HP.out]; exact HNe.out
                · exact HN.out j h (by omega)
              case measure => simp [intOf]; omega
      · have h1 := hend.out k (by omega)
        have h2 : coversB A R = true := hcr.out (fun j h => HN.out j h (by omega))
        go_wp2_with (go_at_call 17; refine (covers_any _ _ _).mono ?_; rintro e w' ⟨rfl, rfl⟩)
        go_ret
        exact ⟨rfl, HB2.out⟩
end Go.Proofs.Ytaooimlannbenaa
