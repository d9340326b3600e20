/-
  PROVED HERE: calls of the reference's Safe tell whether the claims are safe; nothing that was there is written.
  Conditions: the claims lie in memory as a row of pairs.
-/
import Derived.Test.YtaooimlannbenaaBest
import Derived.Deep.QuietTactic
import Derived.BigQuiet
import Derived.WalkSmall
namespace Go.Proofs.Ytaooimlannbenaa
open Go.RowKit Pm

theorem refFit_same (a b : Int) (w : World) : Calls Try.prog 16 #[.int .i64 a, .int .i64 b] w fun e w' => e = .returned (.bool (fitB a b)) ∧ w' = w :=
  (refFit_any a b w).mono fun _ _ ⟨h1, h2⟩ => ⟨h1, h2.symm⟩

theorem bad_pair {l : List (Int × Int)} {k m : Nat} (hk : k < l.length) (hm : m < k) (h : ¬ okR l[m] l[k]) : ¬ SafeP l := fun hs =>
  h (List.pairwise_iff_getElem.1 hs.2 m k (by omega) hk hm)
theorem safe_more {l : List (Int × Int)} {k : Nat} (hk : k < l.length) (h : SafeP (l.take k)) (h1 : isB l[k].2 = true) (h2 : ∀ c ∈ l.take k, okR c l[k]) : SafeP (l.take (k + 1)) := by
  rw [List.take_succ_eq_append_getElem hk, safe_snoc]; exact ⟨h, h1, h2⟩

set_option maxHeartbeats 1000000 in
theorem refSafe_row (b off cap : Nat) (l : List (Int × Int)) (w : World) (hl : l.length ≤ 1000) (hr : Row w b off l) :
    Calls Try.prog 25 #[.slice (some ⟨b, off, none⟩) l.length cap] w fun e w' => e = .returned (.bool (safeB l)) ∧ Below w.heap.size w w' := by
  have HR := Lib.hid hr; clear hr
  go_enter Try.func25, Try.ntmps25
  go_wp2_with fail
  go_loopw [3] (fun i wr => ∃ k : Nat, k ≤ l.length ∧ i = .int .i64 k ∧ Below w.heap.size w wr ∧ SafeP (l.take k)) (fun i _ => l.length - (intOf i).toNat)
  case atStart => exact ⟨0, Nat.zero_le _, rfl, Below.refl _ _, safe_nil⟩
  case round =>
    obtain ⟨k, hk, rfl, hbel, hsafe⟩ := hrel
    have HB := Lib.hid hbel; clear hbel
    have HS := Lib.hid hsafe; clear hsafe
    by_cases hlt : k < l.length
    · have hrow := row_below HR.out HB.out
      have hc := hrow.2 k hlt
      have hc0 := hc.1
      have hc1 := hc.2
      clear hc
      have HRow := Lib.hid hrow; clear hrow
      cases hi : isB l[k].2 with
      | false =>
        have HF := Lib.hid (safeB_false.2 (bad_mode hlt hi))
        generalize l[k].1 = x at *
        generalize l[k].2 = y at *
        go_wp2_with (go_at_call 15; refine (refIs_any _ _).mono ?_; rintro e w' ⟨rfl, rfl⟩)
        go_ret
        exact ⟨ret_bool HF.out.symm, HB.out⟩
      | true =>
        have HI := Lib.hid hi
        obtain ⟨x, hx⟩ : ∃ x, l[k].1 = x := ⟨_, rfl⟩
        obtain ⟨y, hy⟩ : ∃ y, l[k].2 = y := ⟨_, rfl⟩
        rw [hx] at hc0
        rw [hy] at hc1 hi
        have HX := Lib.hid hx; clear hx
        have HY := Lib.hid hy; clear hy
        go_wp2_with (go_at_call 15; refine (refIs_any _ _).mono ?_; rintro e w' ⟨rfl, rfl⟩)
        obtain ⟨wo, rfl⟩ : ∃ wo : World, wo = wr := ⟨_, rfl⟩
        go_loopw [5] (fun i wi => ∃ m : Nat, m ≤ k ∧ i = .int .i64 m ∧ Below w.heap.size w wi ∧ ∀ c ∈ l.take m, okR c l[k]) (fun i _ => k - (intOf i).toNat)
        case atStart => exact ⟨0, Nat.zero_le _, rfl, HB.out, fun c h => by simp at h⟩
        case round =>
          obtain ⟨m, hm, rfl, hbel, hok⟩ := hrel
          have HBi := Lib.hid hbel; clear hbel
          have HOk := Lib.hid hok; clear hok
          by_cases hml : m < k
          · have hri := row_below HR.out HBi.out
            have hck := hri.2 k hlt
            have hcm := hri.2 m (by omega)
            rw [HX.out, HY.out] at hck
            have d0 := hck.1
            have d1 := hck.2
            have e0 := hcm.1
            have e1 := hcm.2
            clear hck hcm hc0 hc1 hri
            have hmm : m < l.length := by omega
            have iz : (0 : Int) ≤ (k : Int) := by omega
            have ik : (k : Int) < (l.length : Int) := by omega
            have jz : (0 : Int) ≤ (m : Int) := by omega
            have jk : (m : Int) < (l.length : Int) := by omega
            obtain ⟨p, hp⟩ : ∃ p, l[m].1 = p := ⟨_, rfl⟩
            obtain ⟨q, hq⟩ : ∃ q, l[m].2 = q := ⟨_, rfl⟩
            rw [hp] at e0
            rw [hq] at e1
            have HP := Lib.hid hp; clear hp
            have HQ := Lib.hid hq; clear hq
            have hkey : ((x == p) = true ∧ Hid (¬ okR l[m] l[k])) ∨ ((x == p) = false ∧ fitB y q = false ∧ Hid (¬ okR l[m] l[k])) ∨ ((x == p) = false ∧ fitB y q = true ∧ Hid (okR l[m] l[k])) := by
              unfold okR
              rw [HP.out, HQ.out, HX.out, HY.out, fitB_comm q y]
              by_cases e : x = p
              · exact .inl ⟨by simpa using e, Lib.hid (fun h => h.1 e.symm)⟩
              · have e' : (x == p) = false := by simpa using e
                cases hf : fitB y q
                · exact .inr (.inl ⟨e', rfl, Lib.hid (fun h => by cases h.2)⟩)
                · exact .inr (.inr ⟨e', rfl, Lib.hid ⟨fun h => e h.symm, rfl⟩⟩)
            rcases hkey with ⟨g1, g2⟩ | ⟨g1, g2, g3⟩ | ⟨g1, g2, g3⟩
            · go_wp2_with fail
              go_quiet ((go_at_call 16; exact Calls.quiet_of_same (refFit_same _ _ _)))
              go_wp2_with fail
              go_quiet (fail)
              go_wp2_with fail
              go_ret
              exact ⟨ret_bool (safeB_false.2 (bad_pair hlt hml g2.out)).symm, below_drewN (below_drewN HBi.out _) _⟩
            · go_wp2_with fail
              go_quiet ((go_at_call 16; exact Calls.quiet_of_same (refFit_same _ _ _)))
              go_wp2_with fail
              go_quiet (fail)
              go_wp2_with fail
              go_ret
              exact ⟨ret_bool (safeB_false.2 (bad_pair hlt hml g3.out)).symm, below_drewN (below_drewN HBi.out _) _⟩
            · go_wp2_with fail
              go_quiet ((go_at_call 16; exact Calls.quiet_of_same (refFit_same _ _ _)))
              go_wp2_with fail
              go_quiet (fail)
              go_wp2_with fail
              go_roundw
              case rel =>
                refine ⟨m + 1, by omega, by go_num, below_drewN HBi.out _, fun c hc => ?_⟩
                rw [List.take_succ_eq_append_getElem hmm] at hc
                rcases List.mem_append.1 hc with h | h
                · exact HOk.out c h
                · simp at h; subst h; exact g3.out
              case measure => simp [intOf]; omega
          · obtain rfl : m = k := by omega
            have HF := Lib.hid (safe_more hlt HS.out HI.out HOk.out)
            go_wp2_with fail
            go_roundw
            case rel => exact ⟨m + 1, by omega, by go_num, HBi.out, HF.out⟩
            case measure => simp [intOf]; omega
    · have hf : Hid (safeB l = true) := Lib.hid (safeB_true.2 (by have := HS.out; rwa [List.take_of_length_le (by omega)] at this))
      go_wp2_with fail
      go_ret
      exact ⟨ret_bool hf.out.symm, HB.out⟩

set_option maxHeartbeats 400000 in
theorem refSafe_none (a : Option Addr) (cap : Nat) (w : World) : Calls Try.prog 25 #[.slice a 0 cap] w fun e w' => e = .returned (.bool true) ∧ Below w.heap.size w w' := by
  go_enter Try.func25, Try.ntmps25
  go_wp2_with fail
  refine wp_loop_rounds 1 ?_
  rw [rounds_succ]
  go_wp2_with fail
  go_ret
  exact ⟨rfl, Below.refl _ _⟩
theorem refSafe_any {w : World} {a : Option Addr} {len : Nat} {l : List (Int × Int)} (cap : Nat) (h : IsClaims w a len l) (hl : len ≤ 1000) :
    Calls Try.prog 25 #[.slice a len cap] w fun e w' => e = .returned (.bool (safeB l)) ∧ Below w.heap.size w w' := by
  rcases h with ⟨rfl, rfl⟩ | ⟨b, off, rfl, rfl, hr⟩
  · rw [safeB_true.2 safe_nil]; exact refSafe_none a cap w
  · exact refSafe_row b off cap l w hl hr
end Go.Proofs.Ytaooimlannbenaa
