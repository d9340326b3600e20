/-
  PROVED HERE: calls of mode.Strongest and of the reference's tell the strongest mode of the others' claims; nothing that was there is written.
  Conditions: the claims lie in memory as a row of pairs.
-/
import Derived.Test.YtaooimlannbenaaSafe
namespace Go.Proofs.Ytaooimlannbenaa
open Go.RowKit Pm

theorem best_same {but t x y : Int} (h : x = but ∨ isB y = false) : bestStep but t (x, y) = t := by
  unfold bestStep
  rw [if_neg]
  rintro ⟨h1, h2⟩
  rcases h with h | h
  · exact h1 h
  · rw [h] at h2; cases h2
theorem best_more {but t x y : Int} (h1 : x ≠ but) (h2 : isB y = true) (h3 : t ≤ y) : bestStep but t (x, y) = y := by
  unfold bestStep; rw [if_pos ⟨h1, h2⟩, if_pos h3]
theorem best_less {but t x y : Int} (h1 : x ≠ but) (h2 : isB y = true) (h3 : ¬ t ≤ y) : bestStep but t (x, y) = t := by
  unfold bestStep; rw [if_pos ⟨h1, h2⟩, if_neg h3]

set_option maxHeartbeats 800000 in
theorem strong_row (b off cap : Nat) (l : List (Int × Int)) (but : Int) (w : World) (hl : l.length ≤ 1000) (hr : Row w b off l) :
    Calls Try.prog 14 #[.slice (some ⟨b, off, none⟩) l.length cap, .int .i64 but] w fun e w' => e = .returned (.int .i64 (best l but)) ∧ Below w.heap.size w w' := by
  have HR := Lib.hid hr; clear hr
  go_enter Try.func14, Try.ntmps14
  go_wp2_with fail
  go_loopw [5, 10] (fun t i wr => ∃ k : Nat, k ≤ l.length ∧ i = .int .i64 k ∧ t = .int .i64 (best (l.take k) but) ∧ Below w.heap.size w wr) (fun _ i _ => l.length - (intOf i).toNat)
  case atStart => exact ⟨0, Nat.zero_le _, rfl, rfl, Below.refl _ _⟩
  case round =>
    obtain ⟨k, hk, rfl, rfl, hbel⟩ := hrel
    have HB := Lib.hid hbel; clear hbel
    by_cases hlt : k < l.length
    · have hrow := row_below HR.out HB.out
      have hc := hrow.2 k hlt
      have hc0 := hc.1
      have hc1 := hc.2
      clear hc hrow
      have hs : Hid (best (l.take (k + 1)) but = bestStep but (best (l.take k) but) (l[k].1, l[k].2)) := Lib.hid (best_take l but k hlt)
      generalize best (l.take k) but = t at *
      generalize l[k].1 = x at *
      generalize l[k].2 = y at *
      by_cases hx : x = but
      · have hu := Lib.hid (best_same (t := t) (y := y) (.inl hx))
        have hxb : (x != but) = false := by simpa using hx
        clear hx
        go_wp2_with fail
        go_roundw
        case rel => exact ⟨k + 1, by omega, by go_num, by rw [hs.out, hu.out], below_alloc HB.out _⟩
        case measure => simp [intOf]; omega
      · have hxb : (x != but) = true := by simpa using hx
        have HX := Lib.hid hx; clear hx
        cases hi : isB y with
        | false =>
          have hu := Lib.hid (best_same (t := t) (x := x) (but := but) (.inr hi))
          go_wp2_with (go_at_call 12; refine (is_any _ _).mono ?_; rintro e w' ⟨rfl, rfl⟩)
          go_roundw
          case rel => exact ⟨k + 1, by omega, by go_num, by rw [hs.out, hu.out], below_alloc HB.out _⟩
          case measure => simp [intOf]; omega
        | true =>
          have HI := Lib.hid hi
          go_wp2_with (go_at_call 12; refine (is_any _ _).mono ?_; rintro e w' ⟨rfl, rfl⟩)
          go_roundw
          case rel =>
            refine ⟨k + 1, by omega, by go_num, ?_, below_alloc HB.out _⟩
            rw [hs.out]
            by_cases hle : t ≤ y
            · rw [best_more HX.out HI.out hle]
              split
              · rfl
              · go_num
            · rw [best_less HX.out HI.out hle, if_neg (by omega)]
          case measure => simp [intOf]; omega
    · have hf : Hid (best l but = best (l.take k) but) := Lib.hid (by rw [List.take_of_length_le (by omega)])
      generalize best (l.take k) but = t at *
      go_wp2_with fail
      go_ret
      exact ⟨ret_i64 hf.out.symm, HB.out⟩

set_option maxHeartbeats 400000 in
theorem strong_none (a : Option Addr) (cap : Nat) (but : Int) (w : World) : Calls Try.prog 14 #[.slice a 0 cap, .int .i64 but] w fun e w' => e = .returned (.int .i64 0) ∧ Below w.heap.size w w' := by
  go_enter Try.func14, Try.ntmps14
  go_wp2_with fail
  refine wp_loop_rounds 1 ?_
  rw [rounds_succ]
  go_wp2_with fail
  go_ret
  exact ⟨rfl, Below.refl _ _⟩

set_option maxHeartbeats 800000 in
theorem refStrong_row (b off cap : Nat) (l : List (Int × Int)) (but : Int) (w : World) (hl : l.length ≤ 1000) (hr : Row w b off l) :
    Calls Try.prog 26 #[.slice (some ⟨b, off, none⟩) l.length cap, .int .i64 but] w fun e w' => e = .returned (.int .i64 (best l but)) ∧ w = w' := by
  have HR := Lib.hid hr; clear hr
  go_enter Try.func26, Try.ntmps26
  go_wp2_with fail
  go_loop [5, 6] (fun t i => ∃ k : Nat, k ≤ l.length ∧ i = .int .i64 k ∧ t = .int .i64 (best (l.take k) but)) (fun _ i => l.length - (intOf i).toNat)
  case atStart => exact ⟨0, Nat.zero_le _, rfl, rfl⟩
  case round =>
    obtain ⟨k, hk, rfl, rfl⟩ := hrel
    by_cases hlt : k < l.length
    · have hc := HR.out.2 k hlt
      have hc0 := hc.1
      have hc1 := hc.2
      clear hc
      have hs : Hid (best (l.take (k + 1)) but = bestStep but (best (l.take k) but) (l[k].1, l[k].2)) := Lib.hid (best_take l but k hlt)
      generalize best (l.take k) but = t at *
      generalize l[k].1 = x at *
      generalize l[k].2 = y at *
      cases hi : isB y with
      | false =>
        have hu := Lib.hid (best_same (t := t) (x := x) (but := but) (.inr hi))
        go_wp2_with (go_at_call 15; refine (refIs_any _ _).mono ?_; rintro e w' ⟨rfl, rfl⟩)
        go_round
        case rel => exact ⟨k + 1, by omega, by go_num, by rw [hs.out, hu.out]⟩
        case measure => simp [intOf]; omega
      | true =>
        have HI := Lib.hid hi
        by_cases hx : x = but
        · have hu := Lib.hid (best_same (t := t) (y := y) (.inl hx))
          have hxb : (x != but) = false := by simpa using hx
          clear hx
          go_wp2_with (go_at_call 15; refine (refIs_any _ _).mono ?_; rintro e w' ⟨rfl, rfl⟩)
          go_round
          case rel => exact ⟨k + 1, by omega, by go_num, by rw [hs.out, hu.out]⟩
          case measure => simp [intOf]; omega
        · have hxb : (x != but) = true := by simpa using hx
          have HX := Lib.hid hx; clear hx
          by_cases hgt : t < y
          · go_wp2_with (go_at_call 15; refine (refIs_any _ _).mono ?_; rintro e w' ⟨rfl, rfl⟩)
            go_round
            case rel => exact ⟨k + 1, by omega, by go_num, by rw [hs.out, best_more HX.out HI.out (by omega)]⟩
            case measure => simp [intOf]; omega
          · go_wp2_with (go_at_call 15; refine (refIs_any _ _).mono ?_; rintro e w' ⟨rfl, rfl⟩)
            go_round
            case rel =>
              refine ⟨k + 1, by omega, by go_num, ?_⟩
              rw [hs.out]
              by_cases hle : t ≤ y
              · rw [best_more HX.out HI.out hle]; go_num
              · rw [best_less HX.out HI.out hle]
            case measure => simp [intOf]; omega
    · have hf : Hid (best l but = best (l.take k) but) := Lib.hid (by rw [List.take_of_length_le (by omega)])
      generalize best (l.take k) but = t at *
      go_wp2_with fail
      go_ret
      exact ⟨ret_i64 hf.out.symm, rfl⟩

set_option maxHeartbeats 400000 in
theorem refStrong_none (a : Option Addr) (cap : Nat) (but : Int) (w : World) : Calls Try.prog 26 #[.slice a 0 cap, .int .i64 but] w fun e w' => e = .returned (.int .i64 0) ∧ w = w' := by
  go_enter Try.func26, Try.ntmps26
  go_wp2_with fail
  refine wp_loop_rounds 1 ?_
  rw [rounds_succ]
  go_wp2_with fail
  go_ret
  exact ⟨rfl, rfl⟩

/-- claims that came in -/
def IsClaims (w : World) (a : Option Addr) (len : Nat) (l : List (Int × Int)) : Prop :=
  (len = 0 ∧ l = []) ∨ ∃ b off, a = some ⟨b, off, none⟩ ∧ l.length = len ∧ Row w b off l
theorem claims_below {w w' : World} {a : Option Addr} {len : Nat} {l : List (Int × Int)} (h : IsClaims w a len l) (hb : Below w.heap.size w w') : IsClaims w' a len l := by
  rcases h with h | ⟨b, off, rfl, rfl, hr⟩
  · exact .inl h
  · exact .inr ⟨b, off, rfl, rfl, row_below hr hb⟩
theorem safe_any {w : World} {a : Option Addr} {len : Nat} {l : List (Int × Int)} (cap : Nat) (h : IsClaims w a len l) (hl : len ≤ 1000) (hcap : len ≤ cap) :
    Calls Try.prog 11 #[.slice a len cap] w fun e w' => e = .returned (.bool (safeB l)) ∧ Below w.heap.size w w' := by
  rcases h with ⟨rfl, rfl⟩ | ⟨b, off, rfl, rfl, hr⟩
  · rw [safeB_true.2 safe_nil]; exact safe_none a cap w
  · exact safe_row b off cap l w hl hcap hr
theorem strong_any {w : World} {a : Option Addr} {len : Nat} {l : List (Int × Int)} (cap : Nat) (but : Int) (h : IsClaims w a len l) (hl : len ≤ 1000) :
    Calls Try.prog 14 #[.slice a len cap, .int .i64 but] w fun e w' => e = .returned (.int .i64 (best l but)) ∧ Below w.heap.size w w' := by
  rcases h with ⟨rfl, rfl⟩ | ⟨b, off, rfl, rfl, hr⟩
  · exact strong_none a cap but w
  · exact strong_row b off cap l but w hl hr
theorem refStrong_any {w : World} {a : Option Addr} {len : Nat} {l : List (Int × Int)} (cap : Nat) (but : Int) (h : IsClaims w a len l) (hl : len ≤ 1000) :
    Calls Try.prog 26 #[.slice a len cap, .int .i64 but] w fun e w' => e = .returned (.int .i64 (best l but)) ∧ w = w' := by
  rcases h with ⟨rfl, rfl⟩ | ⟨b, off, rfl, rfl, hr⟩
  · exact refStrong_none a cap but w
  · exact refStrong_row b off cap l but w hl hr

/-- what 'few' tells: at most the first 12 claims, where they lie -/
def FewOf (a : Option Addr) (len cap : Nat) (l : List (Int × Int)) (w : World) (e : Ending) (w' : World) : Prop :=
  ∃ len', e = .returned (.slice a len' cap) ∧ len' ≤ 12 ∧ len' ≤ cap ∧ IsClaims w a len' (l.take 12) ∧ len' ≤ len ∧ w = w'

set_option maxHeartbeats 400000 in
theorem few_any {w : World} {a : Option Addr} {len : Nat} {l : List (Int × Int)} (cap : Nat) (h : IsClaims w a len l) (hcap : len ≤ cap) (hmax : cap ≤ maxLen) :
    Calls Try.prog 10 #[.slice a len cap] w (FewOf a len cap l w) := by
  unfold maxLen at hmax
  rcases h with ⟨rfl, rfl⟩ | ⟨b, off, rfl, rfl, hr⟩
  · go_enter Try.func10, Try.ntmps10
    go_wp2_with fail
    go_ret
    exact ⟨0, rfl, by omega, by omega, .inl ⟨rfl, by simp⟩, Nat.le_refl _, rfl⟩
  · have HR := Lib.hid hr; clear hr
    by_cases hlt : 12 < l.length
    · go_enter Try.func10, Try.ntmps10
      go_wp2_with fail
      go_ret
      refine ⟨12, rfl, by omega, by omega, .inr ⟨b, off, rfl, by simp; omega, row_take HR.out 12⟩, by omega, rfl⟩
    · go_enter Try.func10, Try.ntmps10
      go_wp2_with fail
      go_ret
      refine ⟨l.length, rfl, by omega, by omega, .inr ⟨b, off, rfl, by simp; omega, row_take HR.out 12⟩, by omega, rfl⟩
end Go.Proofs.Ytaooimlannbenaa
