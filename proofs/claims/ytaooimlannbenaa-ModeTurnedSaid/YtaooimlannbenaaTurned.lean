/-
  PROVED HERE: the walk of ModeTurned returns true and writes nothing that was there.
  Conditions: the claims lie in memory as a row of pairs; the number is of the kind int.
-/
import Derived.Test.YtaooimlannbenaaLaid
namespace Go.Proofs.Ytaooimlannbenaa
open Go.RowKit Pm

theorem info24 : (Try.prog.info? 24).map (fun i => (i.zero, i.size, i.bytes)) = some (some (.agg #[.int .i64 0, .int .i64 0]), 2, 16) := by kernel_rfl

/-- claims as cells -/
def pairV : List (Int × Int) → List Value
  | [] => []
  | c :: l => .int .i64 c.1 :: .int .i64 c.2 :: pairV l
theorem pairV_length : ∀ l : List (Int × Int), (pairV l).length = l.length * 2
  | [] => rfl
  | c :: l => by simp only [pairV, List.length_cons, pairV_length l]; omega
theorem pairV_append : ∀ a b : List (Int × Int), pairV (a ++ b) = pairV a ++ pairV b
  | [], _ => rfl
  | c :: a, b => by simp only [List.cons_append, pairV, pairV_append a b]
theorem pairV_get : ∀ (l : List (Int × Int)) (i : Nat) (h : i < l.length), (pairV l)[i * 2]? = some (.int .i64 l[i].1) ∧ (pairV l)[i * 2 + 1]? = some (.int .i64 l[i].2)
  | c :: l, 0, _ => ⟨rfl, rfl⟩
  | c :: l, i + 1, h => by
    have ih := pairV_get l i (by simpa using h)
    rw [show (i + 1) * 2 = i * 2 + 1 + 1 from by omega]
    simp only [pairV, List.getElem?_cons_succ, List.getElem_cons_succ]
    exact ih

theorem own_claims {w : World} {B n : Nat} {v : Value} {l : List (Int × Int)} (hown : w.ownsRow B 24 2 v n (pairV l)) :
    n = l.length ∧ ∃ a cap, v = .slice a n cap ∧ IsClaims w a n l ∧ n ≤ cap ∧ cap ≤ maxLen := by
  have hn : n = l.length := by have := hown.1; rw [pairV_length] at this; omega
  have hcs := hown
  obtain ⟨_, ⟨rfl, h0⟩ | ⟨g, cp, cur, rfl, _, hg, hle, hcap, _, _⟩⟩ := hown
  · subst h0
    refine ⟨hn, none, 0, rfl, .inl ⟨rfl, List.length_eq_zero_iff.1 hn.symm⟩, Nat.le_refl _, Nat.zero_le _⟩
  · refine ⟨hn, some ⟨g, 0, none⟩, cp, rfl, .inr ⟨g, 0, rfl, hn.symm, ?_, fun i hi => ?_⟩, hle, hcap⟩
    · exact (Array.getElem?_eq_some_iff.1 hg).1
    · have hadd : ∀ i, (⟨g, 0, none⟩ : Addr).add i = ⟨g, 0 + i, none⟩ := fun i => by unfold Addr.add; split <;> simp_all
      have h := pairV_get l i hi
      have h0 := hcs.cells rfl (i * 2) _ h.1
      have h1 := hcs.cells rfl (i * 2 + 1) _ h.2
      rw [hadd] at h0 h1
      exact ⟨h0, by rw [Nat.add_assoc]; exact h1⟩

theorem drop_turn (l : List (Int × Int)) (j : Nat) (hj : j < l.length) : pairV (l.drop j).reverse = pairV (l.drop (j + 1)).reverse ++ [.int .i64 l[j].1, .int .i64 l[j].2] := by
  rw [List.drop_eq_getElem_cons hj, List.reverse_cons, pairV_append]; rfl

set_option maxHeartbeats 2000000 in
theorem turned_walk (a : Option Addr) (len cap : Nat) (l0 : List (Int × Int)) (but : Int) (w : World) (hin : ClaimsIn w a len cap l0) (_hb : (Lit.int .i64 but).wf = true) :
    Calls Try.prog 4 #[.slice a len cap, .int .i64 but] w fun e w' => e = .returned (.bool true) ∧ Below w.heap.size w w' := by
  clear _hb
  obtain ⟨i0, hi, hz0, hz1, hz2⟩ := info_parts info24
  have HIn := Lib.hid hin; clear hin
  go_enter Try.func4, Try.ntmps4
  go_wp2_with fail
  refine (awake_any _).mono ?_; rintro e w' ⟨rfl, rfl⟩
  go_wp2_with fail
  refine (few_any cap HIn.out.1 HIn.out.2.1 HIn.out.2.2.1).mono ?_; rintro e w' ⟨n, rfl, hn12, hncap, hcl, _, rfl⟩
  generalize l0.take 12 = l at *
  have HC := Lib.hid hcl; clear hcl
  have hlen : Hid (l.length = n) := by
    rcases HC.out with ⟨h1, h2⟩ | ⟨_, _, _, h, _⟩
    · exact Lib.hid (by rw [h1, h2]; rfl)
    · exact Lib.hid h
  go_wp2_with fail
  go_loopw [7, 8] (fun v i wr => ∃ j : Nat, j ≤ n ∧ i = .int .i64 ((j : Int) - 1) ∧ wr.ownsRow w.heap.size 24 2 v (n - j) (pairV (l.drop j).reverse) ∧ Below w.heap.size w wr) (fun _ i _ => (intOf i + 1).toNat)
  case atStart =>
    refine ⟨n, Nat.le_refl _, rfl, ?_, Below.refl _ _⟩
    rw [Nat.sub_self, List.drop_of_length_le (by rw [hlen.out]; exact Nat.le_refl _)]
    exact World.ownsRow_nil _ _ _ _
  case round =>
    obtain ⟨j, hj, rfl, hown, hbel⟩ := hrel
    have HO := Lib.hid hown; clear hown
    have HB := Lib.hid hbel; clear hbel
    rcases j with _ | j
    · have hd := HO.out
      rw [List.drop_zero, Nat.sub_zero] at hd
      obtain ⟨hnl, a2, cap2, rfl, hcl2, hle2, hmx2⟩ := own_claims hd
      have HC2 := Lib.hid hcl2; clear hcl2 hd
      have hsf : Hid (safeB l.reverse = safeB l) := Lib.hid (by rw [Bool.eq_iff_iff, safeB_true, safeB_true]; exact safe_reverse l)
      have hbs := Lib.hid (best_reverse l but)
      clear hnl
      go_wp2_with fail
      refine (safe_any cap (claims_below HC.out HB.out) (by omega) hncap).mono ?_; rintro e w3 ⟨rfl, hb3⟩
      have HB3 := Lib.hid (HB.out.trans (hb3.mono HB.out.size))
      have HC3 := Lib.hid (claims_below HC2.out hb3); clear hb3
      go_wp2_with fail
      refine (safe_any cap2 HC3.out (by omega) (by omega)).mono ?_; rintro e w4 ⟨rfl, hb4⟩
      rw [hsf.out]
      have HB4 := Lib.hid (HB3.out.trans (hb4.mono HB3.out.size))
      have HC4 := Lib.hid (claims_below HC3.out hb4); clear hb4
      go_wp2_with fail
      refine (strong_any cap but (claims_below HC.out HB4.out) (by omega)).mono ?_; rintro e w5 ⟨rfl, hb5⟩
      have HB5 := Lib.hid (HB4.out.trans (hb5.mono HB4.out.size))
      have HC5 := Lib.hid (claims_below HC4.out hb5); clear hb5
      go_wp2_with fail
      refine (strong_any cap2 but HC5.out (by omega)).mono ?_; rintro e w6 ⟨rfl, hb6⟩
      rw [hbs.out]
      have HB6 := Lib.hid (HB5.out.trans (hb6.mono HB5.out.size)); clear hb6
      go_wp2_with fail
      go_ret
      exact ⟨rfl, HB6.out⟩
    · have hjl : j < l.length := by rw [hlen.out]; omega
      have hcl := claims_below HC.out HB.out
      rcases hcl with ⟨h1, _⟩ | ⟨b, off, rfl, hln, hrow⟩
      · omega
      · have hc := hrow.2 j hjl
        have hc0 := hc.1
        have hc1 := hc.2
        clear hc hrow
        have hjn : j < n := by omega
        have hstep := Lib.hid (drop_turn l j hjl)
        rw [show (((j + 1 : Nat) : Int) - 1) = (j : Int) from by omega]
        have hsz := HB.out.size
        obtain ⟨x, hx⟩ : ∃ x, l[j].1 = x := ⟨_, rfl⟩
        obtain ⟨y, hy⟩ : ∃ y, l[j].2 = y := ⟨_, rfl⟩
        rw [hx] at hc0 hstep
        rw [hy] at hc1 hstep
        clear hx hy hln hjl
        go_wp2_with (at_builtin; refine wpList_append_own _ rfl _ _ 22 rfl w.heap.size 24 i0 (.agg #[.int .i64 0, .int .i64 0]) 2 16 Try.underlying22 hi hz0 hz1 hz2 rfl (by decide) _ _ _ rfl (HO.out.alloc _) ⟨wr.heap.size, 0, none⟩ 1 1 [.int .i64 x, .int .i64 y] rfl rfl ?c1 ?c2 ?c3 ?c4 ?c5 ?_)
        case c1 =>
          intro j u hj
          match j, hj with
          | 0, hj => simp at hj; subst hj; exact cell_new0 wr x y
          | 1, hj => simp at hj; subst hj; exact cell_new1 wr x y
        case c2 => intro u hu; simp at hu; rcases hu with rfl | rfl <;> rfl
        case c3 => unfold maxLen; omega
        case c4 => omega
        case c5 => simp; omega
        · intro v' w1 hown' hgrow _
          rw [← hstep.out, show n - (j + 1) + 1 = n - j from by omega] at hown'
          have HO1 := Lib.hid hown'; clear hown'
          have HB1 := Lib.hid ((HB.out.alloc hsz _).grown hgrow (by simp; omega) (fun j hj => (HO.out.lt j hj).1)); clear hgrow
          go_wp2_with fail
          go_roundw
          case rel => exact ⟨j, by omega, rfl, HO1.out, HB1.out⟩
          case measure => simp [intOf]
end Go.Proofs.Ytaooimlannbenaa
