/-
  PROVED HERE: the walk of ModeSafe returns true and writes nothing that was there.
  Conditions: the claims lie in memory as a row of pairs; the one more is a pair of numbers of the kind int.
-/
import Derived.Test.YtaooimlannbenaaTurned
import Derived.Test.YtaooimlannbenaaRefSafe
import Derived.Lib.QuietBelow
import Derived.OwnWalk
import Derived.Deep.DeepCutAuto
import Derived.Laws.AppendOwnNone
namespace Go.Proofs.Ytaooimlannbenaa
open Go.RowKit Go.Sort Pm

/-- how many have the strongest mode; how many have some -/
def al (l : List (Int × Int)) : Nat := (l.filter fun c => c.2 == 2).length
def so (l : List (Int × Int)) : Nat := (l.filter fun c => c.2 != 0).length
theorem al_take (l : List (Int × Int)) (k : Nat) (hk : k < l.length) : al (l.take (k + 1)) = al (l.take k) + (if l[k].2 == 2 then 1 else 0) := by
  unfold al; rw [List.take_succ_eq_append_getElem hk, List.filter_append, List.length_append]
  by_cases h : (l[k].2 == 2) = true <;> simp [h]
theorem so_take (l : List (Int × Int)) (k : Nat) (hk : k < l.length) : so (l.take (k + 1)) = so (l.take k) + (if l[k].2 != 0 then 1 else 0) := by
  unfold so; rw [List.take_succ_eq_append_getElem hk, List.filter_append, List.length_append]
  by_cases h : (l[k].2 != 0) = true <;> simp [h]
theorem any_take (l : List (Int × Int)) (n : Int) (k : Nat) (hk : k < l.length) : (l.take (k + 1)).any (fun c => c.1 == n) = ((l.take k).any (fun c => c.1 == n) || (l[k].1 == n)) := by
  rw [List.take_succ_eq_append_getElem hk, List.any_append]; simp

theorem counts : ∀ l : List (Int × Int), SafeP l → al l ≤ 1 ∧ (al l = 1 → so l ≤ 1)
  | [], _ => ⟨Nat.zero_le _, fun h => by simp [al] at h⟩
  | c :: l, h => by
    have ih := counts l (safe_tail h)
    have hp := (List.pairwise_cons.1 h.2).1
    by_cases h2 : c.2 = 2
    · have hz : ∀ d ∈ l, d.2 = 0 := fun d hd => by
        have := fitB_true.1 (hp d hd).2
        omega
      have e1 : (l.filter fun c => c.2 == 2) = [] := by
        rw [List.filter_eq_nil_iff]; intro d hd; simp [hz d hd]
      have e2 : (l.filter fun c => c.2 != 0) = [] := by
        rw [List.filter_eq_nil_iff]; intro d hd; simp [hz d hd]
      unfold al so
      simp [h2, e1, e2]
    · have e0 : al (c :: l) = al l := by unfold al; simp [h2]
      rw [e0]
      refine ⟨ih.1, fun h1 => ?_⟩
      have hex : ∃ d ∈ l, d.2 = 2 := by
        unfold al at h1
        obtain ⟨d, hd⟩ := List.exists_mem_of_length_pos (by omega : 0 < (l.filter fun c => c.2 == 2).length)
        obtain ⟨hm, hv⟩ := List.mem_filter.1 hd
        exact ⟨d, hm, by simpa using hv⟩
      obtain ⟨d, hd, hd2⟩ := hex
      have hf := fitB_true.1 (hp d hd).2
      have hc0 : c.2 = 0 := by omega
      have e3 : so (c :: l) = so l := by unfold so; simp [hc0]
      rw [e3]; exact ih.2 h1

/-- one more may be put in just if its node is not there, its mode is a mode, and it fits the strongest one -/
theorem safe_with {l : List (Int × Int)} (h : SafeP l) (n m : Int) :
    safeB (l ++ [(n, m)]) = (!(l.any fun c => c.1 == n) && (isB m && fitB (best l n) m)) := by
  rw [Bool.eq_iff_iff, safeB_true, safe_snoc]
  simp only [Bool.and_eq_true, Bool.not_eq_true']
  constructor
  · rintro ⟨_, hm, hok⟩
    have hnode : (l.any fun c => c.1 == n) = false := by
      rw [List.any_eq_false]; intro c hc; simpa using (hok c hc).1
    refine ⟨hnode, hm, ?_⟩
    obtain ⟨b0, _, _, b3⟩ := best_facts l n
    have hmm := isB_true.1 hm
    rcases b3 with e | ⟨c, hc, _, _, e⟩
    · rw [e, fitB_true]; omega
    · rw [e]; exact (hok c hc).2
  · rintro ⟨hnode, hm, hf⟩
    refine ⟨h, hm, fun c hc => ?_⟩
    have hcn : c.1 ≠ n := by
      have := List.any_eq_false.1 hnode c hc
      simpa using this
    obtain ⟨_, _, b2, _⟩ := best_facts l n
    have hi := h.1 c hc
    have hle := b2 c hc hcn hi
    have hci := isB_true.1 hi
    refine ⟨hcn, ?_⟩
    rw [fitB_true] at hf ⊢
    omega

theorem row_tail {w : World} {b off : Nat} {c : Int × Int} {l : List (Int × Int)} (h : Row w b off (c :: l)) : Row w b (off + 2) l :=
  ⟨h.1, fun i hi => by
    have := h.2 (i + 1) (by simp; omega)
    rw [show off + (i + 1) * 2 = off + 2 + i * 2 from by omega] at this
    simpa using this⟩

theorem row_news {w : World} {b off : Nat} {l : List (Int × Int)} (h : Row w b off l) : ∀ j u, (pairV l)[j]? = some u → w.cell? ((⟨b, off, none⟩ : Addr).add j) = some u := fun j u hu => by
  have hadd : (⟨b, off, none⟩ : Addr).add j = ⟨b, off + j, none⟩ := by unfold Addr.add; split <;> simp_all
  rw [hadd]
  have hj : j < (pairV l).length := (List.getElem?_eq_some_iff.1 hu).1
  rw [pairV_length] at hj
  have hi : j / 2 < l.length := by omega
  have hg := pairV_get l (j / 2) hi
  have hc := h.2 (j / 2) hi
  rcases Nat.mod_two_eq_zero_or_one j with hm | hm
  · have ej : j = j / 2 * 2 := by omega
    have e1 := hg.1
    rw [← ej, hu] at e1
    have e2 := hc.1
    rw [← ej] at e2
    rw [e2, e1]
  · have ej : j = j / 2 * 2 + 1 := by omega
    have e1 := hg.2
    rw [← ej, hu] at e1
    have e2 := hc.2
    rw [Nat.add_assoc, ← ej] at e2
    rw [e2, e1]
theorem pairV_one : ∀ l : List (Int × Int), ∀ u ∈ pairV l, u.oneCell' = true
  | [], _, h => by simp [pairV] at h
  | c :: l, u, h => by
    simp only [pairV, List.mem_cons] at h
    rcases h with rfl | rfl | h
    · rfl
    · rfl
    · exact pairV_one l u h

/-- append(v, c...), v the call's own, c claims wherever they lie -/
theorem wpList_append_claims {w : World} {ops : Array Oper} {rest : List Oper} {o : Oper} {a : Act} {Q : Exit → Act → World → Prop} (hgd : o.guard = none) (s x : Operand)
    (ho : o.op = .call { callee := .builtin .append, args := #[s, x], argTypes := #[22, 22] }) (base : Nat) (v : Value) (n : Nat) (xs : List Value) (hs : a.eval s = v) (hown : w.ownsRow base 24 2 v n xs)
    (ad : Option Addr) (len cap : Nat) (l : List (Int × Int)) (hx : a.eval x = .slice ad len cap) (hcl : IsClaims w ad len l) (hnone : ad = none → cap = 0) (hn : n ≤ 100) (hlen : len ≤ 100) (hbase : base ≤ w.heap.size)
    (h : ∀ v' w', w'.ownsRow base 24 2 v' (n + len) (xs ++ pairV l) → w.grownBy w' v.ownBlock → wpList Try.prog ops Q rest (a.put o.dst v') w') : wpList Try.prog ops Q (o :: rest) a w := by
  obtain ⟨i0, hi, hz0, hz1, hz2⟩ := info_parts info24
  rcases hcl with ⟨rfl, rfl⟩ | ⟨b, off, rfl, rfl, hr⟩
  · cases ad with
    | none =>
      rw [hnone rfl] at hx
      refine wpList_append_own_none hgd s x 22 ho base 24 i0 2 Try.underlying22 hi v n xs hs hown hx ?_
      refine h v w (by simpa [pairV] using hown) ⟨rfl, rfl, rfl, Nat.le_refl _, fun _ _ _ => rfl⟩
    | some ad =>
      refine wpList_append_own w hgd s x 22 ho base 24 i0 (.agg #[.int .i64 0, .int .i64 0]) 2 16 Try.underlying22 hi hz0 hz1 hz2 rfl (by decide) v n xs hs hown ad 0 cap [] hx rfl (fun j u hj => by simp at hj) (fun u hu => by simp at hu) (by unfold maxLen; omega) (by omega) hbase ?_
      intro v' w' h1 h2 _
      exact h v' w' h1 h2
  · refine wpList_append_own w hgd s x 22 ho base 24 i0 (.agg #[.int .i64 0, .int .i64 0]) 2 16 Try.underlying22 hi hz0 hz1 hz2 rfl (by decide) v n xs hs hown ⟨b, off, none⟩ l.length cap (pairV l) hx (pairV_length l) (row_news hr) (pairV_one l) (by unfold maxLen; omega) (by omega) hbase ?_
    intro v' w' h1 h2 _
    exact h v' w' h1 h2

theorem claims_one (w : World) (n m : Int) : IsClaims (w.alloc (.cells #[.int .i64 n, .int .i64 m] 24)) (some ⟨w.heap.size, 0, none⟩) 1 [(n, m)] :=
  .inr ⟨w.heap.size, 0, rfl, rfl, by simp, fun i hi => by
    obtain rfl : i = 0 := by simp at hi; omega
    exact ⟨cell_new0 w n m, cell_new1 w n m⟩⟩

theorem below_of_drew {w w' : World} (h : Below w.drew.heap.size w.drew w') : Below w.heap.size w w' := (Below.drew (Below.refl w.heap.size w)).trans h

set_option maxRecDepth 100000 in
set_option maxHeartbeats 4000000 in
theorem safe_walk (a : Option Addr) (len cap : Nat) (l0 : List (Int × Int)) (nd md : Int) (w : World) (hin : ClaimsIn w a len cap l0) (_hn : (Lit.int .i64 nd).wf = true) (_hm : (Lit.int .i64 md).wf = true) :
    Calls Try.prog 3 #[.slice a len cap, .agg #[.int .i64 nd, .int .i64 md]] w fun e w' => e = .returned (.bool true) ∧ Below w.heap.size w w' := by
  clear _hn _hm
  have HIn := Lib.hid hin; clear hin
  go_enter Try.func3, Try.ntmps3
  go_wp2_with fail
  obtain ⟨w0, hw0⟩ : ∃ w0, w.alloc (.cells #[.int .i64 nd, .int .i64 md] 24) = w0 := ⟨_, rfl⟩
  have HB0 : Hid (Below w.heap.size w w0) := Lib.hid (by rw [← hw0]; exact below_alloc (Below.refl _ _) _)
  have HN0 : Hid (w0.cell? ⟨w.heap.size, 0, none⟩ = some (.int .i64 nd)) := Lib.hid (by rw [← hw0]; exact cell_new0 w nd md)
  have HM0 : Hid (w0.cell? ⟨w.heap.size, 1, none⟩ = some (.int .i64 md)) := Lib.hid (by rw [← hw0]; exact cell_new1 w nd md)
  have HZ0 : Hid (w.heap.size < w0.heap.size) := Lib.hid (World.block_lt_of_cell? w0 _ HN0.out)
  rw [hw0]
  clear hw0
  refine (awake_any _).mono ?_; rintro e w' ⟨rfl, rfl⟩
  go_wp2_with fail
  refine (few_any cap (claims_below HIn.out.1 HB0.out) HIn.out.2.1 HIn.out.2.2.1).mono ?_; rintro e w' ⟨n, rfl, hn12, hncap, hcl, _, rfl⟩
  generalize l0.take 12 = l at *
  have HC := Lib.hid hcl; clear hcl
  have hlen : Hid (l.length = n) := by
    rcases HC.out with ⟨h1, h2⟩ | ⟨_, _, _, h, _⟩
    · exact Lib.hid (by rw [h1, h2]; rfl)
    · exact Lib.hid h
  go_wp2_with fail
  refine (safe_any cap HC.out (by omega) hncap).mono ?_; rintro e w1 ⟨rfl, hb1⟩
  have HB1 := Lib.hid hb1; clear hb1
  cases hsafe : safeB l with
  | false =>
    go_wp2_with fail
    go_ret
    exact ⟨rfl, HB0.out.trans (HB1.out.mono HB0.out.size)⟩
  | true =>
    have HS := Lib.hid (safeB_true.1 hsafe)
    go_wp2_with fail
    go_loopw [7, 8, 9, 10] (fun p q r i wr => ∃ k : Nat, k ≤ n ∧ i = .int .i64 k ∧ p = .int .i64 (al (l.take k)) ∧ q = .int .i64 (so (l.take k)) ∧ r = .bool ((l.take k).any fun c => c.1 == nd) ∧ Below w0.heap.size w0 wr) (fun _ _ _ i _ => n - (intOf i).toNat)
    case atStart => exact ⟨0, Nat.zero_le _, rfl, rfl, rfl, rfl, HB1.out⟩
    case round =>
      obtain ⟨k, hk, rfl, rfl, rfl, rfl, hbel⟩ := hrel
      have HB := Lib.hid hbel; clear hbel
      by_cases hlt : k < n
      · have hkl : k < l.length := by rw [hlen.out]; exact hlt
        have hcr := claims_below HC.out HB.out
        rcases hcr with ⟨h1, _⟩ | ⟨b, off, rfl, hln, hrow⟩
        · omega
        · have hc := hrow.2 k hkl
          have hc0 := hc.1
          have hc1 := hc.2
          have hn0 := (HB.out.cell (p := ⟨w.heap.size, 0, none⟩) HZ0.out).trans HN0.out
          have h1 := Lib.hid (al_take l k hkl)
          have h2 := Lib.hid (so_take l k hkl)
          have h3 := Lib.hid (any_take l nd k hkl)
          have ha : al (l.take k) ≤ 12 := by unfold al; exact Nat.le_trans (List.length_filter_le _ _) (by simp; omega)
          have hs : so (l.take k) ≤ 12 := by unfold so; exact Nat.le_trans (List.length_filter_le _ _) (by simp; omega)
          generalize al (l.take k) = A at *
          generalize so (l.take k) = S at *
          generalize (l.take k).any (fun c => c.1 == nd) = T at *
          generalize l[k].1 = x at *
          generalize l[k].2 = y at *
          clear hc hrow hln hkl
          have iz : (0 : Int) ≤ (k : Int) := by omega
          have ik : (k : Int) < (n : Int) := by omega
          have hcase : ((y == 2) = true ∧ (y != 0) = true) ∨ ((y == 2) = false ∧ (y != 0) = true) ∨ ((y == 2) = false ∧ (y != 0) = false) := by
            by_cases e2 : y = 2
            · subst e2; exact .inl ⟨rfl, rfl⟩
            · by_cases e0 : y = 0
              · subst e0; exact .inr (.inr ⟨rfl, rfl⟩)
              · exact .inr (.inl ⟨by simpa using e2, by simpa using e0⟩)
          rcases hcase with ⟨g1, g2⟩ | ⟨g1, g2⟩ | ⟨g1, g2⟩ <;> cases T <;> cases hx : (x == nd)
          all_goals
            rw [g1] at h1
            rw [g2] at h2
            rw [hx] at h3
            go_wp2_with fail
            go_quiet (fail)
            go_wp2_with fail
            go_roundw
            case rel => exact ⟨k + 1, by omega, by go_num, by rw [h1.out]; go_num, by rw [h2.out]; go_num, by rw [h3.out]; rfl, below_drewN HB.out _⟩
            case measure => simp [intOf]; omega
      · obtain rfl : k = n := by omega
        have htk : l.take k = l := List.take_of_length_le (by rw [hlen.out]; exact Nat.le_refl _)
        rw [htk]
        have hcnt := counts l HS.out
        have hkey : (((al l : Int) == 1) = true ∧ so l ≤ 1) ∨ ((al l : Int) == 1) = false := by
          by_cases e : al l = 1
          · exact .inl ⟨by simp [e], hcnt.2 e⟩
          · exact .inr (by simp; omega)
        have hal := hcnt.1
        have hwith := Lib.hid (safe_with HS.out nd md)
        generalize al l = A at *
        generalize so l = S at *
        generalize (l.any fun c => c.1 == nd) = T at *
        clear hcnt hlt hk htk
        go_upto_region 16 with fail
        go_cut [61] (fun v wx => v = .bool false ∧ wr = wx)
        case first =>
          have hda : decide ((1 : Int) < (A : Int)) = false := by simp; omega
          rcases hkey with ⟨e1, e2⟩ | e1
          · have hds : decide ((1 : Int) < (S : Int)) = false := by simp; omega
            go_wp2_with fail
            go_meet
            case rel => exact ⟨rfl, rfl⟩
          · go_wp2_with fail
            go_meet
            case rel => exact ⟨rfl, rfl⟩
        case rest =>
        obtain ⟨rfl, rfl⟩ := hcut
        clear hkey hal
        go_upto_region 18 with fail
        go_cut [70] (fun v wx => v = .bool false ∧ Below w0.heap.size w0 wx)
        case first =>
          by_cases hk0 : 0 < k
          · rcases claims_below HC.out HB.out with ⟨h1, _⟩ | ⟨b, off, rfl, hln, hrow⟩
            · omega
            · have hsub : Hid (safeB l.tail = true) := Lib.hid (by
                rw [safeB_true]
                cases l with
                | nil => exact safe_nil
                | cons c lt => exact safe_tail HS.out)
              have hrt : Hid (Row wr b (off + 2) l.tail ∧ l.tail.length = k - 1) := Lib.hid (by
                cases l with
                | nil => simp at hln; omega
                | cons c lt => exact ⟨row_tail hrow, by simp at hln ⊢; omega⟩)
              clear hrow hln
              by_cases hc1 : cap = 1
              · obtain rfl : k = 1 := by omega
                subst hc1
                go_wp2_with fail
                refine (safe_any (l := l.tail) _ (.inl ⟨rfl, List.length_eq_zero_iff.1 hrt.out.2⟩) (by omega) (by omega)).mono ?_; rintro e w2 ⟨rfl, hb2⟩
                rw [hsub.out]
                have HB2 := Lib.hid (HB.out.trans (hb2.mono HB.out.size)); clear hb2
                go_wp2_with fail
                go_meet
                case rel => exact ⟨rfl, HB2.out⟩
              · have hc2 : ¬ (cap - 1 = 0) := by omega
                go_wp2_with fail
                refine (safe_any (l := l.tail) _ (.inr ⟨b, off + 2, rfl, hrt.out.2, hrt.out.1⟩) (by omega) (by omega)).mono ?_; rintro e w2 ⟨rfl, hb2⟩
                rw [hsub.out]
                have HB2 := Lib.hid (HB.out.trans (hb2.mono HB.out.size)); clear hb2
                go_wp2_with fail
                go_meet
                case rel => exact ⟨rfl, HB2.out⟩
          · have hk1 : decide ((0 : Int) < (k : Int)) = false := by simp; omega
            go_wp2_with fail
            go_meet
            case rel => exact ⟨rfl, HB.out⟩
        case rest =>
        obtain ⟨rfl, hbc⟩ := hcut
        have HBc := Lib.hid hbc; clear hbc HB
        have HCc := Lib.hid (claims_below HC.out HBc.out)
        have HZc := Lib.hid HBc.out.size
        go_wp2_with (at_builtin; refine wpList_append_claims rfl _ _ rfl w0.heap.size _ 0 [] rfl (World.ownsRow_nil _ _ _ _) a k cap l rfl HCc.out HIn.out.2.2.2 (by omega) (by omega) HZc.out ?_)
        intro v1 w2 hown1 hgrow1
        have HB2 := Lib.hid (HBc.out.grown hgrow1 HZc.out (fun j hj => by cases hj))
        have HO2 := Lib.hid hown1; clear hown1 hgrow1
        have hn1 := (HB2.out.cell (p := ⟨w.heap.size, 0, none⟩) HZ0.out).trans HN0.out
        have hm1 := (HB2.out.cell (p := ⟨w.heap.size, 1, none⟩) HZ0.out).trans HM0.out
        have HZ2 := Lib.hid HB2.out.size
        have hone : Hid (IsClaims (w2.alloc (.cells #[.int .i64 nd, .int .i64 md] 24)) (some ⟨w2.heap.size, 0, none⟩) 1 [(nd, md)]) := Lib.hid (claims_one w2 nd md)
        go_wp2_with (at_builtin; refine wpList_append_claims rfl _ _ rfl w0.heap.size v1 k (pairV l) rfl (HO2.out.alloc _) (some ⟨w2.heap.size, 0, none⟩) 1 1 [(nd, md)] rfl hone.out (fun h => by cases h) (by omega) (by omega) (Nat.le_trans HZ2.out (by simp)) ?_)
        intro v2 w3 hown2 hgrow2
        have HB3 := Lib.hid ((HB2.out.alloc HZ2.out (.cells #[.int .i64 nd, .int .i64 md] 24)).grown hgrow2 (Nat.le_trans HZ2.out (by simp)) (fun j hj => (HO2.out.lt j hj).1))
        have hown3 : w3.ownsRow w0.heap.size 24 2 v2 (k + 1) (pairV (l ++ [(nd, md)])) := by rw [pairV_append]; exact hown2
        obtain ⟨hnl, a2, cap2, rfl, hcl2, hle2, _⟩ := own_claims hown3
        have HC3 := Lib.hid hcl2
        clear hown2 hgrow2 hown3 hnl hcl2 hn1 hm1 hone
        have hn3 := (HB3.out.cell (p := ⟨w.heap.size, 0, none⟩) HZ0.out).trans HN0.out
        have hm3 := (HB3.out.cell (p := ⟨w.heap.size, 1, none⟩) HZ0.out).trans HM0.out
        have HCl3 := Lib.hid (claims_below HC.out HB3.out)
        have HZ3 : Hid (w.heap.size < w3.heap.size) := Lib.hid (Nat.lt_of_lt_of_le HZ0.out HB3.out.size)
        have HBW := Lib.hid (HB0.out.trans (HB3.out.mono HB0.out.size))
        clear HZ2 HZc HBc HO2 HCc HB2
        have k0 := cell_regrown hn3
        have k1 := cell_regrown hm3
        have HcB := Lib.hid (fun d os => Calls.regrown_of (d := d) (os := os) (strong_any cap nd (claims_below HCl3.out (below_regrown w3 d os)) (by omega)))
        have cI : ∀ d os, Calls Try.prog 12 #[.int .i64 md] (grow (redrawn w3 d) os) fun e w'' => e = .returned (.bool (isB md)) ∧ ∃ p : Regrown, w'' = grow (redrawn w3 p.d) p.os := fun d os => (is_any md _).mono fun _ _ ⟨g1, g2⟩ => ⟨g1, ⟨⟨d, os⟩, g2.symm⟩⟩
        have cF : ∀ d os, Calls Try.prog 13 #[.int .i64 (best l nd), .int .i64 md] (grow (redrawn w3 d) os) fun e w'' => e = .returned (.bool (fitB (best l nd) md)) ∧ ∃ p : Regrown, w'' = grow (redrawn w3 p.d) p.os := fun d os => (fit_any _ md _).mono fun _ _ ⟨g1, g2⟩ => ⟨g1, ⟨⟨d, os⟩, g2.symm⟩⟩
        have HcI := Lib.hid cI; clear cI
        have HcF := Lib.hid cF; clear cF
        clear hn3 hm3
        cases T with
        | true =>
          have cS : ∀ d os, Calls Try.prog 11 #[.slice a2 (k + 1) cap2] (grow (redrawn w3 d) os) fun e w'' => e = .returned (.bool false) ∧ ∃ p : Regrown, w'' = grow (redrawn w3 p.d) p.os := fun d os => Calls.regrown_of ((safe_any cap2 (claims_below HC3.out (below_regrown w3 d os)) (by omega) hle2).mono fun _ _ ⟨g1, g2⟩ => ⟨by rw [g1, hwith.out]; rfl, g2⟩)
          have HcS := Lib.hid cS; clear cS hwith
          go_wp2_with fail
          refine wp_region_quiet_below (by kernel_rfl) (by kernel_rfl) ?_
          repeat (go_big_quiet_step (first | (go_at_call 11; exact HcS.out _ _) | (go_at_call 12; exact HcI.out _ _) | (go_at_call 14; exact HcB.out _ _) | (go_at_call 13; exact HcF.out _ _)))
          refine wpQuiet_nil ?_
          intro _ hw'
          obtain ⟨⟨dq, osq⟩, hw''⟩ := hw'
          subst hw''
          go_wp2_with fail
          go_ret
          exact ⟨rfl, HBW.out.trans ((below_regrown w3 dq osq).mono HBW.out.size)⟩
        | false =>
          cases hp : isB md with
          | false =>
            rw [hp] at HcI
            have cS : ∀ d os, Calls Try.prog 11 #[.slice a2 (k + 1) cap2] (grow (redrawn w3 d) os) fun e w'' => e = .returned (.bool false) ∧ ∃ p : Regrown, w'' = grow (redrawn w3 p.d) p.os := fun d os => Calls.regrown_of ((safe_any cap2 (claims_below HC3.out (below_regrown w3 d os)) (by omega) hle2).mono fun _ _ ⟨g1, g2⟩ => ⟨by rw [g1, hwith.out, hp]; rfl, g2⟩)
            have HcS := Lib.hid cS; clear cS hwith
            go_wp2_with fail
            refine wp_region_quiet_below (by kernel_rfl) (by kernel_rfl) ?_
            repeat (go_big_quiet_step (first | (go_at_call 11; exact HcS.out _ _) | (go_at_call 12; exact HcI.out _ _) | (go_at_call 14; exact HcB.out _ _) | (go_at_call 13; exact HcF.out _ _)))
            refine wpQuiet_nil ?_
            intro _ hw'
            obtain ⟨⟨dq, osq⟩, hw''⟩ := hw'
            subst hw''
            go_wp2_with fail
            go_ret
            exact ⟨rfl, HBW.out.trans ((below_regrown w3 dq osq).mono HBW.out.size)⟩
          | true =>
            rw [hp] at HcI
            have cS : ∀ d os, Calls Try.prog 11 #[.slice a2 (k + 1) cap2] (grow (redrawn w3 d) os) fun e w'' => e = .returned (.bool (fitB (best l nd) md)) ∧ ∃ p : Regrown, w'' = grow (redrawn w3 p.d) p.os := fun d os => Calls.regrown_of ((safe_any cap2 (claims_below HC3.out (below_regrown w3 d os)) (by omega) hle2).mono fun _ _ ⟨g1, g2⟩ => ⟨by rw [g1, hwith.out, hp]; rfl, g2⟩)
            have HcS := Lib.hid cS; clear cS hwith
            go_wp2_with fail
            refine wp_region_quiet_below (by kernel_rfl) (by kernel_rfl) ?_
            repeat (go_big_quiet_step (first | (go_at_call 11; exact HcS.out _ _) | (go_at_call 12; exact HcI.out _ _) | (go_at_call 14; exact HcB.out _ _) | (go_at_call 13; exact HcF.out _ _)))
            refine wpQuiet_nil ?_
            intro _ hw'
            obtain ⟨⟨dq, osq⟩, hw''⟩ := hw'
            subst hw''
            go_wp2_with fail
            go_ret
            exact ⟨rfl, HBW.out.trans ((below_regrown w3 dq osq).mono HBW.out.size)⟩
end Go.Proofs.Ytaooimlannbenaa
