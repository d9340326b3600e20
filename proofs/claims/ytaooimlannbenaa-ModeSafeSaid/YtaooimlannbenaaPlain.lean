/-
  PROVED HERE: the plain law of modes and claims, over numbers and lists of pairs (node, mode).
  Conditions: none; no program is in sight.
-/
namespace Go.Proofs.Ytaooimlannbenaa.Pm

def isB (m : Int) : Bool := decide (0 ≤ m) && decide (m ≤ 2)
def fitB (a b : Int) : Bool := isB a && isB b && decide (a + b ≤ 2)
def coversB (a b : Int) : Bool := isB a && isB b && decide (b ≤ a)
def maxM (a b : Int) : Int := if isB a && isB b then (if a ≤ b then b else a) else 0
def restM (m : Int) : Int := if isB m then 2 - m else 0

theorem isB_true {m : Int} : isB m = true ↔ 0 ≤ m ∧ m ≤ 2 := by unfold isB; simp
theorem isB_false {m : Int} : isB m = false ↔ m < 0 ∨ 2 < m := by
  cases h : isB m with
  | true => rw [isB_true] at h; simp; omega
  | false =>
    have : ¬ (0 ≤ m ∧ m ≤ 2) := fun e => by rw [isB_true.2 e] at h; cases h
    simp; omega
theorem fitB_true {a b : Int} : fitB a b = true ↔ 0 ≤ a ∧ 0 ≤ b ∧ a + b ≤ 2 := by
  unfold fitB; simp [isB_true]; omega
theorem fitB_comm (a b : Int) : fitB a b = fitB b a := by
  rw [Bool.eq_iff_iff, fitB_true, fitB_true]; omega
theorem coversB_true {a b : Int} : coversB a b = true ↔ 0 ≤ b ∧ b ≤ a ∧ a ≤ 2 := by
  unfold coversB; simp [isB_true]; omega

/-- may these two claims stand beside each other? -/
def okR (b a : Int × Int) : Prop := b.1 ≠ a.1 ∧ fitB b.2 a.2 = true
theorem okR_symm {a b : Int × Int} (h : okR a b) : okR b a := ⟨fun e => h.1 e.symm, by rw [fitB_comm]; exact h.2⟩

def SafeP (l : List (Int × Int)) : Prop := (∀ x ∈ l, isB x.2 = true) ∧ l.Pairwise okR

theorem safe_nil : SafeP [] := ⟨fun _ h => by simp at h, List.Pairwise.nil⟩
theorem safe_snoc (l : List (Int × Int)) (a : Int × Int) : SafeP (l ++ [a]) ↔ SafeP l ∧ isB a.2 = true ∧ ∀ b ∈ l, okR b a := by
  unfold SafeP
  rw [List.pairwise_append]
  constructor
  · rintro ⟨h1, h2, _, h4⟩
    exact ⟨⟨fun x hx => h1 x (by simp [hx]), h2⟩, h1 a (by simp), fun b hb => h4 b hb a (by simp)⟩
  · rintro ⟨⟨h1, h2⟩, h3, h4⟩
    refine ⟨fun x hx => ?_, h2, by simp, fun b hb c hc => ?_⟩
    · rcases List.mem_append.1 hx with h | h
      · exact h1 x h
      · simp at h; subst h; exact h3
    · simp at hc; subst hc; exact h4 b hb
theorem safe_left {l r : List (Int × Int)} (h : SafeP (l ++ r)) : SafeP l :=
  ⟨fun x hx => h.1 x (by simp [hx]), (List.pairwise_append.1 h.2).1⟩
theorem safe_take {l : List (Int × Int)} (h : SafeP l) (k : Nat) : SafeP (l.take k) := by
  rw [← List.take_append_drop k l] at h; exact safe_left h
theorem safe_tail {a : Int × Int} {l : List (Int × Int)} (h : SafeP (a :: l)) : SafeP l :=
  ⟨fun x hx => h.1 x (by simp [hx]), (List.pairwise_cons.1 h.2).2⟩
theorem safe_reverse (l : List (Int × Int)) : SafeP l.reverse ↔ SafeP l := by
  unfold SafeP
  rw [List.pairwise_reverse]
  constructor
  · rintro ⟨h1, h2⟩; exact ⟨fun x hx => h1 x (by simpa using hx), h2.imp okR_symm⟩
  · rintro ⟨h1, h2⟩; exact ⟨fun x hx => h1 x (by simpa using hx), h2.imp okR_symm⟩

/-- the strongest mode of the claims of others -/
def bestStep (but : Int) (best : Int) (c : Int × Int) : Int := if c.1 ≠ but ∧ isB c.2 = true then (if best ≤ c.2 then c.2 else best) else best
def best (l : List (Int × Int)) (but : Int) : Int := l.foldl (bestStep but) 0

theorem best_take (l : List (Int × Int)) (but : Int) (k : Nat) (hk : k < l.length) : best (l.take (k + 1)) but = bestStep but (best (l.take k) but) l[k] := by
  unfold best; rw [List.take_succ_eq_append_getElem hk, List.foldl_append]; rfl
theorem bestStep_bounds {but b : Int} {c : Int × Int} (h : 0 ≤ b ∧ b ≤ 2) : 0 ≤ bestStep but b c ∧ bestStep but b c ≤ 2 ∧ b ≤ bestStep but b c := by
  unfold bestStep
  split
  · rename_i h2; have := isB_true.1 h2.2; split <;> omega
  · omega
theorem foldl_best (l : List (Int × Int)) (but : Int) : ∀ b, 0 ≤ b ∧ b ≤ 2 →
    b ≤ l.foldl (bestStep but) b ∧ l.foldl (bestStep but) b ≤ 2 ∧ (∀ c ∈ l, c.1 ≠ but → isB c.2 = true → c.2 ≤ l.foldl (bestStep but) b) ∧
    (l.foldl (bestStep but) b = b ∨ ∃ c ∈ l, c.1 ≠ but ∧ isB c.2 = true ∧ l.foldl (bestStep but) b = c.2) := by
  induction l with
  | nil => intro b h; simp; omega
  | cons a l ih =>
    intro b h
    have hs := bestStep_bounds (but := but) (c := a) h
    obtain ⟨h1, h2, h3, h4⟩ := ih (bestStep but b a) ⟨hs.1, hs.2.1⟩
    simp only [List.foldl_cons]
    refine ⟨by omega, h2, fun c hc hn hi => ?_, ?_⟩
    · rcases List.mem_cons.1 hc with e | hc'
      · subst e
        have : c.2 ≤ bestStep but b c := by unfold bestStep; rw [if_pos ⟨hn, hi⟩]; split <;> omega
        omega
      · exact h3 c hc' hn hi
    · rcases h4 with e | ⟨c, hc, hn, hi, e⟩
      · by_cases hh : a.1 ≠ but ∧ isB a.2 = true
        · have hb : bestStep but b a = if b ≤ a.2 then a.2 else b := by unfold bestStep; rw [if_pos hh]
          by_cases hle : b ≤ a.2
          · rw [if_pos hle] at hb
            exact .inr ⟨a, by simp, hh.1, hh.2, by rw [e, hb]⟩
          · rw [if_neg hle] at hb
            exact .inl (by rw [e, hb])
        · have hb : bestStep but b a = b := by unfold bestStep; rw [if_neg hh]
          exact .inl (by rw [e, hb])
      · exact .inr ⟨c, by simp [hc], hn, hi, e⟩
theorem best_facts (l : List (Int × Int)) (but : Int) :
    0 ≤ best l but ∧ best l but ≤ 2 ∧ (∀ c ∈ l, c.1 ≠ but → isB c.2 = true → c.2 ≤ best l but) ∧ (best l but = 0 ∨ ∃ c ∈ l, c.1 ≠ but ∧ isB c.2 = true ∧ best l but = c.2) := by
  have h := foldl_best l but 0 (by omega)
  exact h
/-- what is said of the strongest one is said of no other number -/
theorem best_unique {l : List (Int × Int)} {but b : Int} (h0 : 0 ≤ b) (h1 : ∀ c ∈ l, c.1 ≠ but → isB c.2 = true → c.2 ≤ b) (h2 : b = 0 ∨ ∃ c ∈ l, c.1 ≠ but ∧ isB c.2 = true ∧ b = c.2) : best l but = b := by
  obtain ⟨g0, _, g1, g2⟩ := best_facts l but
  have a : best l but ≤ b := by
    rcases g2 with e | ⟨c, hc, hn, hi, e⟩
    · omega
    · rw [e]; exact h1 c hc hn hi
  have b' : b ≤ best l but := by
    rcases h2 with e | ⟨c, hc, hn, hi, e⟩
    · omega
    · rw [e]; exact g1 c hc hn hi
  omega
theorem best_reverse (l : List (Int × Int)) (but : Int) : best l.reverse but = best l but := by
  obtain ⟨g0, _, g1, g2⟩ := best_facts l but
  refine best_unique g0 (fun c hc hn hi => g1 c (by simpa using hc) hn hi) ?_
  rcases g2 with e | ⟨c, hc, hn, hi, e⟩
  · exact .inl e
  · exact .inr ⟨c, by simpa using hc, hn, hi, e⟩
end Go.Proofs.Ytaooimlannbenaa.Pm
