/-
  PROVED HERE: the plain law of the check sum, over lists of bytes and numbers of 32 bits: it is linear, nothing is lost by a byte's steps, 32 bits in a row that are turned turn the sum, and four steps are one look into the table.
  Conditions: none; no program is in sight.
-/
namespace Go.Proofs.YtcjgefhlkjdoaaaDoor.Crc
abbrev W := BitVec 32
def poly : W := 0x04c11db7#32
def step (c : W) : W := (c <<< 1) ^^^ (if c.msb then poly else 0#32)
def steps : Nat → W → W
  | 0, c => c
  | n + 1, c => steps n (step c)

theorem step_xor (a b : W) : step (a ^^^ b) = step a ^^^ step b := by
  unfold step
  rw [BitVec.shiftLeft_xor_distrib, BitVec.msb_xor]
  cases a.msb <;> cases b.msb <;> simp
  · ac_rfl
  · ac_rfl
  · rw [show a <<< 1 ^^^ poly ^^^ (b <<< 1 ^^^ poly) = a <<< 1 ^^^ b <<< 1 ^^^ (poly ^^^ poly) from by ac_rfl]; simp

theorem steps_xor (n : Nat) : ∀ a b : W, steps n (a ^^^ b) = steps n a ^^^ steps n b := by
  induction n with
  | zero => intro a b; rfl
  | succ n ih => intro a b; simp only [steps, step_xor, ih]

theorem steps_add (m n : Nat) : ∀ c : W, steps (m + n) c = steps n (steps m c) := by
  induction m with
  | zero => intro c; simp [steps]
  | succ m ih => intro c; rw [show m + 1 + n = (m + n) + 1 from by omega]; simp only [steps, ih]

theorem step_zero {c : W} (h : step c = 0#32) : c = 0#32 := by
  unfold step at h
  have h0 : ((c <<< 1) ^^^ (if c.msb then poly else 0#32)).getLsbD 0 = false := by rw [h]; simp
  cases hm : c.msb with
  | true => rw [hm] at h0; simp [poly] at h0
  | false =>
    rw [hm] at h
    simp at h
    apply BitVec.eq_of_getLsbD_eq
    intro i hi
    by_cases h31 : i = 31
    · subst h31; rw [BitVec.msb_eq_getLsbD_last] at hm; simpa using hm
    · have : (c <<< 1).getLsbD (i + 1) = false := by rw [h]; simp
      rw [BitVec.getLsbD_shiftLeft] at this
      have h1 : i + 1 < 32 := by omega
      simpa [h1] using this

theorem steps_zero (n : Nat) : ∀ {c : W}, steps n c = 0#32 → c = 0#32 := by
  induction n with
  | zero => intro c h; exact h
  | succ n ih => intro c h; exact step_zero (ih h)

theorem xor_zero_eq {a b : W} (h : a ^^^ b = 0#32) : a = b := by
  have : a ^^^ b ^^^ b = 0#32 ^^^ b := by rw [h]
  simpa [BitVec.xor_assoc] using this

theorem steps_inj (n : Nat) {a b : W} (h : steps n a = steps n b) : a = b := by
  apply xor_zero_eq
  apply steps_zero n
  rw [steps_xor, h]; simp

attribute [local irreducible] steps

theorem xor_rot (a b c : W) : a ^^^ b ^^^ c = a ^^^ c ^^^ b := by rw [BitVec.xor_assoc, BitVec.xor_comm b c, ← BitVec.xor_assoc]
theorem xor_six (a b c x y z : W) : a ^^^ b ^^^ c ^^^ (x ^^^ y ^^^ z) = a ^^^ x ^^^ (b ^^^ y) ^^^ (c ^^^ z) := by ac_rfl

/-- a byte put to the state: the byte times 2^24 by an exclusive or, then eight steps -/
def wide (b : UInt8) : W := (b.toBitVec.setWidth 32) <<< 24
def byteStep (c : W) (b : UInt8) : W := steps 8 (c ^^^ wide b)
def run (c : W) (l : List UInt8) : W := l.foldl byteStep c
def add (c : W) (l : List UInt8) : W := ~~~ (run (~~~ c) l)

theorem run_append (c : W) (a b : List UInt8) : run c (a ++ b) = run (run c a) b := by simp [run]
theorem add_append (c : W) (a b : List UInt8) : add c (a ++ b) = add (add c a) b := by simp [add, run_append]
theorem add_nil (c : W) : add c [] = c := by simp [add, run]
/-- the sum of parts, one behind the other -/
def ofL (l : List ByteArray) : W := l.foldl (fun c s => add c s.data.toList) 0#32
theorem ofL_take (l : List ByteArray) (k : Nat) (hk : k < l.length) : ofL (l.take (k + 1)) = add (ofL (l.take k)) l[k].data.toList := by
  unfold ofL; rw [List.take_succ_eq_append_getElem hk, List.foldl_append]; rfl
theorem run_cons (c : W) (x : UInt8) (l : List UInt8) : run c (x :: l) = run (byteStep c x) l := rfl

theorem run_take {c : W} (l : List UInt8) (k : Nat) (hk : k < l.length) : run c (l.take (k + 1)) = byteStep (run c (l.take k)) l[k] := by
  rw [List.take_succ_eq_append_getElem hk, run_append]; rfl

theorem run_xor (l : List UInt8) : ∀ c d : W, run (c ^^^ d) l = run c l ^^^ steps (8 * l.length) d := by
  induction l with
  | nil => intro c d; rw [show steps (8 * ([] : List UInt8).length) d = d from by unfold steps; rfl]; rfl
  | cons x l ih =>
    intro c d
    have e : byteStep (c ^^^ d) x = byteStep c x ^^^ steps 8 d := by
      unfold byteStep; rw [xor_rot, steps_xor]
    rw [run_cons, run_cons, e, ih, ← steps_add]
    congr 2; simp only [List.length_cons]; omega

theorem run_inj (l : List UInt8) {a b : W} (h : run a l = run b l) : a = b := by
  have e := run_xor l b (a ^^^ b)
  rw [show b ^^^ (a ^^^ b) = a from by rw [BitVec.xor_comm a b, ← BitVec.xor_assoc]; simp, h] at e
  apply xor_zero_eq
  apply steps_zero (8 * l.length)
  have e2 : run b l ^^^ run b l = run b l ^^^ (run b l ^^^ steps (8 * l.length) (a ^^^ b)) := by rw [← e]
  rw [← BitVec.xor_assoc] at e2
  simpa using e2.symm

theorem add_inj (l : List UInt8) {a b : W} (h : add a l = add b l) : a = b := by
  unfold add at h
  have := run_inj l (BitVec.not_inj.mp h)
  exact BitVec.not_inj.mp this

theorem wide_xor (a b : UInt8) : wide (a ^^^ b) = wide a ^^^ wide b := by
  unfold wide
  rw [UInt8.toBitVec_xor, BitVec.setWidth_xor, BitVec.shiftLeft_xor_distrib]

theorem byteStep_three (a b c : W) (x y z : UInt8) :
    byteStep (a ^^^ b ^^^ c) (x ^^^ y ^^^ z) = byteStep a x ^^^ byteStep b y ^^^ byteStep c z := by
  unfold byteStep
  rw [wide_xor, wide_xor, xor_six, steps_xor, steps_xor]

/-- three texts of one length, byte by byte put together -/
def three : List UInt8 → List UInt8 → List UInt8 → List UInt8
  | x :: xs, y :: ys, z :: zs => (x ^^^ y ^^^ z) :: three xs ys zs
  | _, _, _ => []

theorem run_three : ∀ (x y z : List UInt8) (a b c : W), x.length = y.length → y.length = z.length →
    run (a ^^^ b ^^^ c) (three x y z) = run a x ^^^ run b y ^^^ run c z
  | [], [], [], _, _, _, _, _ => rfl
  | x :: xs, y :: ys, z :: zs, a, b, c, h1, h2 => by
    simp only [three, run_cons]
    rw [byteStep_three]
    exact run_three xs ys zs _ _ _ (by simpa using h1) (by simpa using h2)
  | [], _ :: _, _, _, _, _, h1, _ => by simp at h1
  | _ :: _, [], _, _, _, _, h1, _ => by simp at h1
  | [], [], _ :: _, _, _, _, _, h2 => by simp at h2
  | _ :: _, _ :: _, [], _, _, _, _, h2 => by simp at h2

theorem add_three (x y z : List UInt8) (h1 : x.length = y.length) (h2 : y.length = z.length) :
    add 0#32 (three x y z) = add 0#32 x ^^^ add 0#32 y ^^^ add 0#32 z := by
  unfold add
  have := run_three x y z (~~~ 0#32) (~~~ 0#32) (~~~ 0#32) h1 h2
  have e : (~~~ 0#32 : W) ^^^ ~~~ 0#32 ^^^ ~~~ 0#32 = ~~~ 0#32 := by decide
  rw [e] at this
  rw [this]
  generalize run (~~~ 0#32) x = p
  generalize run (~~~ 0#32) y = q
  generalize run (~~~ 0#32) z = r
  apply BitVec.eq_of_getLsbD_eq
  intro i hi
  simp [hi]

/-- a text's byte put together with another one, at one place: the state parts by just what that byte makes of nothing -/
theorem run_set (c : W) (l : List UInt8) (k : Nat) (hk : k < l.length) (x : UInt8) :
    run c (l.set k (l[k] ^^^ x)) = run c l ^^^ steps (8 * (l.length - k)) (wide x) := by
  have e1 : l.set k (l[k] ^^^ x) = l.take k ++ (l[k] ^^^ x) :: l.drop (k + 1) := by
    rw [List.set_eq_take_append_cons_drop, if_pos hk]
  have e2 : l = l.take k ++ l[k] :: l.drop (k + 1) := by
    rw [List.getElem_cons_drop, List.take_append_drop]
  have e3 : byteStep (run c (l.take k)) (l[k] ^^^ x) = byteStep (run c (l.take k)) l[k] ^^^ steps 8 (wide x) := by
    unfold byteStep; rw [wide_xor, ← BitVec.xor_assoc, steps_xor]
  have e4 : run c l = run (byteStep (run c (l.take k)) l[k]) (l.drop (k + 1)) := by
    conv => lhs; rw [e2]
    rw [run_append, run_cons]
  rw [e1, run_append, run_cons, e3, run_xor, ← steps_add, e4]
  congr 2
  simp; omega

/-- the text in which of the 32 bits from the place n on the first i that 'bits' picks are turned -/
def turned (bits : W) (n : Nat) (s : List UInt8) : Nat → List UInt8
  | 0 => s
  | i + 1 => if bits.getLsbD i then (turned bits n s i).set ((n + i) / 8) ((turned bits n s i).getD ((n + i) / 8) 0 ^^^ (128 >>> UInt8.ofNat ((n + i) % 8))) else turned bits n s i

theorem turned_length (bits : W) (n : Nat) (s : List UInt8) (i : Nat) : (turned bits n s i).length = s.length := by
  induction i with
  | zero => rfl
  | succ i ih => unfold turned; split <;> simp [ih]

/-- the bits, the first one the greatest -/
def word (bits : W) : Nat → W
  | 0 => 0#32
  | i + 1 => if bits.getLsbD i then word bits i ^^^ BitVec.twoPow 32 (31 - i) else word bits i

theorem word_bit (bits : W) (i : Nat) (hi : i ≤ 32) : ∀ j, j < 32 → (word bits i).getLsbD (31 - j) = (decide (j < i) && bits.getLsbD j) := by
  induction i with
  | zero => intro j _; simp [word]
  | succ i ih =>
    intro j hj
    have h := ih (by omega) j hj
    unfold word
    by_cases hb : bits.getLsbD i = true
    · rw [if_pos hb, BitVec.getLsbD_xor, h, BitVec.getLsbD_twoPow]
      by_cases e : j = i
      · subst e; rw [hb]; simp only [Nat.lt_irrefl, decide_false, Bool.false_and, Nat.lt_succ_self, decide_true, Bool.and_self, Bool.false_xor]; simp; omega
      · have e1 : ¬ 31 - i = 31 - j := by omega
        have e2 : (j < i + 1) ↔ j < i := by omega
        simp [e1, e2]
    · rw [if_neg hb, h]
      by_cases e : j = i
      · subst e; simp at hb; simp [hb]
      · have e2 : (j < i + 1) ↔ j < i := by omega
        simp [e2]

theorem word_zero {bits : W} (h : word bits 32 = 0#32) : bits = 0#32 := by
  apply BitVec.eq_of_getLsbD_eq
  intro j hj
  have := word_bit bits 32 (Nat.le_refl _) j hj
  rw [h, decide_eq_true hj, Bool.true_and] at this
  rw [← this]; simp

theorem step_twoPow (k : Nat) (hk : k < 31) : step (BitVec.twoPow 32 k) = BitVec.twoPow 32 (k + 1) := by
  have : ∀ k : Fin 31, step (BitVec.twoPow 32 k.val) = BitVec.twoPow 32 (k.val + 1) := by decide
  exact this ⟨k, hk⟩

theorem steps_twoPow (m : Nat) : ∀ k, k + m < 32 → steps m (BitVec.twoPow 32 k) = BitVec.twoPow 32 (k + m) := by
  induction m with
  | zero => intro k _; unfold steps; rfl
  | succ m ih => intro k hk; unfold steps; rw [step_twoPow k (by omega), ih (k + 1) (by omega)]; congr 1; omega

theorem wide_bit (r : Nat) (hr : r < 8) : wide (128 >>> UInt8.ofNat r) = BitVec.twoPow 32 (31 - r) := by
  have : ∀ r : Fin 8, wide (128 >>> UInt8.ofNat r.val) = BitVec.twoPow 32 (31 - r.val) := by decide
  exact this ⟨r, hr⟩

theorem run_turned (c : W) (bits : W) (n : Nat) (s : List UInt8) (hn : n + 32 ≤ 8 * s.length) (i : Nat) (hi : i ≤ 32) :
    run c (turned bits n s i) = run c s ^^^ steps (8 * s.length - n) (word bits i) := by
  induction i with
  | zero =>
    have e : steps (8 * s.length - n) (0#32 ^^^ 0#32) = steps (8 * s.length - n) 0#32 ^^^ steps (8 * s.length - n) 0#32 := steps_xor _ _ _
    have z : steps (8 * s.length - n) 0#32 = 0#32 := by
      rw [show (0#32 ^^^ 0#32 : W) = 0#32 from rfl] at e
      rw [e]; simp
    show run c s = run c s ^^^ steps (8 * s.length - n) 0#32
    rw [z]; simp
  | succ i ih =>
    have h := ih (by omega)
    unfold turned word
    by_cases hb : bits.getLsbD i = true
    · rw [if_pos hb, if_pos hb]
      have hl := turned_length bits n s i
      have hk : (n + i) / 8 < (turned bits n s i).length := by rw [hl]; omega
      have hg : (turned bits n s i).getD ((n + i) / 8) 0 = (turned bits n s i)[(n + i) / 8] := by
        rw [List.getD_eq_getElem?_getD, List.getElem?_eq_getElem hk]; rfl
      rw [hg, run_set _ _ _ hk, h, steps_xor, ← BitVec.xor_assoc, hl, wide_bit _ (Nat.mod_lt _ (by omega))]
      have hr : (n + i) % 8 < 8 := Nat.mod_lt _ (by omega)
      have hd := Nat.div_add_mod (n + i) 8
      have ea : 8 * (s.length - (n + i) / 8) = (n + i) % 8 + (8 * s.length - (n + i)) := by omega
      have eb : 8 * s.length - n = i + (8 * s.length - (n + i)) := by omega
      have e1 : steps (8 * (s.length - (n + i) / 8)) (BitVec.twoPow 32 (31 - (n + i) % 8)) = steps (8 * s.length - (n + i)) (BitVec.twoPow 32 31) := by
        rw [ea, steps_add, steps_twoPow _ _ (by omega)]; congr 2; omega
      have e2 : steps (8 * s.length - n) (BitVec.twoPow 32 (31 - i)) = steps (8 * s.length - (n + i)) (BitVec.twoPow 32 31) := by
        conv => lhs; rw [eb]
        rw [steps_add, steps_twoPow _ _ (by omega)]; congr 2; omega
      rw [e1, e2]
    · rw [if_neg hb, if_neg hb]; exact h

theorem add_turned (bits : W) (hb : bits ≠ 0#32) (n : Nat) (s : List UInt8) (hn : n + 32 ≤ 8 * s.length) :
    add 0#32 (turned bits n s 32) ≠ add 0#32 s := by
  intro h
  unfold add at h
  have h2 := BitVec.not_inj.mp h
  rw [run_turned _ bits n s hn 32 (Nat.le_refl _)] at h2
  have h3 : run (~~~ 0#32) s ^^^ (run (~~~ 0#32) s ^^^ steps (8 * s.length - n) (word bits 32)) = run (~~~ 0#32) s ^^^ run (~~~ 0#32) s := by rw [h2]
  rw [← BitVec.xor_assoc] at h3
  simp at h3
  exact hb (word_zero (steps_zero _ h3))

/-! The program's way: four steps at once, by a table. -/
def tabL : List Int := [0, 79764919, 159529838, 222504665, 319059676, 398814059, 445009330, 507990021, 638119352, 583659535, 797628118, 726387553, 890018660, 835552979, 1015980042, 944750013]
def tabW (k : Nat) : W := BitVec.ofInt 32 (tabL.getD k 0)
def nib (c : W) : W := (c <<< 4) ^^^ tabW (c >>> 28).toNat

theorem nib_high (k : Nat) (hk : k < 16) : steps 4 ((BitVec.ofNat 32 k) <<< 28) = tabW k := by
  have : ∀ k : Fin 16, steps 4 ((BitVec.ofNat 32 k.val) <<< 28) = tabW k.val := by decide +kernel
  exact this ⟨k, hk⟩
theorem step_low (c : W) (h : c.msb = false) : step c = c <<< 1 := by unfold step; rw [h]; simp
theorem steps_low (m : Nat) : ∀ c : W, c.toNat < 2 ^ (32 - m) → m ≤ 32 → steps m c = c <<< m := by
  induction m with
  | zero => intro c _ _; unfold steps; simp
  | succ m ih =>
    intro c h hm
    have hp : 2 ^ (32 - m) = 2 * 2 ^ (32 - (m + 1)) := by rw [show 32 - m = (32 - (m + 1)) + 1 from by omega, Nat.pow_succ]; omega
    have hle : 2 ^ (32 - m) ≤ 2 ^ 32 := Nat.pow_le_pow_right (by omega) (by omega)
    unfold steps
    have hmsb : c.msb = false := by rw [BitVec.msb_eq_decide]; simp; omega
    rw [step_low c hmsb, ih _ _ (by omega), ← BitVec.shiftLeft_add]
    · congr 1; omega
    · rw [BitVec.toNat_shiftLeft, Nat.shiftLeft_eq, Nat.mod_eq_of_lt (by omega)]; omega
theorem nib_steps (c : W) : nib c = steps 4 c := by
  have hsplit : c = ((c >>> 28) <<< 28) ^^^ (c &&& 0x0fffffff#32) := by
    apply BitVec.eq_of_getLsbD_eq
    intro i hi
    have : ∀ i : Fin 32, (0x0fffffff#32 : W).getLsbD i.val = decide (i.val < 28) := by decide
    have hf := this ⟨i, hi⟩
    simp only at hf
    rw [BitVec.getLsbD_xor, BitVec.getLsbD_and, BitVec.getLsbD_shiftLeft, BitVec.getLsbD_ushiftRight, hf]
    by_cases h : i < 28
    · simp [h]
    · simp [h, hi, show 28 + (i - 28) = i from by omega]
  have hlow : (c &&& 0x0fffffff#32).toNat < 2 ^ 28 := by
    rw [BitVec.toNat_and]; exact Nat.lt_of_le_of_lt Nat.and_le_right (by decide)
  have hk : (c >>> 28).toNat < 16 := by rw [BitVec.toNat_ushiftRight, Nat.shiftRight_eq_div_pow]; have := c.isLt; omega
  have h1 : steps 4 c = steps 4 ((c >>> 28) <<< 28) ^^^ steps 4 (c &&& 0x0fffffff#32) := by rw [← steps_xor, ← hsplit]
  have h2 : steps 4 ((c >>> 28) <<< 28) = tabW (c >>> 28).toNat := by
    rw [← nib_high _ hk, BitVec.ofNat_toNat, BitVec.setWidth_eq]
  have h3 : (c &&& 0x0fffffff#32) <<< 4 = c <<< 4 := by
    apply BitVec.eq_of_getLsbD_eq
    intro i hi
    have : ∀ i : Fin 32, (0x0fffffff#32 : W).getLsbD i.val = decide (i.val < 28) := by decide
    rw [BitVec.getLsbD_shiftLeft, BitVec.getLsbD_shiftLeft, BitVec.getLsbD_and]
    by_cases h : i < 4
    · simp [h]
    · have hf := this ⟨i - 4, by omega⟩
      simp only at hf
      rw [hf]; simp [h, show i - 4 < 28 from by omega]
  rw [h1, h2, steps_low 4 _ hlow (by omega), h3]
  unfold nib; rw [BitVec.xor_comm]
theorem byte_nibs (c : W) (b : UInt8) : byteStep c b = nib (nib (c ^^^ wide b)) := by
  unfold byteStep; rw [nib_steps, nib_steps, ← steps_add]
end Go.Proofs.YtcjgefhlkjdoaaaDoor.Crc
