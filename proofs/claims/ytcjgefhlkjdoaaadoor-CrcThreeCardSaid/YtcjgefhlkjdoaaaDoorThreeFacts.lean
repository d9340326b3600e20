/-
  PROVED HERE: facts that the walk of CrcThree leans on.
  Conditions: the table lies in its variable.
-/
import Derived.Test.YtcjgefhlkjdoaaaDoorTurned
import Derived.Laws.IdiomStrings
import Derived.Laws.OwnMore
import Derived.Deep.DeepCutAuto
import Derived.Deep.RegionHeld3
import Derived.RegionTactic
namespace Go.Proofs.YtcjgefhlkjdoaaaDoor
open Go.RowKit Crc

theorem info5 : (Tryd.prog.info? 5).map (fun i => (i.zero, i.size, i.bytes)) = some (some (.int .u8 0), 1, 1) := by kernel_rfl

theorem holds8_made {w w' : World} {B m : Nat} (hown : w'.ownsRow B 5 1 (.slice (some ⟨B, 0, none⟩) m m) m (List.replicate m (.int .u8 0))) (hb : Below w.heap.size w w') (hB : w.heap.size ≤ B) :
    Holds8 w B w' (List.replicate m 0) := by
  refine ⟨hb, hB, fun j h => ?_, fun j _ => hown.frozenAt j⟩
  have hj : j < m := by simpa using h
  rw [hown.cellAt j (by omega)]
  simp [hj]

/-- byte by byte put together -/
def xor3 (a b c : List UInt8) (k : Nat) : UInt8 := a.getD k 0 ^^^ b.getD k 0 ^^^ c.getD k 0
theorem three_getD : ∀ (x y z : List UInt8), x.length = y.length → y.length = z.length → (three x y z).length = x.length ∧ ∀ k, k < x.length → (three x y z)[k]? = some (xor3 x y z k)
  | [], [], [], _, _ => ⟨rfl, fun k h => by simp at h⟩
  | x :: xs, y :: ys, z :: zs, h1, h2 => by
    have ih := three_getD xs ys zs (by simpa using h1) (by simpa using h2)
    refine ⟨by simp [three, ih.1], fun k h => ?_⟩
    cases k with
    | zero => simp [three, xor3]
    | succ k => simpa [three, xor3] using ih.2 k (by simpa using h)
  | [], _ :: _, _, h1, _ => by simp at h1
  | _ :: _, [], _, h1, _ => by simp at h1
  | [], [], _ :: _, _, h2 => by simp at h2
  | _ :: _, _ :: _, [], _, h2 => by simp at h2

theorem getD_data (a : ByteArray) (k : Nat) (h : k < a.size) : a.data.toList.getD k 0 = a[k] := by
  have h2 : k < a.data.toList.length := by simpa using h
  rw [List.getD_eq_getElem?_getD, List.getElem?_eq_getElem h2]; rfl
theorem xor3_data (a b c : ByteArray) (k : Nat) (ha : k < a.size) (hb : k < b.size) (hc : k < c.size) : xor3 a.data.toList b.data.toList c.data.toList k = a[k] ^^^ b[k] ^^^ c[k] := by
  unfold xor3; rw [getD_data a k ha, getD_data b k hb, getD_data c k hc]
theorem xor3_take (x y z : List UInt8) (m k : Nat) (h : k < m) : xor3 (x.take m) (y.take m) (z.take m) k = xor3 x y z k := by
  unfold xor3; simp [List.getD_eq_getElem?_getD, h]
theorem three_done (x y z l : List UInt8) (m : Nat) (hl : l.length = m) (hx : m ≤ x.length) (hy : m ≤ y.length) (hz : m ≤ z.length) (h : ∀ j, j < m → l[j]? = some (xor3 x y z j)) :
    l = three (x.take m) (y.take m) (z.take m) := by
  have ht := three_getD (x.take m) (y.take m) (z.take m) (by simp; omega) (by simp; omega)
  have hlen : (x.take m).length = m := by simp; omega
  apply List.ext_getElem?
  intro j
  by_cases hj : j < m
  · rw [h j hj, ht.2 j (by omega), xor3_take x y z m j hj]
  · rw [List.getElem?_eq_none (by omega), List.getElem?_eq_none (by omega)]

/-- the bytes as a text -/
def packed (l : List UInt8) : ByteArray := ⟨l.toArray⟩
theorem packed_list (l : List UInt8) : (packed l).data.toList = l := rfl
theorem packed_size (l : List UInt8) : (packed l).size = l.length := by simp [packed, ByteArray.size]
theorem extract_list (a : ByteArray) (k : Nat) : (a.extract 0 k).data.toList = a.data.toList.take k := by
  simp
/-- what is so of every world in which the last statement's operations are carried out, whatever their order -/
structure SX (w : World) (B n : Nat) (l : List UInt8) (w' : World) : Prop where
  cells : ∀ j : Nat, (h : j < l.length) → w'.cell? ⟨B, j, none⟩ = some (.int .u8 (l[j].toNat : Int))
  len : l.length = n
  tab : Tab w'
  below : Below w.heap.size w w'
def Conv1 (B n : Nat) (l : List UInt8) (w' : World) : Prop := (convert 32 9 (.slice (some ⟨B, 0, none⟩) n n)).run Tryd.prog w' = .ok (.string (packed l)) w'
theorem SX.conv {w w' : World} {B n : Nat} {l : List UInt8} (h : SX w B n l w') : Conv1 B n l w' := by
  have := run_convert_bytes_back (P := Tryd.prog) w' 32 9 5 ⟨B, 0, none⟩ n l Tryd.underlying32 Tryd.underlying5 Tryd.underlying9 (fun j hj => by
    have e : (⟨B, 0, none⟩ : Addr).add j = ⟨B, j, none⟩ := by unfold Addr.add; split <;> simp_all
    rw [e]; exact h.cells j hj)
  rw [h.len] at this
  exact this
theorem nc_drew {w : World} {a : Addr} {v : Option Value} (h : w.cell? a = v) : w.drew.cell? a = v := h
theorem nc_new {w : World} {n : Nat} {x : ByteArray} (h : n = w.heap.size) : (w.alloc (.cells #[.string x] 9)).cell? ⟨n, 0, none⟩ = some (.string x) := by
  rw [World.cell?_alloc_at _ _ _ _ h]; rfl
theorem nc_past {w : World} {n : Nat} {o : Obj} {v : Option Value} (h : n < w.heap.size) (hv : w.cell? ⟨n, 0, none⟩ = v) : (w.alloc o).cell? ⟨n, 0, none⟩ = v := by
  rw [World.cell?_alloc_past _ _ _ h]; exact hv
theorem tab_drew {w : World} (h : Tab w) : Tab w.drew := h
theorem tab_alloc' {w : World} {o : Obj} (h : Tab w) : Tab (w.alloc o) := tab_alloc h o
theorem sx_alloc {w w' : World} {B n : Nat} {l : List UInt8} {o : Obj} {x : Value} (hx : x = .string (packed l)) (h : (convert 32 9 (.slice (some ⟨B, 0, none⟩) n n)).run Tryd.prog w' = .ok x w' ∧ SX w B n l w') :
    (convert 32 9 (.slice (some ⟨B, 0, none⟩) n n)).run Tryd.prog (w'.alloc o) = .ok x (w'.alloc o) ∧ SX w B n l (w'.alloc o) := by
  subst hx
  have k : SX w B n l (w'.alloc o) := ⟨fun j hj => by rw [World.cell?_alloc_some _ _ _ (by rw [h.2.cells j hj]; rfl)]; exact h.2.cells j hj, h.2.len, tab_alloc h.2.tab o, below_alloc h.2.below o⟩
  exact ⟨k.conv, k⟩
theorem sx_drew {w w' : World} {B n : Nat} {l : List UInt8} {x : Value} (hx : x = .string (packed l)) (h : (convert 32 9 (.slice (some ⟨B, 0, none⟩) n n)).run Tryd.prog w' = .ok x w' ∧ SX w B n l w') :
    (convert 32 9 (.slice (some ⟨B, 0, none⟩) n n)).run Tryd.prog w'.drew = .ok x w'.drew ∧ SX w B n l w'.drew := by
  subst hx
  have k : SX w B n l w'.drew := ⟨h.2.cells, h.2.len, h.2.tab, h.2.below.drew⟩
  exact ⟨k.conv, k⟩

end Go.Proofs.YtcjgefhlkjdoaaaDoor
