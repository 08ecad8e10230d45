/- Rows of bytes, numbers big endian: the contracts of octet.Put and of the reference's Big. -/
import Derived.Test.YtelfkakaaobfcaaDoorDe
import Derived.Lib.SlBytesRow
namespace Go.Proofs.YtelfkakaaobfcaaDoor
open Go.RowKit Sha
set_option linter.unusedVariables false
set_option linter.unusedSimpArgs false

/-- A string of the bytes l. -/
def ofL (l : List UInt8) : ByteArray := ⟨l.toArray⟩
theorem bytes_ofL (l : List UInt8) : bytes (ofL l) = l := rfl
theorem ofL_bytes (s : ByteArray) : ofL (bytes s) = s := rfl
theorem ofL_size (l : List UInt8) : (ofL l).size = l.length := by rw [← bytes_length, bytes_ofL]
theorem big_get (m : Nat) : ∀ (n k : Nat), k < m → (big n m)[k]? = some (UInt8.ofNat (n / 256 ^ (m - 1 - k))) := by
  induction m with
  | zero => intro n k h; omega
  | succ m ih =>
    intro n k h
    unfold big
    by_cases hk : k < m
    · rw [List.getElem?_append_left (by rw [big_length]; exact hk), ih _ _ hk, Nat.div_div_eq_div_mul, ← Nat.pow_succ', show (m - 1 - k).succ = m + 1 - 1 - k by omega]
    · obtain rfl : k = m := by omega
      rw [List.getElem?_append_right (by rw [big_length]; omega), big_length]
      simp
def bC (n : Nat) (f : Nat → UInt8) : Array Value := Array.ofFn (n := n) fun k => Y (f k.val)
def updB (f : Nat → UInt8) (i : Nat) (x : UInt8) : Nat → UInt8 := fun j => if j = i then x else f j
theorem size_bC (n : Nat) (f : Nat → UInt8) : (bC n f).size = n := by unfold bC; simp
theorem get_bC (n : Nat) (f : Nat → UInt8) (k : Nat) : (bC n f)[k]? = if k < n then some (Y (f k)) else none := by
  unfold bC
  rw [Array.getElem?_ofFn]
  split <;> rfl
theorem set_bC (n : Nat) (f : Nat → UInt8) (i : Nat) (x : UInt8) (hi : i < n) : (bC n f).setIfInBounds i (Y x) = bC n (updB f i x) := by
  apply Array.ext_getElem?
  intro k
  simp only [Array.getElem?_setIfInBounds, size_bC, get_bC, updB]
  by_cases h : i = k
  · subst h; simp [hi]
  · rw [if_neg h]
    simp only [if_neg (fun e : k = i => h e.symm)]
attribute [irreducible] bC
/-- The block b holds a row of n bytes. -/
def BAt (t n : Nat) (w : World) (b : Nat) (f : Nat → UInt8) : Prop := w.heap[b]? = some (.cells (bC n f) t (0, 0))
section
variable {t n : Nat} {w : World} {b : Nat} {f : Nat → UInt8}
theorem BAt.of_eq {w' : World} (h : BAt t n w b f) (e : w'.heap[b]? = w.heap[b]?) : BAt t n w' b f := e.trans h
theorem BAt.lt (h : BAt t n w b f) : b < w.heap.size := (Array.getElem?_eq_some_iff.1 h).1
theorem BAt.cell (h : BAt t n w b f) {i : Nat} (hi : i < n) : w.cell? ⟨b, i, none⟩ = some (Y (f i)) := ((cells_of_block h).1 i).trans (by rw [get_bC, if_pos hi])
theorem BAt.frozen (h : BAt t n w b f) (j : Nat) : w.frozen? ⟨b, j, none⟩ = false := (cells_of_block h).2 j
theorem BAt.set (h : BAt t n w b f) {i : Nat} (hi : i < n) (x : UInt8) : BAt t n (w.setCell ⟨b, i, none⟩ (Y x)) b (updB f i x) := by
  unfold BAt
  rw [← set_bC n f i x hi]
  exact heap_setCell_same _ _ _ _ _ _ h
/-- A window of it as a string. -/
theorem run_conv_bytes (h : BAt t n w b f) (l : List UInt8) (o cap : Nat) (ho : o + l.length ≤ n) (hl : ∀ i, i < l.length → l[i]? = some (f (o + i))) :
    (convert 44 9 (.slice (some ⟨b, o, none⟩) l.length cap)).run Tryd.prog w = .ok (.string (ofL l)) w := by
  have hb : Lib.Bytes w b o (ofL l) := fun i hi => by
    rw [ofL_size] at hi
    rw [h.cell (by omega)]
    have e := hl i hi
    have e2 : (ofL l)[i]'(by rw [ofL_size]; exact hi) = f (o + i) := by
      have := byteAt_get (ofL l) i (by rw [ofL_size]; exact hi)
      rw [this]
      unfold byteAt
      rw [bytes_ofL, List.getD_eq_getElem?_getD, e]
      rfl
    rw [e2]
    rfl
  have := Lib.run_convert_whole (P := Tryd.prog) w 44 5 9 Tryd.underlying44 Tryd.underlying5 Tryd.underlying9 b o (ofL l) hb cap
  rw [ofL_size] at this
  exact this
end
theorem run_alloc_b8 (w : World) (o : Oper) (ho : o.op = .alloc 77) (ev : Operand → Value) : (execOp ev o).run Tryd.prog w = .ok (.value (.pointer (some ⟨w.heap.size, 0, none⟩))) (w.alloc (.cells (bC 8 fun _ => 0) 77)) := by
  obtain ⟨d, p, t, ps, af, gd⟩ := o
  simp only at ho
  subst ho
  kernel_rfl
theorem run_make_b4 (w : World) (o : Oper) (x : Operand) (ho : o.op = .makeSlice 44 x x) (ev : Operand → Value) (hx : ev x = .int .i64 4) : (execOp ev o).run Tryd.prog w = .ok (.value (.slice (some ⟨w.heap.size, 0, none⟩) 4 4)) (w.alloc (.cells (bC 4 fun _ => 0) 5)) := by
  obtain ⟨d, p, t, ps, af, gd⟩ := o
  simp only at ho
  subst ho
  unfold execOp
  simp only [hx]
  kernel_rfl
theorem run_make_b8 (w : World) (o : Oper) (x : Operand) (ho : o.op = .makeSlice 44 x x) (ev : Operand → Value) (hx : ev x = .int .i64 8) : (execOp ev o).run Tryd.prog w = .ok (.value (.slice (some ⟨w.heap.size, 0, none⟩) 8 8)) (w.alloc (.cells (bC 8 fun _ => 0) 5)) := by
  obtain ⟨d, p, t, ps, af, gd⟩ := o
  simp only at ho
  subst ho
  unfold execOp
  simp only [hx]
  kernel_rfl
section
variable {ops : Array Oper} {rest : List Oper} {o : Oper} {a : Act} {w : World} {Q : Exit → Act → World → Prop}
theorem wpList_allocB8 (hg : o.guard = none) (ho : o.op = .alloc 77)
    (h : ∀ b w', w.heap.size ≤ b → b ≤ w.heap.size → BAt 77 8 w' b (fun _ => 0) → Below b w w' → w'.heap.size = b + 1 → wpList Tryd.prog ops Q rest (a.put o.dst (.pointer (some ⟨b, 0, none⟩))) w') : wpList Tryd.prog ops Q (o :: rest) a w :=
  wpList_plain hg fun K hK => by
    unfold Oper.wp
    rw [run_alloc_b8 w o ho]
    exact hK _ _ (h _ _ (Nat.le_refl _) (Nat.le_refl _) (by unfold BAt; rw [heap_get_alloc, if_pos rfl]) ((Below.refl _ _).alloc (Nat.le_refl _) _) (World.size_alloc _ _))
theorem wpList_makeB4 (hg : o.guard = none) (x : Operand) (ho : o.op = .makeSlice 44 x x) (hx : a.eval x = .int .i64 4)
    (h : ∀ b w', w.heap.size ≤ b → b ≤ w.heap.size → BAt 5 4 w' b (fun _ => 0) → Below b w w' → w'.heap.size = b + 1 → wpList Tryd.prog ops Q rest (a.put o.dst (.slice (some ⟨b, 0, none⟩) 4 4)) w') : wpList Tryd.prog ops Q (o :: rest) a w :=
  wpList_plain hg fun K hK => by
    unfold Oper.wp
    rw [run_make_b4 w o x ho _ hx]
    exact hK _ _ (h _ _ (Nat.le_refl _) (Nat.le_refl _) (by unfold BAt; rw [heap_get_alloc, if_pos rfl]) ((Below.refl _ _).alloc (Nat.le_refl _) _) (World.size_alloc _ _))
theorem wpList_makeB8 (hg : o.guard = none) (x : Operand) (ho : o.op = .makeSlice 44 x x) (hx : a.eval x = .int .i64 8)
    (h : ∀ b w', w.heap.size ≤ b → b ≤ w.heap.size → BAt 5 8 w' b (fun _ => 0) → Below b w w' → w'.heap.size = b + 1 → wpList Tryd.prog ops Q rest (a.put o.dst (.slice (some ⟨b, 0, none⟩) 8 8)) w') : wpList Tryd.prog ops Q (o :: rest) a w :=
  wpList_plain hg fun K hK => by
    unfold Oper.wp
    rw [run_make_b8 w o x ho _ hx]
    exact hK _ _ (h _ _ (Nat.le_refl _) (Nat.le_refl _) (by unfold BAt; rw [heap_get_alloc, if_pos rfl]) ((Below.refl _ _).alloc (Nat.le_refl _) _) (World.size_alloc _ _))
theorem wpList_storeByte {t n : Nat} (hg : o.guard = none) (x y : Operand) (ho : o.op = .store 5 x y) (b j : Nat) (hx : a.eval x = .pointer (some ⟨b, j, none⟩)) (z : Int) (hy : a.eval y = .int .u8 z) (v : UInt8) (hv : z = (v.toNat : Int)) {f : Nat → UInt8} (ht : BAt t n w b f) (i : Nat) (hi : i < n) (hj : j = i)
    (h : ∀ w', BAt t n w' b (updB f i v) → Chg b w w' → w'.heap.size = w.heap.size → wpList Tryd.prog ops Q rest (a.put o.dst undef) w') : wpList Tryd.prog ops Q (o :: rest) a w := by
  subst hj
  refine wpList_storeAny hg x y ho _ ?_ (h _ (ht.set hi v) ((Chg.refl b w).setCell _) (by simp only [World.size_setCell]))
  rw [hx, hy, hv]
  have c0 := ht.cell hi
  have f0 := ht.frozen j
  unfold Y at c0 ⊢
  simp [go_sem, c0, f0]
theorem wpList_convAny {s d : TypeId} {v u : Value} (hg : o.guard = none) (x : Operand) (ho : o.op = .convert s d x) (hx : a.eval x = u) (hr : (convert s d u).run Tryd.prog w = .ok v w)
    (h : wpList Tryd.prog ops Q rest (a.put o.dst v) w) : wpList Tryd.prog ops Q (o :: rest) a w :=
  wpList_plain hg fun K hK => by
    unfold Oper.wp execOp
    simp only [ho, hx, hr, Sem.run_bind, Sem.run_pure, Result.andThen_ok]
    exact hK _ _ h
end
theorem u8_val (n : Nat) : (n : Int) % 256 = ((UInt8.ofNat n).toNat : Int) := by simp

theorem P_size4 (w : World) : Calls Tryd.prog 36 #[.int .i64 4] w fun e w' => e = .returned (.int .i64 4) ∧ w = w' := by
  go_enter Tryd.func36, Tryd.ntmps36
  go_wp2
  go_ret
  exact ⟨rfl, rfl⟩
theorem P_size8 (w : World) : Calls Tryd.prog 36 #[.int .i64 8] w fun e w' => e = .returned (.int .i64 8) ∧ w = w' := by
  go_enter Tryd.func36, Tryd.ntmps36
  go_wp2
  go_ret
  exact ⟨rfl, rfl⟩
end Go.Proofs.YtelfkakaaobfcaaDoor
