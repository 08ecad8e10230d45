/- Words of 32 bits as values, rows of words, and the laws of the walk for them. -/
import Derived.Test.YtelfkakaaobfcaaDoorGn
import Derived.Test.YtelfkakaaobfcaaDoorDa
namespace Go.Proofs.YtelfkakaaobfcaaDoor
open Go.RowKit Sha
set_option linter.unusedVariables false
set_option linter.unusedSimpArgs false

/-- A word as a value. -/
def U (x : W32) : Value := .int .u32 (x.toNat : Int)
/-- A byte as a value. -/
def Y (b : UInt8) : Value := .int .u8 (b.toNat : Int)
/-- The bytes of a string. -/
def bytes (s : ByteArray) : List UInt8 := s.data.toList
def byteAt (s : ByteArray) (i : Nat) : UInt8 := (bytes s).getD i 0
theorem byteAt_get (s : ByteArray) (i : Nat) (h : i < s.size) : s[i] = byteAt s i := by
  unfold byteAt bytes
  have h2 : i < s.data.size := h
  rw [List.getD_eq_getElem?_getD, Array.getElem?_toList, Array.getElem?_eq_getElem h2]
  rfl
theorem bytes_length (s : ByteArray) : (bytes s).length = s.size := by unfold bytes; rw [Array.length_toList]; rfl
theorem msg_at (s : ByteArray) (j : Nat) : msg (bytes s) j = be (byteAt s (4 * j)) (byteAt s (4 * j + 1)) (byteAt s (4 * j + 2)) (byteAt s (4 * j + 3)) := rfl
theorem U_def (x : W32) : U x = .int .u32 (x.toNat : Int) := rfl
theorem U_oneCell (x : W32) : (U x).oneCell' = true := rfl
theorem U_cells (x : W32) : (U x).cells = #[U x] := rfl
theorem U_wrap (n : Int) : U (BitVec.ofInt 32 n) = .int .u32 (IntKind.u32.wrap n) := by
  unfold U
  congr 1
  simp [BitVec.toNat_ofInt, IntKind.wrap, IntKind.bits, IntKind.signed]
  omega
theorem ofInt_toNat (x : W32) : BitVec.ofInt 32 (x.toNat : Int) = x := by
  apply BitVec.eq_of_toNat_eq
  simp [BitVec.toNat_ofInt]
theorem U_inj {x y : W32} (h : U x = U y) : x = y := by
  unfold U at h
  apply BitVec.eq_of_toNat_eq
  injection h with _ h2
  omega
theorem U_ofNat (x : W32) : U x = .int .u32 (IntKind.u32.wrap (x.toNat : Int)) := by rw [← U_wrap, ofInt_toNat]
section
variable (w : World) (x y : W32)
@[go_sem] theorem U_add : (binOp .add 45 (U x) (U y)).run Tryd.prog w = .ok (U (x + y)) w := by
  have e : U (x + y) = .int .u32 (IntKind.u32.wrap ((x.toNat : Int) + (y.toNat : Int))) := by
    rw [← U_wrap]
    congr 1
  rw [e]; unfold U; simp [go_sem]
@[go_sem] theorem U_sub : (binOp .sub 45 (U x) (U y)).run Tryd.prog w = .ok (U (x - y)) w := by
  have e : U (x - y) = .int .u32 (IntKind.u32.wrap ((x.toNat : Int) - (y.toNat : Int))) := by
    rw [← U_wrap]
    congr 1
    apply BitVec.eq_of_toNat_eq
    simp [BitVec.toNat_ofInt, BitVec.toNat_sub]
    have := x.isLt
    have := y.isLt
    omega
  rw [e]; unfold U; simp [go_sem]
@[go_sem] theorem U_and : (binOp .and 45 (U x) (U y)).run Tryd.prog w = .ok (U (x &&& y)) w := by
  have e : (binOp .and 45 (U x) (U y)).run Tryd.prog w = .ok (.int .u32 (IntKind.u32.wrap ((BitVec.ofInt 32 (x.toNat : Int) &&& BitVec.ofInt 32 (y.toNat : Int)).toNat : Int))) w := by kernel_rfl
  rw [e, ofInt_toNat, ofInt_toNat, ← U_ofNat]
@[go_sem] theorem U_or : (binOp .or 45 (U x) (U y)).run Tryd.prog w = .ok (U (x ||| y)) w := by
  have e : (binOp .or 45 (U x) (U y)).run Tryd.prog w = .ok (.int .u32 (IntKind.u32.wrap ((BitVec.ofInt 32 (x.toNat : Int) ||| BitVec.ofInt 32 (y.toNat : Int)).toNat : Int))) w := by kernel_rfl
  rw [e, ofInt_toNat, ofInt_toNat, ← U_ofNat]
@[go_sem] theorem U_xor : (binOp .xor 45 (U x) (U y)).run Tryd.prog w = .ok (U (x ^^^ y)) w := by
  have e : (binOp .xor 45 (U x) (U y)).run Tryd.prog w = .ok (.int .u32 (IntKind.u32.wrap ((BitVec.ofInt 32 (x.toNat : Int) ^^^ BitVec.ofInt 32 (y.toNat : Int)).toNat : Int))) w := by kernel_rfl
  rw [e, ofInt_toNat, ofInt_toNat, ← U_ofNat]
@[go_sem] theorem U_not : (Op.unary .xor (U x)).run Tryd.prog w = .ok (U (~~~x)) w := by
  have e : (Op.unary .xor (U x)).run Tryd.prog w = .ok (.int .u32 (IntKind.u32.wrap ((BitVec.ofInt 32 4294967295 ^^^ BitVec.ofInt 32 (x.toNat : Int)).toNat : Int))) w := by kernel_rfl
  rw [e, ofInt_toNat, ← U_ofNat]
  congr 2
@[go_sem] theorem U_shl (k : IntKind) (n : Int) (h0 : 0 ≤ n) (h1 : n < 32) : (binOp .shl 45 (U x) (.int k n)).run Tryd.prog w = .ok (U (x <<< n.toNat)) w := by
  obtain ⟨m, rfl⟩ := Int.eq_ofNat_of_zero_le h0
  have e : (binOp .shl 45 (U x) (.int k (m : Int))).run Tryd.prog w = .ok (.int .u32 (IntKind.u32.wrap ((x.toNat : Int) * 2 ^ (min m 32)))) w := by
    rw [Nat.min_eq_left (by omega)]
    unfold U
    simp [go_sem, IntKind.bits]
  rw [e, ← U_wrap, Nat.min_eq_left (by omega)]
  congr 2
  apply BitVec.eq_of_toNat_eq
  rw [BitVec.toNat_ofInt, BitVec.toNat_shiftLeft, Nat.shiftLeft_eq]
  have h6 : ((2 ^ 32 : Nat) : Int) = ((4294967296 : Nat) : Int) := by decide
  have h7 : (x.toNat : Int) * 2 ^ m = ((x.toNat * 2 ^ m : Nat) : Int) := by simp
  rw [h6, h7, ← Int.natCast_emod, Int.toNat_natCast, Int.toNat_natCast]
@[go_sem] theorem U_shr (k : IntKind) (n : Int) (h0 : 0 ≤ n) (h1 : n < 32) : (binOp .shr 45 (U x) (.int k n)).run Tryd.prog w = .ok (U (x >>> n.toNat)) w := by
  obtain ⟨m, rfl⟩ := Int.eq_ofNat_of_zero_le h0
  have e : (binOp .shr 45 (U x) (.int k (m : Int))).run Tryd.prog w = .ok (.int .u32 ((x.toNat : Int).fdiv (2 ^ (min m 32)))) w := by
    rw [Nat.min_eq_left (by omega), Int.fdiv_eq_ediv_of_nonneg _ (by exact Int.le_of_lt (Int.pow_pos (by decide)))]
    unfold U
    simp [go_sem, IntKind.bits]
  rw [e, Nat.min_eq_left (by omega)]
  unfold U
  congr 3
  rw [Int.toNat_natCast, BitVec.toNat_ushiftRight, Nat.shiftRight_eq_div_pow, Int.fdiv_eq_ediv_of_nonneg _ (by exact Int.le_of_lt (Int.pow_pos (by decide)))]
  simp
/-- A byte as a word; a word as an int, as a uint64. -/
@[go_sem] theorem Y_toU32 (b : UInt8) : (convert 5 45 (Y b)).run Tryd.prog w = .ok (U (wb b)) w := by
  have e : U (wb b) = .int .u32 (b.toNat : Int) := by
    unfold U wb
    have := b.toNat_lt
    congr 2
    rw [BitVec.toNat_ofNat]
    omega
  rw [e]
  unfold Y
  have := b.toNat_lt
  simp [go_sem]
  simp [IntKind.wrap, IntKind.bits, IntKind.signed]
  omega
@[go_sem] theorem U_toInt : (convert 45 3 (U x)).run Tryd.prog w = .ok (.int .i64 (x.toNat : Int)) w := by
  unfold U
  have := x.isLt
  simp [go_sem]
  simp [IntKind.wrap, IntKind.bits, IntKind.signed]
  omega
@[go_sem] theorem U_toU64 : (convert 45 78 (U x)).run Tryd.prog w = .ok (.int .u64 (x.toNat : Int)) w := by
  unfold U
  have := x.isLt
  simp [go_sem]
  simp [IntKind.wrap, IntKind.bits, IntKind.signed]
  omega
@[go_sem] theorem U_sub_max : (binOp .sub 45 (.int .u32 4294967295) (U x)).run Tryd.prog w = .ok (U (4294967295#32 - x)) w := by
  have h := U_sub w (4294967295#32) x
  exact h
@[go_sem] theorem guard_sub_max (t : TypeId) (p q : Operand) (v : Value) : (eqGuard .sub t p q v (U x)).run Tryd.prog w = .ok () w := by
  unfold U; simp [go_sem]
@[go_sem] theorem guard_add (t : TypeId) (p q : Operand) (v : Value) : (eqGuard .add t p q (U x) v).run Tryd.prog w = .ok () w := by
  unfold U; simp [go_sem]
@[go_sem] theorem guard_sub (t : TypeId) (p q : Operand) (v : Value) : (eqGuard .sub t p q (U x) v).run Tryd.prog w = .ok () w := by
  unfold U; simp [go_sem]
@[go_sem] theorem guard_and (t : TypeId) (p q : Operand) (v : Value) : (eqGuard .and t p q (U x) v).run Tryd.prog w = .ok () w := by
  unfold U; simp [go_sem]
@[go_sem] theorem guard_or (t : TypeId) (p q : Operand) (v : Value) : (eqGuard .or t p q (U x) v).run Tryd.prog w = .ok () w := by
  unfold U; simp [go_sem]
@[go_sem] theorem guard_xor (t : TypeId) (p q : Operand) (v : Value) : (eqGuard .xor t p q (U x) v).run Tryd.prog w = .ok () w := by
  unfold U; simp [go_sem]
@[go_sem] theorem guard_shl (t : TypeId) (p q : Operand) (v : Value) : (eqGuard .shl t p q (U x) v).run Tryd.prog w = .ok () w := by
  unfold U; simp [go_sem]
@[go_sem] theorem guard_shr (t : TypeId) (p q : Operand) (v : Value) : (eqGuard .shr t p q (U x) v).run Tryd.prog w = .ok () w := by
  unfold U; simp [go_sem]
end

/-- A row of n words. -/
def wC (n : Nat) (f : Nat → W32) : Array Value := Array.ofFn (n := n) fun k => U (f k.val)
def Wd.v (n : Nat) (f : Nat → W32) : Value := .agg (wC n f)
theorem size_wC (n : Nat) (f : Nat → W32) : (wC n f).size = n := by unfold wC; simp
theorem get_wC (n : Nat) (f : Nat → W32) (k : Nat) : (wC n f)[k]? = if k < n then some (U (f k)) else none := by
  unfold wC
  rw [Array.getElem?_ofFn]
  split <;> rfl
theorem wC_congr {n : Nat} {f g : Nat → W32} (h : ∀ i, i < n → f i = g i) : wC n f = wC n g := by
  apply Array.ext_getElem?
  intro k
  rw [get_wC, get_wC]
  split
  · rw [h _ (by omega)]
  · rfl
theorem set_wC (n : Nat) (f : Nat → W32) (i : Nat) (x : W32) (hi : i < n) : (wC n f).setIfInBounds i (U x) = wC n (updW f i x) := by
  apply Array.ext_getElem?
  intro k
  simp only [Array.getElem?_setIfInBounds, size_wC, get_wC, updW]
  by_cases h : i = k
  · subst h; simp [hi]
  · rw [if_neg h]
    simp only [if_neg (fun e : k = i => h e.symm)]
theorem cells_wd (n : Nat) (f : Nat → W32) : (Wd.v n f).cells = wC n f := by simp only [Wd.v, Value.cells]
theorem wC_oneCell (n : Nat) (f : Nat → W32) : (wC n f).all (·.oneCell') = true := by
  rw [Array.all_eq_true]
  intro i hi
  have h : (wC n f)[i]? = some (wC n f)[i] := Array.getElem?_eq_getElem hi
  rw [size_wC] at hi
  rw [get_wC, if_pos hi] at h
  rw [← Option.some.inj h]
  rfl
attribute [irreducible] wC

/-- A type of rows of n words. -/
structure WT (t : TypeId) (n : Nat) (e : TypeId) : Prop where
  und : Tryd.prog.underlying t = some (.array n e)
  size : (Tryd.prog.info? t).map (·.size) = some n
theorem wt64 : WT 80 64 45 := ⟨Tryd.underlying80, by kernel_rfl⟩
theorem wt8 : WT 46 8 45 := ⟨Tryd.underlying46, by kernel_rfl⟩

/-- The block b holds a row of words. -/
def WAt (t n : Nat) (w : World) (b : Nat) (f : Nat → W32) : Prop := w.heap[b]? = some (.cells (wC n f) t (0, 0))
section
variable {t n e : Nat} {w : World} {b : Nat} {f g : Nat → W32}
theorem WAt.of_eq {w' : World} (h : WAt t n w b f) (e : w'.heap[b]? = w.heap[b]?) : WAt t n w' b f := e.trans h
theorem WAt.lt (h : WAt t n w b f) : b < w.heap.size := (Array.getElem?_eq_some_iff.1 h).1
theorem WAt.congr (h : WAt t n w b f) (e : wC n f = wC n g) : WAt t n w b g := by unfold WAt at h ⊢; rw [← e]; exact h
theorem WAt.cell (h : WAt t n w b f) {i : Nat} (hi : i < n) : w.cell? ⟨b, i, none⟩ = some (U (f i)) := ((cells_of_block h).1 i).trans (by rw [get_wC, if_pos hi])
theorem WAt.frozen (h : WAt t n w b f) (j : Nat) : w.frozen? ⟨b, j, none⟩ = false := (cells_of_block h).2 j
theorem WAt.set (h : WAt t n w b f) {i : Nat} (hi : i < n) (x : W32) : WAt t n (w.setCell ⟨b, i, none⟩ (U x)) b (updW f i x) := by
  unfold WAt
  rw [← set_wC n f i x hi]
  exact heap_setCell_same _ _ _ _ _ _ h
theorem ov_w (h : WAt t n w b f) : ∀ w', (∃ u, w' = ov w u) → WAt t n w' b f := by
  rintro w' ⟨u, rfl⟩
  exact h.of_eq ((ov_below w u).block _ h.lt)
theorem WAt.drew (h : WAt t n w b f) : WAt t n w.drew b f := h
theorem run_load_w (T : WT t n e) (h : WAt t n w b f) : (Instr.loadAt t (.pointer (some ⟨b, 0, none⟩))).run Tryd.prog w = .ok (Wd.v n f) w := by
  simp only [Instr.loadAt, Instr.sureAddr, Sem.run_bind, Sem.run_pure, Result.andThen_ok]
  exact run_loadVar_row w b _ t _ _ _ h T.und rfl (by rw [size_wC]; exact T.size)
theorem run_store_w (T : WT t n e) (h : WAt t n w b f) : (Instr.storeAt t (.pointer (some ⟨b, 0, none⟩)) (Wd.v n g)).run Tryd.prog w = .ok () (w.setRow b (wC n g)) := by
  simp only [Instr.storeAt, Instr.sureAddr, Sem.run_bind, Sem.run_pure, Result.andThen_ok]
  exact run_storeVar_row w b _ t _ _ h (by rw [size_wC]; exact T.size) (by rw [size_wC, size_wC]) (wC_oneCell n g)
theorem run_load_word (h : WAt t n w b f) {i : Nat} (hi : i < n) : (Instr.loadAt 45 (.pointer (some ⟨b, i, none⟩))).run Tryd.prog w = .ok (U (f i)) w := by
  have c := h.cell hi
  simp [go_sem, c]
theorem results_w {fn : Func} {p : Tmp} (T : WT t n e) (h : fn.results = #[.cell p t]) (tmps : Array Value) (w : World) (b : Nat) (hp : tmps.getD p undef = .pointer (some ⟨b, 0, none⟩)) (ht : WAt t n w b f) :
    (results fn tmps).run Tryd.prog w = .ok (Wd.v n f) w :=
  results_cell_row h tmps w b _ _ _ _ hp ht T.und rfl (by rw [size_wC]; exact T.size)
end
theorem zero_w (n : Nat) : wC n (fun _ => 0) = Array.replicate n (.int .u32 0) := by
  apply Array.ext_getElem?
  intro k
  rw [get_wC, Array.getElem?_replicate]
  split <;> rfl
theorem run_alloc_w64 (w : World) (o : Oper) (ho : o.op = .alloc 80) (ev : Operand → Value) : (execOp ev o).run Tryd.prog w = .ok (.value (.pointer (some ⟨w.heap.size, 0, none⟩))) (w.alloc (.cells (wC 64 fun _ => 0) 80)) := by
  obtain ⟨d, p, t, ps, af, gd⟩ := o
  simp only at ho
  subst ho
  kernel_rfl
theorem run_alloc_w8 (w : World) (o : Oper) (ho : o.op = .alloc 46) (ev : Operand → Value) : (execOp ev o).run Tryd.prog w = .ok (.value (.pointer (some ⟨w.heap.size, 0, none⟩))) (w.alloc (.cells (wC 8 fun _ => 0) 46)) := by
  obtain ⟨d, p, t, ps, af, gd⟩ := o
  simp only at ho
  subst ho
  kernel_rfl
section
variable {t n e : Nat} {ops : Array Oper} {rest : List Oper} {o : Oper} {a : Act} {w : World} {Q : Exit → Act → World → Prop}
theorem wpList_boxW (T : WT t n e) (hg : o.guard = none) (x : Operand) (ho : o.op = .box t x) (f : Nat → W32) (hx : a.eval x = Wd.v n f)
    (h : ∀ b w', w.heap.size ≤ b → b ≤ w.heap.size → WAt t n w' b f → Below b w w' → w'.heap.size = b + 1 → wpList Tryd.prog ops Q rest (a.put o.dst (.pointer (some ⟨b, 0, none⟩))) w') : wpList Tryd.prog ops Q (o :: rest) a w :=
  wpList_plain hg fun K hK => by
    have e : (a.eval x).cells = wC n f := by rw [hx]; exact cells_wd n f
    unfold Oper.wp execOp
    simp only [ho, Sem.run_bind, Instr.box, newVar, newRow, run_newObj_alloc, Sem.run_pure, Result.andThen_ok, e]
    exact hK _ _ (h _ _ (Nat.le_refl _) (Nat.le_refl _) (by unfold WAt; rw [heap_get_alloc, if_pos rfl]) ((Below.refl _ _).alloc (Nat.le_refl _) _) (World.size_alloc _ _))
theorem wpList_allocW64 (hg : o.guard = none) (ho : o.op = .alloc 80)
    (h : ∀ b w', w.heap.size ≤ b → b ≤ w.heap.size → WAt 80 64 w' b (fun _ => 0) → Below b w w' → w'.heap.size = b + 1 → wpList Tryd.prog ops Q rest (a.put o.dst (.pointer (some ⟨b, 0, none⟩))) w') : wpList Tryd.prog ops Q (o :: rest) a w :=
  wpList_plain hg fun K hK => by
    unfold Oper.wp
    rw [run_alloc_w64 w o ho]
    exact hK _ _ (h _ _ (Nat.le_refl _) (Nat.le_refl _) (by unfold WAt; rw [heap_get_alloc, if_pos rfl]) ((Below.refl _ _).alloc (Nat.le_refl _) _) (World.size_alloc _ _))
theorem wpList_allocW8 (hg : o.guard = none) (ho : o.op = .alloc 46)
    (h : ∀ b w', w.heap.size ≤ b → b ≤ w.heap.size → WAt 46 8 w' b (fun _ => 0) → Below b w w' → w'.heap.size = b + 1 → wpList Tryd.prog ops Q rest (a.put o.dst (.pointer (some ⟨b, 0, none⟩))) w') : wpList Tryd.prog ops Q (o :: rest) a w :=
  wpList_plain hg fun K hK => by
    unfold Oper.wp
    rw [run_alloc_w8 w o ho]
    exact hK _ _ (h _ _ (Nat.le_refl _) (Nat.le_refl _) (by unfold WAt; rw [heap_get_alloc, if_pos rfl]) ((Below.refl _ _).alloc (Nat.le_refl _) _) (World.size_alloc _ _))
theorem wpList_storeW (T : WT t n e) (hg : o.guard = none) (x y : Operand) (ho : o.op = .store t x y) (b : Nat) (hx : a.eval x = .pointer (some ⟨b, 0, none⟩)) (g : Nat → W32) (hy : a.eval y = Wd.v n g) {f : Nat → W32} (ht : WAt t n w b f)
    (h : ∀ w', WAt t n w' b g → Chg b w w' → w'.heap.size = w.heap.size → wpList Tryd.prog ops Q rest (a.put o.dst undef) w') : wpList Tryd.prog ops Q (o :: rest) a w := by
  refine wpList_storeAny hg x y ho _ ?_ (h _ (setRow_heap w b _ _ _ _ ht) ((Chg.refl b w).setRow _) (size_setRow _ _ _))
  rw [hx, hy]
  exact run_store_w T ht
theorem wpList_storeWord (hg : o.guard = none) (x y : Operand) (ho : o.op = .store 45 x y) (b j : Nat) (hx : a.eval x = .pointer (some ⟨b, j, none⟩)) (v : W32) (hy : a.eval y = U v) {f : Nat → W32} (ht : WAt t n w b f) (i : Nat) (hi : i < n) (hj : j = i)
    (h : ∀ w', WAt t n w' b (updW f i v) → Chg b w w' → w'.heap.size = w.heap.size → wpList Tryd.prog ops Q rest (a.put o.dst undef) w') : wpList Tryd.prog ops Q (o :: rest) a w := by
  subst hj
  refine wpList_storeAny hg x y ho _ ?_ (h _ (ht.set hi v) ((Chg.refl b w).setCell _) (by simp only [World.size_setCell]))
  rw [hx, hy]
  have c0 := ht.cell hi
  have f0 := ht.frozen j
  unfold U at c0 ⊢
  simp [go_sem, c0, f0]
end
/-- A package-level table of words. -/
def GAt (g n : Nat) (w : World) (f : Nat → W32) : Prop := g < w.heap.size ∧ ∀ i, i < n → w.cell? ⟨g, i, none⟩ = some (U (f i))
section
variable {g n : Nat} {w : World} {f : Nat → W32}
theorem GAt.lt (h : GAt g n w f) : g < w.heap.size := h.1
theorem GAt.of_eq {w' : World} (h : GAt g n w f) (e : w'.heap[g]? = w.heap[g]?) : GAt g n w' f := by
  refine ⟨?_, fun i hi => ?_⟩
  · have := h.1
    rcases Nat.lt_or_ge g w'.heap.size with k | k
    · exact k
    · rw [Array.getElem?_eq_none k, Array.getElem?_eq_getElem this] at e
      cases e
  · rw [World.cell?_of_block (w := w) e]
    exact h.2 i hi
theorem GAt.drew (h : GAt g n w f) : GAt g n w.drew f := h
theorem ov_g (h : GAt g n w f) : ∀ w', (∃ u, w' = ov w u) → GAt g n w' f := by
  rintro w' ⟨u, rfl⟩
  exact h.of_eq ((ov_below w u).block _ h.lt)
theorem run_load_gword (h : GAt g n w f) {i : Nat} (hi : i < n) : (Instr.loadAt 45 (.pointer (some ⟨g, i, none⟩))).run Tryd.prog w = .ok (U (f i)) w := by
  have c := h.2 i hi
  simp [go_sem, c]
theorem run_load_gw {t e : TypeId} (T : WT t n e) (h : GAt g n w f) : (Instr.loadAt t (.pointer (some ⟨g, 0, none⟩))).run Tryd.prog w = .ok (Wd.v n f) w := by
  simp only [Instr.loadAt, Instr.sureAddr, Sem.run_bind, Sem.run_pure, Result.andThen_ok]
  have hl : (loadCells ⟨g, 0, none⟩ (wC n f).toList.length).run Tryd.prog w = .ok (wC n f).toList.toArray w :=
    run_loadCells_list (P := Tryd.prog) w ⟨g, 0, none⟩ (wC n f).toList (fun j v hv => by
      have hadd : (⟨g, 0, none⟩ : Addr).add j = ⟨g, j, none⟩ := by unfold Addr.add; split <;> simp_all
      have hj : j < n := by
        have := (List.getElem?_eq_some_iff.1 hv).1
        rw [Array.length_toList, size_wC] at this
        exact this
      rw [hadd, h.2 j hj]
      rw [Array.getElem?_toList, get_wC, if_pos hj] at hv
      exact hv)
  have hagg : (isAgg t).run Tryd.prog w = .ok true w := by
    unfold isAgg
    rw [Sem.run_bind, run_underlying T.und w]
    simp
  have hsz := T.size
  cases hq : Tryd.prog.info? t with
  | none => rw [hq] at hsz; cases hsz
  | some i =>
    have he : i.size = (wC n f).size := by rw [hq] at hsz; rw [size_wC]; simpa using hsz
    rw [Array.length_toList] at hl
    simp only [Array.toArray_toList] at hl
    simp only [loadVar, Sem.run_bind, hagg, sizeOf, typeInfo, hq, he, hl, run_program, Result.andThen_ok, if_true, Sem.run_pure]
    rfl
end
/-- Eight words built. -/
theorem wd_eight (s : St) : Wd.v 8 s.at = .agg #[U s.a, U s.b, U s.c, U s.d, U s.e, U s.f, U s.g, U s.h] := by
  unfold Wd.v
  congr 1
  apply Array.ext_getElem?
  intro k
  rw [get_wC]
  have hc : k = 0 ∨ k = 1 ∨ k = 2 ∨ k = 3 ∨ k = 4 ∨ k = 5 ∨ k = 6 ∨ k = 7 ∨ 8 ≤ k := by omega
  rcases hc with rfl | rfl | rfl | rfl | rfl | rfl | rfl | rfl | hk
  · rw [if_pos (by omega), at0]; rfl
  · rw [if_pos (by omega), at1]; rfl
  · rw [if_pos (by omega), at2]; rfl
  · rw [if_pos (by omega), at3]; rfl
  · rw [if_pos (by omega), at4]; rfl
  · rw [if_pos (by omega), at5]; rfl
  · rw [if_pos (by omega), at6]; rfl
  · rw [if_pos (by omega), at7]; rfl
  · rw [if_neg (by omega)]
    exact (Array.getElem?_eq_none (by simp; omega)).symm
section
variable {ops : Array Oper} {rest : List Oper} {o : Oper} {a : Act} {w : World} {Q : Exit → Act → World → Prop}
theorem wpList_buildW8 (hg : o.guard = none) (x0 x1 x2 x3 x4 x5 x6 x7 : Operand) (ho : o.op = .build 46 #[(0, x0), (1, x1), (2, x2), (3, x3), (4, x4), (5, x5), (6, x6), (7, x7)]) (v0 v1 v2 v3 v4 v5 v6 v7 : W32)
    (h0 : a.eval x0 = U v0) (h1 : a.eval x1 = U v1) (h2 : a.eval x2 = U v2) (h3 : a.eval x3 = U v3) (h4 : a.eval x4 = U v4) (h5 : a.eval x5 = U v5) (h6 : a.eval x6 = U v6) (h7 : a.eval x7 = U v7)
    (h : wpList Tryd.prog ops Q rest (a.put o.dst (Wd.v 8 (St.at ⟨v0, v1, v2, v3, v4, v5, v6, v7⟩))) w) : wpList Tryd.prog ops Q (o :: rest) a w :=
  wpList_plain hg fun K hK => by
    have r : (execOp a.eval o).run Tryd.prog w = .ok (.value (Wd.v 8 (St.at ⟨v0, v1, v2, v3, v4, v5, v6, v7⟩))) w := by
      rw [wd_eight]
      obtain ⟨d, p, t, ps, af, gd⟩ := o
      simp only at ho
      subst ho
      unfold execOp
      simp only [List.map_toArray, List.map_cons, List.map_nil, h0, h1, h2, h3, h4, h5, h6, h7]
      kernel_rfl
    unfold Oper.wp
    rw [r]
    exact hK _ _ h
end
theorem part_w (n : Nat) (f : Nat → W32) (k : Nat) (hk : k < n) (w : World) : (Go.part 45 (wC n f) k).run Tryd.prog w = .ok (U (f k)) w := by
  have h0 : (isAgg 45).run Tryd.prog w = .ok false w := by kernel_rfl
  have h1 : (wC n f)[k]? = some (U (f k)) := by rw [get_wC, if_pos hk]
  unfold Go.part
  simp [Sem.run_bind, h0, Result.andThen_ok, Sem.run_pure, h1]
theorem run_index_w8 (f : Nat → W32) (k : Nat) (hk : k < 8) (w : World) : (Instr.index 46 (Wd.v 8 f) (.int .i64 k)).run Tryd.prog w = .ok (U (f k)) w := by
  have hs : ∀ w, (sizeOf 45).run Tryd.prog w = .ok 1 w := fun w => by kernel_rfl
  unfold Instr.index Wd.v
  have e : (0 : Int) ≤ (k : Int) ∧ (k : Int) < 8 := by omega
  simp only [asIntOf, Sem.run_bind, Sem.run_pure, Result.andThen_ok, run_underlying Tryd.underlying46]
  rw [if_pos (by simpa using e)]
  simp only [Sem.run_bind, hs, Result.andThen_ok, Int.toNat_natCast, Nat.mul_one]
  exact part_w 8 f k hk w
/-- How long a string is. -/
def strLen : Value → Nat
  | .string s => s.size
  | _ => 0
end Go.Proofs.YtelfkakaaobfcaaDoor
