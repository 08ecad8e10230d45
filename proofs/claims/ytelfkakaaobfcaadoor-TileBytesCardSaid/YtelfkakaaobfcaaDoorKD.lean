import Derived.Test.YtelfkakaaobfcaaDoorAa
import Derived.Test.YtelfkakaaobfcaaDoorGn
import Derived.Handy
import Derived.Test.YtelfkakaaobfcaaDoorDq
import Derived.Test.YtelfkakaaobfcaaDoorKA
import Derived.Test.YtelfkakaaobfcaaDoorDr
import Derived.Test.YtelfkakaaobfcaaDoorDh
import Derived.Test.YtelfkakaaobfcaaDoorKB

/- A region that draws its order: its first operation, a bare move, is taken first; then come reads of old memory and callees that only make memory; the rest comes in the order of the text. -/
namespace Go.Proofs.YtelfkakaaobfcaaDoor
open Go.RowKit
set_option linter.unusedVariables false
set_option linter.unusedSimpArgs false

def sinkS (md : Region.Mode) (ops : Array Oper) (n : Nat) : Bool :=
  (List.range n).all fun i => decide (i = 0) || (List.range (n + 1)).any fun j => decide (i < j) && Region.waitsFor md ops j i
section
variable {P : Program} {ops : Array Oper} {md : Region.Mode} {C : World → Prop}
theorem tail_waitsS {n : Nat} {listed : Array Bool} (hs : sinkS md ops n = true) (hc : Region.chainB md ops n = true) (hn : n < ops.size) (inv : HeadInv md ops n listed) (h0 : listed.getD 0 false = true) :
    ∀ (d i : Nat), n - i = d → i < n → listed.getD i true = false → ∀ t, n ≤ t → t ∉ Region.ready md ops listed := by
  intro d
  induction d using Nat.strongRecOn with
  | _ d ih =>
    intro i hd hi hun t ht hr
    obtain ⟨_, ot, hot, hall⟩ := mem_ready.1 hr
    have htlt : t < ops.size := (Array.getElem?_eq_some_iff.1 hot).1
    by_cases htn : t = n
    · subst htn
      have h1 := List.all_eq_true.1 hs i (List.mem_range.2 hi)
      have hi0 : i ≠ 0 := fun e => by
        subst e
        rw [getD_both hun] at h0; cases h0
      rw [decide_eq_false hi0, Bool.false_or] at h1
      obtain ⟨j, hj, hj2⟩ := List.any_eq_true.1 h1
      simp only [Bool.and_eq_true, decide_eq_true_eq] at hj2
      obtain ⟨oj, hoj, e, he, hb, hon⟩ := Region.waitsFor_spec hj2.2
      have hjle : j ≤ t := by have := List.mem_range.1 hj; omega
      by_cases hjt : j = t
      · subst hjt
        have : oj = ot := Option.some.inj (hoj.symm.trans hot)
        subst this
        have h2 := hall e he hb
        rw [hon, getD_both hun] at h2
        cases h2
      · cases hl : listed.getD j false with
        | true =>
          have h2 := inv.closed j oj hoj hl e he hb
          rw [hon, getD_both hun] at h2
          cases h2
        | false =>
          have hjs : j < listed.size := by rw [inv.size]; omega
          exact ih (t - j) (by omega) j rfl (by omega) (getD_in hjs hl) t (Nat.le_refl _) hr
    · have h1 := List.all_eq_true.1 hc t (List.mem_range.2 htlt)
      simp only [Bool.or_eq_true, decide_eq_true_eq] at h1
      rcases h1 with h1 | h1
      · omega
      · obtain ⟨o', ho', e, he, hb, hon⟩ := Region.waitsFor_spec h1
        have : o' = ot := Option.some.inj (ho'.symm.trans hot)
        subst this
        have h2 := hall e he hb
        rw [hon, getD_both (inv.tail (t - 1) (by omega) (by omega))] at h2
        cases h2
theorem headAny_takeS {n i : Nat} {oi : Oper} {v : Value} {L : Array Bool → Act → Prop} (hi : ops[i]? = some oi) (hsel : Region.noSelect ops = true)
    (hs : sinkS md ops n = true) (hc : Region.chainB md ops n = true) (hn : n < ops.size) (hin : i < n) (hL : ∀ done a, L done a → ∀ j ∈ Region.ready md ops done, n ≤ j) :
    ∀ (f : Nat) (done : Array Bool) (a : Act), HeadInv md ops n done → done.getD 0 false = true →
      (∀ j oj, ops[j]? = some oj → j ≠ i → done.getD j true = false → (∀ e ∈ oj.after, Region.binds md e = true → e.on ≠ i) → oi.apart ops oj = true) →
      i ∈ Region.ready md ops done → YieldsIn P ops C oi v a →
      headAny P md ops C n L f (done.setIfInBounds i true) (a.put oi.dst v) → headAny P md ops C n L (f + 1) done a := by
  have ns := Region.noSelect_spec hsel
  intro f
  induction f with
  | zero =>
    intro done a inv h0 _ hr hy H
    have hun := (mem_ready.1 hr).1
    refine ⟨fun h => (by rw [h] at hr; cases hr), fun j hj => ?_⟩
    have hjn : j < n := Nat.lt_of_not_le fun h => tail_waitsS hs hc hn inv h0 _ i rfl hin hun j h hj
    refine ⟨hjn, ?_⟩
    by_cases hji : j = i
    · rw [hji]; exact hy.qOp hi H
    · exact absurd (hL _ _ H j (ready_mono hj hji)) (by omega)
  | succ f ih =>
    intro done a inv h0 hfree hr hy H
    have hun := (mem_ready.1 hr).1
    refine ⟨fun h => (by rw [h] at hr; cases hr), fun j hj => ?_⟩
    have hjn : j < n := Nat.lt_of_not_le fun h => tail_waitsS hs hc hn inv h0 _ i rfl hin hun j h hj
    refine ⟨hjn, ?_⟩
    by_cases hji : j = i
    · rw [hji]; exact hy.qOp hi H
    · have h1 := (H.2 j (ready_mono hj hji)).2
      obtain ⟨hjun, oj, hoj, hall⟩ := mem_ready.1 hj
      have hnot : ∀ e ∈ oj.after, Region.binds md e = true → e.on ≠ i := fun e he hb heq => by
        have h1 := hall e he hb
        rw [heq, getD_both hun] at h1
        cases h1
      have h2 := qOp_put hoj (hfree j oj hoj hji hjun hnot) (fun cs b => ns i oi cs b hi) (fun cs b => ns j oj cs b hoj) hy h1
      refine qOp_mono (fun a' h3 => ih (done.setIfInBounds j true) a' (inv.set hj hjn) (getD_set_true h0) ?_ (ready_mono hr (Ne.symm hji)) h3.1 ?_) h2
      · intro k ok hk hki hundone hno
        refine hfree k ok hk hki ?_ hno
        by_cases hjk : j = k
        · rw [← hjk]; exact hjun
        · rw [getD_set_ne true hjk] at hundone; exact hundone
      · rw [Array.setIfInBounds_comm _ _ hji]
        exact h3.2
theorem headAny_lexS {n g : Nat} {Lq : Act → Prop} (hsel : Region.noSelect ops = true) (hs : sinkS md ops n = true) (hc : Region.chainB md ops n = true) (hn : n < ops.size) :
    ∀ (l : List Oper) (k : Nat) (done : Array Bool) (a : Act), (∀ j, j < l.length → l[j]? = ops[k + j]?) → k + l.length = n → HeadInv md ops n done → done.getD 0 false = true →
    Region.lexHead md ops g l.length k done = true → wpQuiet P ops C Lq l a →
    headAny P md ops C n (fun d a' => Region.seqB md ops g n d = true ∧ Lq a') l.length done a := by
  intro l
  induction l with
  | nil =>
    intro k done a _ hk _ _ hB h
    obtain rfl : k = n := by simpa using hk
    exact ⟨by simpa [Region.lexHead] using hB, h⟩
  | cons o l ih =>
    intro k done a hl hk inv hd hB h
    have h0 : ops[k]? = some o := by simpa using (hl 0 (by simp)).symm
    simp only [List.length_cons, Region.lexHead, Bool.and_eq_true] at hB
    obtain ⟨⟨hr, hf⟩, hB'⟩ := hB
    have hkn : k < n := by simp only [List.length_cons] at hk; omega
    have hr' : k ∈ Region.ready md ops done := by simpa using hr
    have hst : qOp P ops C k (wpQuiet P ops C Lq l) a := by unfold qOp; simp only [h0]; exact h
    obtain ⟨v, hy, hK⟩ := yieldsIn_of_qOp h0 hst
    refine headAny_takeS h0 hsel hs hc hn hkn (fun d a' hL => seqB_ready hL.1) l.length done a inv hd (Region.free_spec h0 hf) hr' hy
      (ih (k + 1) _ _ (fun j hj => ?_) (by simp only [List.length_cons] at hk; omega) (inv.set hr' hkn) (getD_set_true hd) hB' hK)
    have := hl (j + 1) (by simp; omega)
    simpa [Nat.add_assoc, Nat.add_comm 1 j] using this
end
def first1 (ops : Array Oper) : Array Bool := (Array.replicate ops.size false).setIfInBounds 0 true
/-- May the region be walked so: its first operation taken first, then n - 1 quiet ones, then the rest in the order of the text? -/
def lexTail1B (md : Region.Mode) (ops : Array Oper) (n : Nat) : Bool :=
  Region.noSelect ops && decide (1 ≤ n) && decide (n < ops.size) && sinkS md ops n && Region.chainB md ops n && (Region.ready md ops (Array.replicate ops.size false)).contains 0 && Region.free md ops (Array.replicate ops.size false) 0 &&
  Region.lexHead md ops (ops.size - n) (n - 1) 1 (first1 ops)
/-- Q, but 'False' at a panic. -/
def NoPan (Q : Exit → Act → World → Prop) : Exit → Act → World → Prop
  | .panic _, _, _ => False
  | e, a, w => Q e a w
theorem NoPan.normal {Q : Exit → Act → World → Prop} {a : Act} {w : World} (h : Q .normal a w) : NoPan Q .normal a w := h
theorem NoPan.imp {Q : Exit → Act → World → Prop} : ∀ (e : Exit) (a : Act) (w : World), NoPan Q e a w → Q e a w := fun e a w h => by
  cases e <;> first | exact h | exact (h : False).elim
theorem wp_region_ov_tail1' {P : Program} {id : Nat} {Q : Exit → Act → World → Prop} {a : Act} {w : World} {o : Oper} {l : List Oper} (n : Nat) (hm : P.follows .mixedOrders = true) (hB : lexTail1B .any (o :: l).toArray n = true)
    (x : Operand) (ho : o.op = .move x) (hg : o.guard = none)
    (hQ' : ∀ v c a w, Q (.panic c) (a.put o.dst v) w → Q (.panic c) a w)
    (h : wpQuiet P (o :: l).toArray (fun w' => ∃ u, w' = ov w u) (fun a' => ∀ w', Below w.heap.size w w' → wpList P (o :: l).toArray Q (l.drop (n - 1)) a' w') (l.take (n - 1)) (a.put o.dst (a.eval x))) : (Code.region id (o :: l).toArray true).wp P Q a w := by
  simp only [lexTail1B, Bool.and_eq_true, decide_eq_true_eq] at hB
  obtain ⟨⟨⟨⟨⟨⟨⟨hsel, hn1⟩, hn⟩, hs⟩, hc⟩, hr0⟩, hf0⟩, hlex⟩ := hB
  have hn' : n < l.length + 1 := by simpa using hn
  have htl : (l.take (n - 1)).length = n - 1 := by simp; omega
  have hdl : (l.drop (n - 1)).length = (o :: l).toArray.size - n := by simp; omega
  have h0 : (o :: l).toArray[0]? = some o := by simp
  have hr : 0 ∈ Region.ready .any (o :: l).toArray (Array.replicate (o :: l).toArray.size false) := by simpa using hr0
  have inv0 : HeadInv .any (o :: l).toArray n (Array.replicate (o :: l).toArray.size false) :=
    ⟨by simp, fun j oj _ hl => (by rw [getD_replicate_false] at hl; cases hl), fun t _ ht => getD_in (by simpa using ht) (getD_replicate_false _ _)⟩
  have inv1 : HeadInv .any (o :: l).toArray n (first1 (o :: l).toArray) := inv0.set hr (by omega)
  have hd1 : (first1 (o :: l).toArray).getD 0 false = true := by simp [first1]
  have hy : Yields P (o :: l).toArray o (a.eval x) a := .inl ⟨by simp [Region.wanted, hg], fun w => by
    unfold execOp
    simp only [ho]
    rfl⟩
  have H := headAny_lexS (md := .any) (g := (o :: l).toArray.size - n) hsel hs hc hn (l.take (n - 1)) 1 _ (a.put o.dst (a.eval x)) (fun j hj => by
    have hj' : j < n - 1 := by rw [htl] at hj; exact hj
    simp [hj', Nat.add_comm 1 j]) (by rw [htl]; omega) inv1 hd1 (by rw [htl]; exact hlex) h
  refine wp_region_any hm ?_
  have hsz : (o :: l).toArray.size = ((o :: l).toArray.size - 1) + 1 := by simp
  rw [show wpAny P .any (o :: l).toArray Q (o :: l).toArray.size = wpAny P .any (o :: l).toArray Q (((o :: l).toArray.size - 1) + 1) from by rw [← hsz]]
  refine wpAny_first h0 (Region.noSelect_spec hsel) (hQ' (a.eval x)) _ _ a _ (Region.free_spec h0 hf0) hr hy ?_
  have := any_of_headAny (Q' := Q) (g := (o :: l).toArray.size - n) (fun d a' w' hw' hL => by
    obtain ⟨u, rfl⟩ := hw'
    have := wpAny_of_seq (md := .any) (Q' := Q) (l.drop (n - 1)) n d a' (ov w u) (fun j => by
      rw [List.getElem?_drop, List.getElem?_toArray, show n + j = (n - 1 + j) + 1 by omega, List.getElem?_cons_succ]) (by rw [hdl]; exact hL.1) (hL.2 _ (ov_below w u))
    rwa [hdl] at this) _ _ _ w.drew ⟨w.drew, ov_of ((Below.refl _ _).drew)⟩ H
  rw [htl, show n - 1 + ((o :: l).toArray.size - n) = (o :: l).toArray.size - 1 by omega] at this
  exact this
theorem wp_region_ov_tail1 {P : Program} {id : Nat} {Q : Exit → Act → World → Prop} {a : Act} {w : World} {o : Oper} {l : List Oper} (n : Nat) (hm : P.follows .mixedOrders = true) (hB : lexTail1B .any (o :: l).toArray n = true)
    (x : Operand) (ho : o.op = .move x) (hg : o.guard = none)
    (h : wpQuiet P (o :: l).toArray (fun w' => ∃ u, w' = ov w u) (fun a' => ∀ w', Below w.heap.size w w' → wpList P (o :: l).toArray (NoPan Q) (l.drop (n - 1)) a' w') (l.take (n - 1)) (a.put o.dst (a.eval x))) : (Code.region id (o :: l).toArray true).wp P Q a w :=
  Code.wp_mono NoPan.imp (wp_region_ov_tail1' n hm hB x ho hg (fun _ _ _ _ h => h) h)
end Go.Proofs.YtelfkakaaobfcaaDoor
/- Blocks known whole, of whatever type: laws of the walk. -/
namespace Go.Proofs.YtelfkakaaobfcaaDoor
open Go.RowKit
set_option linter.unusedVariables false
set_option linter.unusedSimpArgs false
set_option maxRecDepth 20000

/-- The block b holds the cells cs. -/
def AtB (t : TypeId) (w : World) (b : Nat) (cs : Array Value) : Prop := w.heap[b]? = some (.cells cs t (0, 0))
section
variable {t : TypeId} {w : World} {b : Nat} {cs cs' : Array Value}
theorem AtB.of_eq {w' : World} (h : AtB t w b cs) (e : w'.heap[b]? = w.heap[b]?) : AtB t w' b cs := e.trans h
theorem AtB.lt (h : AtB t w b cs) : b < w.heap.size := (Array.getElem?_eq_some_iff.1 h).1
theorem AtB.cell (h : AtB t w b cs) (i : Nat) {v : Value} (hv : cs[i]? = some v) : w.cell? ⟨b, i, none⟩ = some v := ((cells_of_block h).1 i).trans hv
theorem AtB.frozen (h : AtB t w b cs) (i : Nat) : w.frozen? ⟨b, i, none⟩ = false := (cells_of_block h).2 i
theorem AtB.setRow (h : AtB t w b cs) (cs' : Array Value) : AtB t (w.setRow b cs') b cs' := setRow_heap w b _ _ _ _ h
theorem ov_B (h : AtB t w b cs) : ∀ w', (∃ u, w' = ov w u) → AtB t w' b cs := by
  rintro w' ⟨u, rfl⟩
  exact h.of_eq ((ov_below w u).block _ h.lt)
/-- Loaded whole. -/
theorem run_load_B (h : AtB t w b cs) (hagg : ∀ w : World, (isAgg t).run Tryd.prog w = .ok true w) (hsz : (Tryd.prog.info? t).map (·.size) = some cs.size) : (Instr.loadAt t (.pointer (some ⟨b, 0, none⟩))).run Tryd.prog w = .ok (.agg cs) w :=
  run_load_part (off := 0) h hagg hsz (fun j _ => by rw [Nat.zero_add])
/-- A part loaded. -/
theorem run_load_BP {t' : TypeId} (h : AtB t w b cs) (off : Nat) (hagg : ∀ w : World, (isAgg t').run Tryd.prog w = .ok true w) (hsz : (Tryd.prog.info? t').map (·.size) = some cs'.size) (hc : ∀ j, j < cs'.size → cs[off + j]? = cs'[j]?) : (Instr.loadAt t' (.pointer (some ⟨b, off, none⟩))).run Tryd.prog w = .ok (.agg cs') w :=
  run_load_part h hagg hsz hc
theorem run_store_B (h : AtB t w b cs) (hsz : (Tryd.prog.info? t).map (·.size) = some cs'.size) (hss : cs'.size = cs.size) (hone : cs'.all (·.oneCell') = true) : (Instr.storeAt t (.pointer (some ⟨b, 0, none⟩)) (.agg cs')).run Tryd.prog w = .ok () (w.setRow b cs') := by
  simp only [Instr.storeAt, Instr.sureAddr, Sem.run_bind, Sem.run_pure, Result.andThen_ok]
  exact run_storeVar_row w b _ t _ _ h hsz hss.symm hone
end
section
variable {t : TypeId} {ops : Array Oper} {rest : List Oper} {o : Oper} {a : Act} {w : World} {Q : Exit → Act → World → Prop}
theorem wpList_boxB (hg : o.guard = none) (x : Operand) (ho : o.op = .box t x) (cs : Array Value) (hx : a.eval x = .agg cs)
    (h : ∀ b w', w.heap.size ≤ b → b ≤ w.heap.size → AtB t w' b cs → Below b w w' → w'.heap.size = b + 1 → wpList Tryd.prog ops Q rest (a.put o.dst (.pointer (some ⟨b, 0, none⟩))) w') : wpList Tryd.prog ops Q (o :: rest) a w :=
  wpList_plain hg fun K hK => by
    have e : (a.eval x).cells = cs := by rw [hx]; simp only [Value.cells]
    unfold Oper.wp execOp
    simp only [ho, Sem.run_bind, Instr.box, newVar, newRow, run_newObj_alloc, Sem.run_pure, Result.andThen_ok, e]
    exact hK _ _ (h _ _ (Nat.le_refl _) (Nat.le_refl _) (by unfold AtB; rw [heap_get_alloc, if_pos rfl]) ((Below.refl _ _).alloc (Nat.le_refl _) _) (World.size_alloc _ _))
/-- A value of one cell boxed. -/
theorem wpList_boxV (hg : o.guard = none) (x : Operand) (ho : o.op = .box t x) (v : Value) (hx : a.eval x = v) (hv : v.cells = #[v])
    (h : ∀ b w', w.heap.size ≤ b → b ≤ w.heap.size → AtB t w' b #[v] → Below b w w' → w'.heap.size = b + 1 → wpList Tryd.prog ops Q rest (a.put o.dst (.pointer (some ⟨b, 0, none⟩))) w') : wpList Tryd.prog ops Q (o :: rest) a w :=
  wpList_plain hg fun K hK => by
    have e : (a.eval x).cells = #[v] := by rw [hx]; exact hv
    unfold Oper.wp execOp
    simp only [ho, Sem.run_bind, Instr.box, newVar, newRow, run_newObj_alloc, Sem.run_pure, Result.andThen_ok, e]
    exact hK _ _ (h _ _ (Nat.le_refl _) (Nat.le_refl _) (by unfold AtB; rw [heap_get_alloc, if_pos rfl]) ((Below.refl _ _).alloc (Nat.le_refl _) _) (World.size_alloc _ _))
theorem wpList_storeB {cs : Array Value} (hg : o.guard = none) (x y : Operand) (ho : o.op = .store t x y) (b : Nat) (hx : a.eval x = .pointer (some ⟨b, 0, none⟩)) (cs' : Array Value) (hy : a.eval y = .agg cs') (ht : AtB t w b cs) (hsz : (Tryd.prog.info? t).map (·.size) = some cs'.size) (hss : cs'.size = cs.size) (hone : cs'.all (·.oneCell') = true)
    (h : ∀ w', AtB t w' b cs' → Chg b w w' → w'.heap.size = w.heap.size → wpList Tryd.prog ops Q rest (a.put o.dst undef) w') : wpList Tryd.prog ops Q (o :: rest) a w := by
  refine wpList_storeAny hg x y ho _ ?_ (h _ (ht.setRow cs') ((Chg.refl b w).setRow _) (size_setRow _ _ _))
  rw [hx, hy]
  exact run_store_B ht hsz hss hone
theorem wpList_allocBk (hg : o.guard = none) (cs : Array Value) (hrun : ∀ ev, (execOp ev o).run Tryd.prog w = .ok (.value (.pointer (some ⟨w.heap.size, 0, none⟩))) (w.alloc (.cells cs t)))
    (h : ∀ b w', w.heap.size ≤ b → b ≤ w.heap.size → AtB t w' b cs → Below b w w' → w'.heap.size = b + 1 → wpList Tryd.prog ops Q rest (a.put o.dst (.pointer (some ⟨b, 0, none⟩))) w') : wpList Tryd.prog ops Q (o :: rest) a w :=
  wpList_plain hg fun K hK => by
    unfold Oper.wp
    rw [hrun]
    exact hK _ _ (h _ _ (Nat.le_refl _) (Nat.le_refl _) (by unfold AtB; rw [heap_get_alloc, if_pos rfl]) ((Below.refl _ _).alloc (Nat.le_refl _) _) (World.size_alloc _ _))
end
/-- A block for a result. -/
theorem results_B {t : TypeId} {fn : Func} {p : Tmp} (h : fn.results = #[.cell p t]) (tmps : Array Value) (w : World) (b : Nat) (hp : tmps.getD p undef = .pointer (some ⟨b, 0, none⟩)) {cs : Array Value} (ht : AtB t w b cs) (hagg : ∀ w : World, (isAgg t).run Tryd.prog w = .ok true w) (hsz : (Tryd.prog.info? t).map (·.size) = some cs.size) :
    (results fn tmps).run Tryd.prog w = .ok (.agg cs) w := by
  have hl := run_load_B ht hagg hsz
  simp only [Instr.loadAt, Instr.sureAddr, Sem.run_bind, Sem.run_pure, Result.andThen_ok] at hl
  unfold results
  rw [h]
  have hp' : tmps[p]?.getD undef = .pointer (some ⟨b, 0, none⟩) := by simpa using hp
  simp [hp', Instr.sureAddr, asAddr, hl, Sem.run_bind, Sem.run_pure, Result.andThen_ok]

/-- A block and a slot for results. -/
theorem results_B2 {t : TypeId} {fn : Func} {p q : Tmp} (h : fn.results = #[.cell p t, .tmp q]) (tmps : Array Value) (w : World) (b : Nat) (hp : tmps.getD p undef = .pointer (some ⟨b, 0, none⟩)) {cs : Array Value} (v : Value) (hq : tmps.getD q undef = v) (ht : AtB t w b cs) (hagg : ∀ w : World, (isAgg t).run Tryd.prog w = .ok true w) (hsz : (Tryd.prog.info? t).map (·.size) = some cs.size) :
    (results fn tmps).run Tryd.prog w = .ok (.tuple #[.agg cs, v]) w := by
  have hl := run_load_B ht hagg hsz
  simp only [Instr.loadAt, Instr.sureAddr, Sem.run_bind, Sem.run_pure, Result.andThen_ok] at hl
  unfold results
  rw [h]
  have hp' : tmps[p]?.getD undef = .pointer (some ⟨b, 0, none⟩) := by simpa using hp
  have hq' : tmps[q]?.getD undef = v := by simpa using hq
  simp [hp', hq', Instr.sureAddr, asAddr, hl, Sem.run_bind, Sem.run_pure, Result.andThen_ok]
end Go.Proofs.YtelfkakaaobfcaaDoor
/- Rows of bytes that the call itself has made: more than one byte appended; as a string. -/
namespace Go.Proofs.YtelfkakaaobfcaaDoor
open Go.RowKit Sha
set_option linter.unusedVariables false
set_option linter.unusedSimpArgs false

/-- Two bytes in a new row. -/
theorem run_bsB2 (w : World) (o : Oper) (x y : Operand) (ho : o.op = .buildSlice 44 2 #[(0, x), (1, y)]) (ev : Operand → Value) (s t : UInt8) (hx : ev x = Y s) (hy : ev y = Y t) : (execOp ev o).run Tryd.prog w = .ok (.value (.slice (some ⟨w.heap.size, 0, none⟩) 2 2)) (w.alloc (.cells #[Y s, Y t] 5)) := by
  obtain ⟨d, p, t, ps, af, gd⟩ := o
  simp only at ho
  subst ho
  unfold execOp
  simp only [List.map_toArray, List.map_cons, List.map_nil, hx, hy]
  kernel_rfl
def two (s t : UInt8) : Nat → UInt8 := fun i => if i = 0 then s else t
theorem two_get (s t : UInt8) (i : Nat) (hi : i < 2) : [s, t][i]? = some (two s t i) := by
  have hc : i = 0 ∨ i = 1 := by omega
  rcases hc with rfl | rfl <;> rfl
theorem bC_two (s t : UInt8) : bC 2 (two s t) = #[Y s, Y t] := by
  apply Array.ext_getElem?
  intro k
  rw [get_bC]
  have hc : k = 0 ∨ k = 1 ∨ 2 ≤ k := by omega
  rcases hc with rfl | rfl | hk
  · rfl
  · rfl
  · rw [if_neg (by omega)]
    exact (Array.getElem?_eq_none (by simp; omega)).symm
section
variable {ops : Array Oper} {rest : List Oper} {o : Oper} {a : Act} {w : World} {Q : Exit → Act → World → Prop}
theorem wpList_bsB2 (hg : o.guard = none) (x y : Operand) (ho : o.op = .buildSlice 44 2 #[(0, x), (1, y)]) (s t : UInt8) (hx : a.eval x = Y s) (hy : a.eval y = Y t)
    (h : ∀ b w', w.heap.size ≤ b → b ≤ w.heap.size → BAt 5 2 w' b (two s t) → Below b w w' → w'.heap.size = b + 1 → wpList Tryd.prog ops Q rest (a.put o.dst (.slice (some ⟨b, 0, none⟩) 2 2)) w') : wpList Tryd.prog ops Q (o :: rest) a w :=
  wpList_plain hg fun K hK => by
    unfold Oper.wp
    rw [run_bsB2 w o x y ho _ s t hx hy]
    exact hK _ _ (h _ _ (Nat.le_refl _) (Nat.le_refl _) (by unfold BAt; rw [bC_two, heap_get_alloc, if_pos rfl]) ((Below.refl _ _).alloc (Nat.le_refl _) _) (World.size_alloc _ _))
theorem run_bsB0 (w : World) (o : Oper) (ho : o.op = .buildSlice 44 0 #[]) (ev : Operand → Value) : (execOp ev o).run Tryd.prog w = .ok (.value (.slice (some ⟨w.heap.size, 0, none⟩) 0 0)) (w.alloc (.cells #[] 5)) := by
  obtain ⟨d, p, t, ps, af, gd⟩ := o
  simp only at ho
  subst ho
  kernel_rfl
theorem wpList_bsB0 (hg : o.guard = none) (ho : o.op = .buildSlice 44 0 #[])
    (h : ∀ b w', w.heap.size ≤ b → b ≤ w.heap.size → OwnB b (.slice (some ⟨b, 0, none⟩) 0 0) [] w' → Below b w w' → w'.heap.size = b + 1 → wpList Tryd.prog ops Q rest (a.put o.dst (.slice (some ⟨b, 0, none⟩) 0 0)) w') : wpList Tryd.prog ops Q (o :: rest) a w :=
  wpList_plain hg fun K hK => by
    unfold Oper.wp
    rw [run_bsB0 w o ho]
    exact hK _ _ (h _ _ (Nat.le_refl _) (Nat.le_refl _) ⟨rfl, .inr ⟨w.heap.size, 0, #[], rfl, Nat.le_refl _, by rw [heap_get_alloc, if_pos rfl], Nat.le_refl _, by unfold maxLen; omega, rfl, rfl⟩⟩ ((Below.refl _ _).alloc (Nat.le_refl _) _) (World.size_alloc _ _))
theorem OwnB.mono {B B' : Nat} {v : Value} {l : List UInt8} (h : OwnB B v l w) (hb : B' ≤ B) : OwnB B' v l w := by
  obtain ⟨h1, h2⟩ := h
  rcases h2 with h2 | ⟨g, cap, cur, e, hg, r⟩
  · exact ⟨h1, .inl h2⟩
  · exact ⟨h1, .inr ⟨g, cap, cur, e, Nat.le_trans hb hg, r⟩⟩
/-- The bytes of a row of n appended. -/
theorem wpList_appendN (n : Nat) (hn0 : 0 < n) (hg : o.guard = none) (s x : Operand) (ho : o.op = .call { callee := .builtin .append, args := #[s, x], argTypes := #[44, 44] }) (v : Value) (hs : a.eval s = v) (b c : Nat) (hx : a.eval x = .slice (some ⟨b, 0, none⟩) n c) {B : Nat} {l y : List UInt8} {f : Nat → UInt8} {m : Nat} (hown : OwnB B v l w) (hb : BAt 5 m w b f) (hm : n ≤ m) (hyn : y.length = n) (hy : ∀ i, i < n → y[i]? = some (f i)) (hlen : l.length + n ≤ 140737488355328) (hB : B ≤ w.heap.size)
    (h : ∀ v' w', OwnB B v' (l ++ y) w' → Below B w w' → wpList Tryd.prog ops Q rest (a.put o.dst v') w') : wpList Tryd.prog ops Q (o :: rest) a w := by
  obtain ⟨i, hi⟩ : ∃ i, Tryd.prog.info? 5 = some i := by
    cases h : Tryd.prog.info? 5 with
    | some i => exact ⟨i, rfl⟩
    | none =>
      have e : (Tryd.prog.info? 5).isSome = true := by kernel_rfl
      rw [h] at e; cases e
  have hz : i.zero = some (.int .u8 0) := by
    have e : (Tryd.prog.info? 5).bind (·.zero) = some (.int .u8 0) := by kernel_rfl
    rw [hi] at e; exact e
  have hs1 : i.size = 1 := by
    have e : (Tryd.prog.info? 5).map (·.size) = some 1 := by kernel_rfl
    rw [hi] at e; simpa using e
  have hb1 : i.bytes = 1 := by
    have e : (Tryd.prog.info? 5).map (·.bytes) = some 1 := by kernel_rfl
    rw [hi] at e; simpa using e
  refine wpList_append_own (P := Tryd.prog) w hg s x 44 ho B 5 i (.int .u8 0) 1 1 Tryd.underlying44 hi hz hs1 hb1 rfl (by omega) v l.length (Lib.byteCells l) hs hown ⟨b, 0, none⟩ n c (Lib.byteCells y) hx (by simp [Lib.byteCells, hyn]) ?_ ?_ (by unfold maxLen; omega) (by omega) hB ?_
  · intro j u hu
    unfold Lib.byteCells at hu
    rw [List.getElem?_map] at hu
    have hj : j < n := by
      rcases Nat.lt_or_ge j n with k | k
      · exact k
      · rw [List.getElem?_eq_none (by omega)] at hu; cases hu
    rw [hy j hj] at hu
    have := hb.cell (i := j) (by omega)
    have e : (⟨b, 0, none⟩ : Addr).add j = ⟨b, j, none⟩ := by unfold Addr.add; split <;> simp_all
    rw [e, this]
    exact hu
  · intro u hu
    unfold Lib.byteCells at hu
    obtain ⟨z, _, rfl⟩ := List.mem_map.1 hu
    rfl
  · intro v' w' h1 h2 h3
    refine h v' w' ?_ ?_
    · unfold OwnB
      rw [bc_append, List.length_append, hyn]
      exact h1
    · have hlt := hown.lt
      exact ⟨h2.os, h2.tape, h2.output, h2.size, fun k hk => h2.block k (by omega) (fun e => by have := hlt k e.symm; omega)⟩
end
/-- As a string, empty or not. -/
theorem OwnB.conv' {B : Nat} {v : Value} {l : List UInt8} {w : World} {d : TypeId} (hd : Tryd.prog.underlying d = some .string) (h : OwnB B v l w) (hl : l ≠ []) : (convert 44 d v).run Tryd.prog w = .ok (.string (ofL l)) w := by
  obtain ⟨va, vc, rfl⟩ := h.len
  have e : (convert 44 d (.slice va l.length vc)).run Tryd.prog w = (convert 44 9 (.slice va l.length vc)).run Tryd.prog w := by
    rw [run_convert_bytes_string w 44 d 5 _ _ _ Tryd.underlying44 Tryd.underlying5 hd,
      run_convert_bytes_string w 44 9 5 _ _ _ Tryd.underlying44 Tryd.underlying5 Tryd.underlying9]
  rw [e]
  exact h.conv hl

end Go.Proofs.YtelfkakaaobfcaaDoor
/- The bytes of a tile: contracts of Bytes and Read of package tile and of its reference. -/
namespace Go.Proofs.YtelfkakaaobfcaaDoor
open Go.RowKit Pl Sha
set_option linter.unusedVariables false
set_option linter.unusedSimpArgs false
set_option maxRecDepth 20000

def u8 (z : Int) : UInt8 := UInt8.ofNat z.toNat
theorem u8_val' {z : Int} (h : 0 ≤ z ∧ z ≤ 255) : z = ((u8 z).toNat : Int) := by
  unfold u8
  rw [UInt8.toNat_ofNat']
  omega
/-- The four bytes of a pixel. -/
def pxB (p : Px) : List UInt8 := [u8 p.r, u8 p.g, u8 p.b, u8 p.a]
/-- The bytes of the first k pixels. -/
def tbK (t : Nat → Px) : Nat → List UInt8
  | 0 => []
  | k + 1 => tbK t k ++ pxB (t k)
theorem tbK_next (t : Nat → Px) (k : Nat) : tbK t (k + 1) = tbK t k ++ pxB (t k) := rfl
theorem tbK_length (t : Nat → Px) (k : Nat) : (tbK t k).length = 4 * k := by
  induction k with
  | zero => rfl
  | succ k ih => rw [tbK_next, List.length_append, ih]; rfl
def four8 (a b c d : UInt8) : Nat → UInt8 := fun i => if i = 0 then a else if i = 1 then b else if i = 2 then c else d
theorem four_get (a b c d : UInt8) (i : Nat) (hi : i < 4) : [a, b, c, d][i]? = some (four8 a b c d i) := by
  have hc : i = 0 ∨ i = 1 ∨ i = 2 ∨ i = 3 := by omega
  rcases hc with rfl | rfl | rfl | rfl <;> rfl
theorem bC_four (a b c d : UInt8) : bC 4 (four8 a b c d) = #[Y a, Y b, Y c, Y d] := by
  apply Array.ext_getElem?
  intro k
  rw [get_bC]
  have hc : k = 0 ∨ k = 1 ∨ k = 2 ∨ k = 3 ∨ 4 ≤ k := by omega
  rcases hc with rfl | rfl | rfl | rfl | hk
  · rfl
  · rfl
  · rfl
  · rfl
  · rw [if_neg (by omega)]
    exact (Array.getElem?_eq_none (by simp; omega)).symm
theorem run_bsB4 (w : World) (o : Oper) (x y z u : Operand) (ho : o.op = .buildSlice 44 4 #[(0, x), (1, y), (2, z), (3, u)]) (ev : Operand → Value) (a b c d : UInt8) (hx : ev x = Y a) (hy : ev y = Y b) (hz : ev z = Y c) (hu : ev u = Y d) : (execOp ev o).run Tryd.prog w = .ok (.value (.slice (some ⟨w.heap.size, 0, none⟩) 4 4)) (w.alloc (.cells #[Y a, Y b, Y c, Y d] 5)) := by
  obtain ⟨d, p, t, ps, af, gd⟩ := o
  simp only at ho
  subst ho
  unfold execOp
  simp only [List.map_toArray, List.map_cons, List.map_nil, hx, hy, hz, hu]
  kernel_rfl
theorem wpList_bsB4 {ops : Array Oper} {rest : List Oper} {o : Oper} {a : Act} {w : World} {Q : Exit → Act → World → Prop} (hg : o.guard = none) (x y z u : Operand) (ho : o.op = .buildSlice 44 4 #[(0, x), (1, y), (2, z), (3, u)]) (p : Px) (hp : p.ok) (hx : a.eval x = .int .u8 p.r) (hy : a.eval y = .int .u8 p.g) (hz : a.eval z = .int .u8 p.b) (hu : a.eval u = .int .u8 p.a)
    (h : ∀ b w', w.heap.size ≤ b → b ≤ w.heap.size → BAt 5 4 w' b (four8 (u8 p.r) (u8 p.g) (u8 p.b) (u8 p.a)) → Below b w w' → w'.heap.size = b + 1 → wpList Tryd.prog ops Q rest (a.put o.dst (.slice (some ⟨b, 0, none⟩) 4 4)) w') : wpList Tryd.prog ops Q (o :: rest) a w :=
  wpList_plain hg fun K hK => by
    obtain ⟨p1, p2, p3, p4⟩ := hp
    unfold Oper.wp
    rw [run_bsB4 w o x y z u ho _ (u8 p.r) (u8 p.g) (u8 p.b) (u8 p.a) (by rw [hx]; unfold Y; rw [← u8_val' p1]) (by rw [hy]; unfold Y; rw [← u8_val' p2]) (by rw [hz]; unfold Y; rw [← u8_val' p3]) (by rw [hu]; unfold Y; rw [← u8_val' p4])]
    exact hK _ _ (h _ _ (Nat.le_refl _) (Nat.le_refl _) (by unfold BAt; rw [bC_four, heap_get_alloc, if_pos rfl]) ((Below.refl _ _).alloc (Nat.le_refl _) _) (World.size_alloc _ _))
theorem run_mk256 (w : World) (o : Oper) (ho : o.op = .makeSlice 44 (.const (.int .i64 0)) (.const (.int .i64 256))) (a : Act) : (execOp a.eval o).run Tryd.prog w = .ok (.value (.slice (some ⟨w.heap.size, 0, none⟩) 0 256)) (w.alloc (.cells (bC 256 fun _ => 0) 5)) := by
  obtain ⟨d, p, t, ps, af, gd⟩ := o
  simp only at ho
  subst ho
  kernel_rfl
theorem wpList_mk256 {ops : Array Oper} {rest : List Oper} {o : Oper} {a : Act} {w : World} {Q : Exit → Act → World → Prop} (hg : o.guard = none) (ho : o.op = .makeSlice 44 (.const (.int .i64 0)) (.const (.int .i64 256)))
    (h : ∀ b w', w.heap.size ≤ b → b ≤ w.heap.size → OwnB b (.slice (some ⟨b, 0, none⟩) 0 256) [] w' → Below b w w' → w'.heap.size = b + 1 → wpList Tryd.prog ops Q rest (a.put o.dst (.slice (some ⟨b, 0, none⟩) 0 256)) w') : wpList Tryd.prog ops Q (o :: rest) a w :=
  wpList_plain hg fun K hK => by
    unfold Oper.wp
    rw [run_mk256 w o ho a]
    exact hK _ _ (h _ _ (Nat.le_refl _) (Nat.le_refl _) ⟨rfl, .inr ⟨w.heap.size, 256, bC 256 fun _ => 0, rfl, Nat.le_refl _, by rw [heap_get_alloc, if_pos rfl], Nat.zero_le _, by unfold maxLen; omega, by rw [size_bC], rfl⟩⟩ ((Below.refl _ _).alloc (Nat.le_refl _) _) (World.size_alloc _ _))
theorem PixAt.c4 {w : World} {b : Nat} {p : Px} (h : PixAt w b p) : w.cell? ⟨b, 0, none⟩ = some (.int .u8 p.r) ∧ w.cell? ⟨b, 1, none⟩ = some (.int .u8 p.g) ∧ w.cell? ⟨b, 2, none⟩ = some (.int .u8 p.b) ∧ w.cell? ⟨b, 3, none⟩ = some (.int .u8 p.a) :=
  ⟨(cells_of_block h).1 0, (cells_of_block h).1 1, (cells_of_block h).1 2, (cells_of_block h).1 3⟩
set_option maxHeartbeats 2000000 in
theorem P_Bytes (t : Nat → Px) (w : World) (ok : Tok t) : Calls Tryd.prog 6 #[Tile.v t] w fun e w' => e = .returned (.string (ofL (tbK t 64))) ∧ Below w.heap.size w w' := by
  have B := Below.refl w.heap.size w
  obtain ⟨D, hD⟩ : ∃ D, D = tbK t 64 := ⟨_, rfl⟩
  have hne : D ≠ [] := fun e => by have := tbK_length t 64; rw [← hD, e] at this; cases this
  rw [← hD]
  have HD := Lib.hid hD
  clear hD
  go_enter Tryd.func6, Tryd.ntmps6
  go_wp2_with (first | (refine wpList_loadT rfl _ rfl _ rfl th ?_; simp only [Act.put, List.setIfInBounds_toArray, List.set_cons_zero, List.set_cons_succ]) | (refine wpList_mk256 rfl rfl ?_; intro b_od wn hle hge ht hbn hzn; have hsz := B.size; replace B := B.trans (hbn.mono (by omega)); have hln := Nat.lt_of_lt_of_eq (Nat.lt_succ_self _) hzn.symm; clear hzn; (try first | (have hlt := th.lt; replace th := th.of_eq (hbn.block _ (by omega))) | replace th := th.below (hbn.mono hle)); have od := ht; clear ht; simp only [Act.put, List.setIfInBounds_toArray, List.set_cons_zero, List.set_cons_succ]) | (refine wpList_boxT' rfl _ rfl _ rfl ?_; intro b_th wn hle hge ht hbn hzn; have hsz := B.size; replace B := B.trans (hbn.mono (by omega)); have hln := Nat.lt_of_lt_of_eq (Nat.lt_succ_self _) hzn.symm; clear hzn; have th := ht; clear ht; simp only [Act.put, List.setIfInBounds_toArray, List.set_cons_zero, List.set_cons_succ]) | fail)
  have hbd : w.heap.size ≤ b_od := by omega
  have hb2 : b_od < wn.heap.size := by omega
  go_loopw [3, 8] (fun v i wr => ∃ k : Nat, k ≤ 64 ∧ i = .int .i64 k ∧ OwnB b_od v (tbK t k) wr ∧ Below w.heap.size w wr ∧ b_od < wr.heap.size) (fun _ i _ => (64 - intOf i).toNat)
  case atStart => exact ⟨0, by omega, rfl, od, B, hb2⟩
  case round =>
    clear B od th hb2
    obtain ⟨k, hk, rfl, od, B, hb2⟩ := hrel
    have B2 := Below.refl wr.heap.size wr
    by_cases hlt : k < 64
    · have hix := index_tile t k hlt
      have hok := ok k hlt
      have htl := tbK_length t k
      have hnx := Lib.hid (tbK_next t k)
      clear HD hne ok
      go_wp2_with (first | (at_builtin; replace od := od.below B2; refine wpList_appendN 4 (by omega) rfl _ _ rfl _ rfl _ _ rfl od b4 (Nat.le_refl _) (y := pxB (t k)) rfl (fun i hi => four_get _ _ _ _ i hi) (by rw [tbK_length]; omega) (by omega) ?_; clear B2; intro vn wn hto hbn; have hsz := B.size; have hzn := hbn.size; replace B := B.trans (hbn.mono (by omega)); clear od b4; have od := hto; clear hto; simp only [Act.put, List.setIfInBounds_toArray, List.set_cons_zero, List.set_cons_succ]) | (refine wpList_bsB4 rfl _ _ _ _ rfl (t k) hok rfl rfl rfl rfl ?_; intro b_b4 wn hle hge ht hbn hzn; have hsz := B.size; (try (have hsz2 := B2.size; replace B2 := B2.trans (hbn.mono (by omega)))); replace B := B.trans (hbn.mono (by omega)); have hln := Nat.lt_of_lt_of_eq (Nat.lt_succ_self _) hzn.symm; clear hzn; (try first | (have hlt := hp.lt; replace hp := hp.of_eq (hbn.block _ (by omega))) | replace hp := hp.below (hbn.mono hle)); have b4 := ht; clear ht; simp only [Act.put, List.setIfInBounds_toArray, List.set_cons_zero, List.set_cons_succ]) | (refine wpList_loadAny (t := 5) rfl _ rfl _ _ _ rfl (run_load_u8 hp.c4.1) (by rfl) ?_; simp only [Act.put, List.setIfInBounds_toArray, List.set_cons_zero, List.set_cons_succ]) | (refine wpList_loadAny (t := 5) rfl _ rfl _ _ _ rfl (run_load_u8 hp.c4.2.1) (by rfl) ?_; simp only [Act.put, List.setIfInBounds_toArray, List.set_cons_zero, List.set_cons_succ]) | (refine wpList_loadAny (t := 5) rfl _ rfl _ _ _ rfl (run_load_u8 hp.c4.2.2.1) (by rfl) ?_; simp only [Act.put, List.setIfInBounds_toArray, List.set_cons_zero, List.set_cons_succ]) | (refine wpList_loadAny (t := 5) rfl _ rfl _ _ _ rfl (run_load_u8 hp.c4.2.2.2) (by rfl) ?_; simp only [Act.put, List.setIfInBounds_toArray, List.set_cons_zero, List.set_cons_succ]) | (refine wpList_storePx rfl _ _ rfl _ rfl (_) rfl hp ?_; clear hp; intro wn ht hcn hzn; have hsz := B.size; replace hzn := Nat.le_of_eq hzn.symm; (try (have hsz2 := B2.size; replace B2 := Chg.below B2 hcn (by omega) B2.size)); replace B := Chg.below B hcn (by omega) B.size; have hp := ht; clear ht; simp only [Act.put, List.setIfInBounds_toArray, List.set_cons_zero, List.set_cons_succ]) | (refine wpList_allocPx' rfl rfl ?_; intro b_hp wn hle hge ht hbn hzn; have hsz := B.size; (try (have hsz2 := B2.size; replace B2 := B2.trans (hbn.mono (by omega)))); replace B := B.trans (hbn.mono (by omega)); have hln := Nat.lt_of_lt_of_eq (Nat.lt_succ_self _) hzn.symm; clear hzn; have hp := ht; clear ht; simp only [Act.put, List.setIfInBounds_toArray, List.set_cons_zero, List.set_cons_succ]) | fail)
      rw [← hnx.out] at od
      go_roundw
      case rel => exact ⟨k + 1, by omega, by go_num, od, B, by omega⟩
      case measure => simp [intOf]; omega
    · obtain rfl : k = 64 := by omega
      rw [← HD.out] at od
      go_wp2_with ((refine wpList_convAny (s := 44) (d := 9) rfl _ rfl rfl (od.conv hne) ?_; simp only [Act.put, List.setIfInBounds_toArray, List.set_cons_zero, List.set_cons_succ]))
      go_ret
      exact ⟨rfl, B⟩
set_option maxHeartbeats 2000000 in
theorem R_Bytes (t : Nat → Px) (w : World) (ok : Tok t) : Calls Tryd.prog 9 #[Tile.v t] w fun e w' => e = .returned (.string (ofL (tbK t 64))) ∧ Below w.heap.size w w' := by
  have B := Below.refl w.heap.size w
  obtain ⟨D, hD⟩ : ∃ D, D = tbK t 64 := ⟨_, rfl⟩
  have hne : D ≠ [] := fun e => by have := tbK_length t 64; rw [← hD, e] at this; cases this
  rw [← hD]
  have HD := Lib.hid hD
  clear hD
  go_enter Tryd.func9, Tryd.ntmps9
  go_wp2_with (first | (refine wpList_bsB0 rfl rfl ?_; intro b_od wn hle hge ht hbn hzn; have hsz := B.size; replace B := B.trans (hbn.mono (by omega)); have hln := Nat.lt_of_lt_of_eq (Nat.lt_succ_self _) hzn.symm; clear hzn; (try first | (have hlt := th.lt; replace th := th.of_eq (hbn.block _ (by omega))) | replace th := th.below (hbn.mono hle)); have od := ht; clear ht; simp only [Act.put, List.setIfInBounds_toArray, List.set_cons_zero, List.set_cons_succ]) | (refine wpList_boxT' rfl _ rfl _ rfl ?_; intro b_th wn hle hge ht hbn hzn; have hsz := B.size; replace B := B.trans (hbn.mono (by omega)); have hln := Nat.lt_of_lt_of_eq (Nat.lt_succ_self _) hzn.symm; clear hzn; have th := ht; clear ht; simp only [Act.put, List.setIfInBounds_toArray, List.set_cons_zero, List.set_cons_succ]) | fail)
  have hbd : w.heap.size ≤ b_th := by omega
  have hbo : b_th < b_od := by omega
  have hb2 : b_od < wn.heap.size := by omega
  go_loopw [3, 4] (fun v i wr => ∃ k : Nat, k ≤ 64 ∧ i = .int .i64 k ∧ OwnB b_od v (tbK t k) wr ∧ Below w.heap.size w wr ∧ b_od < wr.heap.size ∧ TileAt wr b_th t) (fun _ i _ => (64 - intOf i).toNat)
  case atStart => exact ⟨0, by omega, rfl, od, B, hb2, th⟩
  case round =>
    clear B od th hb2
    obtain ⟨k, hk, rfl, od, B, hb2, th⟩ := hrel
    by_cases hlt : k < 64
    · have hok := ok k hlt
      have hl := tbK_length t k
      have hnx := Lib.hid (tbK_next t k)
      clear HD hne ok
      have B2 := Below.refl wr.heap.size wr
      go_wp2
      refine wp_region_ov_tail1 17 (by kernel_rfl) (by kernel_rfl) _ rfl rfl ?_
      simp only [Nat.reduceSub, List.take_succ_cons, List.take_zero, List.drop_succ_cons, List.drop_zero, Act.eval, Array.getD_eq_getD_getElem?, List.getElem?_toArray, List.getElem?_cons_succ, List.getElem?_cons_zero, Option.getD_some]
      simp only [Act.put, List.setIfInBounds_toArray, List.set_cons_zero, List.set_cons_succ]
      repeat (first | go_big_quiet_skip | (go_big_quiet_want; first | (refine quiet_loadAny (t := 5) rfl _ _ _ rfl (fun w hw => run_load_u8 ((ov_tile th w hw).cells hlt).1) (by first | rfl | omega) ?_; simp only [Act.put, List.setIfInBounds_toArray, List.set_cons_zero, List.set_cons_succ]; go_big_quiet_on) | (refine quiet_loadAny (t := 5) rfl _ _ _ rfl (fun w hw => run_load_u8 ((ov_tile th w hw).cells hlt).2.1) (by first | rfl | omega) ?_; simp only [Act.put, List.setIfInBounds_toArray, List.set_cons_zero, List.set_cons_succ]; go_big_quiet_on) | (refine quiet_loadAny (t := 5) rfl _ _ _ rfl (fun w hw => run_load_u8 ((ov_tile th w hw).cells hlt).2.2.1) (by first | rfl | omega) ?_; simp only [Act.put, List.setIfInBounds_toArray, List.set_cons_zero, List.set_cons_succ]; go_big_quiet_on) | (refine quiet_loadAny (t := 5) rfl _ _ _ rfl (fun w hw => run_load_u8 ((ov_tile th w hw).cells hlt).2.2.2) (by first | rfl | omega) ?_; simp only [Act.put, List.setIfInBounds_toArray, List.set_cons_zero, List.set_cons_succ]; go_big_quiet_on) | (go_big_quiet_op; first | go_big_quiet_on | go_big_quiet_call ((fail)))))
      refine wpQuiet_nil ?_
      intro wn hbn
      have hsz := B.size
      have hzn := hbn.size
      replace B := B.trans (hbn.mono B.size)
      try replace th := th.of_eq (hbn.block _ th.lt)
      replace B2 := B2.trans (hbn.mono (Nat.le_refl _))
      go_wp2_with (first | (at_builtin; replace od := od.below B2; refine wpList_appendN 4 (by omega) rfl _ _ rfl _ rfl _ _ rfl od b4 (Nat.le_refl _) (y := pxB (t k)) rfl (fun i hi => four_get _ _ _ _ i hi) (by rw [tbK_length]; omega) (by omega) ?_; clear B2; intro vn wn hto hbn; have hsz := B.size; have hzn := hbn.size; replace B := B.trans (hbn.mono (by omega)); clear od b4; replace th := th.of_eq (hbn.block _ (by omega)); have od := hto; clear hto; simp only [Act.put, List.setIfInBounds_toArray, List.set_cons_zero, List.set_cons_succ]) | (refine wpList_bsB4 rfl _ _ _ _ rfl (t k) hok rfl rfl rfl rfl ?_; intro b_b4 wn hle hge ht hbn hzn; have hsz := B.size; (try (have hsz2 := B2.size; replace B2 := B2.trans (hbn.mono (by omega)))); replace B := B.trans (hbn.mono (by omega)); have hln := Nat.lt_of_lt_of_eq (Nat.lt_succ_self _) hzn.symm; clear hzn; (try first | (have hlt := th.lt; replace th := th.of_eq (hbn.block _ (by omega))) | replace th := th.below (hbn.mono hle)); have b4 := ht; clear ht; simp only [Act.put, List.setIfInBounds_toArray, List.set_cons_zero, List.set_cons_succ]) | fail)
      refine NoPan.normal ?_
      go_wp2
      rw [← hnx.out] at od
      go_roundw
      case rel => exact ⟨k + 1, by omega, by go_num, od, B, by omega, th⟩
      case measure => simp [intOf]; omega
    · obtain rfl : k = 64 := by omega
      rw [← HD.out] at od
      go_wp2_with ((refine wpList_convAny (s := 44) (d := 9) rfl _ rfl rfl (od.conv hne) ?_; simp only [Act.put, List.setIfInBounds_toArray, List.set_cons_zero, List.set_cons_succ]))
      go_ret
      exact ⟨rfl, B⟩
end Go.Proofs.YtelfkakaaobfcaaDoor
/- Keys of tiles: the bytes determine the tile; contracts of Key of package tile and of its reference. -/
namespace Go.Proofs.YtelfkakaaobfcaaDoor
open Go.RowKit Pl Sha
set_option linter.unusedVariables false
set_option linter.unusedSimpArgs false
set_option maxRecDepth 20000

theorem u8_inj {x y : Int} (hx : 0 ≤ x ∧ x ≤ 255) (hy : 0 ≤ y ∧ y ≤ 255) (h : u8 x = u8 y) : x = y := by
  rw [u8_val' hx, u8_val' hy, h]
theorem pxB_inj {p q : Px} (hp : p.ok) (hq : q.ok) (h : pxB p = pxB q) : p = q := by
  obtain ⟨a1, a2, a3, a4⟩ := hp
  obtain ⟨b1, b2, b3, b4⟩ := hq
  unfold pxB at h
  simp only [List.cons.injEq, and_true] at h
  obtain ⟨h1, h2, h3, h4⟩ := h
  obtain ⟨r, g, b, a⟩ := p
  obtain ⟨r2, g2, b2', a2'⟩ := q
  have e1 := u8_inj a1 b1 h1
  have e2 := u8_inj a2 b2 h2
  have e3 := u8_inj a3 b3 h3
  have e4 := u8_inj a4 b4 h4
  simp only at e1 e2 e3 e4
  subst e1 e2 e3 e4
  rfl
theorem tbK_inj {t u : Nat → Px} (ht : Tok t) (hu : Tok u) : ∀ k, k ≤ 64 → tbK t k = tbK u k → ∀ i, i < k → t i = u i
  | 0, _, _, i, hi => by omega
  | k + 1, hk, h, i, hi => by
    rw [tbK_next, tbK_next] at h
    obtain ⟨h1, h2⟩ := List.append_inj h (by rw [tbK_length, tbK_length])
    rcases Nat.lt_or_eq_of_le (Nat.le_of_lt_succ hi) with hlt | rfl
    · exact tbK_inj ht hu k (by omega) h1 i hlt
    · exact pxB_inj (ht _ (by omega)) (hu _ (by omega)) h2
theorem tbK_congr {t u : Nat → Px} : ∀ k, (∀ i, i < k → t i = u i) → tbK t k = tbK u k
  | 0, _ => rfl
  | k + 1, h => by rw [tbK_next, tbK_next, tbK_congr k (fun i hi => h i (by omega)), h k (by omega)]
theorem ofL_inj {l m : List UInt8} (h : ofL l = ofL m) : l = m := by rw [← bytes_ofL l, h, bytes_ofL]
theorem tbs_eq {t u : Nat → Px} (ht : Tok t) (hu : Tok u) : ofL (tbK t 64) = ofL (tbK u 64) ↔ ∀ i, i < 64 → t i = u i :=
  ⟨fun h => tbK_inj ht hu 64 (Nat.le_refl _) (ofL_inj h), fun h => by rw [tbK_congr 64 h]⟩
theorem str_nbeq {s t : ByteArray} (h : ¬ s = t) : (s.toList == t.toList) = false := by
  rw [ByteArray.toList_eq, ByteArray.toList_eq, beq_eq_false_iff_ne]
  exact fun e => h (by rw [← ofL_bytes s, ← ofL_bytes t]; exact congrArg ofL e)
theorem eqT_false {t u : Nat → Px} (e : ¬ ∀ i, i < 64 → t i = u i) : eqT t u = false := by
  cases h : eqT t u
  · rfl
  · exact absurd (tileC_inj ((eqT_iff t u).1 h)) e
theorem tbs_size (t : Nat → Px) : (ofL (tbK t 64)).size = 256 := by rw [ofL_size, tbK_length]
/-- The key of a tile. -/
def keyS (t : Nat → Px) : ByteArray := ofL (ofB (tbK t 64))
theorem P_Key (t : Nat → Px) (w : World) (ok : Tok t) (gs : GAt 0 8 w Sha.start.at) (kt : GAt 1 64 w kW) : Calls Tryd.prog 7 #[Tile.v t] w fun e w' => e = .returned (.string (keyS t)) ∧ Below w.heap.size w w' := by
  have B := Below.refl w.heap.size w
  have hl : (tbK t 64).length < 1099511627776 := by rw [tbK_length]; omega
  have HK : Hid (keyS t = ofL (ofB (tbK t 64))) := Lib.hid rfl
  have HO := Lib.hid ok
  clear ok
  generalize keyS t = K at *
  go_enter Tryd.func7, Tryd.ntmps7
  go_wp2_with (first | (refine wpList_loadT rfl _ rfl _ rfl th ?_; simp only [Act.put, List.setIfInBounds_toArray, List.set_cons_zero, List.set_cons_succ]) | (go_at_call 6; refine (P_Bytes _ _ HO.out).mono ?_; rintro e wn ⟨rfl, hbn⟩; have hsz := B.size; have hzn := hbn.size; replace B := B.trans (hbn.mono B.size); (try first | replace th := th.of_eq (hbn.block _ th.lt) | replace th := th.below hbn); (try first | replace gs := gs.of_eq (hbn.block _ gs.lt) | replace gs := gs.below hbn); (try first | replace kt := kt.of_eq (hbn.block _ kt.lt) | replace kt := kt.below hbn)) | (go_at_call 8; refine (P_Of _ _ hl gs kt).mono ?_; rintro e wn ⟨rfl, hbn⟩; have hsz := B.size; have hzn := hbn.size; replace B := B.trans (hbn.mono B.size); (try first | replace th := th.of_eq (hbn.block _ th.lt) | replace th := th.below hbn)) | (refine wpList_boxT' rfl _ rfl _ rfl ?_; intro b_th wn hle hge ht hbn hzn; have hsz := B.size; replace B := B.trans (hbn.mono (by omega)); have hln := Nat.lt_of_lt_of_eq (Nat.lt_succ_self _) hzn.symm; clear hzn; (try (have hlt := gs.lt; replace gs := gs.of_eq (hbn.block _ (by omega)))); (try (have hlt := kt.lt; replace kt := kt.of_eq (hbn.block _ (by omega)))); have th := ht; clear ht; simp only [Act.put, List.setIfInBounds_toArray, List.set_cons_zero, List.set_cons_succ]) | fail)
  go_ret
  exact ⟨by rw [HK.out]; rfl, B⟩
theorem R_Key (t : Nat → Px) (w : World) (ok : Tok t) : Calls Tryd.prog 12 #[Tile.v t] w fun e w' => e = .returned (.string (keyS t)) ∧ Below w.heap.size w w' := by
  have B := Below.refl w.heap.size w
  have hl : (tbK t 64).length < 1099511627776 := by rw [tbK_length]; omega
  have HK : Hid (keyS t = ofL (ofB (tbK t 64))) := Lib.hid rfl
  have HO := Lib.hid ok
  clear ok
  generalize keyS t = K at *
  go_enter Tryd.func12, Tryd.ntmps12
  go_wp2_with (first | (refine wpList_loadT rfl _ rfl _ rfl th ?_; simp only [Act.put, List.setIfInBounds_toArray, List.set_cons_zero, List.set_cons_succ]) | (go_at_call 9; refine (R_Bytes _ _ HO.out).mono ?_; rintro e wn ⟨rfl, hbn⟩; have hsz := B.size; have hzn := hbn.size; replace B := B.trans (hbn.mono B.size); (try first | replace th := th.of_eq (hbn.block _ th.lt) | replace th := th.below hbn)) | (go_at_call 24; refine (R_Of _ _ hl).mono ?_; rintro e wn ⟨rfl, hbn⟩; have hsz := B.size; have hzn := hbn.size; replace B := B.trans (hbn.mono B.size); (try first | replace th := th.of_eq (hbn.block _ th.lt) | replace th := th.below hbn)) | (refine wpList_boxT' rfl _ rfl _ rfl ?_; intro b_th wn hle hge ht hbn hzn; have hsz := B.size; replace B := B.trans (hbn.mono (by omega)); have hln := Nat.lt_of_lt_of_eq (Nat.lt_succ_self _) hzn.symm; clear hzn; have th := ht; clear ht; simp only [Act.put, List.setIfInBounds_toArray, List.set_cons_zero, List.set_cons_succ]) | fail)
  go_ret
  exact ⟨by rw [HK.out]; rfl, B⟩
theorem P_OfT (t : Nat → Px) (w : World) (gs : GAt 0 8 w Sha.start.at) (kt : GAt 1 64 w kW) : Calls Tryd.prog 8 #[.string (ofL (tbK t 64))] w fun e w' => e = .returned (.string (keyS t)) ∧ Below w.heap.size w w' :=
  P_Of (tbK t 64) w (by rw [tbK_length]; omega) gs kt
/-- A blue stored. -/
theorem TileAt.blue {w : World} {b : Nat} {f : Nat → Px} (h : TileAt w b f) {i : Nat} (hi : i < 64) : w.cell? ⟨b, i * 4 + 2, none⟩ = some (.int .u8 (f i).b) := (h.cells hi).2.2.1
theorem wpList_storeTb {ops : Array Oper} {rest : List Oper} {o : Oper} {a : Act} {w : World} {Q : Exit → Act → World → Prop} (hg : o.guard = none) (x y : Operand) (ho : o.op = .store 5 x y) (b j : Nat) (hx : a.eval x = .pointer (some ⟨b, j, none⟩)) (n : Int) (hy : a.eval y = .int .u8 n) {f : Nat → Px} (ht : TileAt w b f) (i : Nat) (hi : i < 64) (hj : j = i * 4 + 2)
    (h : ∀ w', TileAt w' b (upd f i { f i with b := n }) → Chg b w w' → w'.heap.size = w.heap.size → wpList Tryd.prog ops Q rest (a.put o.dst undef) w') : wpList Tryd.prog ops Q (o :: rest) a w := by
  subst hj
  have c0 := ht.blue hi
  have f0 := ht.frozen (i * 4 + 2)
  have e : TileAt (w.setCell ⟨b, i * 4 + 2, none⟩ (.int .u8 n)) b (upd f i { f i with b := n }) := by
    unfold TileAt
    have e1 : (tileC f).setIfInBounds (i * 4 + 2) (.int .u8 n) = tileC (upd f i { f i with b := n }) := by
      rw [← set_tileC f i { f i with b := n } hi]
      have k0 : (tileC f).setIfInBounds (i * 4) (.int .u8 (f i).r) = tileC f := set_same (tileC_at f i 0 hi (by omega))
      have k1 : (tileC f).setIfInBounds (i * 4 + 1) (.int .u8 (f i).g) = tileC f := set_same (tileC_at f i 1 hi (by omega))
      have k3 : ((tileC f).setIfInBounds (i * 4 + 2) (.int .u8 n)).setIfInBounds (i * 4 + 3) (.int .u8 (f i).a) = (tileC f).setIfInBounds (i * 4 + 2) (.int .u8 n) := set_same (by rw [Array.getElem?_setIfInBounds_ne (by omega)]; exact tileC_at f i 3 hi (by omega))
      simp only [k0, k1, k3]
    rw [← e1]
    exact heap_setCell_same _ _ _ _ _ _ ht
  refine wpList_storeAny hg x y ho _ ?_ (h _ e ((Chg.refl b w).setCell _) (by simp only [World.size_setCell]))
  rw [hx, hy]
  simp [go_sem, c0, f0]
end Go.Proofs.YtelfkakaaobfcaaDoor
/- Tiles read from bytes: contracts of Read of package tile and of its reference. -/
namespace Go.Proofs.YtelfkakaaobfcaaDoor
open Go.RowKit Pl Sha
set_option linter.unusedVariables false
set_option linter.unusedSimpArgs false
set_option maxRecDepth 20000

/-- The i-th pixel of a string of bytes. -/
def rdP (s : ByteArray) (i : Nat) : Px := ⟨(byteAt s (4 * i)).toNat, (byteAt s (4 * i + 1)).toNat, (byteAt s (4 * i + 2)).toNat, (byteAt s (4 * i + 3)).toNat⟩
theorem rdP_ok (s : ByteArray) : Tok (rdP s) := fun i _ => by
  have h : ∀ c : UInt8, (0 : Int) ≤ (c.toNat : Int) ∧ (c.toNat : Int) ≤ 255 := fun c => by have := c.toNat_lt; omega
  exact ⟨h _, h _, h _, h _⟩
theorem byteAt_ext (s : ByteArray) (a b j : Nat) (hj : j < b - a) (hb : b ≤ s.size) : byteAt (s.extract a b) j = byteAt s (a + j) := by
  rw [← byteAt_get s (a + j) (by omega), ← byteAt_get (s.extract a b) j (by rw [ByteArray.size_extract]; omega)]
  exact ByteArray.getElem_extract _
theorem run_ix4 (s : ByteArray) (k j : Nat) (hj : j < 4) (hk : 4 * k + 4 ≤ s.size) (w : World) : (Instr.index 9 (.string (s.extract (4 * k) (4 * k + 4))) (.int .i64 (j : Int))).run Tryd.prog w = .ok (Y (byteAt s (4 * k + j))) w := by
  rw [run_indexS 9 (by kernel_rfl) _ j (by rw [ByteArray.size_extract]; omega) w, byteAt_ext s _ _ j (by omega) hk]
theorem run_ix (s : ByteArray) (m : Nat) (z : Int) (hz : z = m) (hm : m < s.size) (w : World) : (Instr.index 9 (.string s) (.int .i64 z)).run Tryd.prog w = .ok (Y (byteAt s m)) w := by
  rw [hz]
  exact run_indexS 9 (by kernel_rfl) s m hm w
set_option maxHeartbeats 2000000 in
theorem P_Read (s : ByteArray) (w : World) (hs : s.size ≤ 9223372036854775807) : Calls Tryd.prog 10 #[.string s] w fun e w' => e = .returned (.tuple #[Tile.v (if s.size = 256 then rdP s else fun _ => Px.zero), .int .i64 (if s.size = 256 then 0 else 11)]) ∧ Below w.heap.size w w' := by
  have B := Below.refl w.heap.size w
  by_cases h : s.size = 256
  · rw [if_pos h, if_pos h]
    have hc : ((s.size : Int) != 256) = false := by simp; omega
    go_enter Tryd.func10, Tryd.ntmps10
    go_wp2_with (first | (refine wpList_allocT' rfl rfl ?_; intro b_th wn hle hge ht hbn hzn; have hsz := B.size; replace B := B.trans (hbn.mono (by omega)); have hln := Nat.lt_of_lt_of_eq (Nat.lt_succ_self _) hzn.symm; clear hzn; have th := ht; clear ht; simp only [Act.put, List.setIfInBounds_toArray, List.set_cons_zero, List.set_cons_succ]) | fail)
    have hbd : w.heap.size ≤ b_th := by omega
    go_loopw [10] (fun i wr => ∃ k : Nat, k ≤ 64 ∧ i = .int .i64 k ∧ TileAt wr b_th (stepT (fun _ => Px.zero) (rdP s) k) ∧ Below w.heap.size w wr) (fun i _ => (64 - intOf i).toNat)
    case atStart => exact ⟨0, by omega, rfl, by rw [stepT_zero]; exact th, B⟩
    case round =>
      clear B th
      obtain ⟨k, hk, rfl, th, B⟩ := hrel
      by_cases hlt : k < 64
      · have i0 : ∀ w, (Instr.index 9 (.string (s.extract (4 * k) (4 * k + 4))) (.int .i64 0)).run Tryd.prog w = .ok (.int .u8 (rdP s k).r) w := run_ix4 s k 0 (by omega) (by omega)
        have i1 : ∀ w, (Instr.index 9 (.string (s.extract (4 * k) (4 * k + 4))) (.int .i64 1)).run Tryd.prog w = .ok (.int .u8 (rdP s k).g) w := run_ix4 s k 1 (by omega) (by omega)
        have i2 : ∀ w, (Instr.index 9 (.string (s.extract (4 * k) (4 * k + 4))) (.int .i64 2)).run Tryd.prog w = .ok (.int .u8 (rdP s k).b) w := run_ix4 s k 2 (by omega) (by omega)
        have i3 : ∀ w, (Instr.index 9 (.string (s.extract (4 * k) (4 * k + 4))) (.int .i64 3)).run Tryd.prog w = .ok (.int .u8 (rdP s k).a) w := run_ix4 s k 3 (by omega) (by omega)
        go_upto_region 7 with fail
        generalize s.extract (4 * k) (4 * k + 4) = S at *
        refine wp_region_ov_tail 11 (by kernel_rfl) (by kernel_rfl) ?_
        simp only [List.take_succ_cons, List.take_zero, List.drop_succ_cons, List.drop_zero]
        repeat (first | go_big_quiet_skip | (go_big_quiet_want; first | (go_big_quiet_op; first | go_big_quiet_on | go_big_quiet_call ((fail)))))
        refine wpQuiet_nil ?_
        intro wn hbn
        have hsz := B.size
        have hzn := hbn.size
        replace B := B.trans (hbn.mono B.size)
        try replace th := th.of_eq (hbn.block _ th.lt)
        go_wp2_with ((refine wpList_storeTp rfl _ _ rfl _ _ rfl (rdP s k) rfl th k hlt (by first | rfl | omega) ?_; clear th; intro wn th hcn hzn; have hsz := B.size; replace hzn := Nat.le_of_eq hzn.symm; replace B := Chg.below B hcn (by omega) B.size; simp only [Act.put, List.setIfInBounds_toArray, List.set_cons_zero, List.set_cons_succ]))
        rw [stepT_next] at th
        go_roundw
        case rel => exact ⟨k + 1, by omega, by go_num, th, B⟩
        case measure => simp [intOf]; omega
      · obtain rfl : k = 64 := by omega
        replace th := th.congr (stepT_all _ _)
        go_wp2_with (first | (refine wpList_storeT rfl _ _ rfl _ rfl _ rfl th ?_; clear th; intro wn ht hcn hzn; have hsz := B.size; replace hzn := Nat.le_of_eq hzn.symm; replace B := Chg.below B hcn (by omega) B.size; have th := ht; clear ht; simp only [Act.put, List.setIfInBounds_toArray, List.set_cons_zero, List.set_cons_succ]) | (refine wpList_loadT rfl _ rfl _ rfl th ?_; simp only [Act.put, List.setIfInBounds_toArray, List.set_cons_zero, List.set_cons_succ]) | fail)
        refine bodyPost_ret (results_B2 (t := 25) rfl _ _ (b_th) rfl _ rfl (show AtB 25 _ b_th (tileC (rdP s)) from th) Tryd.isAgg25 (by kernel_rfl)) rfl ?_
        exact ⟨rfl, B⟩
  · rw [if_neg h, if_neg h]
    have hc : ((s.size : Int) != 256) = true := by simp; omega
    go_enter Tryd.func10, Tryd.ntmps10
    go_wp2_with (first | (refine wpList_storeT rfl _ _ rfl _ rfl _ rfl th ?_; clear th; intro wn ht hcn hzn; have hsz := B.size; replace hzn := Nat.le_of_eq hzn.symm; replace B := Chg.below B hcn (by omega) B.size; have th := ht; clear ht; simp only [Act.put, List.setIfInBounds_toArray, List.set_cons_zero, List.set_cons_succ]) | (refine wpList_loadT rfl _ rfl _ rfl th ?_; simp only [Act.put, List.setIfInBounds_toArray, List.set_cons_zero, List.set_cons_succ]) | (refine wpList_allocT' rfl rfl ?_; intro b_th wn hle hge ht hbn hzn; have hsz := B.size; replace B := B.trans (hbn.mono (by omega)); have hln := Nat.lt_of_lt_of_eq (Nat.lt_succ_self _) hzn.symm; clear hzn; have th := ht; clear ht; simp only [Act.put, List.setIfInBounds_toArray, List.set_cons_zero, List.set_cons_succ]) | fail)
    refine bodyPost_ret (results_B2 (t := 25) rfl _ _ (b_th) rfl _ rfl (show AtB 25 _ b_th (tileC fun _ => Px.zero) from th) Tryd.isAgg25 (by kernel_rfl)) rfl ?_
    exact ⟨rfl, B⟩
/-- What the reference's Read returns: a tile and an error number. -/
def gotC (t : Nat → Px) (e : Int) : Array Value := (tileC t).push (.int .i64 e)
theorem gotC_size (t : Nat → Px) (e : Int) : (gotC t e).size = 257 := by unfold gotC; rw [Array.size_push, size_tileC]
theorem gotC_one (t : Nat → Px) (e : Int) : (gotC t e).all (·.oneCell') = true := by
  unfold gotC
  rw [Array.all_push, tile_oneCell]
  rfl
theorem built_got (parts : List (Nat × Value)) : Tryd.prog.built 36 parts = Instr.fill (fun i => #[(0, 256), (256, 1)][i]?) (gotC (fun _ => Px.zero) 0) parts := by kernel_rfl
theorem fill_got0 (f : Nat → Px) : Instr.fill (fun i => #[(0, 256), (256, 1)][i]?) (gotC (fun _ => Px.zero) 0) [(0, Tile.v f)] = some (gotC f 0) := by
  have hsz : (Tile.v f).cells.size = 256 := by rw [cells_tile, size_tileC]
  unfold Instr.fill
  show (if (decide ((Tile.v f).cells.size ≠ 256) || decide (0 + (Tile.v f).cells.size > (gotC (fun _ => Px.zero) 0).size)) = true then none else _) = _
  rw [if_neg (by simp [hsz, gotC_size])]
  unfold Instr.fill
  congr 1
  obtain ⟨g1, g2⟩ := Great.foldl_set 0 (Tile.v f).cells.toList 0 (gotC (fun _ => Px.zero) 0)
  apply Array.ext_getElem?
  intro k
  have e : ((Tile.v f).cells.zipIdx.foldl (fun cs (x : Value × Nat) => cs.setIfInBounds (0 + x.2) x.1) (gotC (fun _ => Px.zero) 0)) = (((Tile.v f).cells.toList.zipIdx 0).foldl (fun cs (x : Value × Nat) => cs.setIfInBounds (0 + x.2) x.1) (gotC (fun _ => Px.zero) 0)) := by rw [← Array.foldl_toList, Array.toList_zipIdx]
  refine Eq.trans (congrArg (·[k]?) e) ?_
  show _[k]? = _
  rw [g2 k]
  have hl : (Tile.v f).cells.toList.length = 256 := by simpa using hsz
  rw [hl, gotC_size]
  by_cases hk : k < 256
  · rw [if_pos (by omega), cells_tile]
    unfold gotC
    rw [Array.getElem?_push, if_neg (by rw [size_tileC]; omega)]
    simp
  · rw [if_neg (by omega)]
    unfold gotC
    rw [Array.getElem?_push, Array.getElem?_push, size_tileC, size_tileC]
    split
    · rfl
    · rw [Array.getElem?_eq_none (by rw [size_tileC]; omega), Array.getElem?_eq_none (by rw [size_tileC]; omega)]
theorem run_build_got0 (w : World) (o : Oper) (x : Operand) (ho : o.op = .build 36 #[(0, x)]) (ev : Operand → Value) (f : Nat → Px) (hx : ev x = Tile.v f) : (execOp ev o).run Tryd.prog w = .ok (.value (.agg (gotC f 0))) w := by
  unfold execOp
  have r := run_build w 36 #[(0, Tile.v f)] _ ((built_got _).trans (fill_got0 f))
  simp only [ho, List.map_toArray, List.map_cons, List.map_nil, hx]
  simp only [Sem.run_bind, r, Result.andThen_ok, Sem.run_pure]
theorem run_build_got1 (w : World) (o : Oper) (ho : o.op = .build 36 #[(1, .const (.int .i64 11))]) (a : Act) : (execOp a.eval o).run Tryd.prog w = .ok (.value (.agg (gotC (fun _ => Px.zero) 11))) w := by
  obtain ⟨d, p, t, ps, af, gd⟩ := o
  simp only at ho
  subst ho
  kernel_rfl
theorem run_alloc_Gt (w : World) (o : Oper) (ho : o.op = .alloc 36) (ev : Operand → Value) : (execOp ev o).run Tryd.prog w = .ok (.value (.pointer (some ⟨w.heap.size, 0, none⟩))) (w.alloc (.cells (gotC (fun _ => Px.zero) 0) 36)) := by
  obtain ⟨d, p, t, ps, af, gd⟩ := o
  simp only at ho
  subst ho
  kernel_rfl
section
variable {ops : Array Oper} {rest : List Oper} {o : Oper} {a : Act} {w : World} {Q : Exit → Act → World → Prop}
theorem wpList_buildGot0 (hg : o.guard = none) (x : Operand) (ho : o.op = .build 36 #[(0, x)]) (f : Nat → Px) (hx : a.eval x = Tile.v f)
    (h : wpList Tryd.prog ops Q rest (a.put o.dst (.agg (gotC f 0))) w) : wpList Tryd.prog ops Q (o :: rest) a w :=
  wpList_plain hg fun K hK => by
    unfold Oper.wp
    rw [run_build_got0 w o x ho _ f hx]
    exact hK _ _ h
theorem wpList_buildGot1 (hg : o.guard = none) (ho : o.op = .build 36 #[(1, .const (.int .i64 11))])
    (h : wpList Tryd.prog ops Q rest (a.put o.dst (.agg (gotC (fun _ => Px.zero) 11))) w) : wpList Tryd.prog ops Q (o :: rest) a w :=
  wpList_plain hg fun K hK => by
    unfold Oper.wp
    rw [run_build_got1 w o ho a]
    exact hK _ _ h
end
set_option maxHeartbeats 2000000 in
theorem R_Read (s : ByteArray) (w : World) (hs : s.size ≤ 9223372036854775807) : Calls Tryd.prog 11 #[.string s] w fun e w' => e = .returned (.agg (gotC (if s.size = 256 then rdP s else fun _ => Px.zero) (if s.size = 256 then 0 else 11))) ∧ Below w.heap.size w w' := by
  have B := Below.refl w.heap.size w
  by_cases h : s.size = 256
  · rw [if_pos h, if_pos h]
    have hc : ((s.size : Int) != 256) = false := by simp; omega
    go_enter Tryd.func11, Tryd.ntmps11
    go_wp2_with (first | (refine wpList_storeT rfl _ _ rfl _ rfl _ rfl th ?_; clear th; intro wn ht hcn hzn; have hsz := B.size; replace hzn := Nat.le_of_eq hzn.symm; replace B := Chg.below B hcn (by omega) B.size; (try replace gt := gt.of_eq (hcn.block _ gt.lt (by omega))); have th := ht; clear ht; simp only [Act.put, List.setIfInBounds_toArray, List.set_cons_zero, List.set_cons_succ]) | (refine wpList_allocT' rfl rfl ?_; intro b_th wn hle hge ht hbn hzn; have hsz := B.size; replace B := B.trans (hbn.mono (by omega)); have hln := Nat.lt_of_lt_of_eq (Nat.lt_succ_self _) hzn.symm; clear hzn; (try (have hlt := gt.lt; replace gt := gt.of_eq (hbn.block _ (by omega)))); have th := ht; clear ht; simp only [Act.put, List.setIfInBounds_toArray, List.set_cons_zero, List.set_cons_succ]) | (refine wpList_allocBk (t := 36) rfl _ (run_alloc_Gt _ _ rfl) ?_; intro b_gt wn hle hge ht hbn hzn; have hsz := B.size; replace B := B.trans (hbn.mono (by omega)); have hln := Nat.lt_of_lt_of_eq (Nat.lt_succ_self _) hzn.symm; clear hzn; have gt := ht; clear ht; simp only [Act.put, List.setIfInBounds_toArray, List.set_cons_zero, List.set_cons_succ]) | (refine wpList_buildT rfl rfl ?_; simp only [Act.put, List.setIfInBounds_toArray, List.set_cons_zero, List.set_cons_succ]) | fail)
    have hbg : w.heap.size ≤ b_gt := by omega
    have hbd : b_gt < b_th := by omega
    have hb2 : b_th < wn.heap.size := by omega
    go_loopw [4] (fun i wr => ∃ k : Nat, k ≤ 64 ∧ i = .int .i64 k ∧ TileAt wr b_th (stepT (fun _ => Px.zero) (rdP s) k) ∧ AtB 36 wr b_gt (gotC (fun _ => Px.zero) 0) ∧ Below w.heap.size w wr ∧ b_th < wr.heap.size) (fun i _ => (64 - intOf i).toNat)
    case atStart => exact ⟨0, by omega, rfl, by rw [stepT_zero]; exact th, gt, B, hb2⟩
    case round =>
      clear B th gt hb2
      obtain ⟨k, hk, rfl, th, gt, B, hb2⟩ := hrel
      by_cases hlt : k < 64
      · have i0 : ∀ w, (Instr.index 9 (.string s) (.int .i64 (4 * (k : Int)))).run Tryd.prog w = .ok (.int .u8 (rdP s k).r) w := run_ix s (4 * k) _ (by omega) (by omega)
        have i1 : ∀ w, (Instr.index 9 (.string s) (.int .i64 (4 * (k : Int) + 1))).run Tryd.prog w = .ok (.int .u8 (rdP s k).g) w := run_ix s (4 * k + 1) _ (by omega) (by omega)
        have i2 : ∀ w, (Instr.index 9 (.string s) (.int .i64 (4 * (k : Int) + 2))).run Tryd.prog w = .ok (.int .u8 (rdP s k).b) w := run_ix s (4 * k + 2) _ (by omega) (by omega)
        have i3 : ∀ w, (Instr.index 9 (.string s) (.int .i64 (4 * (k : Int) + 3))).run Tryd.prog w = .ok (.int .u8 (rdP s k).a) w := run_ix s (4 * k + 3) _ (by omega) (by omega)
        go_upto_region 7 with fail
        refine wp_region_ov_tail 22 (by kernel_rfl) (by kernel_rfl) ?_
        simp only [List.take_succ_cons, List.take_zero, List.drop_succ_cons, List.drop_zero]
        repeat (first | go_big_quiet_skip | (go_big_quiet_want; first | (go_big_quiet_op; first | go_big_quiet_on | go_big_quiet_call ((fail)))))
        refine wpQuiet_nil ?_
        intro wn hbn
        have hsz := B.size
        have hzn := hbn.size
        replace B := B.trans (hbn.mono B.size)
        try replace th := th.of_eq (hbn.block _ th.lt)
        try replace gt := gt.of_eq (hbn.block _ gt.lt)
        go_wp2_with ((refine wpList_storeTp rfl _ _ rfl _ _ rfl (rdP s k) rfl th k hlt (by first | rfl | omega) ?_; clear th; intro wn th hcn hzn; have hsz := B.size; replace hzn := Nat.le_of_eq hzn.symm; replace B := Chg.below B hcn (by omega) B.size; (try replace gt := gt.of_eq (hcn.block _ gt.lt (by omega))); simp only [Act.put, List.setIfInBounds_toArray, List.set_cons_zero, List.set_cons_succ]))
        rw [stepT_next] at th
        go_roundw
        case rel => exact ⟨k + 1, by omega, by go_num, th, gt, B, by omega⟩
        case measure => simp [intOf]; omega
      · obtain rfl : k = 64 := by omega
        replace th := th.congr (stepT_all _ _)
        go_wp2_with (first | (refine wpList_storeB (t := 36) rfl _ _ rfl _ rfl (gotC (rdP s) 0) rfl gt (by rw [gotC_size]; kernel_rfl) (by rw [gotC_size, gotC_size]) (gotC_one _ _) ?_; clear gt; intro wn ht hcn hzn; have hsz := B.size; replace hzn := Nat.le_of_eq hzn.symm; replace B := Chg.below B hcn (by omega) B.size; have gt := ht; clear ht; simp only [Act.put, List.setIfInBounds_toArray, List.set_cons_zero, List.set_cons_succ]) | (refine wpList_buildGot0 rfl _ rfl _ rfl ?_; simp only [Act.put, List.setIfInBounds_toArray, List.set_cons_zero, List.set_cons_succ]) | (refine wpList_loadT rfl _ rfl _ rfl th ?_; simp only [Act.put, List.setIfInBounds_toArray, List.set_cons_zero, List.set_cons_succ]) | fail)
        refine bodyPost_ret (results_B (t := 36) rfl _ _ b_gt rfl gt Tryd.isAgg36 (by rw [gotC_size]; kernel_rfl)) rfl ?_
        exact ⟨rfl, B⟩
  · rw [if_neg h, if_neg h]
    have hc : ((s.size : Int) != 256) = true := by simp; omega
    go_enter Tryd.func11, Tryd.ntmps11
    go_wp2_with (first | (refine wpList_storeB (t := 36) rfl _ _ rfl _ rfl (gotC (fun _ => Px.zero) 11) rfl gt (by rw [gotC_size]; kernel_rfl) (by rw [gotC_size, gotC_size]) (gotC_one _ _) ?_; clear gt; intro wn ht hcn hzn; have hsz := B.size; replace hzn := Nat.le_of_eq hzn.symm; replace B := Chg.below B hcn (by omega) B.size; have gt := ht; clear ht; simp only [Act.put, List.setIfInBounds_toArray, List.set_cons_zero, List.set_cons_succ]) | (refine wpList_buildGot1 rfl rfl ?_; simp only [Act.put, List.setIfInBounds_toArray, List.set_cons_zero, List.set_cons_succ]) | (refine wpList_allocBk (t := 36) rfl _ (run_alloc_Gt _ _ rfl) ?_; intro b_gt wn hle hge ht hbn hzn; have hsz := B.size; replace B := B.trans (hbn.mono (by omega)); have hln := Nat.lt_of_lt_of_eq (Nat.lt_succ_self _) hzn.symm; clear hzn; have gt := ht; clear ht; simp only [Act.put, List.setIfInBounds_toArray, List.set_cons_zero, List.set_cons_succ]) | fail)
    refine bodyPost_ret (results_B (t := 36) rfl _ _ b_gt rfl gt Tryd.isAgg36 (by rw [gotC_size]; kernel_rfl)) rfl ?_
    exact ⟨rfl, B⟩
end Go.Proofs.YtelfkakaaobfcaaDoor
/- TileBytes: Bytes, Read and Key return what the reference returns, and Read takes back what Bytes makes: the law returns true for every input, and its arguments read as they did. The two tables of package digest hold what the program's text lays. No other condition. -/
namespace Go.Proofs.YtelfkakaaobfcaaDoor
open Go.RowKit Pl Sha
set_option linter.unusedVariables false
set_option linter.unusedSimpArgs false
-- KEEP sanity


theorem u8_toNat {z : Int} (h : 0 ≤ z ∧ z ≤ 255) : ((u8 z).toNat : Int) = z := (u8_val' h).symm
theorem tbK_get (t : Nat → Px) : ∀ k i, i < k → ∀ j, j < 4 → (tbK t k).getD (4 * i + j) 0 = (pxB (t i)).getD j 0
  | 0, i, hi, j, hj => by omega
  | k + 1, i, hi, j, hj => by
    rw [tbK_next, List.getD_eq_getElem?_getD]
    rcases Nat.lt_or_eq_of_le (Nat.le_of_lt_succ hi) with hlt | rfl
    · rw [List.getElem?_append_left (by rw [tbK_length]; omega), ← List.getD_eq_getElem?_getD]
      exact tbK_get t k i hlt j hj
    · rw [List.getElem?_append_right (by rw [tbK_length]; omega), tbK_length, List.getD_eq_getElem?_getD]
      congr 2
      omega
theorem rd_back {t : Nat → Px} (ht : Tok t) (i : Nat) (hi : i < 64) : rdP (ofL (tbK t 64)) i = t i := by
  obtain ⟨p1, p2, p3, p4⟩ := ht i hi
  unfold rdP byteAt
  simp only [bytes_ofL]
  rw [show (tbK t 64).getD (4 * i) 0 = _ from tbK_get t 64 i hi 0 (by omega), tbK_get t 64 i hi 1 (by omega), tbK_get t 64 i hi 2 (by omega), tbK_get t 64 i hi 3 (by omega)]
  show Px.mk ((u8 (t i).r).toNat : Int) ((u8 (t i).g).toNat : Int) ((u8 (t i).b).toNat : Int) ((u8 (t i).a).toNat : Int) = t i
  rw [u8_toNat p1, u8_toNat p2, u8_toNat p3, u8_toNat p4]
theorem run_load_errno {w : World} {b j : Nat} {v : Value} (h : w.cell? ⟨b, j, none⟩ = some v) : (Instr.loadAt 32 (.pointer (some ⟨b, j, none⟩))).run Tryd.prog w = .ok v w := by
  simp [go_sem, h]
theorem got_e {w : World} {b : Nat} {t : Nat → Px} {e : Int} (h : AtB 36 w b (gotC t e)) : (Instr.loadAt 32 (.pointer (some ⟨b, 256, none⟩))).run Tryd.prog w = .ok (.int .i64 e) w :=
  run_load_errno (h.cell 256 (by unfold gotC; rw [Array.getElem?_push, if_pos (by rw [size_tileC])]))
theorem got_t {w : World} {b : Nat} {t : Nat → Px} {e : Int} (h : AtB 36 w b (gotC t e)) : (Instr.loadAt 25 (.pointer (some ⟨b, 0, none⟩))).run Tryd.prog w = .ok (Tile.v t) w :=
  run_load_BP h 0 Tryd.isAgg25 (tile_size _) (fun j hj => by
    rw [size_tileC] at hj
    rw [Nat.zero_add]
    unfold gotC
    rw [Array.getElem?_push, if_neg (by rw [size_tileC]; omega)])
set_option maxHeartbeats 4000000 in
set_option maxRecDepth 20000 in
theorem walk_bytes (t T : Nat → Px) (E : Int) (W K s : ByteArray) (m : Nat) (hm : m < 256) (em : (s.size : Int) % 256 = (m : Int)) (hW : W.size = 256) (w : World)
    (C1 : Hid (∀ w, Calls Tryd.prog 10 #[.string W] w fun e w' => e = .returned (.tuple #[Tile.v t, .int .i64 0]) ∧ Below w.heap.size w w'))
    (C2 : Hid (∀ w, Calls Tryd.prog 10 #[.string s] w fun e w' => e = .returned (.tuple #[Tile.v T, .int .i64 E]) ∧ Below w.heap.size w w'))
    (C3 : Hid (∀ w, Calls Tryd.prog 10 #[.string (W.extract 0 m)] w fun e w' => e = .returned (.tuple #[Tile.v (fun _ => Px.zero), .int .i64 11]) ∧ Below w.heap.size w w'))
    (C4 : Hid (∀ w, Calls Tryd.prog 11 #[.string s] w fun e w' => e = .returned (.agg (gotC T E)) ∧ Below w.heap.size w w'))
    (C5 : Hid (∀ w, Calls Tryd.prog 9 #[Tile.v t] w fun e w' => e = .returned (.string W) ∧ Below w.heap.size w w'))
    (C6 : Hid (∀ w, Calls Tryd.prog 6 #[Tile.v t] w fun e w' => e = .returned (.string W) ∧ Below w.heap.size w w'))
    (C7 : Hid (∀ w, GAt 0 8 w Sha.start.at → GAt 1 64 w kW → Calls Tryd.prog 7 #[Tile.v t] w fun e w' => e = .returned (.string K) ∧ Below w.heap.size w w'))
    (C8 : Hid (∀ w, Calls Tryd.prog 12 #[Tile.v t] w fun e w' => e = .returned (.string K) ∧ Below w.heap.size w w'))
    (gs : GAt 0 8 w Sha.start.at) (kt : GAt 1 64 w kW) : Calls Tryd.prog 4 #[Tile.v t, .string s] w fun e w' => e = .returned (.bool true) ∧ Below w.heap.size w w' := by
  have B := Below.refl w.heap.size w
  have hcmp := eql_tile_same
  go_enter Tryd.func4, Tryd.ntmps4
  go_upto_region 7 with (first | (refine wpList_storeT rfl _ _ rfl _ rfl _ rfl t11 ?_; clear t11; intro wn ht hcn hzn; have hsz := B.size; replace hzn := Nat.le_of_eq hzn.symm; replace B := Chg.below B hcn (by omega) B.size; (try replace t1 := t1.of_eq (hcn.block _ t1.lt (by omega))); (try replace t7 := t7.of_eq (hcn.block _ t7.lt (by omega))); (try replace t9 := t9.of_eq (hcn.block _ t9.lt (by omega))); (try replace g1 := g1.of_eq (hcn.block _ g1.lt (by omega))); (try replace gs := gs.of_eq (hcn.block _ gs.lt (by omega))); (try replace kt := kt.of_eq (hcn.block _ kt.lt (by omega))); have t11 := ht; clear ht; simp only [Act.put, List.setIfInBounds_toArray, List.set_cons_zero, List.set_cons_succ]) | (refine wpList_storeT rfl _ _ rfl _ rfl _ rfl t9 ?_; clear t9; intro wn ht hcn hzn; have hsz := B.size; replace hzn := Nat.le_of_eq hzn.symm; replace B := Chg.below B hcn (by omega) B.size; (try replace t1 := t1.of_eq (hcn.block _ t1.lt (by omega))); (try replace t7 := t7.of_eq (hcn.block _ t7.lt (by omega))); (try replace t11 := t11.of_eq (hcn.block _ t11.lt (by omega))); (try replace g1 := g1.of_eq (hcn.block _ g1.lt (by omega))); (try replace gs := gs.of_eq (hcn.block _ gs.lt (by omega))); (try replace kt := kt.of_eq (hcn.block _ kt.lt (by omega))); have t9 := ht; clear ht; simp only [Act.put, List.setIfInBounds_toArray, List.set_cons_zero, List.set_cons_succ]) | (refine wpList_storeT rfl _ _ rfl _ rfl _ rfl t7 ?_; clear t7; intro wn ht hcn hzn; have hsz := B.size; replace hzn := Nat.le_of_eq hzn.symm; replace B := Chg.below B hcn (by omega) B.size; (try replace t1 := t1.of_eq (hcn.block _ t1.lt (by omega))); (try replace t9 := t9.of_eq (hcn.block _ t9.lt (by omega))); (try replace t11 := t11.of_eq (hcn.block _ t11.lt (by omega))); (try replace g1 := g1.of_eq (hcn.block _ g1.lt (by omega))); (try replace gs := gs.of_eq (hcn.block _ gs.lt (by omega))); (try replace kt := kt.of_eq (hcn.block _ kt.lt (by omega))); have t7 := ht; clear ht; simp only [Act.put, List.setIfInBounds_toArray, List.set_cons_zero, List.set_cons_succ]) | (have _ := t9; refine wpList_allocT' rfl rfl ?_; intro b_t11 wn hle hge ht hbn hzn; have hsz := B.size; replace B := B.trans (hbn.mono (by omega)); have hln := Nat.lt_of_lt_of_eq (Nat.lt_succ_self _) hzn.symm; clear hzn; (try (have hlt := t1.lt; replace t1 := t1.of_eq (hbn.block _ (by omega)))); (try (have hlt := t7.lt; replace t7 := t7.of_eq (hbn.block _ (by omega)))); (try (have hlt := t9.lt; replace t9 := t9.of_eq (hbn.block _ (by omega)))); (try (have hlt := gs.lt; replace gs := gs.of_eq (hbn.block _ (by omega)))); (try (have hlt := kt.lt; replace kt := kt.of_eq (hbn.block _ (by omega)))); have t11 := ht; clear ht; simp only [Act.put, List.setIfInBounds_toArray, List.set_cons_zero, List.set_cons_succ]) | (have _ := t7; refine wpList_allocT' rfl rfl ?_; intro b_t9 wn hle hge ht hbn hzn; have hsz := B.size; replace B := B.trans (hbn.mono (by omega)); have hln := Nat.lt_of_lt_of_eq (Nat.lt_succ_self _) hzn.symm; clear hzn; (try (have hlt := t1.lt; replace t1 := t1.of_eq (hbn.block _ (by omega)))); (try (have hlt := t7.lt; replace t7 := t7.of_eq (hbn.block _ (by omega)))); (try (have hlt := gs.lt; replace gs := gs.of_eq (hbn.block _ (by omega)))); (try (have hlt := kt.lt; replace kt := kt.of_eq (hbn.block _ (by omega)))); have t9 := ht; clear ht; simp only [Act.put, List.setIfInBounds_toArray, List.set_cons_zero, List.set_cons_succ]) | (have _ := t1; refine wpList_allocT' rfl rfl ?_; intro b_t7 wn hle hge ht hbn hzn; have hsz := B.size; replace B := B.trans (hbn.mono (by omega)); have hln := Nat.lt_of_lt_of_eq (Nat.lt_succ_self _) hzn.symm; clear hzn; (try (have hlt := t1.lt; replace t1 := t1.of_eq (hbn.block _ (by omega)))); (try (have hlt := gs.lt; replace gs := gs.of_eq (hbn.block _ (by omega)))); (try (have hlt := kt.lt; replace kt := kt.of_eq (hbn.block _ (by omega)))); have t7 := ht; clear ht; simp only [Act.put, List.setIfInBounds_toArray, List.set_cons_zero, List.set_cons_succ]) | (refine wpList_allocBk (t := 36) rfl _ (run_alloc_Gt _ _ rfl) ?_; intro b_g1 wn hle hge ht hbn hzn; have hsz := B.size; replace B := B.trans (hbn.mono (by omega)); have hln := Nat.lt_of_lt_of_eq (Nat.lt_succ_self _) hzn.symm; clear hzn; (try first | (have hlt := t1.lt; replace t1 := t1.of_eq (hbn.block _ (by omega))) | replace t1 := t1.below (hbn.mono hle)); (try first | (have hlt := t7.lt; replace t7 := t7.of_eq (hbn.block _ (by omega))) | replace t7 := t7.below (hbn.mono hle)); (try first | (have hlt := t9.lt; replace t9 := t9.of_eq (hbn.block _ (by omega))) | replace t9 := t9.below (hbn.mono hle)); (try first | (have hlt := t11.lt; replace t11 := t11.of_eq (hbn.block _ (by omega))) | replace t11 := t11.below (hbn.mono hle)); (try first | (have hlt := g1.lt; replace g1 := g1.of_eq (hbn.block _ (by omega))) | replace g1 := g1.below (hbn.mono hle)); (try first | (have hlt := gs.lt; replace gs := gs.of_eq (hbn.block _ (by omega))) | replace gs := gs.below (hbn.mono hle)); (try first | (have hlt := kt.lt; replace kt := kt.of_eq (hbn.block _ (by omega))) | replace kt := kt.below (hbn.mono hle)); have g1 := ht; clear ht; simp only [Act.put, List.setIfInBounds_toArray, List.set_cons_zero, List.set_cons_succ]) | (refine wpList_storeB (t := 36) rfl _ _ rfl _ rfl (gotC T E) rfl g1 (by rw [gotC_size]; kernel_rfl) (by rw [gotC_size, gotC_size]) (gotC_one _ _) ?_; clear g1; intro wn ht hcn hzn; have hsz := B.size; replace hzn := Nat.le_of_eq hzn.symm; replace B := Chg.below B hcn (by omega) B.size; (try replace t1 := t1.of_eq (hcn.block _ t1.lt (by omega))); (try replace t7 := t7.of_eq (hcn.block _ t7.lt (by omega))); (try replace t9 := t9.of_eq (hcn.block _ t9.lt (by omega))); (try replace t11 := t11.of_eq (hcn.block _ t11.lt (by omega))); (try replace gs := gs.of_eq (hcn.block _ gs.lt (by omega))); (try replace kt := kt.of_eq (hcn.block _ kt.lt (by omega))); have g1 := ht; clear ht; simp only [Act.put, List.setIfInBounds_toArray, List.set_cons_zero, List.set_cons_succ]) | (go_at_call 10; ((with_reducible refine (C1.out _).mono ?_)); rintro e wn ⟨rfl, hbn⟩; have hsz := B.size; have hzn := hbn.size; replace B := B.trans (hbn.mono B.size); (try first | replace t1 := t1.of_eq (hbn.block _ t1.lt) | replace t1 := t1.below hbn); (try first | replace t7 := t7.of_eq (hbn.block _ t7.lt) | replace t7 := t7.below hbn); (try first | replace t9 := t9.of_eq (hbn.block _ t9.lt) | replace t9 := t9.below hbn); (try first | replace t11 := t11.of_eq (hbn.block _ t11.lt) | replace t11 := t11.below hbn); (try first | replace g1 := g1.of_eq (hbn.block _ g1.lt) | replace g1 := g1.below hbn); (try first | replace gs := gs.of_eq (hbn.block _ gs.lt) | replace gs := gs.below hbn); (try first | replace kt := kt.of_eq (hbn.block _ kt.lt) | replace kt := kt.below hbn)) | (go_at_call 10; ((with_reducible refine (C2.out _).mono ?_)); rintro e wn ⟨rfl, hbn⟩; have hsz := B.size; have hzn := hbn.size; replace B := B.trans (hbn.mono B.size); (try first | replace t1 := t1.of_eq (hbn.block _ t1.lt) | replace t1 := t1.below hbn); (try first | replace t7 := t7.of_eq (hbn.block _ t7.lt) | replace t7 := t7.below hbn); (try first | replace t9 := t9.of_eq (hbn.block _ t9.lt) | replace t9 := t9.below hbn); (try first | replace t11 := t11.of_eq (hbn.block _ t11.lt) | replace t11 := t11.below hbn); (try first | replace g1 := g1.of_eq (hbn.block _ g1.lt) | replace g1 := g1.below hbn); (try first | replace gs := gs.of_eq (hbn.block _ gs.lt) | replace gs := gs.below hbn); (try first | replace kt := kt.of_eq (hbn.block _ kt.lt) | replace kt := kt.below hbn)) | (go_at_call 10; ((with_reducible refine (C3.out _).mono ?_)); rintro e wn ⟨rfl, hbn⟩; have hsz := B.size; have hzn := hbn.size; replace B := B.trans (hbn.mono B.size); (try first | replace t1 := t1.of_eq (hbn.block _ t1.lt) | replace t1 := t1.below hbn); (try first | replace t7 := t7.of_eq (hbn.block _ t7.lt) | replace t7 := t7.below hbn); (try first | replace t9 := t9.of_eq (hbn.block _ t9.lt) | replace t9 := t9.below hbn); (try first | replace t11 := t11.of_eq (hbn.block _ t11.lt) | replace t11 := t11.below hbn); (try first | replace g1 := g1.of_eq (hbn.block _ g1.lt) | replace g1 := g1.below hbn); (try first | replace gs := gs.of_eq (hbn.block _ gs.lt) | replace gs := gs.below hbn); (try first | replace kt := kt.of_eq (hbn.block _ kt.lt) | replace kt := kt.below hbn)) | (go_at_call 11; ((with_reducible refine (C4.out _).mono ?_)); rintro e wn ⟨rfl, hbn⟩; have hsz := B.size; have hzn := hbn.size; replace B := B.trans (hbn.mono B.size); (try first | replace t1 := t1.of_eq (hbn.block _ t1.lt) | replace t1 := t1.below hbn); (try first | replace t7 := t7.of_eq (hbn.block _ t7.lt) | replace t7 := t7.below hbn); (try first | replace t9 := t9.of_eq (hbn.block _ t9.lt) | replace t9 := t9.below hbn); (try first | replace t11 := t11.of_eq (hbn.block _ t11.lt) | replace t11 := t11.below hbn); (try first | replace g1 := g1.of_eq (hbn.block _ g1.lt) | replace g1 := g1.below hbn); (try first | replace gs := gs.of_eq (hbn.block _ gs.lt) | replace gs := gs.below hbn); (try first | replace kt := kt.of_eq (hbn.block _ kt.lt) | replace kt := kt.below hbn)) | (go_at_call 9; ((with_reducible refine (C5.out _).mono ?_)); rintro e wn ⟨rfl, hbn⟩; have hsz := B.size; have hzn := hbn.size; replace B := B.trans (hbn.mono B.size); (try first | replace t1 := t1.of_eq (hbn.block _ t1.lt) | replace t1 := t1.below hbn); (try first | replace t7 := t7.of_eq (hbn.block _ t7.lt) | replace t7 := t7.below hbn); (try first | replace t9 := t9.of_eq (hbn.block _ t9.lt) | replace t9 := t9.below hbn); (try first | replace t11 := t11.of_eq (hbn.block _ t11.lt) | replace t11 := t11.below hbn); (try first | replace g1 := g1.of_eq (hbn.block _ g1.lt) | replace g1 := g1.below hbn); (try first | replace gs := gs.of_eq (hbn.block _ gs.lt) | replace gs := gs.below hbn); (try first | replace kt := kt.of_eq (hbn.block _ kt.lt) | replace kt := kt.below hbn)) | (refine wpList_loadT rfl _ rfl _ rfl t1 ?_; simp only [Act.put, List.setIfInBounds_toArray, List.set_cons_zero, List.set_cons_succ]) | (go_at_call 5; refine (sanity _).mono ?_; rintro e wn ⟨rfl, hbn⟩; have hsz := B.size; have hzn := hbn.size; replace B := B.trans (hbn.mono B.size); (try first | replace t1 := t1.of_eq (hbn.block _ t1.lt) | replace t1 := t1.below hbn); (try first | replace t7 := t7.of_eq (hbn.block _ t7.lt) | replace t7 := t7.below hbn); (try first | replace t9 := t9.of_eq (hbn.block _ t9.lt) | replace t9 := t9.below hbn); (try first | replace t11 := t11.of_eq (hbn.block _ t11.lt) | replace t11 := t11.below hbn); (try first | replace g1 := g1.of_eq (hbn.block _ g1.lt) | replace g1 := g1.below hbn); (try first | replace gs := gs.of_eq (hbn.block _ gs.lt) | replace gs := gs.below hbn); (try first | replace kt := kt.of_eq (hbn.block _ kt.lt) | replace kt := kt.below hbn)) | (refine wpList_boxT' rfl _ rfl _ rfl ?_; intro b_t1 wn hle hge ht hbn hzn; have hsz := B.size; replace B := B.trans (hbn.mono (by omega)); have hln := Nat.lt_of_lt_of_eq (Nat.lt_succ_self _) hzn.symm; clear hzn; (try (have hlt := gs.lt; replace gs := gs.of_eq (hbn.block _ (by omega)))); (try (have hlt := kt.lt; replace kt := kt.of_eq (hbn.block _ (by omega)))); have t1 := ht; clear ht; simp only [Act.put, List.setIfInBounds_toArray, List.set_cons_zero, List.set_cons_succ]) | fail)
  refine wp_region_ov (by kernel_rfl) (by kernel_rfl) ?_
  repeat (first | go_big_quiet_skip | (go_big_quiet_want; first | (refine quiet_loadT rfl _ rfl (ov_tile t1) ?_; simp only [Act.put, List.setIfInBounds_toArray, List.set_cons_zero, List.set_cons_succ]; go_big_quiet_on) | (refine quiet_loadT rfl _ rfl (ov_tile t7) ?_; simp only [Act.put, List.setIfInBounds_toArray, List.set_cons_zero, List.set_cons_succ]; go_big_quiet_on) | (refine quiet_loadT rfl _ rfl (ov_tile t9) ?_; simp only [Act.put, List.setIfInBounds_toArray, List.set_cons_zero, List.set_cons_succ]; go_big_quiet_on) | (refine quiet_loadT rfl _ rfl (ov_tile t11) ?_; simp only [Act.put, List.setIfInBounds_toArray, List.set_cons_zero, List.set_cons_succ]; go_big_quiet_on) | (refine quiet_loadAny (t := 25) rfl _ _ _ rfl (fun w hw => got_t (ov_B g1 w hw)) (by rfl) ?_; simp only [Act.put, List.setIfInBounds_toArray, List.set_cons_zero, List.set_cons_succ]; go_big_quiet_on) | (refine quiet_loadAny (t := 32) rfl _ _ _ rfl (fun w hw => got_e (ov_B g1 w hw)) (by rfl) ?_; simp only [Act.put, List.setIfInBounds_toArray, List.set_cons_zero, List.set_cons_succ]; go_big_quiet_on) | (refine quiet_buildT rfl ?_; simp only [Act.put, List.setIfInBounds_toArray, List.set_cons_zero, List.set_cons_succ]; go_big_quiet_on) | (go_big_quiet_op; first | go_big_quiet_on | go_big_quiet_call ((first | (go_at_call 6; exact calls_ov (C6.out _)) | (go_at_call 12; exact calls_ov (C8.out _)) | (go_at_call 7; exact calls_ov (C7.out _ (ov_g gs _ ⟨_, rfl⟩) (ov_g kt _ ⟨_, rfl⟩))))))))
  refine wpQuiet_nil ?_
  intro wn hbn
  have hsz := B.size
  have hzn := hbn.size
  replace B := B.trans (hbn.mono B.size)
  try replace t1 := t1.of_eq (hbn.block _ t1.lt)
  try replace t7 := t7.of_eq (hbn.block _ t7.lt)
  try replace t9 := t9.of_eq (hbn.block _ t9.lt)
  try replace t11 := t11.of_eq (hbn.block _ t11.lt)
  try replace g1 := g1.of_eq (hbn.block _ g1.lt)
  try replace gs := gs.of_eq (hbn.block _ gs.lt)
  try replace kt := kt.of_eq (hbn.block _ kt.lt)
  go_wp2
  go_ret
  exact ⟨rfl, B⟩
theorem rdT_back {t : Nat → Px} (ht : Tok t) : Tile.v (rdP (ofL (tbK t 64))) = Tile.v t := by
  unfold Tile.v
  rw [tileC_congr fun i hi => rd_back ht i hi]
theorem walk_TileBytes (t : Nat → Px) (s : ByteArray) (ht : Tok t) (hs : s.size ≤ maxLen) (w : World) (gs : GAt 0 8 w Sha.start.at) (kt : GAt 1 64 w kW) : Calls Tryd.prog 4 #[Tile.v t, .string s] w fun e w' => e = .returned (.bool true) ∧ Below w.heap.size w w' := by
  unfold maxLen at hs
  have hz := tbs_size t
  have e3 : (ofL (tbK t 64)).size = 256 := hz
  refine walk_bytes t (if s.size = 256 then rdP s else fun _ => Px.zero) (if s.size = 256 then 0 else 11) (ofL (tbK t 64)) (keyS t) s (s.size % 256) (by omega) (by omega) hz w ?_ ?_ ?_ ?_ ?_ ?_ ?_ ?_ gs kt
  · exact Lib.hid fun w => by
      have h := P_Read (ofL (tbK t 64)) w (by omega)
      rw [if_pos hz, if_pos hz, rdT_back ht] at h
      exact h
  · exact Lib.hid fun w => P_Read s w (by omega)
  · exact Lib.hid fun w => by
      have hne : ¬ ((ofL (tbK t 64)).extract 0 (s.size % 256)).size = 256 := by rw [ByteArray.size_extract]; omega
      have h := P_Read ((ofL (tbK t 64)).extract 0 (s.size % 256)) w (by rw [ByteArray.size_extract]; omega)
      rw [if_neg hne, if_neg hne] at h
      exact h
  · exact Lib.hid fun w => R_Read s w (by omega)
  · exact Lib.hid fun w => R_Bytes t w ht
  · exact Lib.hid fun w => P_Bytes t w ht
  · exact Lib.hid fun w g k => P_Key t w ht g k
  · exact Lib.hid fun w => R_Key t w ht

namespace tileBytes
open Go.ChangeShapes Go.WideShapes Go.ChangeAt Go.RowKit
open Go.ChangeMaps (open_string shut_string)
set_option maxRecDepth 100000 in
theorem lifted (os : Os) (started : os.Started) (H : Type) (enc : TypeId × Value → H) :
    ReturnsInHanded {} Tryd.checked os 4 .any (fun w args => (Rows.tileBytesSpec.pre enc Tryd.prog Tryd.f4 [] false w args ∧ laidMetH Tryd.prog laidD w) ∧ sizedMet enc Tryd.prog Tryd.f4 (OpenSpec.ofChange Rows.tileBytesSpec) false w args) (Rows.tileBytesSpec.post enc Tryd.prog Tryd.f4 false true false false) := by
  refine returnsInHanded_of_change_and (C := Tryd.checked) (X := fun w _ => laidMetH Tryd.prog laidD w) (fun _ _ _ hh h => h.of_heap hh) own started (by kernel_rfl) Tryd.func4
    (ChangeSpec.witness_shaped (enc := enc) (C := Tryd.checked) (os := os) (X := fun w _ => laidMetH Tryd.prog laidD w) false (World.doorLaid Tryd.prog 400 os) #[.agg (Array.replicate 256 (.int .u8 0)), .string ⟨#[]⟩] 8 rfl (World.shaped_of_RefB (by kernel_rfl) (by kernel_rfl)) (by kernel_rfl) (by kernel_rfl) (by kernel_rfl) (door_met os _)) ?_
  intro W base args ds gs before hval0 hW _ _ hL _
  obtain ⟨hgs, hkt⟩ := of_laid hL
  have hval : ∀ (j : Nat) t v, Tryd.f4.params[j]? = some t → args[j]? = some v → Value.okWide Tryd.prog W .any base t v := hval0
  have hW' := hW
  obtain ⟨p, q, hA0, hV, rfl, hfz, hnd⟩ := hW
  have hA : DataW.TrodAll enc Tryd.prog W 0 (fun _ => true) true Tryd.f4.params.toList args.toList ds p := hA0
  rw [Tryd.params4] at hA hval
  obtain ⟨v0, vs0, d0, ds0, p0, q0, hargs, rfl, rfl, h0, r0⟩ := trodAll_cons hA
  obtain ⟨v1, vs1, d1, ds1, p1, q1, rfl, rfl, rfl, h1, r1⟩ := trodAll_cons r0
  obtain ⟨rfl, rfl, rfl⟩ := trodAll_nil r1
  obtain rfl : args = #[v0, v1] := by cases args; simp_all
  obtain ⟨rfl, rfl⟩ := trodVars_none hV
  have k0 := h0
  have lt0 : ∀ x ∈ p0, x.block < W.heap.size := by obtain ⟨m, hm⟩ := k0; exact DataW.trod_lt m _ _ _ hm
  have k1 := h1
  have lt1 : ∀ x ∈ p1, x.block < W.heap.size := by obtain ⟨m, hm⟩ := k1; exact DataW.trod_lt m _ _ _ hm
  obtain ⟨a0, rfl, w0⟩ := open_tile (hval 0 25 v0 rfl rfl) h0
  obtain ⟨a1, rfl, rfl, rfl, w1⟩ := open_string Tryd.underlying9 (hval 1 9 v1 rfl rfl) h1
  clear hA0 hval0
  refine (walk_TileBytes a0 a1 w0 w1 W hgs hkt).mono fun e W' ⟨he, bel⟩ => ?_
  subst he
  exact ⟨_, rfl, _, _, _, [], _, [], hW', trodAll_mk1 (shut_bool Tryd.underlying4 _), (trodAll_cons_mk (Below.trod laidOut (by kernel_rfl) (of_decide_eq_true (by kernel_rfl)) k0 bel lt0) (trodAll_cons_mk (Below.trod laidOut (by kernel_rfl) (of_decide_eq_true (by kernel_rfl)) k1 bel lt1) trodAll_mk0)), rfl, bel.frame _, fun h => by cases h⟩
theorem over : Rows.tileBytesRow.holds Tryd.pinned (OpenSpec.ofChange Rows.tileBytesSpec) :=
  OpenClaim.holds_of_wide 4 Tryd.f4 rfl rfl rfl rfl rfl rfl rfl ⟨rfl, rfl, rfl, rfl, rfl⟩ rfl rfl rfl rfl rfl (by kernel_rfl) Tryd.func4 (by kernel_rfl)
    (of_decide_eq_true (by kernel_rfl)) (by unfold Func.isWrapper; first | (rw [if_pos (by decide +kernel)]; kernel_rfl) | (rw [if_neg (by decide +kernel)]; exact ⟨rfl, rfl⟩))
    (fun os started H enc _ => lifted os started H enc)
/-- THE STATEMENT: TileBytes returns true for every input, and its arguments read as they did; what the two tables hold is tied to the program's text. -/
theorem proved : Rows.TileBytesCardSaid := by
  unfold Rows.TileBytesCardSaid Rows.tileBytesCard
  exact Claim7.holds_tied_plain_at .later [] [.data, .data] true _ false over (fun _ h => by cases h) (by kernel_rfl) (fun _ h => by cases h) tileBytes_row_tie rfl ⟨rfl, rfl⟩ (by kernel_rfl) rfl
    (fun f fn hf hfn => by
      obtain rfl : f = 4 := Option.some.inj ((show Tryd.prog.funcNamed "gouache/gouachelaw07.TileBytes" = some 4 by kernel_rfl).symm.trans hf) |>.symm
      obtain rfl : fn = Tryd.f4 := (Option.some.inj (Tryd.func4.symm.trans hfn)).symm
      exact ⟨by kernel_rfl, fun j t ht => by
        rw [Tryd.params4] at ht
        have hm : t ∈ [25, 9] := by simpa using Array.mem_of_getElem? ht
        have hall : ([25, 9].all fun u => !Tryd.prog.wantsStandIn u) = true := by kernel_rfl
        exact (show Tryd.prog.wantsStandIn t = false by simpa using List.all_eq_true.1 hall t hm)⟩)
    (by kernel_rfl)
end tileBytes

end Go.Proofs.YtelfkakaaobfcaaDoor
