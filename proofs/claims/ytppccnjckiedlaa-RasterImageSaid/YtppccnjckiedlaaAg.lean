/- A region that draws its order: its first n operations are pure or read memory that the operations ahead of the t0-th leave alone, and each from the t0-th on waits for all of them: they are taken first; the rest operation by operation. -/
import Derived.Test.YtppccnjckiedlaaAf
import Derived.OrdersHeld
namespace Go.Proofs.Ytppccnjckiedlaa
open Go.RowKit
set_option linter.unusedVariables false
set_option linter.unusedSimpArgs false

def vOp (o : Oper) : Bool := o.guard.isNone && match o.op with
  | .move _ | .load .. | .binOp .. | .unOp .. | .convert .. | .fieldAddr .. | .indexAddr .. | .build .. | .slice .. | .extract .. => true
  | _ => false
theorem vOp_guard {o : Oper} (h : vOp o = true) : o.guard = none := by
  unfold vOp at h
  simp only [Bool.and_eq_true, Option.isNone_iff_eq_none] at h
  exact h.1
theorem vOp_run {P : Program} {o : Oper} (h : vOp o = true) (ρ : Operand → Value) : ∃ s : Sem Value, ∀ w, (execOp ρ o).run P w = (s.run P w).andThen fun v w' => .ok (.value v) w' := by
  unfold vOp at h
  simp only [Bool.and_eq_true] at h
  obtain ⟨_, h⟩ := h
  have hv : ∀ s : Sem Value, ∀ w, (do let x ← s; pure (Next.value x) : Sem Next).run P w = (s.run P w).andThen fun v w' => .ok (.value v) w' := fun s w => by
    simp only [Sem.run_bind, Sem.run_pure]
  unfold execOp
  cases ho : o.op <;> rw [ho] at h <;> first | (exact ⟨_, fun w => hv _ w⟩) | (cases h; done) | skip
  all_goals first | (exact ⟨pure _, fun w => rfl⟩) | (simp only [Sem.run_pure]; exact ⟨pure _, fun w => by simp only [Sem.run_pure, Result.andThen_ok]⟩)
section
variable {P : Program} {ops : Array Oper} {Q : Exit → Act → World → Prop} {md : Region.Mode} {S : World → Prop} {t0 : Nat}
theorem yieldsIf_of_quiet {o : Oper} {v : Value} {a : Act} (ho : vOp o = true) (h : ∀ w, S w → o.quietAt P a S w v) : YieldsIf P ops S o v a := by
  refine .inl ⟨by simp [Region.wanted, vOp_guard ho], fun w hw => ?_⟩
  have h1 := h w hw
  unfold Oper.quietAt at h1
  obtain ⟨s, hs⟩ := vOp_run (P := P) ho a.eval
  rw [hs w] at h1 ⊢
  cases hr : s.run P w with
  | ok x w' =>
    rw [hr] at h1
    obtain ⟨e1, e2⟩ : w' = w ∧ x = v := h1
    rw [e1, e2]; rfl
  | halt x w' =>
    rw [hr] at h1
    exact (h1 : False).elim
/-- Whatever order is picked from here on; behind an operation ahead of the t0-th S holds. -/
def wpAnyX (P : Program) (md : Region.Mode) (ops : Array Oper) (Q : Exit → Act → World → Prop) (S : World → Prop) (t0 : Nat) : Nat → Array Bool → Act → World → Prop
  | 0, listed, a, w => Region.ready md ops listed = [] ∧ Q .normal a w
  | fuel + 1, listed, a, w =>
    (Region.ready md ops listed = [] → Q .normal a w) ∧
    ∀ i ∈ Region.ready md ops listed, wpOp P ops Q i (fun a' w' => (i < t0 → S w') ∧ wpAnyX P md ops Q S t0 fuel (listed.setIfInBounds i true) a' w') a w
theorem wpAny_of_X : ∀ (fuel : Nat) (listed : Array Bool) (a : Act) (w : World), wpAnyX P md ops Q S t0 fuel listed a w → wpAny P md ops Q fuel listed a w
  | 0, _, _, _, h => h
  | fuel + 1, _, _, _, h => ⟨h.1, fun i hi => wpOp_mono (fun a' w' h' => wpAny_of_X fuel _ a' w' h'.2) (h.2 i hi)⟩
/-- What has come up waits for nothing that has not. -/
def ClosedX (md : Region.Mode) (ops : Array Oper) (listed : Array Bool) : Prop := ∀ j oj, ops[j]? = some oj → listed.getD j false = true → ∀ e ∈ oj.after, Region.binds md e = true → listed.getD e.on false = true
theorem ClosedX.set {listed : Array Bool} (h : ClosedX md ops listed) {i : Nat} (hi : i ∈ Region.ready md ops listed) : ClosedX md ops (listed.setIfInBounds i true) := by
  intro j oj hj hl e he hb
  obtain ⟨hun, oi, hoi, hall⟩ := mem_ready.1 hi
  have key : listed.getD e.on false = true := by
    by_cases hij : i = j
    · subst hij
      have : oi = oj := Option.some.inj (hoi.symm.trans hj)
      subst this
      exact hall e he hb
    · refine h j oj hj ?_ e he hb
      rw [Array.getD_eq_getD_getElem?, Array.getElem?_setIfInBounds, if_neg hij, ← Array.getD_eq_getD_getElem?] at hl
      exact hl
  exact getD_set_true key
/-- t waits for i, through others perhaps. -/
def trB (md : Region.Mode) (ops : Array Oper) (i : Nat) : Nat → Nat → Bool
  | 0, t => Region.waitsFor md ops t i
  | f + 1, t => Region.waitsFor md ops t i || (List.range ops.size).any fun s => Region.waitsFor md ops t s && trB md ops i f s
theorem trB_undone {listed : Array Bool} (hc : ClosedX md ops listed) {i : Nat} (hun : listed.getD i true = false) : ∀ (f t : Nat), trB md ops i f t = true → listed.getD t false = false ∧ t ∉ Region.ready md ops listed := by
  have one : ∀ t s, Region.waitsFor md ops t s = true → listed.getD s false = false → listed.getD t false = false ∧ t ∉ Region.ready md ops listed := fun t s hw hs => by
    obtain ⟨o', ho', e, he, hb, hon⟩ := Region.waitsFor_spec hw
    constructor
    · cases hl : listed.getD t false with
      | false => rfl
      | true =>
        have x := hc t o' ho' hl e he hb
        rw [hon, hs] at x
        cases x
    · intro hr
      obtain ⟨_, ot, hot, hall⟩ := mem_ready.1 hr
      have : o' = ot := Option.some.inj (ho'.symm.trans hot)
      subst this
      have h2 := hall e he hb
      rw [hon, hs] at h2
      cases h2
  intro f
  induction f with
  | zero => intro t h; exact one t i h (getD_both hun)
  | succ f ih =>
    intro t h
    simp only [trB, Bool.or_eq_true] at h
    rcases h with h | h
    · exact one t i h (getD_both hun)
    · obtain ⟨s, _, hs⟩ := List.any_eq_true.1 h
      simp only [Bool.and_eq_true] at hs
      exact one t s hs.1 (ih s hs.2).1
theorem anyX_first {i : Nat} {oi : Oper} {v : Value} (hi : ops[i]? = some oi) (hsel : ∀ (j : Nat) (o : Oper) cs b, ops[j]? = some o → o.op ≠ .select cs b)
    (hQ : ∀ c a w, Q (.panic c) (a.put oi.dst v) w → Q (.panic c) a w) (hi0 : i < t0) (hwait : ∀ t, t0 ≤ t → t < ops.size → trB md ops i 8 t = true) :
    ∀ (fuel : Nat) (listed : Array Bool) (a : Act) (w : World), ClosedX md ops listed →
      (∀ j oj, ops[j]? = some oj → j ≠ i → listed.getD j true = false → (∀ e ∈ oj.after, Region.binds md e = true → e.on ≠ i) → oi.apart ops oj = true) →
      i ∈ Region.ready md ops listed → YieldsIf P ops S oi v a → S w →
      wpAnyX P md ops Q S t0 fuel (listed.setIfInBounds i true) (a.put oi.dst v) w → wpAnyX P md ops Q S t0 (fuel + 1) listed a w := by
  intro fuel
  induction fuel with
  | zero =>
    intro listed a w hcl _ hr hy hS H
    refine ⟨fun h => (by rw [h] at hr; cases hr), fun j hj => ?_⟩
    by_cases hji : j = i
    · subst hji; exact hy.wpOp hi hS ⟨fun _ => hS, H⟩
    · have := ready_mono hj hji
      rw [H.1] at this
      cases this
  | succ fuel ih =>
    intro listed a w hcl hfree hr hy hS H
    refine ⟨fun h => (by rw [h] at hr; cases hr), fun j hj => ?_⟩
    by_cases hji : j = i
    · subst hji; exact hy.wpOp hi hS ⟨fun _ => hS, H⟩
    · have h1 := H.2 j (ready_mono hj hji)
      obtain ⟨hjun, oj, hoj, hall⟩ := mem_ready.1 hj
      have hun := (mem_ready.1 hr).1
      have hnot : ∀ e ∈ oj.after, Region.binds md e = true → e.on ≠ i := fun e he hb heq => by
        have h1 := hall e he hb
        rw [heq, getD_both hun] at h1
        cases h1
      have hjs : j < ops.size := (Array.getElem?_eq_some_iff.1 hoj).1
      have hjt : j < t0 := Nat.lt_of_not_le fun hle => by
        exact (trB_undone hcl hun 8 j (hwait j hle hjs)).2 hj
      have h2 := wpOp_putIf hoj (hfree j oj hoj hji hjun hnot) (fun cs b => hsel i oi cs b hi) (fun cs b => hsel j oj cs b hoj) hQ hy h1
      have hfree' : ∀ k ok, ops[k]? = some ok → k ≠ i → (listed.setIfInBounds j true).getD k true = false →
          (∀ e ∈ ok.after, Region.binds md e = true → e.on ≠ i) → oi.apart ops ok = true := fun k ok hk hki hun hno => by
        refine hfree k ok hk hki ?_ hno
        by_cases hjk : j = k
        · subst hjk; exact hjun
        · rw [getD_set_ne true hjk] at hun; exact hun
      refine wpOp_mono (fun a' w' h3 => ⟨fun _ => h3.2.1 hjt, ih (listed.setIfInBounds j true) a' w' (hcl.set hj) hfree' (ready_mono hr (Ne.symm hji)) h3.1 (h3.2.1 hjt) ?_⟩) h2
      rw [Array.setIfInBounds_comm _ _ hji]
      exact h3.2.2
def headX (md : Region.Mode) (ops : Array Oper) (t0 : Nat) (T : Array Bool) : List Oper → Nat → Array Bool → Bool
  | [], _, listed => decide (listed = T)
  | o :: l, k, listed => vOp o && decide (k < t0) && ((List.range ops.size).all fun t => decide (t < t0) || trB md ops k 8 t) && (Region.ready md ops listed).contains k && Region.free md ops listed k && headX md ops t0 T l (k + 1) (listed.setIfInBounds k true)
theorem anyX_head {T : Array Bool} {f : Nat} {w : World} (hsel : Region.noSelect ops = true) (hS : S w) : ∀ (l : List Oper) (k : Nat) (listed : Array Bool) (a : Act), ClosedX md ops listed → (∀ j, j < l.length → l[j]? = ops[k + j]?) →
    headX md ops t0 T l k listed = true → wpQuiet P ops S (fun a' => wpAnyX P md ops (NoPan Q) S t0 f T a' w) l a → wpAnyX P md ops (NoPan Q) S t0 (l.length + f) listed a w := by
  intro l
  induction l with
  | nil =>
    intro k listed a _ _ hB h
    simp only [headX, decide_eq_true_eq] at hB
    rw [List.length_nil, Nat.zero_add, hB]
    exact h
  | cons o l ih =>
    intro k listed a hcl hl hB h
    have h0 : ops[k]? = some o := by simpa using (hl 0 (by simp)).symm
    simp only [headX, Bool.and_eq_true, decide_eq_true_eq] at hB
    obtain ⟨⟨⟨⟨⟨hv, hk⟩, hwt⟩, hr⟩, hf⟩, hB'⟩ := hB
    have hw : Region.wanted o (yielded ops a.tmps) = true := by simp [Region.wanted, vOp_guard hv]
    unfold wpQuiet at h
    rw [if_pos hw] at h
    obtain ⟨v, hy, hK⟩ := h
    rw [show (o :: l).length + f = (l.length + f) + 1 by simp; omega]
    refine anyX_first h0 (Region.noSelect_spec hsel) (fun _ _ _ h => h) hk (fun t ht hts => ?_) (l.length + f) listed a w hcl (Region.free_spec h0 hf) (by simpa using hr) (yieldsIf_of_quiet hv hy) hS
      (ih (k + 1) _ _ (hcl.set (by simpa using hr)) (fun j hj => ?_) hB' hK)
    · have := List.all_eq_true.1 hwt t (List.mem_range.2 hts)
      simp only [Bool.or_eq_true, decide_eq_true_eq] at this
      rcases this with h | h
      · omega
      · exact h
    · have := hl (j + 1) (by simp; omega)
      simpa [Nat.add_assoc, Nat.add_comm 1 j] using this
/-- The one operation that must come next; ahead of the t0-th: it only makes memory. -/
theorem anyX_next (i : Nat) {oi : Oper} {T : Array Bool} {f : Nat} {a : Act} {w : World} (hi : ops[i]? = some oi) (hr : Region.ready md ops T = [i]) (hg : oi.guard = none)
    (H : ∀ K : Act → World → Prop, (∀ a w, (i < t0 → S w) ∧ wpAnyX P md ops (NoPan Q) S t0 f (T.setIfInBounds i true) a w → K a w) → oi.wp P a w K (NoPan Q)) : wpAnyX P md ops (NoPan Q) S t0 (f + 1) T a w := by
  refine ⟨fun h => (by rw [hr] at h; cases h), fun j hj => ?_⟩
  rw [hr] at hj
  obtain rfl : j = i := by simpa using hj
  unfold wpOp
  rw [hi]
  simp only []
  rw [if_pos (by simp [Region.wanted, hg])]
  exact .inl (H _ fun _ _ h => h)
theorem anyX_end {T : Array Bool} {f : Nat} {a : Act} {w : World} (hr : Region.ready md ops T = []) (H : Q .normal a w) : wpAnyX P md ops (NoPan Q) S t0 f T a w := by
  cases f with
  | zero => exact ⟨hr, H⟩
  | succ f => exact ⟨fun _ => H, fun j hj => by rw [hr] at hj; cases hj⟩
end
theorem anyX_of_any {P : Program} {ops : Array Oper} {Q : Exit → Act → World → Prop} {md : Region.Mode} {S : World → Prop} {t0 : Nat} : ∀ (f : Nat) (T : Array Bool) (a : Act) (w : World), (∀ i, i < t0 → T.getD i true = true) → wpAny P md ops Q f T a w → wpAnyX P md ops Q S t0 f T a w
  | 0, _, _, _, _, h => h
  | f + 1, T, a, w, hT, h => ⟨h.1, fun i hi => by
    have hun := (mem_ready.1 hi).1
    have hge : ¬ i < t0 := fun hlt => by rw [hT i hlt] at hun; cases hun
    refine wpOp_mono (fun a' w' h' => ⟨fun hlt => absurd hlt hge, anyX_of_any f _ a' w' (fun j hj => ?_) h'⟩) (h.2 i hi)
    have hne : i ≠ j := fun e => hge (e ▸ hj)
    rw [getD_set_ne true hne]
    exact hT j hj⟩
/-- The rest comes in the order of the text. -/
theorem anyX_seq {P : Program} {l : List Oper} {Q : Exit → Act → World → Prop} {md : Region.Mode} {S : World → Prop} {t0 : Nat} {T : Array Bool} {a : Act} {w : World} (h1 : ((List.range t0).all fun i => T.getD i true) = true) (h2 : Region.seqB md l.toArray (l.drop t0).length t0 T = true)
    (h : wpList P l.toArray Q (l.drop t0) a w) : wpAnyX P md l.toArray Q S t0 (l.length - t0) T a w := by
  refine anyX_of_any _ T a w (fun i hi => List.all_eq_true.1 h1 i (List.mem_range.2 hi)) ?_
  have := wpAny_of_seq (md := md) (Q' := Q) (l.drop t0) t0 T a w (fun j => by simp [List.getElem?_drop]) h2 h
  rwa [List.length_drop] at this
theorem wp_region_X {P : Program} {id : Nat} {Q : Exit → Act → World → Prop} {a : Act} {w : World} {l : List Oper} (n t0 : Nat) (T : Array Bool) (hm : P.follows .mixedOrders = true)
    (hB : (Region.noSelect l.toArray && decide (n < l.length) && headX .any l.toArray t0 T (l.take n) 0 (Array.replicate l.toArray.size false)) = true)
    (h : wpQuiet P l.toArray (fun w' => ∃ u, w' = ov w u) (fun a' => ∀ w', Below w.heap.size w w' → wpAnyX P .any l.toArray (NoPan Q) (fun w'' => ∃ u, w'' = ov w u) t0 (l.length - n) T a' w') (l.take n) a) : (Code.region id l.toArray true).wp P Q a w := by
  simp only [Bool.and_eq_true, decide_eq_true_eq] at hB
  obtain ⟨⟨hsel, hn⟩, hX⟩ := hB
  have htl : (l.take n).length = n := by simp; omega
  have key : ∀ (l' : List Oper) (a : Act), wpQuiet P l.toArray (fun w' => ∃ u, w' = ov w u) (fun a' => ∀ w', Below w.heap.size w w' → wpAnyX P .any l.toArray (NoPan Q) (fun w'' => ∃ u, w'' = ov w u) t0 (l.length - n) T a' w') l' a →
      wpQuiet P l.toArray (fun w' => ∃ u, w' = ov w u) (fun a' => wpAnyX P .any l.toArray (NoPan Q) (fun w'' => ∃ u, w'' = ov w u) t0 (l.length - n) T a' w.drew) l' a := by
    intro l'
    induction l' with
    | nil => intro a h; exact h _ ((Below.refl _ _).drew)
    | cons o r ih =>
      intro a h
      unfold wpQuiet at h ⊢
      split
      · rename_i hw
        rw [if_pos hw] at h
        exact Oper.quiet_mono (fun a' h' => ih a' h') h
      · rename_i hw
        rw [if_neg hw] at h
        exact ih _ h
  refine Code.wp_mono NoPan.imp (wp_region_any hm ?_)
  have := anyX_head (md := .any) (t0 := t0) (T := T) (f := l.length - n) (w := w.drew) hsel ⟨w.drew, ov_of ((Below.refl _ _).drew)⟩ (l.take n) 0 _ a (fun j oj _ hl => by rw [getD_replicate_false] at hl; cases hl) (fun j hj => by
    have hj' : j < n := by rw [htl] at hj; exact hj
    simp [hj']) hX (key _ _ h)
  rw [htl, show n + (l.length - n) = l.toArray.size by simp; omega] at this
  exact wpAny_of_X _ _ _ _ this
/-! ### Operation by operation -/
def closedB (md : Region.Mode) (ops : Array Oper) (T : Array Bool) : Bool := (List.range ops.size).all fun j => !(T.getD j false) || match ops[j]? with
  | some oj => oj.after.all fun e => !(Region.binds md e) || T.getD e.on false
  | none => true
theorem closedB_spec {md : Region.Mode} {ops : Array Oper} {T : Array Bool} (h : closedB md ops T = true) : ClosedX md ops T := by
  intro j oj hj hl e he hb
  have h1 := List.all_eq_true.1 h j (List.mem_range.2 (Array.getElem?_eq_some_iff.1 hj).1)
  rw [hl, hj] at h1
  simp only [Bool.not_true, Bool.false_or] at h1
  have h2 := Array.all_eq_true'.1 h1 e he
  rw [hb] at h2
  simpa using h2
def takeB (md : Region.Mode) (ops : Array Oper) (t0 : Nat) (T : Array Bool) (i : Nat) : Bool :=
  (match ops[i]? with | some o => vOp o | none => false) && decide (i < t0) && ((List.range ops.size).all fun t => decide (t < t0) || trB md ops i 8 t) && (Region.ready md ops T).contains i && Region.free md ops T i && closedB md ops T && Region.noSelect ops
section
variable {P : Program} {ops : Array Oper} {md : Region.Mode} {Q : Exit → Act → World → Prop} {S : World → Prop} {t0 f : Nat} {a : Act} {w : World} {T : Array Bool}
/-- A pure operation, or a load that S knows, is taken first. -/
theorem anyX_take (i : Nat) {oi : Oper} (hi : ops[i]? = some oi) (hB : takeB md ops t0 T i = true) (hS : S w)
    (h : ∀ K : Act → Prop, (∀ a', wpAnyX P md ops (NoPan Q) S t0 f (T.setIfInBounds i true) a' w → K a') → oi.quiet P a S K) : wpAnyX P md ops (NoPan Q) S t0 (f + 1) T a w := by
  simp only [takeB, Bool.and_eq_true, decide_eq_true_eq] at hB
  obtain ⟨⟨⟨⟨⟨⟨hv, hk⟩, hwt⟩, hr⟩, hf⟩, hcl⟩, hsel⟩ := hB
  rw [hi] at hv
  obtain ⟨v, hy, hK⟩ := h _ (fun _ h => h)
  refine anyX_first hi (Region.noSelect_spec hsel) (fun _ _ _ h => h) hk (fun t ht hts => ?_) f T a w (closedB_spec hcl) (Region.free_spec hi hf) (by simpa using hr) (yieldsIf_of_quiet hv hy) hS hK
  have := List.all_eq_true.1 hwt t (List.mem_range.2 hts)
  simp only [Bool.or_eq_true, decide_eq_true_eq] at this
  rcases this with h | h
  · omega
  · exact h
/-- One of two operations comes next. -/
theorem anyX_two (i j : Nat) {oi oj : Oper} (hi : ops[i]? = some oi) (hj : ops[j]? = some oj) (hr : Region.ready md ops T = [i, j]) (hgi : oi.guard = none) (hgj : oj.guard = none)
    (Hi : ∀ K : Act → World → Prop, (∀ a w, (i < t0 → S w) ∧ wpAnyX P md ops (NoPan Q) S t0 f (T.setIfInBounds i true) a w → K a w) → oi.wp P a w K (NoPan Q))
    (Hj : ∀ K : Act → World → Prop, (∀ a w, (j < t0 → S w) ∧ wpAnyX P md ops (NoPan Q) S t0 f (T.setIfInBounds j true) a w → K a w) → oj.wp P a w K (NoPan Q)) : wpAnyX P md ops (NoPan Q) S t0 (f + 1) T a w := by
  refine ⟨fun h => (by rw [hr] at h; cases h), fun k hk => ?_⟩
  rw [hr] at hk
  have hk : k = i ∨ k = j := by simpa using hk
  rcases hk with rfl | rfl
  · unfold wpOp
    rw [hi]
    simp only []
    rw [if_pos (by simp [Region.wanted, hgi])]
    exact .inl (Hi _ fun _ _ h => h)
  · unfold wpOp
    rw [hj]
    simp only []
    rw [if_pos (by simp [Region.wanted, hgj])]
    exact .inl (Hj _ fun _ _ h => h)
end
theorem wp_region_X0 {P : Program} {id : Nat} {Q : Exit → Act → World → Prop} {a : Act} {w : World} {l : List Oper} (t0 : Nat) (T : Array Bool) (hm : P.follows .mixedOrders = true)
    (hB : T = Array.replicate l.toArray.size false)
    (h : ∀ w', Below w.heap.size w w' → wpAnyX P .any l.toArray (NoPan Q) (fun w'' => ∃ u, w'' = ov w u) t0 l.length T a w') : (Code.region id l.toArray true).wp P Q a w := by
  refine Code.wp_mono NoPan.imp (wp_region_any hm ?_)
  rw [← hB]
  have := wpAny_of_X _ _ _ _ (h w.drew ((Below.refl _ _).drew))
  rwa [show l.length = l.toArray.size by simp] at this
end Go.Proofs.Ytppccnjckiedlaa
