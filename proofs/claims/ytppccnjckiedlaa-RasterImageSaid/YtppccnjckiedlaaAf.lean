/- A region that draws its order: the first n operations read old memory, or call what only makes new memory, in whatever order; then the rest, operation by operation: one that must come next, or a pure one that may be taken first. -/
import Derived.Test.YtppccnjckiedlaaAe
namespace Go.Proofs.Ytppccnjckiedlaa
open Go.RowKit
set_option linter.unusedVariables false
set_option linter.unusedSimpArgs false

/-- Each operation behind the n-th waits for one from the n-th on that stands ahead of it. -/
def treeB (md : Region.Mode) (ops : Array Oper) (n : Nat) : Bool :=
  (List.range ops.size).all fun t => decide (t ≤ n) || (List.range t).any fun s => decide (n ≤ s) && Region.waitsFor md ops t s
section
variable {P : Program} {ops : Array Oper} {md : Region.Mode} {C : World → Prop}
theorem tail_waitsT {n : Nat} {listed : Array Bool} (hs : Region.sinkB md ops n = true) (hc : treeB md ops n = true) (hn : n < ops.size) (inv : HeadInv md ops n listed) :
    ∀ (d i : Nat), n - i = d → i < n → listed.getD i true = false → ∀ t, n ≤ t → t ∉ Region.ready md ops listed := by
  intro d
  induction d using Nat.strongRecOn with
  | _ d ih =>
    intro i hd hi hun t ht hr
    obtain ⟨_, ot, hot, hall⟩ := mem_ready.1 hr
    have htlt : t < ops.size := (Array.getElem?_eq_some_iff.1 hot).1
    by_cases htn : t = n
    · subst htn
      have h1 := List.all_eq_true.1 hs i (List.mem_range.2 hi)
      obtain ⟨j, hj, hj2⟩ := List.any_eq_true.1 h1
      simp only [Bool.and_eq_true, decide_eq_true_eq] at hj2
      obtain ⟨oj, hoj, e, he, hb, hon⟩ := Region.waitsFor_spec hj2.2
      have hjle : j ≤ t := by have := List.mem_range.1 hj; omega
      by_cases hjt : j = t
      · subst hjt
        have : oj = ot := Option.some.inj (hoj.symm.trans hot)
        subst this
        have h2 := hall e he hb
        rw [hon, getD_both hun] at h2
        cases h2
      · cases hl : listed.getD j false with
        | true =>
          have h2 := inv.closed j oj hoj hl e he hb
          rw [hon, getD_both hun] at h2
          cases h2
        | false =>
          have hjs : j < listed.size := by rw [inv.size]; omega
          exact ih (t - j) (by omega) j rfl (by omega) (getD_in hjs hl) t (Nat.le_refl _) hr
    · have h1 := List.all_eq_true.1 hc t (List.mem_range.2 htlt)
      simp only [Bool.or_eq_true, decide_eq_true_eq] at h1
      rcases h1 with h1 | h1
      · omega
      · obtain ⟨s, hs1, hs2⟩ := List.any_eq_true.1 h1
        simp only [Bool.and_eq_true, decide_eq_true_eq] at hs2
        obtain ⟨o', ho', e, he, hb, hon⟩ := Region.waitsFor_spec hs2.2
        have : o' = ot := Option.some.inj (ho'.symm.trans hot)
        subst this
        have h2 := hall e he hb
        have hst := List.mem_range.1 hs1
        rw [hon, getD_both (inv.tail s hs2.1 (by omega))] at h2
        cases h2
theorem headAny_takeT {n i : Nat} {oi : Oper} {v : Value} {L : Array Bool → Act → Prop} (hi : ops[i]? = some oi) (hsel : Region.noSelect ops = true)
    (hs : Region.sinkB md ops n = true) (hc : treeB md ops n = true) (hn : n < ops.size) (hin : i < n) (hL : ∀ done a, L done a → ∀ j ∈ Region.ready md ops done, n ≤ j) :
    ∀ (f : Nat) (done : Array Bool) (a : Act), HeadInv md ops n done →
      (∀ j oj, ops[j]? = some oj → j ≠ i → done.getD j true = false → (∀ e ∈ oj.after, Region.binds md e = true → e.on ≠ i) → oi.apart ops oj = true) →
      i ∈ Region.ready md ops done → YieldsIn P ops C oi v a →
      headAny P md ops C n L f (done.setIfInBounds i true) (a.put oi.dst v) → headAny P md ops C n L (f + 1) done a := by
  have ns := Region.noSelect_spec hsel
  intro f
  induction f with
  | zero =>
    intro done a inv _ hr hy H
    have hun := (mem_ready.1 hr).1
    refine ⟨fun h => (by rw [h] at hr; cases hr), fun j hj => ?_⟩
    have hjn : j < n := Nat.lt_of_not_le fun h => tail_waitsT hs hc hn inv _ i rfl hin hun j h hj
    refine ⟨hjn, ?_⟩
    by_cases hji : j = i
    · rw [hji]; exact hy.qOp hi H
    · exact absurd (hL _ _ H j (ready_mono hj hji)) (by omega)
  | succ f ih =>
    intro done a inv hfree hr hy H
    have hun := (mem_ready.1 hr).1
    refine ⟨fun h => (by rw [h] at hr; cases hr), fun j hj => ?_⟩
    have hjn : j < n := Nat.lt_of_not_le fun h => tail_waitsT hs hc hn inv _ i rfl hin hun j h hj
    refine ⟨hjn, ?_⟩
    by_cases hji : j = i
    · rw [hji]; exact hy.qOp hi H
    · have h1 := (H.2 j (ready_mono hj hji)).2
      obtain ⟨hjun, oj, hoj, hall⟩ := mem_ready.1 hj
      have hnot : ∀ e ∈ oj.after, Region.binds md e = true → e.on ≠ i := fun e he hb heq => by
        have h1 := hall e he hb
        rw [heq, getD_both hun] at h1
        cases h1
      have h2 := qOp_put hoj (hfree j oj hoj hji hjun hnot) (fun cs b => ns i oi cs b hi) (fun cs b => ns j oj cs b hoj) hy h1
      refine qOp_mono (fun a' h3 => ih (done.setIfInBounds j true) a' (inv.set hj hjn) ?_ (ready_mono hr (Ne.symm hji)) h3.1 ?_) h2
      · intro k ok hk hki hundone hno
        refine hfree k ok hk hki ?_ hno
        by_cases hjk : j = k
        · rw [← hjk]; exact hjun
        · rw [getD_set_ne true hjk] at hundone; exact hundone
      · rw [Array.setIfInBounds_comm _ _ hji]
        exact h3.2
def lexHeadT (md : Region.Mode) (ops : Array Oper) (n : Nat) (T : Array Bool) : Nat → Nat → Array Bool → Bool
  | 0, k, listed => decide (listed = T) && (Region.ready md ops T).all fun j => decide (n ≤ j)
  | f + 1, k, listed => (Region.ready md ops listed).contains k && Region.free md ops listed k && lexHeadT md ops n T f (k + 1) (listed.setIfInBounds k true)
theorem headAny_lexT {n : Nat} {T : Array Bool} {Lq : Act → Prop} (hsel : Region.noSelect ops = true) (hs : Region.sinkB md ops n = true) (hc : treeB md ops n = true) (hn : n < ops.size) :
    ∀ (l : List Oper) (k : Nat) (done : Array Bool) (a : Act), (∀ j, j < l.length → l[j]? = ops[k + j]?) → k + l.length = n → HeadInv md ops n done →
    lexHeadT md ops n T l.length k done = true → wpQuiet P ops C Lq l a →
    headAny P md ops C n (fun d a' => (d = T ∧ ∀ j ∈ Region.ready md ops T, n ≤ j) ∧ Lq a') l.length done a := by
  intro l
  induction l with
  | nil =>
    intro k done a _ hk _ hB h
    simp only [List.length_nil, lexHeadT, Bool.and_eq_true, decide_eq_true_eq, List.all_eq_true] at hB
    exact ⟨hB, h⟩
  | cons o l ih =>
    intro k done a hl hk inv hB h
    have h0 : ops[k]? = some o := by simpa using (hl 0 (by simp)).symm
    simp only [List.length_cons, lexHeadT, Bool.and_eq_true] at hB
    obtain ⟨⟨hr, hf⟩, hB'⟩ := hB
    have hkn : k < n := by simp only [List.length_cons] at hk; omega
    have hr' : k ∈ Region.ready md ops done := by simpa using hr
    have hst : qOp P ops C k (wpQuiet P ops C Lq l) a := by unfold qOp; simp only [h0]; exact h
    obtain ⟨v, hy, hK⟩ := yieldsIn_of_qOp h0 hst
    refine headAny_takeT h0 hsel hs hc hn hkn (fun d a' hL => by rw [hL.1.1]; exact hL.1.2) l.length done a inv (Region.free_spec h0 hf) hr' hy
      (ih (k + 1) _ _ (fun j hj => ?_) (by simp only [List.length_cons] at hk; omega) (inv.set hr' hkn) hB' hK)
    have := hl (j + 1) (by simp; omega)
    simpa [Nat.add_assoc, Nat.add_comm 1 j] using this
end
def lexAnyB (md : Region.Mode) (ops : Array Oper) (n : Nat) (T : Array Bool) : Bool :=
  Region.noSelect ops && decide (n < ops.size) && Region.sinkB md ops n && treeB md ops n && lexHeadT md ops n T n 0 (Array.replicate ops.size false)
theorem wp_region_ov_any {P : Program} {id : Nat} {Q : Exit → Act → World → Prop} {a : Act} {w : World} {l : List Oper} (n : Nat) (T : Array Bool) (hm : P.follows .mixedOrders = true) (hB : lexAnyB .any l.toArray n T = true)
    (h : wpQuiet P l.toArray (fun w' => ∃ u, w' = ov w u) (fun a' => ∀ w', Below w.heap.size w w' → wpAny P .any l.toArray (NoPan Q) (l.length - n) T a' w') (l.take n) a) : (Code.region id l.toArray true).wp P Q a w := by
  simp only [lexAnyB, Bool.and_eq_true, decide_eq_true_eq] at hB
  obtain ⟨⟨⟨⟨hsel, hn⟩, hs⟩, hc⟩, hlex⟩ := hB
  have hn' : n < l.length := by simpa using hn
  have htl : (l.take n).length = n := by simp; omega
  have inv0 : HeadInv .any l.toArray n (Array.replicate l.toArray.size false) :=
    ⟨by simp, fun j oj _ hl => (by rw [getD_replicate_false] at hl; cases hl), fun t _ ht => getD_in (by simpa using ht) (getD_replicate_false _ _)⟩
  have H := headAny_lexT (md := .any) (T := T) hsel hs hc hn (l.take n) 0 _ a (fun j hj => by
    have hj' : j < n := by rw [htl] at hj; exact hj
    simp [hj']) (by simpa using htl) inv0 (by rw [htl]; exact hlex) h
  refine Code.wp_mono NoPan.imp (wp_region_any hm ?_)
  have := any_of_headAny (Q' := NoPan Q) (g := l.length - n) (fun d a' w' hw' hL => by
    obtain ⟨u, rfl⟩ := hw'
    rw [hL.1.1]
    exact hL.2 _ (ov_below w u)) _ _ _ w.drew ⟨w.drew, ov_of ((Below.refl _ _).drew)⟩ H
  rw [htl, show n + (l.length - n) = l.toArray.size by simp; omega] at this
  exact this
section
variable {P : Program} {ops : Array Oper} {md : Region.Mode} {Q : Exit → Act → World → Prop} {a : Act} {w : World} {T : Array Bool} {f : Nat}
/-- A pure operation that may be taken first is taken. -/
theorem any_pure (i : Nat) {oi : Oper} {v : Value} (hi : ops[i]? = some oi) (hsel : Region.noSelect ops = true) (hf : Region.free md ops T i = true) (hr : (Region.ready md ops T).contains i = true) (hg : oi.guard = none)
    (hy : ∀ w, (execOp a.eval oi).run P w = .ok (.value v) w) (H : wpAny P md ops (NoPan Q) f (T.setIfInBounds i true) (a.put oi.dst v) w) : wpAny P md ops (NoPan Q) (f + 1) T a w :=
  wpAny_first hi (Region.noSelect_spec hsel) (fun _ _ _ h => h) f T a w (Region.free_spec hi hf) (by simpa using hr) (.inl ⟨by simp [Region.wanted, hg], hy⟩) H
/-- The one operation that must come next. -/
theorem any_next (i : Nat) {oi : Oper} (hi : ops[i]? = some oi) (hr : Region.ready md ops T = [i]) (hg : oi.guard = none)
    (H : ∀ K : Act → World → Prop, (∀ a w, wpAny P md ops (NoPan Q) f (T.setIfInBounds i true) a w → K a w) → oi.wp P a w K (NoPan Q)) : wpAny P md ops (NoPan Q) (f + 1) T a w := by
  refine ⟨fun h => (by rw [hr] at h; cases h), fun j hj => ?_⟩
  rw [hr] at hj
  obtain rfl : j = i := by simpa using hj
  unfold wpOp
  rw [hi]
  simp only []
  rw [if_pos (by simp [Region.wanted, hg])]
  exact .inl (H _ fun _ _ h => h)
theorem any_end (hr : Region.ready md ops T = []) (H : Q .normal a w) : wpAny P md ops (NoPan Q) f T a w := by
  cases f with
  | zero => exact ⟨hr, H⟩
  | succ f => exact ⟨fun _ => H, fun j hj => by rw [hr] at hj; cases hj⟩
end
end Go.Proofs.Ytppccnjckiedlaa
