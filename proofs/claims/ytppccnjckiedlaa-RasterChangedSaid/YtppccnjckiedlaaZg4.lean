import Derived.Test.YtppccnjckiedlaaZg3
import Derived.Shelf.Abstract
import Derived.RangeFuncNested
import Derived.RangeFuncBound
import Derived.RangeFuncCalls
import Derived.RangeFuncLeaves
import Derived.OrdersIn
import Derived.OwnWalkIn
import Derived.TacticsInMore
import Derived.LoopNIn
import Derived.LoopIn

/- Regions that draw their order, some of whose operations hand back values that are known by a fact alone: one walk in the order of the text serves for all orders. -/
namespace Go.Proofs.Ytppccnjckiedlaa
open Go.RowKit
set_option linter.unusedVariables false
set_option linter.unusedSimpArgs false

/-- What is known of an operation's value: its shape, a fact that lasts. -/
structure NSpec where
  α : Type
  ne : Nonempty α
  f : α → Value
  F : α → World → Prop
  mono : ∀ x w w', Below w.heap.size w w' → F x w → F x w'
theorem put_same {a b : Act} {d : Option Tmp} {u v : Value} (hs : b.tmps.size = a.tmps.size) (h : a.put d u = a.put d v) : b.put d u = b.put d v := by
  cases d with
  | none => rfl
  | some d =>
    have h1 : a.tmps.setIfInBounds d u = a.tmps.setIfInBounds d v := congrArg Act.tmps h
    show ({ b with tmps := b.tmps.setIfInBounds d u } : Act) = { b with tmps := b.tmps.setIfInBounds d v }
    by_cases hd : d < a.tmps.size
    · have h2 := congrArg (fun t : Array Value => t[d]?) h1
      simp [hd] at h2
      rw [h2]
    · have hd1 : a.tmps.size ≤ d := Nat.le_of_not_lt hd
      have hd2 : b.tmps.size ≤ d := hs ▸ hd1
      rw [Array.setIfInBounds_eq_of_size_le hd2, Array.setIfInBounds_eq_of_size_le hd2]
theorem put_size (a : Act) (d : Option Tmp) (v : Value) : (a.put d v).tmps.size = a.tmps.size := by
  cases d with
  | none => rfl
  | some d => show (a.tmps.setIfInBounds d v).size = _; simp
def envS (E : Nat → World → Prop) (k : Nat) (G : World → Prop) : Nat → World → Prop := fun j => if j = k then G else E j
theorem envS_comm (E : Nat → World → Prop) {k i : Nat} (h : k ≠ i) (A B : World → Prop) : envS (envS E k A) i B = envS (envS E i B) k A := by
  funext j
  unfold envS
  by_cases h1 : j = i
  · rw [if_pos h1, if_neg (by omega), if_pos h1]
  · rw [if_neg h1]
    by_cases h2 : j = k
    · rw [if_pos h2, if_pos h2]
    · rw [if_neg h2, if_neg h2, if_neg h1]
theorem envS_ne (E : Nat → World → Prop) {k j : Nat} (h : j ≠ k) (A : World → Prop) : envS E k A j = E j := if_neg h
section
variable {P : Program} {ops : Array Oper} {Q : Exit → Act → World → Prop} {md : Region.Mode} {C : World → Prop} {S : Nat → Option NSpec} {L : (Nat → World → Prop) → Act → Prop}
/-- The operation number k hands back a value as its specification says, wherever those it waits for have come. -/
def stepR (P : Program) (ops : Array Oper) (md : Region.Mode) (Q : Exit → Act → World → Prop) (C : World → Prop) (E : Nat → World → Prop) (k : Nat) (o : Oper) (a : Act) (s : NSpec) : Prop :=
  ∀ w, C w → (∀ j, Region.waitsFor md ops k j = true → E j w) → o.wp P a w (fun a' w' => ∃ x, a' = a.put o.dst (s.f x) ∧ s.F x w' ∧ Below w.heap.size w w') (NoPan Q)
theorem stepR_of {E : Nat → World → Prop} {k : Nat} {o : Oper} {a : Act} {s : NSpec}
    (h : ∀ w, C w → (∀ j, Region.waitsFor md ops k j = true → E j w) → ∀ K : Act → World → Prop, (∀ x w', s.F x w' → Below w.heap.size w w' → K (a.put o.dst (s.f x)) w') → o.wp P a w K (NoPan Q)) : stepR P ops md Q C E k o a s :=
  fun w hC hE => h w hC hE _ fun x w' h1 h2 => ⟨x, rfl, h1, h2⟩
theorem stepR_move {E E' : Nat → World → Prop} {k : Nat} {o : Oper} {a b : Act} {s : NSpec} (he : execOp b.eval o = execOp a.eval o) (hs : b.tmps.size = a.tmps.size) (hE : ∀ j w, Region.waitsFor md ops k j = true → E' j w → E j w)
    (h : stepR P ops md Q C E k o a s) : stepR P ops md Q C E' k o b s := by
  intro w hC hE'
  have h1 := h w hC fun j hj => hE j w hj (hE' j hj)
  unfold Oper.wp at *
  rw [he]
  generalize (execOp a.eval o).run P w = r at *
  cases r with
  | ok n w' =>
    cases n <;> simp only [Oper.upon] at h1 ⊢
    case value u => obtain ⟨x, h2, h3⟩ := h1; exact ⟨x, put_same hs h2, h3⟩
    case skip => obtain ⟨x, h2, h3⟩ := h1; exact ⟨x, put_same hs h2, h3⟩
    case defer d =>
      obtain ⟨x, h2, h3⟩ := h1
      have h4 := congrArg (fun y : Act => y.defers.length) h2
      cases ho : o.dst <;> rw [ho] at h4 <;> simp [Act.put] at h4
    case enter f args =>
      refine Calls.mono h1 fun e w'' he => ?_
      cases e with
      | returned u => obtain ⟨x, h2, h3⟩ := he; exact ⟨x, put_same hs h2, h3⟩
      | panicked c => exact he
      | outgrown => exact he
    case row row args => exact Rows.mono h1 fun u w'' ⟨x, h2, h3⟩ => ⟨x, put_same hs h2, h3⟩
  | halt x w' =>
    cases x <;> simp only [Oper.upon] at h1 ⊢
    case panic u => exact h1
/-- The walk in the order of the text. -/
def wpR (P : Program) (md : Region.Mode) (ops : Array Oper) (Q : Exit → Act → World → Prop) (C : World → Prop) (S : Nat → Option NSpec) (L : (Nat → World → Prop) → Act → Prop) : List Nat → (Nat → World → Prop) → Act → Prop
  | [], E, a => L E a
  | k :: r, E, a => match ops[k]? with
    | none => False
    | some o =>
      if Region.wanted o (yielded ops a.tmps) = true then
        match S k with
        | none => ∃ v, (∀ w, C w → (execOp a.eval o).run P w = .ok (.value v) w) ∧ wpR P md ops Q C S L r E (a.put o.dst v)
        | some s => stepR P ops md Q C E k o a s ∧ ∀ x, wpR P md ops Q C S L r (envS E k (s.F x)) (a.put o.dst (s.f x))
      else wpR P md ops Q C S L r E (a.put o.dst undef)
theorem wpR_swap {k i : Nat} {ok oi : Oper} {r : List Nat} (hk : ops[k]? = some ok) (hi : ops[i]? = some oi) (hap : ok.apart ops oi = true) (hsk : ∀ cs b, ok.op ≠ .select cs b) (hsi : ∀ cs b, oi.op ≠ .select cs b)
    (hne : k ≠ i) (hik : Region.waitsFor md ops i k = false) (hki : Region.waitsFor md ops k i = false) (hC : ∃ w, C w) {E : Nat → World → Prop} {a : Act}
    (h : wpR P md ops Q C S L (k :: i :: r) E a) : wpR P md ops Q C S L (i :: k :: r) E a := by
  obtain ⟨h1, h2, h3⟩ := Oper.apart_spec hap
  have ei : ∀ u, execOp (a.put ok.dst u).eval oi = execOp a.eval oi := fun u => execOp_put oi hsi a ok.dst u h1
  have ek : ∀ u, execOp (a.put oi.dst u).eval ok = execOp a.eval ok := fun u => execOp_put ok hsk a oi.dst u h3
  have wi : ∀ u, Region.wanted oi (yielded ops (a.put ok.dst u).tmps) = Region.wanted oi (yielded ops a.tmps) := fun u => wanted_put oi a ok.dst u h1
  have wk : ∀ u, Region.wanted ok (yielded ops (a.put oi.dst u).tmps) = Region.wanted ok (yielded ops a.tmps) := fun u => wanted_put ok a oi.dst u h3
  have pc : ∀ u v, (a.put ok.dst u).put oi.dst v = (a.put oi.dst v).put ok.dst u := fun u v => Act.put_comm a u v h2
  have Ek : ∀ (s : NSpec) x j w, Region.waitsFor md ops i j = true → E j w → envS E k (s.F x) j w := fun s x j w hj he => by
    rw [envS_ne]; exact he
    intro e; rw [e, hik] at hj; cases hj
  have Ek' : ∀ (s : NSpec) x j w, Region.waitsFor md ops i j = true → envS E k (s.F x) j w → E j w := fun s x j w hj he => by
    rw [envS_ne] at he; exact he
    intro e; rw [e, hik] at hj; cases hj
  have Ei' : ∀ (s : NSpec) x j w, Region.waitsFor md ops k j = true → envS E i (s.F x) j w → E j w := fun s x j w hj he => by
    rw [envS_ne] at he; exact he
    intro e; rw [e, hki] at hj; cases hj
  unfold wpR at h ⊢
  rw [hk] at h
  rw [hi]
  simp only at h ⊢
  -- the second's part of what the first leaves
  by_cases Wk : Region.wanted ok (yielded ops a.tmps) = true
  · rw [if_pos Wk] at h
    cases Sk : S k with
    | none =>
      rw [Sk] at h
      obtain ⟨v, hv, h⟩ := h
      unfold wpR at h
      rw [hi] at h
      simp only at h
      rw [wi] at h
      by_cases Wi : Region.wanted oi (yielded ops a.tmps) = true
      · rw [if_pos Wi] at h ⊢
        cases Si : S i with
        | none =>
          rw [Si] at h
          obtain ⟨u, hu, h⟩ := h
          refine ⟨u, fun w hw => by rw [← ei v]; exact hu w hw, ?_⟩
          unfold wpR
          rw [hk]
          simp only
          rw [wk, if_pos Wk, Sk]
          exact ⟨v, fun w hw => by rw [ek u]; exact hv w hw, by rw [← pc]; exact h⟩
        | some s =>
          rw [Si] at h
          obtain ⟨hs, h⟩ := h
          refine ⟨stepR_move (ei v).symm (put_size _ _ _).symm (fun _ _ _ he => he) hs, fun y => ?_⟩
          unfold wpR
          rw [hk]
          simp only
          rw [wk, if_pos Wk, Sk]
          exact ⟨v, fun w hw => by rw [ek]; exact hv w hw, by rw [← pc]; exact h y⟩
      · rw [if_neg Wi] at h ⊢
        unfold wpR
        rw [hk]
        simp only
        rw [wk, if_pos Wk, Sk]
        exact ⟨v, fun w hw => by rw [ek]; exact hv w hw, by rw [← pc]; exact h⟩
    | some s =>
      rw [Sk] at h
      obtain ⟨hs, h⟩ := h
      obtain ⟨x0⟩ := s.ne
      by_cases Wi : Region.wanted oi (yielded ops a.tmps) = true
      · rw [if_pos Wi]
        cases Si : S i with
        | none =>
          have hx : ∀ x, ∃ v, (∀ w, C w → (execOp a.eval oi).run P w = .ok (.value v) w) ∧ wpR P md ops Q C S L r (envS E k (s.F x)) ((a.put ok.dst (s.f x)).put oi.dst v) := fun x => by
            have h := h x
            unfold wpR at h
            rw [hi] at h
            simp only at h
            rw [wi, if_pos Wi, Si] at h
            obtain ⟨v, hv, h⟩ := h
            exact ⟨v, fun w hw => by rw [← ei (s.f x)]; exact hv w hw, h⟩
          obtain ⟨v, hv, _⟩ := hx x0
          refine ⟨v, hv, ?_⟩
          unfold wpR
          rw [hk]
          simp only
          rw [wk, if_pos Wk, Sk]
          refine ⟨stepR_move (ek v) (put_size _ _ _) (fun _ _ _ he => he) hs, fun x => ?_⟩
          obtain ⟨v', hv', h'⟩ := hx x
          obtain ⟨w, hw⟩ := hC
          have e := (hv w hw).symm.trans (hv' w hw)
          injection e with e _
          injection e with e
          rw [← pc, e]
          exact h'
        | some t =>
          have hx : ∀ x, stepR P ops md Q C (envS E k (s.F x)) i oi (a.put ok.dst (s.f x)) t ∧ ∀ y, wpR P md ops Q C S L r (envS (envS E k (s.F x)) i (t.F y)) ((a.put ok.dst (s.f x)).put oi.dst (t.f y)) := fun x => by
            have h := h x
            unfold wpR at h
            rw [hi] at h
            simp only at h
            rw [wi, if_pos Wi, Si] at h
            exact h
          refine ⟨stepR_move (ei (s.f x0)).symm (put_size _ _ _).symm (Ek s x0) (hx x0).1, fun y => ?_⟩
          unfold wpR
          rw [hk]
          simp only
          rw [wk, if_pos Wk, Sk]
          refine ⟨stepR_move (ek _) (put_size _ _ _) (Ei' t y) hs, fun x => ?_⟩
          rw [← pc, ← envS_comm E hne]
          exact (hx x).2 y
      · rw [if_neg Wi]
        unfold wpR
        rw [hk]
        simp only
        rw [wk, if_pos Wk, Sk]
        refine ⟨stepR_move (ek _) (put_size _ _ _) (fun _ _ _ he => he) hs, fun x => ?_⟩
        have h := h x
        unfold wpR at h
        rw [hi] at h
        simp only at h
        rw [wi, if_neg Wi] at h
        rw [← pc]
        exact h
  · rw [if_neg Wk] at h
    unfold wpR at h
    rw [hi] at h
    simp only at h
    rw [wi] at h
    by_cases Wi : Region.wanted oi (yielded ops a.tmps) = true
    · rw [if_pos Wi] at h ⊢
      cases Si : S i with
      | none =>
        rw [Si] at h
        obtain ⟨u, hu, h⟩ := h
        refine ⟨u, fun w hw => by rw [← ei undef]; exact hu w hw, ?_⟩
        unfold wpR
        rw [hk]
        simp only
        rw [wk, if_neg Wk, ← pc]
        exact h
      | some s =>
        rw [Si] at h
        obtain ⟨hs, h⟩ := h
        refine ⟨stepR_move (ei undef).symm (put_size _ _ _).symm (fun _ _ _ he => he) hs, fun y => ?_⟩
        unfold wpR
        rw [hk]
        simp only
        rw [wk, if_neg Wk, ← pc]
        exact h y
    · rw [if_neg Wi] at h ⊢
      unfold wpR
      rw [hk]
      simp only
      rw [wk, if_neg Wk, ← pc]
      exact h
theorem wpR_cons {k : Nat} {r r' : List Nat} {E : Nat → World → Prop} {a : Act} (hr : ∀ E a, wpR P md ops Q C S L r E a → wpR P md ops Q C S L r' E a) (h : wpR P md ops Q C S L (k :: r) E a) : wpR P md ops Q C S L (k :: r') E a := by
  unfold wpR at h ⊢
  cases hk : ops[k]? with
  | none => rw [hk] at h; exact h
  | some o =>
    rw [hk] at h
    simp only at h ⊢
    split
    · rename_i hw
      rw [if_pos hw] at h
      cases hS : S k with
      | none => rw [hS] at h; obtain ⟨v, h1, h2⟩ := h; exact ⟨v, h1, hr _ _ h2⟩
      | some s => rw [hS] at h; exact ⟨h.1, fun x => hr _ _ (h.2 x)⟩
    · rename_i hw
      rw [if_neg hw] at h
      exact hr _ _ h
/-- Its value hangs on no world. -/
def pureO (o : Oper) : Bool := match o.op with
  | .move _ | .assign _ | .extract .. => true
  | _ => false
theorem pureO_run {o : Oper} {v : Value} {ρ : Operand → Value} {w0 : World} (h : pureO o = true) (hr : (execOp ρ o).run P w0 = .ok (.value v) w0) : ∀ w, (execOp ρ o).run P w = .ok (.value v) w := by
  intro w
  unfold pureO at h
  unfold execOp at hr ⊢
  cases ho : o.op <;> rw [ho] at h hr <;> first | (cases h; done) | skip
  all_goals simp only [Sem.run_bind, Sem.run_pure] at hr ⊢
  all_goals first
    | (injection hr with e _; rw [e])
    | skip
  rename_i t ix
  unfold Instr.extract at hr ⊢
  split at hr
  · rename_i vs hv
    split at hr
    · rename_i x hx
      simp only [Sem.run_pure, Result.andThen_ok] at hr
      injection hr with e _
      rw [← e]
      simp only [Sem.run_pure, Result.andThen_ok]
    · exact absurd hr (by simp [stuck, Result.andThen])
  · exact absurd hr (by simp [stuck, Result.andThen])
/-- The text's order is one of the orders; two operations of the head wait for one another or are apart. -/
def relH (md : Region.Mode) (ops : Array Oper) (hd : Nat → Bool) : Bool :=
  Region.noSelect ops && (List.range ops.size).all fun k => !hd k || match ops[k]? with
    | none => false
    | some ok => (ok.after.all fun e => !Region.binds md e || (decide (e.on < k) && hd e.on)) && (List.range k).all fun j => !hd j || match ops[j]? with
      | none => false
      | some oj => Region.waitsFor md ops k j || oj.apart ops ok
/-- What is not of the head waits for all of it that hangs on the world, and is apart from the rest. -/
def tailH (md : Region.Mode) (ops : Array Oper) (hd : Nat → Bool) : Bool :=
  (List.range ops.size).all fun t => hd t || match ops[t]? with
    | none => false
    | some ot => (List.range ops.size).all fun k => !hd k || match ops[k]? with
      | none => false
      | some ok => bif pureO ok then Region.waitsFor md ops t k || ok.apart ops ot else trB md ops k 8 t
variable {hd : Nat → Bool}
theorem relH_at {k : Nat} (h : relH md ops hd = true) (hk : hd k = true) (hks : k < ops.size) : ∃ ok, ops[k]? = some ok ∧ (∀ e ∈ ok.after, Region.binds md e = true → e.on < k ∧ hd e.on = true) ∧ ∀ j, j < k → hd j = true → ∃ oj, ops[j]? = some oj ∧ (Region.waitsFor md ops k j = true ∨ oj.apart ops ok = true) := by
  simp only [relH, Bool.and_eq_true] at h
  have h1 := List.all_eq_true.1 h.2 k (List.mem_range.2 hks)
  rw [hk] at h1
  cases ho : ops[k]? with
  | none => rw [ho] at h1; cases h1
  | some ok =>
    rw [ho] at h1
    simp only [Bool.not_true, Bool.false_or, Bool.and_eq_true] at h1
    refine ⟨ok, rfl, fun e he hb => ?_, fun j hj hdj => ?_⟩
    · have := Array.all_eq_true'.1 h1.1 e he
      rw [hb] at this
      simpa using this
    · have h2 := List.all_eq_true.1 h1.2 j (List.mem_range.2 hj)
      rw [hdj] at h2
      cases hj : ops[j]? with
      | none => rw [hj] at h2; cases h2
      | some oj =>
        rw [hj] at h2
        simp only [Bool.not_true, Bool.false_or, Bool.or_eq_true] at h2
        exact ⟨oj, rfl, h2⟩
theorem relH_sel (h : relH md ops hd = true) : Region.noSelect ops = true := by simp only [relH, Bool.and_eq_true] at h; exact h.1
theorem tailH_at {t k : Nat} {ot ok : Oper} (h : tailH md ops hd = true) (ht : hd t = false) (hot : ops[t]? = some ot) (hk : hd k = true) (hok : ops[k]? = some ok) : (pureO ok = true → Region.waitsFor md ops t k = true ∨ ok.apart ops ot = true) ∧ (pureO ok = false → trB md ops k 8 t = true) := by
  have h1 := List.all_eq_true.1 h t (List.mem_range.2 (Array.getElem?_eq_some_iff.1 hot).1)
  rw [ht, hot] at h1
  simp only [Bool.false_or] at h1
  have h2 := List.all_eq_true.1 h1 k (List.mem_range.2 (Array.getElem?_eq_some_iff.1 hok).1)
  rw [hk, hok] at h2
  simp only [Bool.not_true, Bool.false_or] at h2
  refine ⟨fun hp => ?_, fun hp => ?_⟩
  · rw [hp] at h2; simpa using h2
  · rw [hp] at h2; simpa using h2
theorem waitsFor_lt {k j : Nat} (h : relH md ops hd = true) (hk : hd k = true) (hw : Region.waitsFor md ops k j = true) : j < k := by
  obtain ⟨o, ho, e, he, hb, rfl⟩ := Region.waitsFor_spec hw
  obtain ⟨ok, hok, h1, _⟩ := relH_at h hk (Array.getElem?_eq_some_iff.1 ho).1
  obtain rfl : o = ok := Option.some.inj (ho.symm.trans hok)
  exact (h1 e he hb).1
theorem ready_waits {i k : Nat} {listed : Array Bool} (hi : i ∈ Region.ready md ops listed) (hk : listed.getD k true = false) : Region.waitsFor md ops i k = false := by
  cases h : Region.waitsFor md ops i k with
  | false => rfl
  | true =>
    obtain ⟨_, oi, hoi, hall⟩ := mem_ready.1 hi
    obtain ⟨o, ho, e, he, hb, rfl⟩ := Region.waitsFor_spec h
    obtain rfl : o = oi := Option.some.inj (ho.symm.trans hoi)
    have := hall e he hb
    rw [getD_both hk] at this
    cases this
theorem wpR_front {i : Nat} {listed : Array Bool} (hB : relH md ops hd = true) (hi : i ∈ Region.ready md ops listed) (hin : hd i = true) (hC : ∃ w, C w) : ∀ (l1 l2 : List Nat) (E : Nat → World → Prop) (a : Act),
    (∀ k ∈ l1, k < i ∧ hd k = true ∧ listed.getD k true = false) → wpR P md ops Q C S L (l1 ++ i :: l2) E a → wpR P md ops Q C S L (i :: (l1 ++ l2)) E a
  | [], _, _, _, _, h => h
  | k :: l1, l2, E, a, hl, h => by
    have h1 : wpR P md ops Q C S L (k :: i :: (l1 ++ l2)) E a := wpR_cons (fun E a => wpR_front hB hi hin hC l1 l2 E a fun j hj => hl j (List.mem_cons_of_mem _ hj)) h
    obtain ⟨hki, hkd, hun⟩ := hl k (List.mem_cons_self ..)
    have his : i < ops.size := by
      obtain ⟨_, oi, hoi, _⟩ := mem_ready.1 hi
      exact (Array.getElem?_eq_some_iff.1 hoi).1
    obtain ⟨oi, hoi, _, hj⟩ := relH_at hB hin his
    obtain ⟨ok, hok, hap⟩ := hj k hki hkd
    have hsel := Region.noSelect_spec (relH_sel hB)
    have hik := ready_waits hi hun
    have hap : ok.apart ops oi = true := hap.resolve_left (by rw [hik]; simp)
    have hki' : Region.waitsFor md ops k i = false := by
      cases hw : Region.waitsFor md ops k i with
      | false => rfl
      | true => have := waitsFor_lt hB hkd hw; omega
    exact wpR_swap hok hoi hap (fun cs b => hsel k ok cs b hok) (fun cs b => hsel i oi cs b hoi) (by omega) hik hki' hC h1
/-- Behind the head the tail comes. -/
theorem wpAny_of_R {g : Nat} (hB : relH md ops hd = true) (htail : tailH md ops hd = true) (hC : ∀ w w', C w → Below w.heap.size w w' → C w') (hS : ∀ k o, ops[k]? = some o → pureO o = true → S k = none)
    (hfin : ∀ listed a E w, listed.size = ops.size → (∀ k, k < ops.size → listed.getD k true = hd k) → L E a → C w → (∀ j, E j w) → wpAny P md ops (NoPan Q) g listed a w) :
    ∀ (m : Nat) (rem : List Nat) (listed : Array Bool) (a : Act) (E : Nat → World → Prop) (w : World), rem.length = m → rem.Pairwise (· < ·) → listed.size = ops.size → (∀ k, k ∈ rem ↔ k < ops.size ∧ hd k = true ∧ listed.getD k true = false) → (∀ t, t < ops.size → hd t = false → listed.getD t true = false) → ClosedX md ops listed →
      C w → (∀ j, E j w) → (∀ j w w', Below w.heap.size w w' → E j w → E j w') → wpR P md ops Q C S L rem E a → wpAny P md ops (NoPan Q) (m + g) listed a w := by
  have hsel := Region.noSelect_spec (relH_sel hB)
  intro m
  induction m with
  | zero =>
    intro rem listed a E w hm _ hsz hrem htl _ hw hE _ h
    obtain rfl := List.eq_nil_of_length_eq_zero hm
    rw [Nat.zero_add]
    refine hfin listed a E w hsz (fun k hks => ?_) h hw hE
    cases hk : hd k with
    | false => exact htl k hks hk
    | true =>
      cases hh : listed.getD k true with
      | true => rfl
      | false => have := (hrem k).2 ⟨hks, hk, hh⟩; cases this
  | succ m ih =>
    intro rem listed a E w hm hp hsz hrem htl hcl hw hE hmono h
    rw [show m + 1 + g = (m + g) + 1 by omega]
    obtain ⟨k0, r0, rfl⟩ : ∃ k r, rem = k :: r := by
      cases rem with
      | nil => cases hm
      | cons k r => exact ⟨k, r, rfl⟩
    have hk0 := (hrem k0).1 (List.mem_cons_self ..)
    obtain ⟨ok, hok, hk1, _⟩ := relH_at hB hk0.2.1 hk0.1
    have hready : k0 ∈ Region.ready md ops listed := by
      refine mem_ready.2 ⟨hk0.2.2, ok, hok, fun e he hb => ?_⟩
      have hlt := hk1 e he hb
      cases hh : listed.getD e.on false with
      | true => rfl
      | false =>
        have hm' := (hrem e.on).2 ⟨by omega, hlt.2, getD_in (by omega) hh⟩
        rcases List.mem_cons.1 hm' with e' | hm'
        · omega
        · have := (List.pairwise_cons.1 hp).1 _ hm'
          omega
    -- the state behind an operation of the head
    have after : ∀ i l1 l2, i < ops.size → hd i = true → i ∈ Region.ready md ops listed → k0 :: r0 = l1 ++ i :: l2 → ∀ (a' : Act) (E' : Nat → World → Prop) (w' : World), C w' → (∀ j, E' j w') → (∀ j w w', Below w.heap.size w w' → E' j w → E' j w') → wpR P md ops Q C S L (l1 ++ l2) E' a' → wpAny P md ops (NoPan Q) (m + g) (listed.setIfInBounds i true) a' w' := by
      intro i l1 l2 his hin hi hsp a' E' w'
      rw [hsp] at hp hm
      have hlt1 : ∀ k ∈ l1, k < i := fun k hk => (List.pairwise_append.1 hp).2.2 k hk i (List.mem_cons_self ..)
      have hp' : (l1 ++ l2).Pairwise (· < ·) := hp.sublist (List.Sublist.append (List.Sublist.refl l1) (List.sublist_cons_self i l2))
      have hlen : (l1 ++ l2).length = m := by rw [List.length_append] at hm ⊢; rw [List.length_cons] at hm; omega
      have hnot : i ∉ l1 ++ l2 := fun hh => by
        rw [List.pairwise_append] at hp
        rcases List.mem_append.1 hh with hh | hh
        · exact absurd (hlt1 i hh) (Nat.lt_irrefl _)
        · exact absurd ((List.pairwise_cons.1 hp.2.1).1 i hh) (Nat.lt_irrefl _)
      have hrem' : ∀ k, k ∈ l1 ++ l2 ↔ k < ops.size ∧ hd k = true ∧ (listed.setIfInBounds i true).getD k true = false := fun k => by
        by_cases hki : k = i
        · subst hki
          refine ⟨fun hh => absurd hh hnot, fun hh => ?_⟩
          have hks : k < listed.size := by omega
          simp [hks] at hh
        · rw [getD_set_ne true (Ne.symm hki), ← hrem k, hsp]
          simp only [List.mem_append, List.mem_cons]
          constructor
          · rintro (hh | hh)
            · exact .inl hh
            · exact .inr (.inr hh)
          · rintro (hh | hh | hh)
            · exact .inl hh
            · exact absurd hh hki
            · exact .inr hh
      have htl' : ∀ t, t < ops.size → hd t = false → (listed.setIfInBounds i true).getD t true = false := fun t hts ht => by
        rw [getD_set_ne true (fun e => by rw [e, ht] at hin; cases hin)]; exact htl t hts ht
      exact ih (l1 ++ l2) (listed.setIfInBounds i true) a' E' w' hlen hp' (by simp; exact hsz) hrem' htl' (hcl.set hi)
    cases hpu : pureO ok with
    | true =>
      have h2 := h
      unfold wpR at h2
      rw [hok] at h2
      simp only at h2
      obtain ⟨v, hy, h3⟩ : ∃ v, Yields P ops ok v a ∧ wpR P md ops Q C S L r0 E (a.put ok.dst v) := by
        by_cases Wi : Region.wanted ok (yielded ops a.tmps) = true
        · rw [if_pos Wi, hS k0 ok hok hpu] at h2
          obtain ⟨v, hv, h2⟩ := h2
          exact ⟨v, .inl ⟨Wi, pureO_run hpu (hv w hw)⟩, h2⟩
        · rw [if_neg Wi] at h2
          exact ⟨undef, .inr ⟨by simpa using Wi, rfl⟩, h2⟩
      refine wpAny_first hok hsel (fun _ _ _ h => h) (m + g) listed a w (fun j oj hj hne hun hno => ?_) hready hy (after k0 [] r0 hk0.1 hk0.2.1 hready rfl _ E w hw hE hmono h3)
      have hjs : j < ops.size := (Array.getElem?_eq_some_iff.1 hj).1
      have hnw : Region.waitsFor md ops j k0 = false := by
        cases hw' : Region.waitsFor md ops j k0 with
        | false => rfl
        | true =>
          obtain ⟨o, ho, e, he, hb, heq⟩ := Region.waitsFor_spec hw'
          obtain rfl : o = oj := Option.some.inj (ho.symm.trans hj)
          exact absurd heq (hno e he hb)
      cases hdj : hd j with
      | true =>
        have hmem := (hrem j).2 ⟨hjs, hdj, hun⟩
        have hlt : k0 < j := by
          rcases List.mem_cons.1 hmem with e | hmem
          · exact absurd e hne
          · exact (List.pairwise_cons.1 hp).1 _ hmem
        obtain ⟨oj', hoj', _, hap⟩ := relH_at hB hdj hjs
        obtain rfl : oj' = oj := Option.some.inj (hoj'.symm.trans hj)
        obtain ⟨ok', hok', hap⟩ := hap k0 hlt hk0.2.1
        obtain rfl : ok' = ok := Option.some.inj (hok'.symm.trans hok)
        exact hap.resolve_left (by rw [hnw]; simp)
      | false =>
        exact ((tailH_at htail hdj hj hk0.2.1 hok).1 hpu).resolve_left (by rw [hnw]; simp)
    | false =>
      refine ⟨fun h0 => (by rw [h0] at hready; cases hready), fun i hi => ?_⟩
      have hun := (mem_ready.1 hi).1
      obtain ⟨_, oi, hoi, _⟩ := mem_ready.1 hi
      have his : i < ops.size := (Array.getElem?_eq_some_iff.1 hoi).1
      have hin : hd i = true := by
        cases hdi : hd i with
        | true => rfl
        | false =>
          exact absurd hi (trB_undone hcl hk0.2.2 8 i ((tailH_at htail hdi hoi hk0.2.1 hok).2 hpu)).2
      have hmem : i ∈ k0 :: r0 := (hrem i).2 ⟨his, hin, hun⟩
      obtain ⟨l1, l2, hsp⟩ := List.append_of_mem hmem
      have hlt1 : ∀ k ∈ l1, k < i ∧ hd k = true ∧ listed.getD k true = false := fun k hk => by
        have hpp := hp
        rw [hsp] at hpp
        have hm2 : k ∈ k0 :: r0 := by rw [hsp]; exact List.mem_append_left _ hk
        exact ⟨(List.pairwise_append.1 hpp).2.2 k hk i (List.mem_cons_self ..), ((hrem k).1 hm2).2⟩
      have h2 := h
      rw [hsp] at h2
      have h2 := wpR_front hB hi hin ⟨w, hw⟩ l1 l2 E a hlt1 h2
      have key := after i l1 l2 his hin hi hsp
      unfold wpR at h2
      rw [hoi] at h2
      simp only at h2
      unfold wpOp
      rw [hoi]
      simp only
      by_cases Wi : Region.wanted oi (yielded ops a.tmps) = true
      · rw [if_pos Wi] at h2 ⊢
        cases Si : S i with
        | none =>
          rw [Si] at h2
          obtain ⟨v, hv, h2⟩ := h2
          left
          unfold Oper.wp
          rw [hv w hw]
          exact key _ _ _ hw hE hmono h2
        | some s =>
          rw [Si] at h2
          obtain ⟨hs, h2⟩ := h2
          left
          refine Oper.wp_mono ?_ (hs w hw fun j _ => hE j)
          rintro a' w' ⟨x, rfl, hF, hb⟩
          refine key _ _ _ (hC _ _ hw hb) (fun j => ?_) (fun j w1 w2 hb' he => ?_) (h2 x)
          · unfold envS
            split
            · exact hF
            · exact hmono j _ _ hb (hE j)
          · unfold envS at he ⊢
            split
            · rename_i hj
              rw [if_pos hj] at he
              exact s.mono x _ _ hb' he
            · rename_i hj
              rw [if_neg hj] at he
              exact hmono j _ _ hb' he
      · rw [if_neg Wi] at h2 ⊢
        exact key _ _ _ hw hE hmono h2
end
/-- No pure operation among those with a specification. -/
def pureS (ops : Array Oper) (S : Nat → Option NSpec) : Prop := ∀ k o, ops[k]? = some o → pureO o = true → S k = none
def specs (l : List (Nat × NSpec)) (k : Nat) : Option NSpec := (l.find? fun x => x.1 == k).map (·.2)
def specsB (ops : Array Oper) (l : List Nat) : Bool := l.all fun k => match ops[k]? with
  | none => true
  | some o => !pureO o
theorem specs_pure {ops : Array Oper} {l : List (Nat × NSpec)} (h : specsB ops (l.map (·.1)) = true) : pureS ops (specs l) := by
  intro k o hk hp
  unfold specs
  cases hf : l.find? (fun x => x.1 == k) with
  | none => rfl
  | some x =>
    have h1 := List.find?_some hf
    have h2 := List.mem_of_find?_eq_some hf
    have h3 := List.all_eq_true.1 h x.1 (List.mem_map.2 ⟨x, h2, rfl⟩)
    have e : x.1 = k := by simpa using h1
    rw [e, hk] at h3
    simp only [hp] at h3
    cases h3
def relTailB (md : Region.Mode) (ops : Array Oper) (n : Nat) : Bool :=
  decide (n ≤ ops.size) && relH md ops (fun k => decide (k < n)) && tailH md ops (fun k => decide (k < n)) && Region.seqB md ops (ops.size - n) n (Array.replicate n true ++ Array.replicate (ops.size - n) false)
theorem wp_region_R {P : Program} {id : Nat} {Q : Exit → Act → World → Prop} {a : Act} {w : World} {l : List Oper} (n : Nat) (S : Nat → Option NSpec) (hm : P.follows .mixedOrders = true) (hB : relTailB .any l.toArray n = true) (hS : pureS l.toArray S)
    (h : wpR P .any l.toArray Q (fun w' => ∃ u, w' = ov w u) S (fun E a' => ∀ w', Below w.heap.size w w' → (∀ j, E j w') → wpList P l.toArray (NoPan Q) (l.drop n) a' w') (List.range n) (fun _ _ => True) a) : (Code.region id l.toArray true).wp P Q a w := by
  simp only [relTailB, Bool.and_eq_true, decide_eq_true_eq] at hB
  obtain ⟨⟨⟨hn, hR⟩, htl⟩, hseq⟩ := hB
  refine Code.wp_mono NoPan.imp (wp_region_any hm ?_)
  have hdl : (l.drop n).length = l.toArray.size - n := by simp
  have := wpAny_of_R (P := P) (Q := Q) (md := .any) (C := fun w' => ∃ u, w' = ov w u) (S := S) (g := (l.drop n).length) hR htl (fun w1 w2 ⟨u, hu⟩ hb => by
      subst hu
      exact ⟨w2, ov_of ((ov_below w u).trans (hb.mono (ov_below w u).size))⟩) hS
    (L := fun E a' => ∀ w', Below w.heap.size w w' → (∀ j, E j w') → wpList P l.toArray (NoPan Q) (l.drop n) a' w')
    (fun listed a' E w' hsz hall hL ⟨u, hu⟩ hE => by
      have hT : listed = Array.replicate n true ++ Array.replicate (l.toArray.size - n) false := by
        apply Array.ext_getElem?
        intro j
        rw [Array.getElem?_append, Array.size_replicate]
        by_cases hjs : j < l.toArray.size
        · have hjl : j < listed.size := by omega
          have h1 := hall j hjs
          rw [Array.getD_eq_getD_getElem?, Array.getElem?_eq_getElem hjl, Option.getD_some] at h1
          rw [Array.getElem?_eq_getElem hjl, h1]
          by_cases hj : j < n
          · rw [if_pos hj, Array.getElem?_replicate, if_pos hj, decide_eq_true hj]
          · rw [if_neg hj, Array.getElem?_replicate, if_pos (by omega), decide_eq_false hj]
        · rw [Array.getElem?_eq_none (by omega), if_neg (by omega), Array.getElem?_replicate, if_neg (by omega)]
      rw [hT]
      refine wpAny_of_seq (l.drop n) n _ a' w' (fun j => by simp [List.getElem?_drop]) (by rw [hdl]; exact hseq) ?_
      subst hu
      exact hL _ (ov_below w u) hE)
    n (List.range n) (Array.replicate l.toArray.size false) a (fun _ _ => True) w.drew (by simp) List.pairwise_lt_range (by simp) (fun k => by
      rw [List.mem_range, decide_eq_true_eq]
      refine ⟨fun hk => ⟨by omega, hk, getD_in (by rw [Array.size_replicate]; omega) (getD_replicate_false _ _)⟩, fun hk => hk.2.1⟩)
    (fun t hts _ => getD_in (by rw [Array.size_replicate]; exact hts) (getD_replicate_false _ _)) (fun j oj _ hl => (by rw [getD_replicate_false] at hl; cases hl))
    ⟨w.drew, ov_of ((Below.refl _ _).drew)⟩ (fun _ => trivial) (fun _ _ _ _ _ => trivial) h
  rw [hdl, show n + (l.toArray.size - n) = l.toArray.size by omega] at this
  exact this
/-- One operation (a store) comes behind all that hangs on the world; what hangs on none may come behind it. -/
def relStB (md : Region.Mode) (ops : Array Oper) (t : Nat) : Bool :=
  decide (t < ops.size) && relH md ops (fun k => !(k == t)) && tailH md ops (fun k => !(k == t)) && decide (Region.ready md ops ((Array.replicate ops.size true).setIfInBounds t false) = [t]) && (Region.ready md ops (Array.replicate ops.size true)).isEmpty
/-! ### The walk over the operations themselves -/
def rOp (o : Oper) : Bool := match o.op with
  | .move _ | .load .. | .binOp .. | .unOp .. | .convert .. | .fieldAddr .. | .field .. | .indexAddr .. | .index .. | .build .. | .slice .. | .extract .. | .assign .. | .pick .. => true
  | _ => false
theorem rOp_run {P : Program} {o : Oper} (h : rOp o = true) (ρ : Operand → Value) : ∃ s : Sem Value, ∀ w, (execOp ρ o).run P w = (s.run P w).andThen fun v w' => .ok (.value v) w' := by
  unfold rOp at h
  have hv : ∀ s : Sem Value, ∀ w, (do let x ← s; pure (Next.value x) : Sem Next).run P w = (s.run P w).andThen fun v w' => .ok (.value v) w' := fun s w => by
    simp only [Sem.run_bind, Sem.run_pure]
  unfold execOp
  cases ho : o.op <;> rw [ho] at h <;> first | (exact ⟨_, fun w => hv _ w⟩) | (cases h; done) | skip
  rotate_right
  · rename_i c x y
    refine ⟨do let b ← asBool (ρ c); pure (if b = true then ρ x else ρ y), fun w => ?_⟩
    simp only [Sem.run_bind, Sem.run_pure]
    cases (asBool (ρ c)).run P w <;> rfl
  all_goals first | (exact ⟨pure _, fun w => rfl⟩) | (simp only [Sem.run_pure]; exact ⟨pure _, fun w => by simp only [Sem.run_pure, Result.andThen_ok]⟩)
section
variable {P : Program} {ops : Array Oper} {Q : Exit → Act → World → Prop} {md : Region.Mode} {C : World → Prop} {S : Nat → Option NSpec} {L : (Nat → World → Prop) → Act → Prop}
theorem run_of_quiet {o : Oper} {v : Value} {a : Act} (ho : rOp o = true) (h : ∀ w, C w → o.quietAt P a C w v) : ∀ w, C w → (execOp a.eval o).run P w = .ok (.value v) w := fun w hw => by
  have h1 := h w hw
  unfold Oper.quietAt at h1
  obtain ⟨s, hs⟩ := rOp_run (P := P) ho a.eval
  rw [hs w] at h1 ⊢
  cases hr : s.run P w with
  | ok x w' =>
    rw [hr] at h1
    obtain ⟨e1, e2⟩ : w' = w ∧ x = v := h1
    rw [e1, e2]; rfl
  | halt x w' =>
    rw [hr] at h1
    exact (h1 : False).elim
def wpRL (P : Program) (md : Region.Mode) (ops : Array Oper) (Q : Exit → Act → World → Prop) (C : World → Prop) (S : Nat → Option NSpec) (L : (Nat → World → Prop) → Act → Prop) (l : List Oper) (k : Nat) (E : Nat → World → Prop) (a : Act) : Prop :=
  (∀ j, j < l.length → l[j]? = ops[k + j]?) → wpR P md ops Q C S L (List.range' k l.length) E a
theorem wpRL_nil {k : Nat} {E : Nat → World → Prop} {a : Act} (h : L E a) : wpRL P md ops Q C S L [] k E a := fun _ => h
theorem wpRL_chunk (m : Nat) {l : List Oper} {k : Nat} {E : Nat → World → Prop} {a : Act} (hB : ((l.take m).all rOp && (List.range' k m).all fun i => (S i).isNone) = true)
    (h : wpQuiet P ops C (fun a' => wpRL P md ops Q C S L (l.drop m) (k + m) E a') (l.take m) a) : wpRL P md ops Q C S L l k E a := by
  induction m generalizing l k a with
  | zero =>
    have h' : wpRL P md ops Q C S L (l.drop 0) (k + 0) E a := h
    simpa using h'
  | succ m ih =>
    cases l with
    | nil =>
      intro _
      have h' : wpRL P md ops Q C S L [] (k + (m + 1)) E a := h
      exact h' (fun j hj => absurd hj (by simp))
    | cons o r =>
      intro hl
      simp only [List.take_succ_cons, List.all_cons, Bool.and_eq_true, List.range'_succ, List.drop_succ_cons] at hB h
      obtain ⟨⟨ho, hr⟩, hk, hS⟩ := hB
      have h0 : ops[k]? = some o := by simpa using (hl 0 (by simp)).symm
      have hSk : S k = none := by simpa using hk
      rw [List.length_cons, List.range'_succ]
      have hl' : ∀ j, j < r.length → r[j]? = ops[k + 1 + j]? := fun j hj => by
        have := hl (j + 1) (by simp; omega)
        simpa [Nat.add_assoc, Nat.add_comm 1 j] using this
      have go : ∀ a', wpQuiet P ops C (fun a' => wpRL P md ops Q C S L (r.drop m) (k + (m + 1)) E a') (r.take m) a' → wpR P md ops Q C S L (List.range' (k + 1) r.length) E a' := fun a' h' =>
        ih (by simp only [Bool.and_eq_true]; exact ⟨hr, hS⟩) (by rw [show k + 1 + m = k + (m + 1) by omega]; exact h') hl'
      unfold wpR
      rw [h0]
      simp only
      unfold wpQuiet at h
      by_cases hw : Region.wanted o (yielded ops a.tmps) = true
      · rw [if_pos hw] at h ⊢
        rw [hSk]
        obtain ⟨v, hv, hK⟩ := h
        exact ⟨v, run_of_quiet ho hv, go _ hK⟩
      · rw [if_neg hw] at h ⊢
        exact go _ h
theorem wpRL_call {o : Oper} {r : List Oper} {k : Nat} {E : Nat → World → Prop} {a : Act} {s : NSpec} (hS : S k = some s) (hw : Region.wanted o (yielded ops a.tmps) = true)
    (hstep : ∀ w, C w → (∀ j, Region.waitsFor md ops k j = true → E j w) → ∀ K : Act → World → Prop, (∀ x w', s.F x w' → Below w.heap.size w w' → K (a.put o.dst (s.f x)) w') → o.wp P a w K (NoPan Q))
    (h : ∀ x, wpRL P md ops Q C S L r (k + 1) (envS E k (s.F x)) (a.put o.dst (s.f x))) : wpRL P md ops Q C S L (o :: r) k E a := by
  intro hl
  have h0 : ops[k]? = some o := by simpa using (hl 0 (by simp)).symm
  rw [List.length_cons, List.range'_succ]
  unfold wpR
  rw [h0]
  simp only
  rw [if_pos hw, hS]
  refine ⟨stepR_of hstep, fun x => h x fun j hj => ?_⟩
  have := hl (j + 1) (by simp; omega)
  simpa [Nat.add_assoc, Nat.add_comm 1 j] using this
end
theorem wpRL_callB {P : Program} {ops : Array Oper} {Q : Exit → Act → World → Prop} {md : Region.Mode} {w0 : World} {S : Nat → Option NSpec} {L : (Nat → World → Prop) → Act → Prop} {o : Oper} {r : List Oper} {k : Nat} {E : Nat → World → Prop} {a : Act} {s : NSpec} (hS : S k = some s) (hw : Region.wanted o (yielded ops a.tmps) = true)
    (hstep : ∀ w, Below w0.heap.size w0 w → (∀ j, Region.waitsFor md ops k j = true → E j w) → ∀ K : Act → World → Prop, (∀ x w', s.F x w' → Below w.heap.size w w' → K (a.put o.dst (s.f x)) w') → o.wp P a w K (NoPan Q))
    (h : ∀ x, wpRL P md ops Q (fun w' => ∃ u, w' = ov w0 u) S L r (k + 1) (envS E k (s.F x)) (a.put o.dst (s.f x))) : wpRL P md ops Q (fun w' => ∃ u, w' = ov w0 u) S L (o :: r) k E a :=
  wpRL_call hS hw (fun w ⟨u, hu⟩ hE => hstep w (by rw [hu]; exact ov_below _ _) hE) h
def detS (v : Value) : NSpec := ⟨Unit, ⟨()⟩, fun _ => v, fun _ _ => True, fun _ _ _ _ h => h⟩
theorem wp_region_RL {P : Program} {id : Nat} {Q : Exit → Act → World → Prop} {a : Act} {w : World} {l : List Oper} (n : Nat) (S : List (Nat × NSpec)) (hm : P.follows .mixedOrders = true) (hB : relTailB .any l.toArray n = true) (hS : specsB l.toArray (S.map (·.1)) = true)
    (h : wpRL P .any l.toArray Q (fun w' => ∃ u, w' = ov w u) (specs S) (fun E a' => ∀ w', Below w.heap.size w w' → (∀ j, E j w') → wpList P l.toArray (NoPan Q) (l.drop n) a' w') (l.take n) 0 (fun _ _ => True) a) : (Code.region id l.toArray true).wp P Q a w := by
  have hn : n ≤ l.length := by
    have hB' := hB
    simp only [relTailB, Bool.and_eq_true, decide_eq_true_eq] at hB'
    simpa using hB'.1.1.1
  have hlen : (l.take n).length = n := by simp; omega
  have h' := h fun j hj => by
    rw [hlen] at hj
    simp [hj]
  rw [hlen, ← List.range_eq_range'] at h'
  exact wp_region_R n (specs S) hm hB (specs_pure hS) h'
/-! ### A call, its act left as it is -/
theorem wp_callF {P : Program} {g : FuncId} {xs : Array Operand} {ats : Array TypeId} {o : Oper} {a : Act} {w : World} {K : Act → World → Prop} {Q : Exit → Act → World → Prop} {vals : Array Value} (ho : o.op = .call { callee := .value (.func g), args := xs, argTypes := ats }) (eg : Go.Proofs.Enters P g) (hv : xs.map a.eval = vals)
    (h : Calls P g vals w fun e w' => ∃ v, e = .returned v ∧ K (a.put o.dst v) w') : o.wp P a w K Q := by
  subst hv
  obtain ⟨dst, op, ty, pos, after, guard⟩ := o
  simp only at ho
  subst ho
  unfold Oper.wp
  rw [execOp_call_go, show (#[] ++ xs.map a.eval ++ #[] : Array Value) = xs.map a.eval by simp, eg]
  exact Calls.mono h fun e w' ⟨v, he, hk⟩ => by subst he; exact hk
theorem wp_lenS {P : Program} {x : Operand} {t e : TypeId} {o : Oper} {a : Act} {w : World} {K : Act → World → Prop} {Q : Exit → Act → World → Prop} {ad : Option Addr} {n c : Nat} (ho : o.op = .call { callee := .builtin .len, args := #[x], argTypes := #[t] }) (ht : P.underlying t = some (.slice e)) (hx : a.eval x = .slice ad n c)
    (h : K (a.put o.dst (.int .i64 n)) w) : o.wp P a w K Q := by
  obtain ⟨dst, op, ty, pos, after, guard⟩ := o
  simp only at ho
  subst ho
  unfold Oper.wp
  have hu := run_underlying ht w
  have key : ∀ ρ : Operand → Value, ρ x = .slice ad n c → (execOp ρ { dst, op := .call { callee := .builtin .len, args := #[x], argTypes := #[t] }, type := ty, pos, after, guard : Oper }).run P w = .ok (.value (.int .i64 n)) w := fun ρ hρ => by
    have hl : (Builtin.len_ #[t] ty #[.slice ad n c]).run P w = .ok (goInt n) w := by simp [Builtin.len_, hu]
    simp [go_sem, hρ, hl]
  have := key a.eval hx
  rw [this]
  exact h
/-! ### A region in the order of its text, operation by operation -/
section
variable {P : Program} {ops : Array Oper} {Q : Exit → Act → World → Prop} {w : World}
theorem wpList_chunk (m : Nat) {l : List Oper} {a : Act} (hB : (l.take m).all rOp = true)
    (h : wpQuiet P ops (fun w' => ∃ u, w' = ov w u) (fun a' => wpList P ops Q (l.drop m) a' w) (l.take m) a) : wpList P ops Q l a w := by
  induction m generalizing l a with
  | zero => exact h
  | succ m ih =>
    cases l with
    | nil => exact h
    | cons o r =>
      simp only [List.take_succ_cons, List.all_cons, Bool.and_eq_true, List.drop_succ_cons] at hB h
      unfold wpQuiet at h
      unfold wpList
      by_cases hw : Region.wanted o (yielded ops a.tmps) = true
      · rw [if_pos hw] at h ⊢
        obtain ⟨v, hv, hK⟩ := h
        left
        unfold Oper.wp
        rw [run_of_quiet hB.1 hv w ⟨w, ov_of (Below.refl _ _)⟩]
        exact ih hB.2 hK
      · rw [if_neg hw] at h ⊢
        exact ih hB.2 h
theorem wpList_callF {g : FuncId} {xs : Array Operand} {ats : Array TypeId} {o : Oper} {r : List Oper} {a : Act} {vals : Array Value} (hw : Region.wanted o (yielded ops a.tmps) = true) (ho : o.op = .call { callee := .value (.func g), args := xs, argTypes := ats }) (eg : Go.Proofs.Enters P g) (hv : xs.map a.eval = vals)
    (h : Calls P g vals w fun e w' => ∃ v, e = .returned v ∧ wpList P ops Q r (a.put o.dst v) w') : wpList P ops Q (o :: r) a w := by
  unfold wpList
  rw [if_pos hw]
  exact .inl (wp_callF ho eg hv h)
theorem wpList_lenS {x : Operand} {t e : TypeId} {o : Oper} {r : List Oper} {a : Act} {ad : Option Addr} {n c : Nat} (hw : Region.wanted o (yielded ops a.tmps) = true) (ho : o.op = .call { callee := .builtin .len, args := #[x], argTypes := #[t] }) (ht : P.underlying t = some (.slice e)) (hx : a.eval x = .slice ad n c)
    (h : wpList P ops Q r (a.put o.dst (.int .i64 n)) w) : wpList P ops Q (o :: r) a w := by
  unfold wpList
  rw [if_pos hw]
  exact .inl (wp_lenS ho ht hx h)
theorem wpList_skip {o : Oper} {r : List Oper} {a : Act} (hw : Region.wanted o (yielded ops a.tmps) = false) (h : wpList P ops Q r (a.put o.dst undef) w) : wpList P ops Q (o :: r) a w := by
  unfold wpList
  rw [if_neg (by rw [hw]; decide)]
  exact h
end
end Go.Proofs.Ytppccnjckiedlaa
/- Specifications of values that are rasters, for regions that draw their order; the full raster's validity. -/
namespace Go.Proofs.Ytppccnjckiedlaa
open Go.RowKit Go.Shelf Pl
set_option linter.unusedVariables false
set_option linter.unusedSimpArgs false
set_option maxRecDepth 20000

def rasS (L : List TA) : NSpec := ⟨Option Addr × Nat, ⟨(none, 0)⟩, fun x => .agg #[.slice x.1 L.length x.2], fun x w => RS (.slice x.1 L.length x.2) L w, fun _ _ _ hb h => h.below hb⟩
def tupS (L : List TA) (n : Int) : NSpec := ⟨Option Addr × Nat, ⟨(none, 0)⟩, fun x => .tuple #[.agg #[.slice x.1 L.length x.2], .int .i64 n], fun x w => RS (.slice x.1 L.length x.2) L w, fun _ _ _ hb h => h.below hb⟩
def gotS (L : List TA) (n : Int) : NSpec := ⟨Option Addr × Nat, ⟨(none, 0)⟩, fun x => .agg #[.slice x.1 L.length x.2, .int .i64 n], fun x w => RS (.slice x.1 L.length x.2) L w, fun _ _ _ hb h => h.below hb⟩
def ptrS (n : Nat) (t : TypeId) (cs : Array Value) : NSpec := ⟨Nat, ⟨0⟩, fun b => .pointer (some ⟨b, 0, none⟩), fun b w => n ≤ b ∧ AtB t w b cs, fun _ _ _ hb h => ⟨h.1, h.2.of_eq (hb.block _ h.2.lt)⟩⟩
theorem L_ofO (q : RawQ) (vL vT : Value) (L T : List Int) (w : World) (hL : RSE inE vL L w) (hLn : L.length ≤ 17592186044416) (hT : RSE inE vT T w) (hTn : T.length ≤ 17592186044416) :
    Calls Try.prog 15 #[.agg #[vL, .int .i64 q.at_, .int .i64 q.px, .int .i64 q.py, vT, .int .i64 q.how]] w fun e w' => ∃ a c, e = .returned (.agg #[.slice a (ofL q L T).length c]) ∧ RS (.slice a (ofL q L T).length c) (ofL q L T) w' ∧ Below w.heap.size w w' :=
  (L_of q vL vT L T w hL hLn hT hTn).mono fun e w' ⟨v', he, hr, hb⟩ => by
    obtain ⟨a, c, rfl, _⟩ := hr.len
    exact ⟨a, c, he, hr, hb⟩
theorem len_maxLen {n : Nat} (h : n ≤ 2000) : n ≤ maxLen := by unfold maxLen; omega
/-! ### The contracts at lists that are known to be valid; results told by another word -/
end Go.Proofs.Ytppccnjckiedlaa
/- Contract of gouacheref08.Near. -/
namespace Go.Proofs.Ytppccnjckiedlaa
open Go.RowKit Go.Shelf Pl
set_option linter.unusedVariables false
set_option linter.unusedSimpArgs false
set_option maxRecDepth 20000
def nearR (c : Rc) : Rc := ⟨c.x0 % 64 - 30, c.y0 % 64 - 30, c.x0 % 64 - 30 + 1 + c.x1 % 32, c.y0 % 64 - 30 + 1 + c.y1 % 32⟩
@[go_sem] theorem run_field_a (p0 p1 p2 pa : Int) (w : World) : (Instr.field 37 (.agg #[.int .u8 p0, .int .u8 p1, .int .u8 p2, .int .u8 pa]) 3).run Try.prog w = .ok (.int .u8 pa) w := by kernel_rfl
end Go.Proofs.Ytppccnjckiedlaa
/- Pairs of integers as blocks; one byte of a tile stored; contracts of Set and Put with a result told. -/
namespace Go.Proofs.Ytppccnjckiedlaa
open Go.RowKit Go.Shelf Pl
set_option linter.unusedVariables false
set_option linter.unusedSimpArgs false
set_option maxRecDepth 20000
def i2 (a b : Int) (k : Nat) : Int := if k = 0 then a else b
end Go.Proofs.Ytppccnjckiedlaa
/- Plain laws: how many tiles there are behind put; the full raster. -/
namespace Go.Proofs.Ytppccnjckiedlaa
open Go.RowKit Pl
set_option linter.unusedVariables false
set_option linter.unusedSimpArgs false
/-- The tile of the law: its first pixel opaque. -/
def limT (Ls : List Int) : Nat → Px := upd (madeT Ls) 0 ⟨0, 0, 3, 255⟩
def F24 : List TA := fullL 1024
end Go.Proofs.Ytppccnjckiedlaa
/- Plain: the pixels that Image makes are the raster's pixels, row by row. -/
namespace Go.Proofs.Ytppccnjckiedlaa
open Go.RowKit Pl
set_option linter.unusedVariables false
set_option linter.unusedSimpArgs false
/-- The pixel number j of a rectangle. -/
def widN (c : Rc) : Nat := (c.x1 - c.x0).toNat
def pxX (c : Rc) (j : Nat) : Int := c.x0 + ((j % widN c : Nat) : Int)
def pxY (c : Rc) (j : Nat) : Int := c.y0 + ((j / widN c : Nat) : Int)
def imgL (c : Rc) (ks : List TA) : List Px := (List.range (areaN c)).map fun j => getL ks (pxX c j) (pxY c j)
/-- The place of a pixel in its tile. -/
def inT (x y : Int) : Nat := (8 * (y % 8) + x % 8).toNat
end Go.Proofs.Ytppccnjckiedlaa
/- Plain: a raster after pixel updates, by its pixels; grids of 32 times 32 pixels. -/
namespace Go.Proofs.Ytppccnjckiedlaa
open Go.RowKit Pl
set_option linter.unusedVariables false
set_option linter.unusedSimpArgs false
/-- A pixel update, as the law sends it. -/
structure Dt where
  x : Int
  y : Int
  p : Px
/-- All positions lie near the origin. -/
def Small (r : List TA) : Prop := ∀ e ∈ r, -2 ≤ e.x ∧ e.x ≤ 1 ∧ -2 ≤ e.y ∧ e.y ≤ 1
section
variable {r : List TA} {X Y : Int} {p : Px} (hv : validL r = true) (hs : Small r) (hX : -16 ≤ X ∧ X ≤ 15) (hY : -16 ≤ Y ∧ Y ≤ 15)
end
/-- The raster after the first k updates. -/
def dotX (d : Dt) : Int := d.x % 32 - 16
def dotY (d : Dt) : Int := d.y % 32 - 16
def dAt (l : List Dt) (k : Nat) : Dt := l.getD k ⟨0, 0, Px.zero⟩
def dotR (l : List Dt) : Nat → List TA
  | 0 => []
  | k + 1 => setR (dotR l k) (dotX (dAt l k)) (dotY (dAt l k)) (dAt l k).p
/-- The pixels wanted. -/
def dotW (l : List Dt) : Nat → Nat → Px
  | 0 => fun _ => Px.zero
  | k + 1 => upd (dotW l k) (((dAt l k).y % 32).toNat * 32 + ((dAt l k).x % 32).toNat) (cleanP (dAt l k).p)
/-! ### Grids -/
def gridC (f : Nat → Px) : Array Value := Array.ofFn (n := 4096) fun k => pxC (f (k.val / 4)) (k.val % 4)
end Go.Proofs.Ytppccnjckiedlaa
/- The pixel at a column and a row of a rectangle. -/
namespace Go.Proofs.Ytppccnjckiedlaa
open Go.RowKit Go.Shelf Pl
end Go.Proofs.Ytppccnjckiedlaa
/- Plain: the positions of a rectangle's tiles; what Paste computes. -/
namespace Go.Proofs.Ytppccnjckiedlaa
open Go.RowKit Pl
set_option linter.unusedVariables false
set_option linter.unusedSimpArgs false
/-- The rectangle of the tiles that a rectangle meets. -/
def tlR (c : Rc) : Rc := ⟨c.x0 / 8, c.y0 / 8, (c.x1 - 1) / 8 + 1, (c.y1 - 1) / 8 + 1⟩
def tlN (c : Rc) : Nat := areaN (tlR c)
def posP (c : Rc) (k : Nat) : Int × Int := (pxX (tlR c) k, pxY (tlR c) k)
def posL (c : Rc) : List (Int × Int) := (List.range (tlN c)).map (posP c)
/-! ### Pasting -/
def pixL (c : Rc) (L : List Px) (X Y : Int) : Px := L.getD (idxI c X Y).toNat Px.zero
def pstP (c : Rc) (L : List Px) (X Y : Int) (p : Px) : Px := if hasR c X Y = true then cleanP (pixL c L X Y) else p
def pstT (c : Rc) (L : List Px) (x y : Int) (t : Nat → Px) : Nat → Px := fun i => if i < 64 then pstP c L (x * 8 + (i : Int) % 8) (y * 8 + (i : Int) / 8) (t i) else t i
def pstF (c : Rc) (L : List Px) (_ : Unit) (X Y : Int) (p : Px) : Unit × Px := ((), pstP c L X Y p)
def OkL (L : List Px) : Prop := ∀ p ∈ L, p.ok
def CleanL (ls : List TA) : Prop := ∀ e ∈ ls, eqT (cleanT e.t) e.t = true
theorem tileL_cleanL {ls : List TA} (h : CleanL ls) (x y : Int) {i : Nat} (hi : i < 64) : cleanP (tileL ls x y i) = tileL ls x y i := by
  rcases tileL_some ls x y with e | ⟨e, he, _, _, ht⟩
  · rw [e]; rfl
  · rw [ht]
    exact eqT_at (h e he) hi
theorem valid_clean {ls : List TA} (h : validL ls = true) : CleanL ls := fun e he => ((goodA_iff e).1 (validL_good h e he)).2.2
def pst1 (c : Rc) (L : List Px) (ls : List TA) (p : Int × Int) : List TA := putL ls p.1 p.2 (pstT c L p.1 p.2 (tileL ls p.1 p.2))
def pstL (c : Rc) (L : List Px) (ls : List TA) (ps : List (Int × Int)) : List TA := ps.foldl (pst1 c L) ls
def pstE (c : Rc) (L : List Px) (ls : List TA) : Int := if validR c = true ∧ (L.length : Int) = areaR c then (if fitsE c = 0 then manyE (pstL c L (fineL ls) (posL c)) else fitsE c) else 1
def pstR (c : Rc) (L : List Px) (ls : List TA) : List TA := if validR c = true ∧ (L.length : Int) = areaR c then (if fitsE c = 0 then manyL (pstL c L (fineL ls) (posL c)) else []) else []
theorem RS.congr {v : Value} {ls ks : List TA} {w : World} (h : RS v ls w) (hl : ls.length = ks.length) (hr : rowC ls = rowC ks) : RS v ks w := by
  rcases h with ⟨h1, rfl⟩ | ⟨g, o, c, e, hc, sc⟩
  · exact .inl ⟨h1, List.eq_nil_of_length_eq_zero hl.symm⟩
  · refine .inr ⟨g, o, c, by rw [← hl]; exact e, by omega, fun hn => ⟨(sc (by omega)).1, fun i hi j hj => ?_⟩⟩
    rw [(sc (by omega)).2 i (by omega) j hj, ← rowC_at ls i j (by omega) hj, hr, rowC_at ks i j hi hj]
end Go.Proofs.Ytppccnjckiedlaa
/- Plain: the positions at which two rasters differ, in order; replacing them. -/
namespace Go.Proofs.Ytppccnjckiedlaa
open Go.RowKit Pl
set_option linter.unusedVariables false
set_option linter.unusedSimpArgs false
def ltP (a b : Int × Int) : Bool := lessB a.1 a.2 b.1 b.2
def posA (e : TA) : Int × Int := (e.x, e.y)
def SrtP (l : List (Int × Int)) : Prop := l.Pairwise fun a b => ltP a b = true
theorem lessB_iff {a b c d : Int} : lessB a b c d = true ↔ (b < d ∨ (b = d ∧ a < c)) := by unfold lessB; exact decide_eq_true_iff
theorem ltP_iff {a b : Int × Int} : ltP a b = true ↔ (a.2 < b.2 ∨ (a.2 = b.2 ∧ a.1 < b.1)) := lessB_iff
theorem ltP_trans {a b c : Int × Int} (h : ltP a b = true) (k : ltP b c = true) : ltP a c = true := by
  rw [ltP_iff] at *
  omega
theorem ltP_irr (a : Int × Int) : ¬ ltP a a = true := by rw [ltP_iff]; omega
theorem ltP_tri {a b : Int × Int} (h : ¬ a = b) (k : ¬ ltP a b = true) : ltP b a = true := by
  rw [ltP_iff] at *
  have : ¬ (a.1 = b.1 ∧ a.2 = b.2) := fun e => h (Prod.ext e.1 e.2)
  omega
/-- Two lists in order with the same members are the same. -/
theorem srtP_ext : ∀ (l m : List (Int × Int)), SrtP l → SrtP m → (∀ p, p ∈ l ↔ p ∈ m) → l = m
  | [], [], _, _, _ => rfl
  | [], q :: m, _, _, h => absurd ((h q).2 (List.mem_cons_self ..)) (fun e => by cases e)
  | p :: l, [], _, _, h => absurd ((h p).1 (List.mem_cons_self ..)) (fun e => by cases e)
  | p :: l, q :: m, hl, hm, h => by
    obtain ⟨h1, h2⟩ := List.pairwise_cons.1 hl
    obtain ⟨k1, k2⟩ := List.pairwise_cons.1 hm
    have e : p = q := by
      rcases List.mem_cons.1 ((h p).1 (List.mem_cons_self ..)) with e | e
      · exact e
      · rcases List.mem_cons.1 ((h q).2 (List.mem_cons_self ..)) with f | f
        · exact f.symm
        · exact absurd (ltP_trans (h1 q f) (k1 p e)) (ltP_irr p)
    subst e
    rw [srtP_ext l m h2 k2 (fun r => by
      constructor
      · intro hr
        rcases List.mem_cons.1 ((h r).1 (List.mem_cons_of_mem _ hr)) with e | e
        · subst e; exact absurd (h1 _ hr) (ltP_irr _)
        · exact e
      · intro hr
        rcases List.mem_cons.1 ((h r).2 (List.mem_cons_of_mem _ hr)) with e | e
        · subst e; exact absurd (k1 _ hr) (ltP_irr _)
        · exact e)]
theorem eqT_symm {t u : Nat → Px} (h : eqT t u = true) : eqT u t = true := eqT_true fun i hi => (eqT_at h hi).symm
theorem eqT_comm (t u : Nat → Px) : eqT t u = eqT u t := by
  rw [Bool.eq_iff_iff]
  exact ⟨eqT_symm, eqT_symm⟩
theorem eqT_zero {t : Nat → Px} (h : zeroB t = false) : eqT t zT = false := by
  by_cases e : eqT t zT = true
  · exfalso
    have : zeroB t = true := (zeroB_iff t).2 fun i hi => by rw [eqT_at e hi]; rfl
    rw [h] at this
    cases this
  · simpa using e
/-- No tile without a visible pixel. -/
def Nz (ls : List TA) : Prop := ∀ e ∈ ls, zeroB e.t = false
theorem valid_nz {ls : List TA} (h : validL ls = true) : Nz ls := fun e he => ((goodA_iff e).1 (validL_good h e he)).2.1
def Diff (a b : List TA) (p : Int × Int) : Prop := eqT (tileL a p.1 p.2) (tileL b p.1 p.2) = false
theorem Diff.symm {a b : List TA} {p : Int × Int} (h : Diff a b p) : Diff b a p := by unfold Diff at *; rw [eqT_comm]; exact h
theorem diff_in {a b : List TA} {p : Int × Int} (h : Diff a b p) : (∃ e ∈ a, posA e = p) ∨ ∃ e ∈ b, posA e = p := by
  rcases tileL_some a p.1 p.2 with e | ⟨e, he, e1, e2, _⟩
  · rcases tileL_some b p.1 p.2 with f | ⟨f, hf, f1, f2, _⟩
    · unfold Diff at h
      rw [e, f, eqT_refl] at h
      cases h
    · exact .inr ⟨f, hf, Prod.ext f1 f2⟩
  · exact .inl ⟨e, he, Prod.ext e1 e2⟩

/-! ### Changed of package raster: two lists merged -/
def chgP : List TA → List TA → List (Int × Int)
  | [], [] => []
  | [], e :: r => posA e :: chgP [] r
  | d :: q, [] => posA d :: chgP q []
  | d :: q, e :: r => if lessB d.x d.y e.x e.y = true then posA d :: chgP q (e :: r) else if lessB e.x e.y d.x d.y = true then posA e :: chgP (d :: q) r else (if eqT d.t e.t = true then [] else [posA d]) ++ chgP q r
termination_by a b => a.length + b.length
theorem chgP_nil2 : chgP [] [] = [] := by rw [chgP]
theorem chgP_right (e : TA) (r : List TA) : chgP [] (e :: r) = posA e :: chgP [] r := by rw [chgP]
theorem chgP_left (d : TA) (q : List TA) : chgP (d :: q) [] = posA d :: chgP q [] := by rw [chgP]
theorem chgP_both (d : TA) (q : List TA) (e : TA) (r : List TA) : chgP (d :: q) (e :: r) = if lessB d.x d.y e.x e.y = true then posA d :: chgP q (e :: r) else if lessB e.x e.y d.x d.y = true then posA e :: chgP (d :: q) r else (if eqT d.t e.t = true then [] else [posA d]) ++ chgP q r := by rw [chgP]
theorem chgP_len : ∀ (a b : List TA), (chgP a b).length ≤ a.length + b.length := by
  intro a b
  induction a, b using chgP.induct with
  | case1 => rw [chgP_nil2]; exact Nat.le_refl _
  | case2 e r ih => rw [chgP_right]; simp only [List.length_cons, List.length_nil] at ih ⊢; omega
  | case3 d q ih => rw [chgP_left]; simp only [List.length_cons, List.length_nil] at ih ⊢; omega
  | case4 d q e r h ih => rw [chgP_both, if_pos h]; simp only [List.length_cons] at ih ⊢; omega
  | case5 d q e r h k ih => rw [chgP_both, if_neg h, if_pos k]; simp only [List.length_cons] at ih ⊢; omega
  | case6 d q e r h k ih =>
    rw [chgP_both, if_neg h, if_neg k, List.length_append]
    simp only [List.length_cons] at ih ⊢
    split
    · simp only [List.length_nil]; omega
    · simp only [List.length_cons, List.length_nil]; omega
theorem srt_cons {d : TA} {q : List TA} (h : Srt (d :: q)) : Srt q ∧ ∀ e ∈ q, ltP (posA d) (posA e) = true := by
  obtain ⟨h1, h2⟩ := List.pairwise_cons.1 h
  exact ⟨h2, h1⟩
theorem posA_ne {p : Int × Int} {e : TA} (h : ¬ posA e = p) : eqB e.x e.y p.1 p.2 = false := decide_eq_false fun k => h (Prod.ext k.1 k.2)
theorem tileL_head (d : TA) (q : List TA) : tileL (d :: q) d.x d.y = d.t := by
  show (if _ then _ else _) = _
  rw [if_pos (show eqB d.x d.y d.x d.y = true from decide_eq_true ⟨rfl, rfl⟩)]
theorem tileL_tail (d : TA) (q : List TA) {p : Int × Int} (h : ¬ posA d = p) : tileL (d :: q) p.1 p.2 = tileL q p.1 p.2 := by
  show (if _ then _ else _) = _
  rw [if_neg (by rw [posA_ne h]; decide)]
theorem tileL_lt {p : Int × Int} {q : List TA} (h : ∀ e ∈ q, ltP p (posA e) = true) : tileL q p.1 p.2 = zT :=
  tileL_none fun e he => posA_ne fun k => ltP_irr p (by have := h e he; rw [k] at this; exact this)
theorem chgP_spec : ∀ (a b : List TA), Srt a → Srt b → Nz a → Nz b → SrtP (chgP a b) ∧ ∀ p, p ∈ chgP a b ↔ Diff a b p := by
  intro a b
  induction a, b using chgP.induct with
  | case1 =>
    intro _ _ _ _
    rw [chgP_nil2]
    refine ⟨List.Pairwise.nil, fun p => ⟨fun h => (by cases h), fun h => ?_⟩⟩
    unfold Diff at h
    rw [show tileL ([] : List TA) p.1 p.2 = zT from rfl, eqT_refl] at h
    cases h
  | case2 e r ih =>
    intro ha hb na nb
    obtain ⟨hr, hlt⟩ := srt_cons hb
    obtain ⟨i1, i2⟩ := ih ha hr na (fun x hx => nb x (List.mem_cons_of_mem _ hx))
    rw [chgP_right]
    refine ⟨List.Pairwise.cons (fun p hp => ?_) i1, fun p => ?_⟩
    · rcases diff_in ((i2 p).1 hp) with ⟨_, h, _⟩ | ⟨x, hx, rfl⟩
      · cases h
      · exact hlt x hx
    · by_cases hp : posA e = p
      · subst hp
        refine ⟨fun _ => ?_, fun _ => List.mem_cons_self ..⟩
        unfold Diff
        rw [show tileL ([] : List TA) (posA e).1 (posA e).2 = zT from rfl, show tileL (e :: r) (posA e).1 (posA e).2 = e.t from tileL_head e r, eqT_comm]
        exact eqT_zero (nb e (List.mem_cons_self ..))
      · have : Diff [] (e :: r) p ↔ Diff [] r p := by unfold Diff; rw [tileL_tail e r hp]
        rw [this, ← i2, List.mem_cons]
        exact ⟨fun h => h.resolve_left (fun e => hp e.symm), .inr⟩
  | case3 d q ih =>
    intro ha hb na nb
    obtain ⟨hq, hlt⟩ := srt_cons ha
    obtain ⟨i1, i2⟩ := ih hq hb (fun x hx => na x (List.mem_cons_of_mem _ hx)) nb
    rw [chgP_left]
    refine ⟨List.Pairwise.cons (fun p hp => ?_) i1, fun p => ?_⟩
    · rcases diff_in ((i2 p).1 hp) with ⟨x, hx, rfl⟩ | ⟨_, h, _⟩
      · exact hlt x hx
      · cases h
    · by_cases hp : posA d = p
      · subst hp
        refine ⟨fun _ => ?_, fun _ => List.mem_cons_self ..⟩
        unfold Diff
        rw [show tileL ([] : List TA) (posA d).1 (posA d).2 = zT from rfl, show tileL (d :: q) (posA d).1 (posA d).2 = d.t from tileL_head d q]
        exact eqT_zero (na d (List.mem_cons_self ..))
      · have : Diff (d :: q) [] p ↔ Diff q [] p := by unfold Diff; rw [tileL_tail d q hp]
        rw [this, ← i2, List.mem_cons]
        exact ⟨fun h => h.resolve_left (fun e => hp e.symm), .inr⟩
  | case4 d q e r h ih =>
    intro ha hb na nb
    obtain ⟨hq, hlt⟩ := srt_cons ha
    obtain ⟨hr, hlr⟩ := srt_cons hb
    obtain ⟨i1, i2⟩ := ih hq hb (fun x hx => na x (List.mem_cons_of_mem _ hx)) nb
    have hde : ltP (posA d) (posA e) = true := h
    have hall : ∀ x ∈ e :: r, ltP (posA d) (posA x) = true := fun x hx => by
      rcases List.mem_cons.1 hx with rfl | hx
      · exact hde
      · exact ltP_trans hde (hlr x hx)
    rw [chgP_both, if_pos h]
    refine ⟨List.Pairwise.cons (fun p hp => ?_) i1, fun p => ?_⟩
    · rcases diff_in ((i2 p).1 hp) with ⟨x, hx, rfl⟩ | ⟨x, hx, rfl⟩
      · exact hlt x hx
      · exact hall x hx
    · by_cases hp : posA d = p
      · subst hp
        refine ⟨fun _ => ?_, fun _ => List.mem_cons_self ..⟩
        unfold Diff
        rw [tileL_lt hall, show tileL (d :: q) (posA d).1 (posA d).2 = d.t from tileL_head d q]
        exact eqT_zero (na d (List.mem_cons_self ..))
      · have : Diff (d :: q) (e :: r) p ↔ Diff q (e :: r) p := by unfold Diff; rw [tileL_tail d q hp]
        rw [this, ← i2, List.mem_cons]
        exact ⟨fun h => h.resolve_left (fun e => hp e.symm), .inr⟩
  | case5 d q e r h k ih =>
    intro ha hb na nb
    obtain ⟨hq, hlt⟩ := srt_cons ha
    obtain ⟨hr, hlr⟩ := srt_cons hb
    obtain ⟨i1, i2⟩ := ih ha hr na (fun x hx => nb x (List.mem_cons_of_mem _ hx))
    have hed : ltP (posA e) (posA d) = true := k
    have hall : ∀ x ∈ d :: q, ltP (posA e) (posA x) = true := fun x hx => by
      rcases List.mem_cons.1 hx with rfl | hx
      · exact hed
      · exact ltP_trans hed (hlt x hx)
    rw [chgP_both, if_neg h, if_pos k]
    refine ⟨List.Pairwise.cons (fun p hp => ?_) i1, fun p => ?_⟩
    · rcases diff_in ((i2 p).1 hp) with ⟨x, hx, rfl⟩ | ⟨x, hx, rfl⟩
      · exact hall x hx
      · exact hlr x hx
    · by_cases hp : posA e = p
      · subst hp
        refine ⟨fun _ => ?_, fun _ => List.mem_cons_self ..⟩
        unfold Diff
        rw [tileL_lt hall, show tileL (e :: r) (posA e).1 (posA e).2 = e.t from tileL_head e r, eqT_comm]
        exact eqT_zero (nb e (List.mem_cons_self ..))
      · have : Diff (d :: q) (e :: r) p ↔ Diff (d :: q) r p := by unfold Diff; rw [tileL_tail e r hp]
        rw [this, ← i2, List.mem_cons]
        exact ⟨fun h => h.resolve_left (fun e => hp e.symm), .inr⟩
  | case6 d q e r h k ih =>
    intro ha hb na nb
    obtain ⟨hq, hlt⟩ := srt_cons ha
    obtain ⟨hr, hlr⟩ := srt_cons hb
    obtain ⟨i1, i2⟩ := ih hq hr (fun x hx => na x (List.mem_cons_of_mem _ hx)) (fun x hx => nb x (List.mem_cons_of_mem _ hx))
    have hpe : posA d = posA e := by
      by_cases hh : posA d = posA e
      · exact hh
      · exact absurd (ltP_tri hh h) k
    rw [← hpe] at hlr
    have hall : ∀ p ∈ chgP q r, ltP (posA d) p = true := fun p hp => by
      rcases diff_in ((i2 p).1 hp) with ⟨x, hx, rfl⟩ | ⟨x, hx, rfl⟩
      · exact hlt x hx
      · exact hlr x hx
    have hno : ¬ posA d ∈ chgP q r := fun hm => ltP_irr _ (hall _ hm)
    have hev : Diff (d :: q) (e :: r) (posA d) ↔ ¬ eqT d.t e.t = true := by
      unfold Diff
      have h2 : tileL (e :: r) (posA d).1 (posA d).2 = e.t := by rw [hpe]; exact tileL_head e r
      rw [show tileL (d :: q) (posA d).1 (posA d).2 = d.t from tileL_head d q, h2]
      simp
    have hnt : ∀ p, ¬ posA d = p → (Diff (d :: q) (e :: r) p ↔ Diff q r p) := fun p hp => by
      unfold Diff
      rw [tileL_tail d q hp, tileL_tail e r (by rw [← hpe]; exact hp)]
    rw [chgP_both, if_neg h, if_neg k]
    by_cases ht : eqT d.t e.t = true
    · rw [if_pos ht, List.nil_append]
      refine ⟨i1, fun p => ?_⟩
      by_cases hp : posA d = p
      · subst hp
        exact ⟨fun hm => absurd hm hno, fun hm => absurd ht (hev.1 hm)⟩
      · rw [hnt p hp, i2]
    · rw [if_neg ht]
      refine ⟨List.Pairwise.cons hall i1, fun p => ?_⟩
      show p ∈ posA d :: chgP q r ↔ _
      by_cases hp : posA d = p
      · subst hp
        exact ⟨fun _ => hev.2 ht, fun _ => List.mem_cons_self ..⟩
      · rw [hnt p hp, ← i2, List.mem_cons]
        exact ⟨fun h => h.resolve_left (fun e => hp e.symm), .inr⟩

/-! ### Changed of the reference: what differs of the first, then the second's inserted -/
def insP : List (Int × Int) → Int × Int → List (Int × Int)
  | [], p => [p]
  | q :: r, p => if q = p then q :: r else if ltP p q = true then p :: q :: r else q :: insP r p
theorem insP_mem : ∀ (l : List (Int × Int)) (p q : Int × Int), q ∈ insP l p ↔ q = p ∨ q ∈ l
  | [], p, q => by show q ∈ [p] ↔ _; simp
  | x :: r, p, q => by
    show q ∈ (if x = p then x :: r else if ltP p x = true then p :: x :: r else x :: insP r p) ↔ _
    split
    · rename_i h
      subst h
      exact ⟨.inr, fun h => h.elim (fun e => e ▸ List.mem_cons_self ..) id⟩
    · split
      · exact List.mem_cons
      · rw [List.mem_cons, insP_mem r p q, List.mem_cons]
        exact ⟨fun h => h.elim (fun e => .inr (.inl e)) (fun e => e.elim .inl (fun f => .inr (.inr f))), fun h => h.elim (fun e => .inr (.inl e)) (fun e => e.elim .inl (fun f => .inr (.inr f)))⟩
theorem insP_srt : ∀ (l : List (Int × Int)) (p : Int × Int), SrtP l → SrtP (insP l p)
  | [], p, _ => List.pairwise_singleton _ _
  | x :: r, p, h => by
    obtain ⟨h1, h2⟩ := List.pairwise_cons.1 h
    show SrtP (if x = p then x :: r else if ltP p x = true then p :: x :: r else x :: insP r p)
    split
    · exact h
    · rename_i hne
      split
      · rename_i hlt
        refine List.Pairwise.cons (fun q hq => ?_) h
        rcases List.mem_cons.1 hq with rfl | hq
        · exact hlt
        · exact ltP_trans hlt (h1 q hq)
      · rename_i hlt
        refine List.Pairwise.cons (fun q hq => ?_) (insP_srt r p h2)
        rcases (insP_mem r p q).1 hq with rfl | hq
        · exact ltP_tri (fun e => hne e.symm) hlt
        · exact h1 q hq
theorem insP_len : ∀ (l : List (Int × Int)) (p : Int × Int), (insP l p).length ≤ l.length + 1
  | [], p => Nat.le_refl _
  | x :: r, p => by
    show (if x = p then x :: r else if ltP p x = true then p :: x :: r else x :: insP r p).length ≤ _
    split
    · simp
    · split
      · simp
      · have := insP_len r p
        simp only [List.length_cons]
        omega
def chg1 (a b : List TA) : List (Int × Int) := (a.filter fun e => !eqT e.t (tileL b e.x e.y)).map posA
def chg2 (a : List TA) (o : List (Int × Int)) (b : List TA) : List (Int × Int) := b.foldl (fun o e => if eqT e.t (tileL a e.x e.y) = true then o else insP o (posA e)) o
def chgR (a b : List TA) : List (Int × Int) := chg2 a (chg1 a b) b
theorem chg1_snoc (a b : List TA) (e : TA) : chg1 (a ++ [e]) b = chg1 a b ++ (if eqT e.t (tileL b e.x e.y) = true then [] else [posA e]) := by
  unfold chg1
  rw [List.filter_append, List.map_append]
  congr 1
  by_cases h : eqT e.t (tileL b e.x e.y) = true
  · rw [if_pos h]; simp [h]
  · rw [if_neg h]; simp [h]
theorem chg1_len (a b : List TA) : (chg1 a b).length ≤ a.length := by
  unfold chg1
  rw [List.length_map]
  exact List.length_filter_le _ _
theorem chg2_snoc (a : List TA) (o : List (Int × Int)) (b : List TA) (e : TA) : chg2 a o (b ++ [e]) = if eqT e.t (tileL a e.x e.y) = true then chg2 a o b else insP (chg2 a o b) (posA e) := by
  unfold chg2
  rw [List.foldl_append]
  rfl
theorem chg2_len (a : List TA) : ∀ (b : List TA) (o : List (Int × Int)), (chg2 a o b).length ≤ o.length + b.length
  | [], o => Nat.le_refl _
  | e :: b, o => by
    show (chg2 a (if eqT e.t (tileL a e.x e.y) = true then o else insP o (posA e)) b).length ≤ _
    have := chg2_len a b (if eqT e.t (tileL a e.x e.y) = true then o else insP o (posA e))
    have h2 : (if eqT e.t (tileL a e.x e.y) = true then o else insP o (posA e)).length ≤ o.length + 1 := by
      split
      · omega
      · exact insP_len _ _
    simp only [List.length_cons]
    omega
theorem chg2_spec (a : List TA) : ∀ (b : List TA) (o : List (Int × Int)), SrtP o → SrtP (chg2 a o b) ∧ ∀ p, p ∈ chg2 a o b ↔ p ∈ o ∨ ∃ e ∈ b, posA e = p ∧ eqT e.t (tileL a e.x e.y) = false
  | [], o, h => ⟨h, fun p => ⟨.inl, fun h => h.elim id (fun ⟨_, h, _⟩ => by cases h)⟩⟩
  | e :: b, o, h => by
    show SrtP (chg2 a (if eqT e.t (tileL a e.x e.y) = true then o else insP o (posA e)) b) ∧ ∀ p, p ∈ chg2 a (if eqT e.t (tileL a e.x e.y) = true then o else insP o (posA e)) b ↔ _
    by_cases ht : eqT e.t (tileL a e.x e.y) = true
    · rw [if_pos ht]
      obtain ⟨h1, h2⟩ := chg2_spec a b o h
      refine ⟨h1, fun p => (h2 p).trans ⟨fun k => k.elim .inl (fun ⟨x, hx, k⟩ => .inr ⟨x, List.mem_cons_of_mem _ hx, k⟩), fun k => k.elim .inl (fun ⟨x, hx, k1, k2⟩ => ?_)⟩⟩
      rcases List.mem_cons.1 hx with rfl | hx
      · rw [ht] at k2; cases k2
      · exact .inr ⟨x, hx, k1, k2⟩
    · rw [if_neg ht]
      obtain ⟨h1, h2⟩ := chg2_spec a b _ (insP_srt o (posA e) h)
      refine ⟨h1, fun p => (h2 p).trans ⟨fun k => k.elim (fun k => ?_) (fun ⟨x, hx, k⟩ => .inr ⟨x, List.mem_cons_of_mem _ hx, k⟩), fun k => k.elim (fun k => .inl ((insP_mem _ _ _).2 (.inr k))) (fun ⟨x, hx, k1, k2⟩ => ?_)⟩⟩
      · rcases (insP_mem _ _ _).1 k with rfl | k
        · exact .inr ⟨e, List.mem_cons_self .., rfl, by simpa using ht⟩
        · exact .inl k
      · rcases List.mem_cons.1 hx with rfl | hx
        · exact .inl ((insP_mem _ _ _).2 (.inl k1.symm))
        · exact .inr ⟨x, hx, k1, k2⟩
theorem tileL_pos {ls : List TA} (hs : Srt ls) {e : TA} (he : e ∈ ls) {p : Int × Int} (hp : posA e = p) : tileL ls p.1 p.2 = e.t := by subst hp; exact tileL_mem hs he
theorem chg1_spec {a b : List TA} (hs : Srt a) : SrtP (chg1 a b) ∧ ∀ p, p ∈ chg1 a b ↔ (∃ e ∈ a, posA e = p) ∧ Diff a b p := by
  constructor
  · unfold chg1 SrtP
    refine List.Pairwise.map _ (fun x y h => h) ?_
    exact List.Pairwise.filter _ hs
  · intro p
    unfold chg1
    rw [List.mem_map]
    constructor
    · rintro ⟨e, he, rfl⟩
      obtain ⟨h1, h2⟩ := List.mem_filter.1 he
      refine ⟨⟨e, h1, rfl⟩, ?_⟩
      unfold Diff
      rw [tileL_pos hs h1 rfl]
      simpa [posA] using h2
    · rintro ⟨⟨e, he, hp⟩, hd⟩
      refine ⟨e, List.mem_filter.2 ⟨he, ?_⟩, hp⟩
      unfold Diff at hd
      rw [tileL_pos hs he hp] at hd
      subst hp
      simpa [posA] using hd
theorem chgR_spec {a b : List TA} (ha : Srt a) (hb : Srt b) : SrtP (chgR a b) ∧ ∀ p, p ∈ chgR a b ↔ Diff a b p := by
  obtain ⟨h1, h2⟩ := chg1_spec (b := b) ha
  obtain ⟨k1, k2⟩ := chg2_spec a b (chg1 a b) h1
  refine ⟨k1, fun p => (k2 p).trans ⟨fun h => ?_, fun h => ?_⟩⟩
  · rcases h with h | ⟨e, he, hp, ht⟩
    · exact ((h2 p).1 h).2
    · unfold Diff
      rw [tileL_pos hb he hp, eqT_comm]
      subst hp
      exact ht
  · rcases diff_in h with hx | ⟨e, he, hp⟩
    · exact .inl ((h2 p).2 ⟨hx, h⟩)
    · refine .inr ⟨e, he, hp, ?_⟩
      unfold Diff at h
      rw [tileL_pos hb he hp, eqT_comm] at h
      subst hp
      exact h
theorem chgP_R {a b : List TA} (ha : validL a = true) (hb : validL b = true) : chgR a b = chgP a b := by
  obtain ⟨h1, h2⟩ := chgR_spec (validL_srt ha) (validL_srt hb)
  obtain ⟨k1, k2⟩ := chgP_spec a b (validL_srt ha) (validL_srt hb) (valid_nz ha) (valid_nz hb)
  exact srtP_ext _ _ h1 k1 fun p => (h2 p).trans (k2 p).symm
theorem chgP_comm {a b : List TA} (ha : validL a = true) (hb : validL b = true) : chgP b a = chgP a b := by
  obtain ⟨h1, h2⟩ := chgP_spec b a (validL_srt hb) (validL_srt ha) (valid_nz hb) (valid_nz ha)
  obtain ⟨k1, k2⟩ := chgP_spec a b (validL_srt ha) (validL_srt hb) (valid_nz ha) (valid_nz hb)
  exact srtP_ext _ _ h1 k1 fun p => (h2 p).trans ⟨fun h => (k2 p).2 h.symm, fun h => ((k2 p).1 h).symm⟩
theorem eqL_cons (d : TA) (q : List TA) (e : TA) (r : List TA) : eqL (d :: q) (e :: r) = (eqA d e && eqL q r) := by
  rw [Bool.eq_iff_iff, Bool.and_eq_true_iff]
  unfold eqL
  rw [Bool.and_eq_true_iff, Bool.and_eq_true_iff, decide_eq_true_iff, decide_eq_true_iff, decide_eq_true_iff, decide_eq_true_iff]
  simp only [List.length_cons, List.mem_range, Nat.add_right_cancel_iff]
  constructor
  · rintro ⟨h1, h2⟩
    exact ⟨h2 0 (by omega), h1, fun i hi => h2 (i + 1) (by omega)⟩
  · rintro ⟨h1, h2, h3⟩
    refine ⟨h2, fun i hi => ?_⟩
    cases i with
    | zero => exact h1
    | succ i => exact h3 i (by omega)
theorem chgP_eqL : ∀ (a b : List TA), (chgP a b = []) ↔ eqL a b = true := by
  intro a b
  induction a, b using chgP.induct with
  | case1 => rw [chgP_nil2]; exact ⟨fun _ => eqL_refl _, fun _ => rfl⟩
  | case2 e r ih =>
    rw [chgP_right, eqL_len (by simp)]
    exact ⟨fun h => (by cases h), fun h => by cases h⟩
  | case3 d q ih =>
    rw [chgP_left, eqL_len (by simp)]
    exact ⟨fun h => (by cases h), fun h => by cases h⟩
  | case4 d q e r h ih =>
    rw [chgP_both, if_pos h, eqL_cons]
    refine ⟨fun k => (by cases k), fun k => ?_⟩
    have k := (Bool.and_eq_true_iff.1 k).1
    unfold eqA eqB at k
    have k := of_decide_eq_true (Bool.and_eq_true_iff.1 k).1
    have h := lessB_iff.1 h
    omega
  | case5 d q e r h h' ih =>
    rw [chgP_both, if_neg h, if_pos h', eqL_cons]
    refine ⟨fun k => (by cases k), fun k => ?_⟩
    have k := (Bool.and_eq_true_iff.1 k).1
    unfold eqA eqB at k
    have k := of_decide_eq_true (Bool.and_eq_true_iff.1 k).1
    have h := lessB_iff.1 h'
    omega
  | case6 d q e r h k ih =>
    rw [chgP_both, if_neg h, if_neg k, eqL_cons, Bool.and_eq_true_iff, ← ih]
    have hpe : d.x = e.x ∧ d.y = e.y := by
      rw [lessB_iff] at h k
      omega
    have hA : eqA d e = eqT d.t e.t := by
      unfold eqA eqB
      rw [decide_eq_true hpe, Bool.true_and]
    rw [hA]
    by_cases ht : eqT d.t e.t = true
    · rw [if_pos ht, List.nil_append]
      exact ⟨fun h => ⟨ht, h⟩, fun h => h.2⟩
    · rw [if_neg ht]
      exact ⟨fun h => (by cases h), fun h => absurd h.1 ht⟩

/-! ### The changed tiles replaced -/
def mv1 (b : List TA) (s : List TA) (p : Int × Int) : List TA := putR s p.1 p.2 (tileL b p.1 p.2)
def mvL (b : List TA) (s : List TA) (ps : List (Int × Int)) : List TA := ps.foldl (mv1 b) s
theorem mvL_snoc (b s : List TA) (ps : List (Int × Int)) (p : Int × Int) : mvL b s (ps ++ [p]) = mv1 b (mvL b s ps) p := by unfold mvL; rw [List.foldl_append]; rfl
theorem mv1_eq {b s : List TA} {p : Int × Int} (hs : validL s = true) (hw : withinB p.1 p.2 = true) (hn : s.length + 1 ≤ 1024) : mv1 b s p = putL s p.1 p.2 (cleanT (tileL b p.1 p.2)) ∧ putE s p.1 p.2 (tileL b p.1 p.2) = 0 := by
  have hl := putL_length s p.1 p.2 (cleanT (tileL b p.1 p.2))
  unfold mv1 putR putE
  rw [if_pos hw, if_pos hw, fineL_of hs]
  unfold manyL manyE
  rw [if_pos (by omega), if_pos (by omega)]
  exact ⟨rfl, rfl⟩
theorem clean_eq {t : Nat → Px} (h : ∀ i, i < 64 → cleanP (t i) = t i) : eqT (cleanT t) t = true := eqT_true fun i hi => by
  unfold cleanT
  exact h i hi
/-- Behind k replacements: valid, short, equal to the second at what was replaced, as before elsewhere. -/
theorem mvL_spec {a b : List TA} (ha : validL a = true) (hb : validL b = true) : ∀ (ps : List (Int × Int)), a.length + ps.length ≤ 1024 → (∀ p ∈ ps, withinB p.1 p.2 = true) →
    validL (mvL b a ps) = true ∧ (mvL b a ps).length ≤ a.length + ps.length ∧ (∀ p, p ∈ ps → eqT (tileL (mvL b a ps) p.1 p.2) (tileL b p.1 p.2) = true) ∧ (∀ p, p ∉ ps → tileL (mvL b a ps) p.1 p.2 = tileL a p.1 p.2) := by
  intro ps
  rw [show ps = ps.reverse.reverse from (List.reverse_reverse ps).symm]
  generalize ps.reverse = rs
  induction rs with
  | nil => intro _ _; exact ⟨ha, Nat.le_refl _, fun p h => (by cases h), fun p _ => rfl⟩
  | cons p rs ih =>
    rw [List.reverse_cons]
    intro hn hw
    rw [List.length_append, List.length_cons, List.length_nil] at hn
    obtain ⟨i1, i2, i3, i4⟩ := ih (by omega) (fun q hq => hw q (List.mem_append_left _ hq))
    have hwp := hw p (List.mem_append_right _ (List.mem_cons_self ..))
    obtain ⟨e1, _⟩ := mv1_eq (b := b) i1 hwp (by omega)
    rw [mvL_snoc, e1]
    have hl := putL_length (mvL b a rs.reverse) p.1 p.2 (cleanT (tileL b p.1 p.2))
    have hcb : eqT (cleanT (tileL b p.1 p.2)) (tileL b p.1 p.2) = true := clean_eq fun i hi => tileL_cleanL (valid_clean hb) _ _ hi
    have hsame : eqT (tileL (putL (mvL b a rs.reverse) p.1 p.2 (cleanT (tileL b p.1 p.2))) p.1 p.2) (tileL b p.1 p.2) = true := by
      rw [tileL_put_same (validL_srt i1)]
      split
      · rename_i hz
        refine eqT_true fun i hi => ?_
        have h0 := (zeroB_iff _).1 hz i hi
        rw [eqT_at hcb hi] at h0
        have h1 := tileL_cleanL (valid_clean hb) p.1 p.2 hi
        rw [← h1]
        unfold cleanP
        rw [if_pos h0]
        rfl
      · exact hcb
    refine ⟨putL_valid i1 hwp (by omega), by rw [List.length_append, List.length_cons, List.length_nil]; omega, fun q hq => ?_, fun q hq => ?_⟩
    · by_cases hqp : p = q
      · subst hqp; exact hsame
      · rw [tileL_put_other _ _ _ _ (decide_eq_false fun e => hqp (Prod.ext e.1 e.2))]
        rcases List.mem_append.1 hq with h | h
        · exact i3 q h
        · rcases List.mem_cons.1 h with h | h
          · exact absurd h.symm hqp
          · cases h
    · have hqp : ¬ p = q := fun e => hq (by rw [← e]; exact List.mem_append_right _ (List.mem_cons_self ..))
      rw [tileL_put_other _ _ _ _ (decide_eq_false fun e => hqp (Prod.ext e.1 e.2))]
      exact i4 q (fun h => hq (List.mem_append_left _ h))
theorem diff_within {a b : List TA} (ha : validL a = true) (hb : validL b = true) {p : Int × Int} (h : Diff a b p) : withinB p.1 p.2 = true := by
  rcases diff_in h with ⟨e, he, rfl⟩ | ⟨e, he, rfl⟩
  · exact ((goodA_iff e).1 (validL_good ha e he)).1
  · exact ((goodA_iff e).1 (validL_good hb e he)).1
theorem chgP_within {a b : List TA} (ha : validL a = true) (hb : validL b = true) : ∀ p ∈ chgP a b, withinB p.1 p.2 = true := fun p hp =>
  diff_within ha hb (((chgP_spec a b (validL_srt ha) (validL_srt hb) (valid_nz ha) (valid_nz hb)).2 p).1 hp)
/-- The changed tiles replaced: the rasters are equal. -/
theorem mvL_all {a b : List TA} (ha : validL a = true) (hb : validL b = true) (hn : a.length + (a.length + b.length) ≤ 1024) : validL (mvL b a (chgP a b)) = true ∧ eqL (mvL b a (chgP a b)) b = true ∧ chgP (mvL b a (chgP a b)) b = [] := by
  have hl := chgP_len a b
  obtain ⟨h1, h2, h3, h4⟩ := mvL_spec ha hb (chgP a b) (by omega) (chgP_within ha hb)
  obtain ⟨_, k2⟩ := chgP_spec a b (validL_srt ha) (validL_srt hb) (valid_nz ha) (valid_nz hb)
  obtain ⟨_, m2⟩ := chgP_spec (mvL b a (chgP a b)) b (validL_srt h1) (validL_srt hb) (valid_nz h1) (valid_nz hb)
  have hz : chgP (mvL b a (chgP a b)) b = [] := by
    refine List.eq_nil_iff_forall_not_mem.2 fun p hp => ?_
    have hd := (m2 p).1 hp
    by_cases hm : p ∈ chgP a b
    · have := h3 p hm
      unfold Diff at hd
      rw [this] at hd
      cases hd
    · have hs := h4 p hm
      apply hm
      rw [k2]
      unfold Diff at hd ⊢
      rw [← hs]
      exact hd
  exact ⟨h1, (chgP_eqL _ _).1 hz, hz⟩
theorem madeL_len40 (L : List Int) : (madeL L).length ≤ 40 := by
  have : ∀ k, (madeK L k).length ≤ k := by
    intro k
    induction k with
    | zero => exact Nat.le_refl _
    | succ k ih =>
      show (if _ then _ else _ : List TA).length ≤ _
      split
      · unfold setR putR
        split
        · unfold manyL
          split
          · have h1 := putL_length (fineL (madeK L k)) ((pickI L (3 * k) 48 - 20) / 8) ((pickI L (3 * k + 1) 48 - 20) / 8) (cleanT (setS (madeK L k) (pickI L (3 * k) 48 - 20) (pickI L (3 * k + 1) 48 - 20) (madeP (getI L (3 * k + 2)))))
            have h2 := fineL_le (madeK L k)
            omega
          · simp
        · simp
      · omega
  exact this 40
end Go.Proofs.Ytppccnjckiedlaa
/- Contract of the reference's Same at equal images. -/
namespace Go.Proofs.Ytppccnjckiedlaa
open Go.RowKit Go.Shelf Pl
set_option linter.unusedVariables false
set_option linter.unusedSimpArgs false
set_option maxRecDepth 20000
end Go.Proofs.Ytppccnjckiedlaa
/- Contract of the reference's Image. -/
namespace Go.Proofs.Ytppccnjckiedlaa
open Go.RowKit Go.Shelf Pl
set_option linter.unusedVariables false
set_option linter.unusedSimpArgs false
set_option maxRecDepth 20000
def shC (c : Rc) (u : Value) (n : Int) : Array Value := #[.int .i64 c.x0, .int .i64 c.y0, .int .i64 c.x1, .int .i64 c.y1, u, .int .i64 n]
section
variable {o : Oper} {a : Act} {C : World → Prop} {K : Act → Prop}
end
end Go.Proofs.Ytppccnjckiedlaa
/- The positions of a rectangle's tiles: the reference's Tiles. -/
namespace Go.Proofs.Ytppccnjckiedlaa
open Go.RowKit Go.Shelf Pl
set_option linter.unusedVariables false
set_option linter.unusedSimpArgs false
set_option maxRecDepth 20000
def psE : Elt (Int × Int) 2 24 88 where
  enc := fun p => #[.int .i64 p.1, .int .i64 p.2]
  bytes := 16
  zero := (0, 0)
  size := fun _ => rfl
  one := fun x u hu => by
    have : u ∈ [Value.int .i64 x.1, .int .i64 x.2] := hu
    simp at this
    rcases this with rfl | rfl <;> rfl
  pos := by omega
  small := by omega
  und := Try.underlying88
  info := by kernel_rfl
  zer := by kernel_rfl
end Go.Proofs.Ytppccnjckiedlaa
/- Changed of package raster. -/
namespace Go.Proofs.Ytppccnjckiedlaa
open Go.RowKit Go.Shelf Pl
set_option linter.unusedVariables false
set_option linter.unusedSimpArgs false
set_option maxRecDepth 20000
def lenV : Value → Nat
  | .slice _ n _ => n
  | _ => 0
theorem rs_tail {g o c : Nat} {x : TA} {r : List TA} {w : World} (h : RCells g o (x :: r) w) (hc : r.length + 1 ≤ c) : RS (.slice (if c = 1 then some ⟨g, o, none⟩ else some ⟨g, o + 258, none⟩) r.length (c - 1)) r w := by
  have := rs_drop (ls := x :: r) (fun _ => h) hc (k := 1) (by simp)
  simpa using this
theorem P_orderO (ax ay bx bv : Int) (n : Int) (w : World) (hn : ordI ax ay bx bv = n) : Calls Try.prog 55 #[.agg #[.int .i64 ax, .int .i64 ay], .agg #[.int .i64 bx, .int .i64 bv]] w fun e w' => e = .returned (.int .i64 n) ∧ Below w.heap.size w w' := hn ▸ P_order ax ay bx bv w
theorem ord_cases (d e : TA) : (lessB d.x d.y e.x e.y = true ∧ ordI d.x d.y e.x e.y = -1) ∨ (lessB d.x d.y e.x e.y = false ∧ lessB e.x e.y d.x d.y = true ∧ ordI d.x d.y e.x e.y = 1) ∨ (lessB d.x d.y e.x e.y = false ∧ lessB e.x e.y d.x d.y = false ∧ ordI d.x d.y e.x e.y = 0) := by
  have h1 := ordI_neg d.x d.y e.x e.y
  have h2 := ordI_eq d.x d.y e.x e.y
  have hb := ordI_bd d.x d.y e.x e.y
  have a1 := lessB_iff (a := d.x) (b := d.y) (c := e.x) (d := e.y)
  have a2 := lessB_iff (a := e.x) (b := e.y) (c := d.x) (d := d.y)
  cases hA : lessB d.x d.y e.x e.y with
  | true => rw [hA] at h1; exact .inl ⟨rfl, by have := of_decide_eq_true h1; omega⟩
  | false =>
    rw [hA] at h1
    have h1 := of_decide_eq_false h1
    rw [hA] at a1
    cases hB : lessB e.x e.y d.x d.y with
    | true =>
      have h3 := a2.1 hB
      have h4 : eqB d.x d.y e.x e.y = false := decide_eq_false (by omega)
      rw [h4] at h2
      have h2 := of_decide_eq_false h2
      exact .inr (.inl ⟨rfl, rfl, by omega⟩)
    | false =>
      rw [hB] at a2
      have h5 : ¬ (d.y < e.y ∨ d.y = e.y ∧ d.x < e.x) := fun h => by have := a1.2 h; cases this
      have h6 : ¬ (e.y < d.y ∨ e.y = d.y ∧ e.x < d.x) := fun h => by have := a2.2 h; cases this
      have h4 : eqB d.x d.y e.x e.y = true := decide_eq_true (by omega)
      rw [h4] at h2
      exact .inr (.inr ⟨rfl, rfl, of_decide_eq_true h2⟩)
set_option maxHeartbeats 16000000 in
theorem P_Changed (v u : Value) (ls ks : List TA) (w : World) (h : RS v ls w) (h' : RS u ks w) (tk : TokL ls) (tk' : TokL ks) (hn : ls.length ≤ maxLen) (hn' : ks.length ≤ maxLen) : Calls Try.prog 45 #[.agg #[v], .agg #[u]] w fun e w' => ∃ a cp, e = .returned (.slice a (chgP (fineL ls) (fineL ks)).length cp) ∧ RSE psE (.slice a (chgP (fineL ls) (fineL ks)).length cp) (chgP (fineL ls) (fineL ks)) w' ∧ Below w.heap.size w w' := by
  have B := Below.refl w.heap.size w
  obtain ⟨a1, c1, hT⟩ := P_tiles v ls w h tk hn
  have HT1 := Lib.hid hT
  clear hT
  obtain ⟨a2, c2, hT⟩ := P_tiles u ks w h' tk' hn'
  have HT2 := Lib.hid hT
  clear hT
  have hfl := fineL_length ls
  have hfk := fineL_length ks
  obtain ⟨a, c, rfl, hc⟩ := h.len
  obtain ⟨a', c', rfl, hc'⟩ := h'.len
  clear h h' tk tk'
  generalize fineL ls = LS at *
  generalize fineL ks = KS at *
  have hch := chgP_len LS KS
  have rs1 := (HT1.out _ B).2
  have rs2 := (HT2.out _ B).2
  go_enter Try.func45, Try.ntmps45
  go_upto_region 0 with fail
  refine wp_region_lit ?_
  try simp only [List.getElem_toArray, List.getElem_cons_zero, List.getElem_cons_succ]
  (refine wpList_boxB (t := 30) rfl _ rfl _ rfl ?_; intro b_r2 wn hle hge ht hbn hzn; have hsz := B.size; replace B := B.trans (hbn.mono (by omega)); have hln := Nat.lt_of_lt_of_eq (Nat.lt_succ_self _) hzn.symm; clear hzn; have r2 := ht; clear ht; simp only [Act.put, putS])
  (refine wpList_boxB (t := 30) rfl _ rfl _ rfl ?_; intro b_r3 wn hle hge ht hbn hzn; have hsz := B.size; replace B := B.trans (hbn.mono (by omega)); have hln := Nat.lt_of_lt_of_eq (Nat.lt_succ_self _) hzn.symm; clear hzn; (try first | (have hlt := r2.lt; replace r2 := r2.of_eq (hbn.block _ (by omega))) | replace r2 := r2.below (hbn.mono hle)); have r3 := ht; clear ht; simp only [Act.put, putS])
  refine wpList_chunk 1 (by kernel_rfl) ?_
  simp only [takS, Nat.reduceAdd]
  repeat (first | go_big_quiet_skip | (go_big_quiet_want; first | (go_big_quiet_op; go_big_quiet_on)))
  refine wpQuiet_nil ?_
  refine wpList_nil ?_
  go_upto_region 1 with fail
  refine wp_region_lit ?_
  try simp only [List.getElem_toArray, List.getElem_cons_zero, List.getElem_cons_succ]
  refine wpList_chunk 1 (by kernel_rfl) ?_
  simp only [takS, Nat.reduceAdd]
  repeat (first | go_big_quiet_skip | (go_big_quiet_want; first | (go_big_quiet_op; go_big_quiet_on)))
  refine wpQuiet_nil ?_
  refine wpList_nil ?_
  go_upto_region 2 with fail
  try simp only [List.getElem_toArray, List.getElem_cons_zero, List.getElem_cons_succ]
  try have lx_r2 := r2.lt
  try have lx_r3 := r3.lt
  refine wp_region_RL 6 [(1, detS ?v1_1), (3, detS ?v1_3)] (by kernel_rfl) (by kernel_rfl) (by kernel_rfl) ?_
  rotate_left 2
  simp only [takS, Nat.reduceAdd]
  refine wpRL_chunk 1 (by kernel_rfl) ?_
  simp only [takS, Nat.reduceAdd]
  repeat (first | go_big_quiet_skip | (go_big_quiet_want; first | (refine quiet_loadAny (t := 30) rfl _ _ _ rfl (fun w hw => run_load_B (ov_B r2 w hw) Try.isAgg30 (by kernel_rfl)) (by rfl) ?_; simp only [Act.put, putS]; go_big_quiet_on) | (refine quiet_loadAny (t := 30) rfl _ _ _ rfl (fun w hw => run_load_B (ov_B r3 w hw) Try.isAgg30 (by kernel_rfl)) (by rfl) ?_; simp only [Act.put, putS]; go_big_quiet_on) | (go_big_quiet_op; go_big_quiet_on)))
  refine wpQuiet_nil ?_
  refine wpRL_callB (by rfl) (by first | rfl | simp [Region.wanted, yielded]) ?_ ?_
  · intro wn hbn hE Kx hKx
    have hsz := B.size
    have hzn := hbn.size
    replace B := B.trans (hbn.mono B.size)
    (try first | replace r2 := r2.of_eq (hbn.block _ r2.lt) | replace r2 := r2.below hbn)
    (try first | replace r3 := r3.of_eq (hbn.block _ r3.lt) | replace r3 := r3.below hbn)
    refine wp_callF rfl (enters_of Try.func68 (by kernel_rfl) rfl) (by simp only [List.map_toArray, List.map_cons, List.map_nil, Act.eval, Array.getD_eq_getD_getElem?, List.getElem?_toArray, List.getElem?_cons_succ, List.getElem?_cons_zero, Option.getD_some]; rfl) ?_
    refine ((HT1.out _ B).1).mono ?_
    rintro e wm ⟨rfl, hbm⟩
    refine ⟨_, rfl, ?_⟩
    have hz := hKx () wm trivial hbm
    dsimp only [detS] at hz
    exact hz
  rintro ⟨⟩
  dsimp only [detS]
  simp only [Act.put, putS]
  refine wpRL_chunk 1 (by kernel_rfl) ?_
  simp only [takS, Nat.reduceAdd]
  repeat (first | go_big_quiet_skip | (go_big_quiet_want; first | (refine quiet_loadAny (t := 30) rfl _ _ _ rfl (fun w hw => run_load_B (ov_B r2 w hw) Try.isAgg30 (by kernel_rfl)) (by rfl) ?_; simp only [Act.put, putS]; go_big_quiet_on) | (refine quiet_loadAny (t := 30) rfl _ _ _ rfl (fun w hw => run_load_B (ov_B r3 w hw) Try.isAgg30 (by kernel_rfl)) (by rfl) ?_; simp only [Act.put, putS]; go_big_quiet_on) | (go_big_quiet_op; go_big_quiet_on)))
  refine wpQuiet_nil ?_
  refine wpRL_callB (by rfl) (by first | rfl | simp [Region.wanted, yielded]) ?_ ?_
  · intro wn hbn hE Kx hKx
    have hsz := B.size
    have hzn := hbn.size
    replace B := B.trans (hbn.mono B.size)
    (try first | replace r2 := r2.of_eq (hbn.block _ r2.lt) | replace r2 := r2.below hbn)
    (try first | replace r3 := r3.of_eq (hbn.block _ r3.lt) | replace r3 := r3.below hbn)
    refine wp_callF rfl (enters_of Try.func68 (by kernel_rfl) rfl) (by simp only [List.map_toArray, List.map_cons, List.map_nil, Act.eval, Array.getD_eq_getD_getElem?, List.getElem?_toArray, List.getElem?_cons_succ, List.getElem?_cons_zero, Option.getD_some]; rfl) ?_
    refine ((HT2.out _ B).1).mono ?_
    rintro e wm ⟨rfl, hbm⟩
    refine ⟨_, rfl, ?_⟩
    have hz := hKx () wm trivial hbm
    dsimp only [detS] at hz
    exact hz
  rintro ⟨⟩
  dsimp only [detS]
  simp only [Act.put, putS]
  refine wpRL_chunk 2 (by kernel_rfl) ?_
  simp only [takS, Nat.reduceAdd]
  repeat (first | go_big_quiet_skip | (go_big_quiet_want; first | (go_big_quiet_op; go_big_quiet_on)))
  refine wpQuiet_nil ?_
  refine wpRL_nil ?_
  intro wn hbn hE
  have hsz := B.size
  have hzn := hbn.size
  replace B := B.trans (hbn.mono B.size)
  (try first | replace r2 := r2.of_eq (hbn.block _ r2.lt) | replace r2 := r2.below hbn)
  (try first | replace r3 := r3.of_eq (hbn.block _ r3.lt) | replace r3 := r3.below hbn)
  clear hE
  try simp only [List.drop_succ_cons, List.drop_zero]
  refine NoPan.normal ?_
  clear r2 r3 HT1 HT2
  have od : OwnE psE w.heap.size (.slice none 0 0) [] wn := OwnE.nil _ _
  go_wp2
  go_loopw [5, 6, 7] (fun out one two wr => ∃ (X Y : List TA) (O : List (Int × Int)) (ax ay ao : Option Addr) (cx cy co : Nat), one = .slice ax X.length cx ∧ two = .slice ay Y.length cy ∧ out = .slice ao O.length co ∧ RS (.slice ax X.length cx) X w ∧ RS (.slice ay Y.length cy) Y w ∧ (True) ∧ Below w.heap.size w wr ∧ OwnE psE w.heap.size (.slice ao O.length co) O wr ∧ O ++ chgP X Y = chgP LS KS) (fun _ one two _ => lenV one + lenV two)
  case atStart => exact ⟨LS, KS, [], _, _, _, _, _, _, rfl, rfl, rfl, rs1, rs2, trivial, B, od, rfl⟩
  case round =>
    clear B od rs1 rs2
    obtain ⟨X, Y, O, ax, ay, ao, cx, cy, co, rfl, rfl, rfl, rs1, rs2, _, B, od, hO⟩ := hrel
    have hOl := congrArg List.length hO
    rw [List.length_append] at hOl
    have hO1 : O.length ≤ 2048 := by omega
    clear hOl
    have HST := Lib.hid hO
    have hsz := B.size
    obtain ⟨_, _, e1, hcx⟩ := rs1.len
    simp only [Value.slice.injEq] at e1
    obtain ⟨rfl, _, rfl⟩ := e1
    obtain ⟨_, _, e2, hcy⟩ := rs2.len
    simp only [Value.slice.injEq] at e2
    obtain ⟨rfl, _, rfl⟩ := e2
    clear hO
    cases X with
    | nil =>
      cases Y with
      | nil =>
        go_upto_region 3 with fail
        refine wp_region_lit ?_
        try simp only [List.getElem_toArray, List.getElem_cons_zero, List.getElem_cons_succ]
        refine wpList_chunk 1 (by kernel_rfl) ?_
        simp only [takS, Nat.reduceAdd]
        repeat (first | go_big_quiet_skip | (go_big_quiet_want; first | (go_big_quiet_op; go_big_quiet_on)))
        refine wpQuiet_nil ?_
        refine wpList_lenS (by first | rfl | simp [Region.wanted, yielded]) rfl Try.underlying28 rfl ?_
        simp only [Act.put, putS]
        refine wpList_chunk 3 (by kernel_rfl) ?_
        simp only [takS, Nat.reduceAdd]
        repeat (first | go_big_quiet_skip | (go_big_quiet_want; first | (go_big_quiet_op; go_big_quiet_on)))
        refine wpQuiet_nil ?_
        refine wpList_lenS (by first | rfl | simp [Region.wanted, yielded]) rfl Try.underlying28 rfl ?_
        simp only [Act.put, putS]
        refine wpList_chunk 2 (by kernel_rfl) ?_
        simp only [takS, Nat.reduceAdd]
        repeat (first | go_big_quiet_skip | (go_big_quiet_want; first | (go_big_quiet_op; go_big_quiet_on)))
        refine wpQuiet_nil ?_
        refine wpList_nil ?_
        go_upto_region 13 with fail
        refine wp_region_lit ?_
        try simp only [List.getElem_toArray, List.getElem_cons_zero, List.getElem_cons_succ]
        refine wpList_chunk 2 (by kernel_rfl) ?_
        simp only [takS, Nat.reduceAdd]
        repeat (first | go_big_quiet_skip | (go_big_quiet_want; first | (go_big_quiet_op; go_big_quiet_on)))
        refine wpQuiet_nil ?_
        refine wpList_nil ?_
        iterate 3 go_step
        go_ret
        have hE := HST.out
        rw [chgP_nil2, List.append_nil] at hE
        subst hE
        exact ⟨_, _, rfl, od.rs, B⟩
      | cons e Y =>
        have HCH := Lib.hid (chgP_right e Y)
        obtain ⟨gy, oy, rfl, ry0⟩ := rs2.at (by simp)
        have ry := ry0.of_eq (B.block _ ry0.lt)
        have rt := rs_tail ry0 hcy
        have bY : ((Y.length : Int) + 1 == 0) = false := beq_eq_false_iff_ne.2 (by omega)
        go_upto_region 3 with fail
        refine wp_region_lit ?_
        try simp only [List.getElem_toArray, List.getElem_cons_zero, List.getElem_cons_succ]
        refine wpList_chunk 1 (by kernel_rfl) ?_
        simp only [takS, Nat.reduceAdd]
        repeat (first | go_big_quiet_skip | (go_big_quiet_want; first | (go_big_quiet_op; go_big_quiet_on)))
        refine wpQuiet_nil ?_
        refine wpList_lenS (by first | rfl | simp [Region.wanted, yielded]) rfl Try.underlying28 rfl ?_
        simp only [Act.put, putS]
        refine wpList_chunk 3 (by kernel_rfl) ?_
        simp only [takS, Nat.reduceAdd]
        repeat (first | go_big_quiet_skip | (go_big_quiet_want; first | (go_big_quiet_op; go_big_quiet_on)))
        refine wpQuiet_nil ?_
        refine wpList_lenS (by first | rfl | simp [Region.wanted, yielded]) rfl Try.underlying28 rfl ?_
        simp only [Act.put, putS]
        refine wpList_chunk 2 (by kernel_rfl) ?_
        simp only [takS, Nat.reduceAdd]
        repeat (first | go_big_quiet_skip | (go_big_quiet_want; first | (go_big_quiet_op; go_big_quiet_on)))
        refine wpQuiet_nil ?_
        refine wpList_nil ?_
        go_wp2
        refine wp_region_ov (by kernel_rfl) (by kernel_rfl) ?_
        repeat (first | go_big_quiet_skip | (go_big_quiet_want; first | (refine quiet_loadAny (t := 24) rfl _ _ _ rfl (fun w hw => rc_pos (ov_rc rx w hw) (show 0 < (d :: X).length by simp) (show aT (d :: X) 0 = d from rfl)) (by first | rfl | omega) ?_; simp only [Act.put, putS]; go_big_quiet_on) | (refine quiet_loadAny (t := 40) rfl _ _ _ rfl (fun w hw => rc_tile (ov_rc rx w hw) (show 0 < (d :: X).length by simp) (show aT (d :: X) 0 = d from rfl)) (by first | rfl | omega) ?_; simp only [Act.put, putS]; go_big_quiet_on) | (refine quiet_loadAny (t := 24) rfl _ _ _ rfl (fun w hw => rc_pos (ov_rc ry w hw) (show 0 < (e :: Y).length by simp) (show aT (e :: Y) 0 = e from rfl)) (by first | rfl | omega) ?_; simp only [Act.put, putS]; go_big_quiet_on) | (refine quiet_loadAny (t := 40) rfl _ _ _ rfl (fun w hw => rc_tile (ov_rc ry w hw) (show 0 < (e :: Y).length by simp) (show aT (e :: Y) 0 = e from rfl)) (by first | rfl | omega) ?_; simp only [Act.put, putS]; go_big_quiet_on) | (go_big_quiet_op; first | go_big_quiet_on | go_big_quiet_call ((fail)))))
        refine wpQuiet_nil ?_
        intro wn hbn
        have hsz := B.size
        have hzn := hbn.size
        replace B := B.trans (hbn.mono B.size)
        try first | replace od := od.of_eq (hbn.block _ od.lt) | replace od := od.below hbn
        try first | replace ry := ry.of_eq (hbn.block _ ry.lt) | replace ry := ry.below hbn
        go_wp2
        refine wp_region_ov (by kernel_rfl) (by kernel_rfl) ?_
        repeat (first | go_big_quiet_skip | (go_big_quiet_want; first | (refine quiet_loadAny (t := 24) rfl _ _ _ rfl (fun w hw => rc_pos (ov_rc rx w hw) (show 0 < (d :: X).length by simp) (show aT (d :: X) 0 = d from rfl)) (by first | rfl | omega) ?_; simp only [Act.put, putS]; go_big_quiet_on) | (refine quiet_loadAny (t := 40) rfl _ _ _ rfl (fun w hw => rc_tile (ov_rc rx w hw) (show 0 < (d :: X).length by simp) (show aT (d :: X) 0 = d from rfl)) (by first | rfl | omega) ?_; simp only [Act.put, putS]; go_big_quiet_on) | (refine quiet_loadAny (t := 24) rfl _ _ _ rfl (fun w hw => rc_pos (ov_rc ry w hw) (show 0 < (e :: Y).length by simp) (show aT (e :: Y) 0 = e from rfl)) (by first | rfl | omega) ?_; simp only [Act.put, putS]; go_big_quiet_on) | (refine quiet_loadAny (t := 40) rfl _ _ _ rfl (fun w hw => rc_tile (ov_rc ry w hw) (show 0 < (e :: Y).length by simp) (show aT (e :: Y) 0 = e from rfl)) (by first | rfl | omega) ?_; simp only [Act.put, putS]; go_big_quiet_on) | (go_big_quiet_op; first | go_big_quiet_on | go_big_quiet_call ((fail)))))
        refine wpQuiet_nil ?_
        intro wn hbn
        have hsz := B.size
        have hzn := hbn.size
        replace B := B.trans (hbn.mono B.size)
        try first | replace od := od.of_eq (hbn.block _ od.lt) | replace od := od.below hbn
        try first | replace ry := ry.of_eq (hbn.block _ ry.lt) | replace ry := ry.below hbn
        go_upto_region 11 with fail
        refine wp_region_lit ?_
        try simp only [List.getElem_toArray, List.getElem_cons_zero, List.getElem_cons_succ]
        refine wpList_chunk 5 (by kernel_rfl) ?_
        simp only [takS, Nat.reduceAdd]
        repeat (first | go_big_quiet_skip | (go_big_quiet_want; first | (refine quiet_loadAny (t := 24) rfl _ _ _ rfl (fun w hw => rc_pos (ov_rc rx w hw) (show 0 < (d :: X).length by simp) (show aT (d :: X) 0 = d from rfl)) (by first | rfl | omega) ?_; simp only [Act.put, putS]; go_big_quiet_on) | (refine quiet_loadAny (t := 24) rfl _ _ _ rfl (fun w hw => rc_pos (ov_rc ry w hw) (show 0 < (e :: Y).length by simp) (show aT (e :: Y) 0 = e from rfl)) (by first | rfl | omega) ?_; simp only [Act.put, putS]; go_big_quiet_on) | (go_big_quiet_op; go_big_quiet_on)))
        refine wpQuiet_nil ?_
        (refine wpList_bs1E (E := psE) rfl _ rfl ((e.x, e.y)) rfl (by omega) ?_; intro b_s1 wn hle hge ht hbn hzn; replace od := od.below (hbn.mono hle); have hsz := B.size; replace B := B.trans (hbn.mono (by omega)); have hln := Nat.lt_of_lt_of_eq (Nat.lt_succ_self _) hzn.symm; clear hzn; (try first | (have hlt := ry.lt; replace ry := ry.of_eq (hbn.block _ (by omega))) | replace ry := ry.below (hbn.mono hle)); have s1 := ht; clear ht; simp only [Act.put, putS])
        (at_builtin; refine wpList_appendE rfl _ _ rfl _ _ rfl rfl od ((RSE.one s1)) (by simp only [List.length_cons, List.length_nil]; omega) (by omega) ?_; intro v_od wn ht hbn; have hsz := B.size; have hbz := hbn.size; replace B := B.trans (hbn.mono (by omega)); clear od; (try replace ry := ry.of_eq (hbn.block _ (by omega))); have od := ht; clear ht; obtain ⟨a_od, c_od, hv, hco⟩ := od.len; (try simp only [List.length_append, List.length_cons, List.length_nil, Nat.zero_add] at hv hco); subst hv; simp only [Act.put, putS])
        refine wpList_chunk 1 (by kernel_rfl) ?_
        simp only [takS, Nat.reduceAdd]
        repeat (first | go_big_quiet_skip | (go_big_quiet_want; first | (go_big_quiet_op; go_big_quiet_on)))
        refine wpQuiet_nil ?_
        refine wpList_nil ?_
        go_upto_region 12 with fail
        refine wp_region_lit ?_
        try simp only [List.getElem_toArray, List.getElem_cons_zero, List.getElem_cons_succ]
        refine wpList_chunk 3 (by kernel_rfl) ?_
        simp only [takS, Nat.reduceAdd]
        repeat (first | go_big_quiet_skip | (go_big_quiet_want; first | (go_big_quiet_op; go_big_quiet_on)))
        refine wpQuiet_nil ?_
        refine wpList_nil ?_
        go_wp2
        go_roundw
        case rel => exact ⟨[], Y, O ++ [posA e], _, _, _, _, _, _, rfl, rfl, by rw [List.length_append]; rfl, rs1, rt, trivial, B, by rw [List.length_append]; exact od, by rw [List.append_assoc]; exact (congrArg (O ++ ·) HCH.out).symm.trans HST.out⟩
        case measure => simp [lenV]
    | cons d X =>
      obtain ⟨gx, ox, rfl, rx0⟩ := rs1.at (by simp)
      have rx := rx0.of_eq (B.block _ rx0.lt)
      have rtx := rs_tail rx0 hcx
      have bX : ((X.length : Int) + 1 == 0) = false := beq_eq_false_iff_ne.2 (by omega)
      cases Y with
      | nil =>
        have HCH := Lib.hid (chgP_left d X)
        simp only [List.length_nil] at rs2 ⊢
        go_upto_region 3 with fail
        refine wp_region_lit ?_
        try simp only [List.getElem_toArray, List.getElem_cons_zero, List.getElem_cons_succ]
        refine wpList_chunk 1 (by kernel_rfl) ?_
        simp only [takS, Nat.reduceAdd]
        repeat (first | go_big_quiet_skip | (go_big_quiet_want; first | (go_big_quiet_op; go_big_quiet_on)))
        refine wpQuiet_nil ?_
        refine wpList_lenS (by first | rfl | simp [Region.wanted, yielded]) rfl Try.underlying28 rfl ?_
        simp only [Act.put, putS]
        refine wpList_chunk 3 (by kernel_rfl) ?_
        simp only [takS, Nat.reduceAdd]
        repeat (first | go_big_quiet_skip | (go_big_quiet_want; first | (go_big_quiet_op; go_big_quiet_on)))
        refine wpQuiet_nil ?_
        refine wpList_skip ?hs8_5 ?_
        case hs8_5 => kernel_rfl
        simp only [Act.put, putS]
        refine wpList_chunk 2 (by kernel_rfl) ?_
        simp only [takS, Nat.reduceAdd]
        repeat (first | go_big_quiet_skip | (go_big_quiet_want; first | (go_big_quiet_op; go_big_quiet_on)))
        refine wpQuiet_nil ?_
        refine wpList_nil ?_
        go_wp2
        refine wp_region_ov (by kernel_rfl) (by kernel_rfl) ?_
        repeat (first | go_big_quiet_skip | (go_big_quiet_want; first | (go_big_quiet_op; first | go_big_quiet_on | go_big_quiet_call ((fail)))))
        refine wpQuiet_nil ?_
        intro wn hbn
        have hsz := B.size
        have hzn := hbn.size
        replace B := B.trans (hbn.mono B.size)
        try first | replace od := od.of_eq (hbn.block _ od.lt) | replace od := od.below hbn
        try first | replace rx := rx.of_eq (hbn.block _ rx.lt) | replace rx := rx.below hbn
        go_upto_region 8 with fail
        refine wp_region_lit ?_
        try simp only [List.getElem_toArray, List.getElem_cons_zero, List.getElem_cons_succ]
        refine wpList_chunk 5 (by kernel_rfl) ?_
        simp only [takS, Nat.reduceAdd]
        repeat (first | go_big_quiet_skip | (go_big_quiet_want; first | (refine quiet_loadAny (t := 24) rfl _ _ _ rfl (fun w hw => rc_pos (ov_rc rx w hw) (show 0 < (d :: X).length by simp) (show aT (d :: X) 0 = d from rfl)) (by first | rfl | omega) ?_; simp only [Act.put, putS]; go_big_quiet_on) | (refine quiet_loadAny (t := 24) rfl _ _ _ rfl (fun w hw => rc_pos (ov_rc ry w hw) (show 0 < (e :: Y).length by simp) (show aT (e :: Y) 0 = e from rfl)) (by first | rfl | omega) ?_; simp only [Act.put, putS]; go_big_quiet_on) | (go_big_quiet_op; go_big_quiet_on)))
        refine wpQuiet_nil ?_
        (refine wpList_bs1E (E := psE) rfl _ rfl ((d.x, d.y)) rfl (by omega) ?_; intro b_s1 wn hle hge ht hbn hzn; replace od := od.below (hbn.mono hle); have hsz := B.size; replace B := B.trans (hbn.mono (by omega)); have hln := Nat.lt_of_lt_of_eq (Nat.lt_succ_self _) hzn.symm; clear hzn; (try first | (have hlt := rx.lt; replace rx := rx.of_eq (hbn.block _ (by omega))) | replace rx := rx.below (hbn.mono hle)); (try first | (have hlt := ry.lt; replace ry := ry.of_eq (hbn.block _ (by omega))) | replace ry := ry.below (hbn.mono hle)); have s1 := ht; clear ht; simp only [Act.put, putS])
        (at_builtin; refine wpList_appendE rfl _ _ rfl _ _ rfl rfl od ((RSE.one s1)) (by simp only [List.length_cons, List.length_nil]; omega) (by omega) ?_; intro v_od wn ht hbn; have hsz := B.size; have hbz := hbn.size; replace B := B.trans (hbn.mono (by omega)); clear od; (try replace rx := rx.of_eq (hbn.block _ (by omega))); (try replace ry := ry.of_eq (hbn.block _ (by omega))); have od := ht; clear ht; obtain ⟨a_od, c_od, hv, hco⟩ := od.len; (try simp only [List.length_append, List.length_cons, List.length_nil, Nat.zero_add] at hv hco); subst hv; simp only [Act.put, putS])
        refine wpList_chunk 1 (by kernel_rfl) ?_
        simp only [takS, Nat.reduceAdd]
        repeat (first | go_big_quiet_skip | (go_big_quiet_want; first | (go_big_quiet_op; go_big_quiet_on)))
        refine wpQuiet_nil ?_
        refine wpList_nil ?_
        go_upto_region 9 with fail
        refine wp_region_lit ?_
        try simp only [List.getElem_toArray, List.getElem_cons_zero, List.getElem_cons_succ]
        refine wpList_chunk 3 (by kernel_rfl) ?_
        simp only [takS, Nat.reduceAdd]
        repeat (first | go_big_quiet_skip | (go_big_quiet_want; first | (go_big_quiet_op; go_big_quiet_on)))
        refine wpQuiet_nil ?_
        refine wpList_nil ?_
        go_wp2
        go_roundw
        case rel => exact ⟨X, [], O ++ [posA d], _, _, _, _, _, _, rfl, rfl, by rw [List.length_append]; rfl, rtx, rs2, trivial, B, by rw [List.length_append]; exact od, by rw [List.append_assoc]; exact (congrArg (O ++ ·) HCH.out).symm.trans HST.out⟩
        case measure => simp [lenV]
      | cons e Y =>
        obtain ⟨gy, oy, rfl, ry0⟩ := rs2.at (by simp)
        have ry := ry0.of_eq (B.block _ ry0.lt)
        have rty := rs_tail ry0 hcy
        have bY : ((Y.length : Int) + 1 == 0) = false := beq_eq_false_iff_ne.2 (by omega)
        rcases ord_cases d e with ⟨o1, o2⟩ | ⟨o1, o3, o2⟩ | ⟨o1, o3, o2⟩
        · have HCH := Lib.hid (chgP_both d X e Y)
          rw [if_pos o1] at HCH
          have HO := Lib.hid o2
          clear o1 o2 
          go_upto_region 3 with fail
          refine wp_region_lit ?_
          try simp only [List.getElem_toArray, List.getElem_cons_zero, List.getElem_cons_succ]
          refine wpList_chunk 1 (by kernel_rfl) ?_
          simp only [takS, Nat.reduceAdd]
          repeat (first | go_big_quiet_skip | (go_big_quiet_want; first | (go_big_quiet_op; go_big_quiet_on)))
          refine wpQuiet_nil ?_
          refine wpList_lenS (by first | rfl | simp [Region.wanted, yielded]) rfl Try.underlying28 rfl ?_
          simp only [Act.put, putS]
          refine wpList_chunk 3 (by kernel_rfl) ?_
          simp only [takS, Nat.reduceAdd]
          repeat (first | go_big_quiet_skip | (go_big_quiet_want; first | (go_big_quiet_op; go_big_quiet_on)))
          refine wpQuiet_nil ?_
          refine wpList_skip ?hs11_5 ?_
          case hs11_5 => kernel_rfl
          simp only [Act.put, putS]
          refine wpList_chunk 2 (by kernel_rfl) ?_
          simp only [takS, Nat.reduceAdd]
          repeat (first | go_big_quiet_skip | (go_big_quiet_want; first | (go_big_quiet_op; go_big_quiet_on)))
          refine wpQuiet_nil ?_
          refine wpList_nil ?_
          go_wp2
          refine wp_region_ov (by kernel_rfl) (by kernel_rfl) ?_
          repeat (first | go_big_quiet_skip | (go_big_quiet_want; first | (refine quiet_loadAny (t := 24) rfl _ _ _ rfl (fun w hw => rc_pos (ov_rc rx w hw) (show 0 < (d :: X).length by simp) (show aT (d :: X) 0 = d from rfl)) (by first | rfl | omega) ?_; simp only [Act.put, putS]; go_big_quiet_on) | (refine quiet_loadAny (t := 40) rfl _ _ _ rfl (fun w hw => rc_tile (ov_rc rx w hw) (show 0 < (d :: X).length by simp) (show aT (d :: X) 0 = d from rfl)) (by first | rfl | omega) ?_; simp only [Act.put, putS]; go_big_quiet_on) | (refine quiet_loadAny (t := 24) rfl _ _ _ rfl (fun w hw => rc_pos (ov_rc ry w hw) (show 0 < (e :: Y).length by simp) (show aT (e :: Y) 0 = e from rfl)) (by first | rfl | omega) ?_; simp only [Act.put, putS]; go_big_quiet_on) | (refine quiet_loadAny (t := 40) rfl _ _ _ rfl (fun w hw => rc_tile (ov_rc ry w hw) (show 0 < (e :: Y).length by simp) (show aT (e :: Y) 0 = e from rfl)) (by first | rfl | omega) ?_; simp only [Act.put, putS]; go_big_quiet_on) | (go_big_quiet_op; first | go_big_quiet_on | go_big_quiet_call ((first | (go_at_call 55; exact calls_ov (P_orderO d.x d.y e.x e.y (-1) _ HO.out)))))))
          refine wpQuiet_nil ?_
          intro wn hbn
          have hsz := B.size
          have hzn := hbn.size
          replace B := B.trans (hbn.mono B.size)
          try first | replace od := od.of_eq (hbn.block _ od.lt) | replace od := od.below hbn
          try first | replace rx := rx.of_eq (hbn.block _ rx.lt) | replace rx := rx.below hbn
          try first | replace ry := ry.of_eq (hbn.block _ ry.lt) | replace ry := ry.below hbn
          go_upto_region 8 with fail
          refine wp_region_lit ?_
          try simp only [List.getElem_toArray, List.getElem_cons_zero, List.getElem_cons_succ]
          refine wpList_chunk 5 (by kernel_rfl) ?_
          simp only [takS, Nat.reduceAdd]
          repeat (first | go_big_quiet_skip | (go_big_quiet_want; first | (refine quiet_loadAny (t := 24) rfl _ _ _ rfl (fun w hw => rc_pos (ov_rc rx w hw) (show 0 < (d :: X).length by simp) (show aT (d :: X) 0 = d from rfl)) (by first | rfl | omega) ?_; simp only [Act.put, putS]; go_big_quiet_on) | (refine quiet_loadAny (t := 24) rfl _ _ _ rfl (fun w hw => rc_pos (ov_rc ry w hw) (show 0 < (e :: Y).length by simp) (show aT (e :: Y) 0 = e from rfl)) (by first | rfl | omega) ?_; simp only [Act.put, putS]; go_big_quiet_on) | (go_big_quiet_op; go_big_quiet_on)))
          refine wpQuiet_nil ?_
          (refine wpList_bs1E (E := psE) rfl _ rfl ((d.x, d.y)) rfl (by omega) ?_; intro b_s1 wn hle hge ht hbn hzn; replace od := od.below (hbn.mono hle); have hsz := B.size; replace B := B.trans (hbn.mono (by omega)); have hln := Nat.lt_of_lt_of_eq (Nat.lt_succ_self _) hzn.symm; clear hzn; (try first | (have hlt := rx.lt; replace rx := rx.of_eq (hbn.block _ (by omega))) | replace rx := rx.below (hbn.mono hle)); (try first | (have hlt := ry.lt; replace ry := ry.of_eq (hbn.block _ (by omega))) | replace ry := ry.below (hbn.mono hle)); have s1 := ht; clear ht; simp only [Act.put, putS])
          (at_builtin; refine wpList_appendE rfl _ _ rfl _ _ rfl rfl od ((RSE.one s1)) (by simp only [List.length_cons, List.length_nil]; omega) (by omega) ?_; intro v_od wn ht hbn; have hsz := B.size; have hbz := hbn.size; replace B := B.trans (hbn.mono (by omega)); clear od; (try replace rx := rx.of_eq (hbn.block _ (by omega))); (try replace ry := ry.of_eq (hbn.block _ (by omega))); have od := ht; clear ht; obtain ⟨a_od, c_od, hv, hco⟩ := od.len; (try simp only [List.length_append, List.length_cons, List.length_nil, Nat.zero_add] at hv hco); subst hv; simp only [Act.put, putS])
          refine wpList_chunk 1 (by kernel_rfl) ?_
          simp only [takS, Nat.reduceAdd]
          repeat (first | go_big_quiet_skip | (go_big_quiet_want; first | (go_big_quiet_op; go_big_quiet_on)))
          refine wpQuiet_nil ?_
          refine wpList_nil ?_
          go_upto_region 9 with fail
          refine wp_region_lit ?_
          try simp only [List.getElem_toArray, List.getElem_cons_zero, List.getElem_cons_succ]
          refine wpList_chunk 3 (by kernel_rfl) ?_
          simp only [takS, Nat.reduceAdd]
          repeat (first | go_big_quiet_skip | (go_big_quiet_want; first | (go_big_quiet_op; go_big_quiet_on)))
          refine wpQuiet_nil ?_
          refine wpList_nil ?_
          go_wp2
          go_roundw
          case rel => exact ⟨X, e :: Y, O ++ [posA d], _, _, _, _, _, _, rfl, rfl, by rw [List.length_append]; rfl, rtx, rs2, trivial, B, by rw [List.length_append]; exact od, by rw [List.append_assoc]; exact (congrArg (O ++ ·) HCH.out).symm.trans HST.out⟩
          case measure => simp [lenV]
        · have HCH := Lib.hid (chgP_both d X e Y)
          rw [if_neg (by rw [o1]; decide), if_pos o3] at HCH
          have HO := Lib.hid o2
          clear o1 o2 o3
          go_upto_region 3 with fail
          refine wp_region_lit ?_
          try simp only [List.getElem_toArray, List.getElem_cons_zero, List.getElem_cons_succ]
          refine wpList_chunk 1 (by kernel_rfl) ?_
          simp only [takS, Nat.reduceAdd]
          repeat (first | go_big_quiet_skip | (go_big_quiet_want; first | (go_big_quiet_op; go_big_quiet_on)))
          refine wpQuiet_nil ?_
          refine wpList_lenS (by first | rfl | simp [Region.wanted, yielded]) rfl Try.underlying28 rfl ?_
          simp only [Act.put, putS]
          refine wpList_chunk 3 (by kernel_rfl) ?_
          simp only [takS, Nat.reduceAdd]
          repeat (first | go_big_quiet_skip | (go_big_quiet_want; first | (go_big_quiet_op; go_big_quiet_on)))
          refine wpQuiet_nil ?_
          refine wpList_skip ?hs14_5 ?_
          case hs14_5 => kernel_rfl
          simp only [Act.put, putS]
          refine wpList_chunk 2 (by kernel_rfl) ?_
          simp only [takS, Nat.reduceAdd]
          repeat (first | go_big_quiet_skip | (go_big_quiet_want; first | (go_big_quiet_op; go_big_quiet_on)))
          refine wpQuiet_nil ?_
          refine wpList_nil ?_
          go_wp2
          refine wp_region_ov (by kernel_rfl) (by kernel_rfl) ?_
          repeat (first | go_big_quiet_skip | (go_big_quiet_want; first | (refine quiet_loadAny (t := 24) rfl _ _ _ rfl (fun w hw => rc_pos (ov_rc rx w hw) (show 0 < (d :: X).length by simp) (show aT (d :: X) 0 = d from rfl)) (by first | rfl | omega) ?_; simp only [Act.put, putS]; go_big_quiet_on) | (refine quiet_loadAny (t := 40) rfl _ _ _ rfl (fun w hw => rc_tile (ov_rc rx w hw) (show 0 < (d :: X).length by simp) (show aT (d :: X) 0 = d from rfl)) (by first | rfl | omega) ?_; simp only [Act.put, putS]; go_big_quiet_on) | (refine quiet_loadAny (t := 24) rfl _ _ _ rfl (fun w hw => rc_pos (ov_rc ry w hw) (show 0 < (e :: Y).length by simp) (show aT (e :: Y) 0 = e from rfl)) (by first | rfl | omega) ?_; simp only [Act.put, putS]; go_big_quiet_on) | (refine quiet_loadAny (t := 40) rfl _ _ _ rfl (fun w hw => rc_tile (ov_rc ry w hw) (show 0 < (e :: Y).length by simp) (show aT (e :: Y) 0 = e from rfl)) (by first | rfl | omega) ?_; simp only [Act.put, putS]; go_big_quiet_on) | (go_big_quiet_op; first | go_big_quiet_on | go_big_quiet_call ((first | (go_at_call 55; exact calls_ov (P_orderO d.x d.y e.x e.y 1 _ HO.out)))))))
          refine wpQuiet_nil ?_
          intro wn hbn
          have hsz := B.size
          have hzn := hbn.size
          replace B := B.trans (hbn.mono B.size)
          try first | replace od := od.of_eq (hbn.block _ od.lt) | replace od := od.below hbn
          try first | replace rx := rx.of_eq (hbn.block _ rx.lt) | replace rx := rx.below hbn
          try first | replace ry := ry.of_eq (hbn.block _ ry.lt) | replace ry := ry.below hbn
          go_wp2
          refine wp_region_ov (by kernel_rfl) (by kernel_rfl) ?_
          repeat (first | go_big_quiet_skip | (go_big_quiet_want; first | (refine quiet_loadAny (t := 24) rfl _ _ _ rfl (fun w hw => rc_pos (ov_rc rx w hw) (show 0 < (d :: X).length by simp) (show aT (d :: X) 0 = d from rfl)) (by first | rfl | omega) ?_; simp only [Act.put, putS]; go_big_quiet_on) | (refine quiet_loadAny (t := 40) rfl _ _ _ rfl (fun w hw => rc_tile (ov_rc rx w hw) (show 0 < (d :: X).length by simp) (show aT (d :: X) 0 = d from rfl)) (by first | rfl | omega) ?_; simp only [Act.put, putS]; go_big_quiet_on) | (refine quiet_loadAny (t := 24) rfl _ _ _ rfl (fun w hw => rc_pos (ov_rc ry w hw) (show 0 < (e :: Y).length by simp) (show aT (e :: Y) 0 = e from rfl)) (by first | rfl | omega) ?_; simp only [Act.put, putS]; go_big_quiet_on) | (refine quiet_loadAny (t := 40) rfl _ _ _ rfl (fun w hw => rc_tile (ov_rc ry w hw) (show 0 < (e :: Y).length by simp) (show aT (e :: Y) 0 = e from rfl)) (by first | rfl | omega) ?_; simp only [Act.put, putS]; go_big_quiet_on) | (go_big_quiet_op; first | go_big_quiet_on | go_big_quiet_call ((first | (go_at_call 55; exact calls_ov (P_orderO d.x d.y e.x e.y 1 _ HO.out)))))))
          refine wpQuiet_nil ?_
          intro wn hbn
          have hsz := B.size
          have hzn := hbn.size
          replace B := B.trans (hbn.mono B.size)
          try first | replace od := od.of_eq (hbn.block _ od.lt) | replace od := od.below hbn
          try first | replace rx := rx.of_eq (hbn.block _ rx.lt) | replace rx := rx.below hbn
          try first | replace ry := ry.of_eq (hbn.block _ ry.lt) | replace ry := ry.below hbn
          go_upto_region 11 with fail
          refine wp_region_lit ?_
          try simp only [List.getElem_toArray, List.getElem_cons_zero, List.getElem_cons_succ]
          refine wpList_chunk 5 (by kernel_rfl) ?_
          simp only [takS, Nat.reduceAdd]
          repeat (first | go_big_quiet_skip | (go_big_quiet_want; first | (refine quiet_loadAny (t := 24) rfl _ _ _ rfl (fun w hw => rc_pos (ov_rc rx w hw) (show 0 < (d :: X).length by simp) (show aT (d :: X) 0 = d from rfl)) (by first | rfl | omega) ?_; simp only [Act.put, putS]; go_big_quiet_on) | (refine quiet_loadAny (t := 24) rfl _ _ _ rfl (fun w hw => rc_pos (ov_rc ry w hw) (show 0 < (e :: Y).length by simp) (show aT (e :: Y) 0 = e from rfl)) (by first | rfl | omega) ?_; simp only [Act.put, putS]; go_big_quiet_on) | (go_big_quiet_op; go_big_quiet_on)))
          refine wpQuiet_nil ?_
          (refine wpList_bs1E (E := psE) rfl _ rfl ((e.x, e.y)) rfl (by omega) ?_; intro b_s1 wn hle hge ht hbn hzn; replace od := od.below (hbn.mono hle); have hsz := B.size; replace B := B.trans (hbn.mono (by omega)); have hln := Nat.lt_of_lt_of_eq (Nat.lt_succ_self _) hzn.symm; clear hzn; (try first | (have hlt := rx.lt; replace rx := rx.of_eq (hbn.block _ (by omega))) | replace rx := rx.below (hbn.mono hle)); (try first | (have hlt := ry.lt; replace ry := ry.of_eq (hbn.block _ (by omega))) | replace ry := ry.below (hbn.mono hle)); have s1 := ht; clear ht; simp only [Act.put, putS])
          (at_builtin; refine wpList_appendE rfl _ _ rfl _ _ rfl rfl od ((RSE.one s1)) (by simp only [List.length_cons, List.length_nil]; omega) (by omega) ?_; intro v_od wn ht hbn; have hsz := B.size; have hbz := hbn.size; replace B := B.trans (hbn.mono (by omega)); clear od; (try replace rx := rx.of_eq (hbn.block _ (by omega))); (try replace ry := ry.of_eq (hbn.block _ (by omega))); have od := ht; clear ht; obtain ⟨a_od, c_od, hv, hco⟩ := od.len; (try simp only [List.length_append, List.length_cons, List.length_nil, Nat.zero_add] at hv hco); subst hv; simp only [Act.put, putS])
          refine wpList_chunk 1 (by kernel_rfl) ?_
          simp only [takS, Nat.reduceAdd]
          repeat (first | go_big_quiet_skip | (go_big_quiet_want; first | (go_big_quiet_op; go_big_quiet_on)))
          refine wpQuiet_nil ?_
          refine wpList_nil ?_
          go_upto_region 12 with fail
          refine wp_region_lit ?_
          try simp only [List.getElem_toArray, List.getElem_cons_zero, List.getElem_cons_succ]
          refine wpList_chunk 3 (by kernel_rfl) ?_
          simp only [takS, Nat.reduceAdd]
          repeat (first | go_big_quiet_skip | (go_big_quiet_want; first | (go_big_quiet_op; go_big_quiet_on)))
          refine wpQuiet_nil ?_
          refine wpList_nil ?_
          go_wp2
          go_roundw
          case rel => exact ⟨d :: X, Y, O ++ [posA e], _, _, _, _, _, _, rfl, rfl, by rw [List.length_append]; rfl, rs1, rty, trivial, B, by rw [List.length_append]; exact od, by rw [List.append_assoc]; exact (congrArg (O ++ ·) HCH.out).symm.trans HST.out⟩
          case measure => simp [lenV]
        · have HCH := Lib.hid (chgP_both d X e Y)
          rw [if_neg (by rw [o1]; decide), if_neg (by rw [o3]; decide)] at HCH
          have HO := Lib.hid o2
          clear o1 o2 o3
          go_upto_region 3 with fail
          refine wp_region_lit ?_
          try simp only [List.getElem_toArray, List.getElem_cons_zero, List.getElem_cons_succ]
          refine wpList_chunk 1 (by kernel_rfl) ?_
          simp only [takS, Nat.reduceAdd]
          repeat (first | go_big_quiet_skip | (go_big_quiet_want; first | (go_big_quiet_op; go_big_quiet_on)))
          refine wpQuiet_nil ?_
          refine wpList_lenS (by first | rfl | simp [Region.wanted, yielded]) rfl Try.underlying28 rfl ?_
          simp only [Act.put, putS]
          refine wpList_chunk 3 (by kernel_rfl) ?_
          simp only [takS, Nat.reduceAdd]
          repeat (first | go_big_quiet_skip | (go_big_quiet_want; first | (go_big_quiet_op; go_big_quiet_on)))
          refine wpQuiet_nil ?_
          refine wpList_skip ?hs17_5 ?_
          case hs17_5 => kernel_rfl
          simp only [Act.put, putS]
          refine wpList_chunk 2 (by kernel_rfl) ?_
          simp only [takS, Nat.reduceAdd]
          repeat (first | go_big_quiet_skip | (go_big_quiet_want; first | (go_big_quiet_op; go_big_quiet_on)))
          refine wpQuiet_nil ?_
          refine wpList_nil ?_
          go_wp2
          refine wp_region_ov (by kernel_rfl) (by kernel_rfl) ?_
          repeat (first | go_big_quiet_skip | (go_big_quiet_want; first | (refine quiet_loadAny (t := 24) rfl _ _ _ rfl (fun w hw => rc_pos (ov_rc rx w hw) (show 0 < (d :: X).length by simp) (show aT (d :: X) 0 = d from rfl)) (by first | rfl | omega) ?_; simp only [Act.put, putS]; go_big_quiet_on) | (refine quiet_loadAny (t := 40) rfl _ _ _ rfl (fun w hw => rc_tile (ov_rc rx w hw) (show 0 < (d :: X).length by simp) (show aT (d :: X) 0 = d from rfl)) (by first | rfl | omega) ?_; simp only [Act.put, putS]; go_big_quiet_on) | (refine quiet_loadAny (t := 24) rfl _ _ _ rfl (fun w hw => rc_pos (ov_rc ry w hw) (show 0 < (e :: Y).length by simp) (show aT (e :: Y) 0 = e from rfl)) (by first | rfl | omega) ?_; simp only [Act.put, putS]; go_big_quiet_on) | (refine quiet_loadAny (t := 40) rfl _ _ _ rfl (fun w hw => rc_tile (ov_rc ry w hw) (show 0 < (e :: Y).length by simp) (show aT (e :: Y) 0 = e from rfl)) (by first | rfl | omega) ?_; simp only [Act.put, putS]; go_big_quiet_on) | (go_big_quiet_op; first | go_big_quiet_on | go_big_quiet_call ((first | (go_at_call 55; exact calls_ov (P_orderO d.x d.y e.x e.y 0 _ HO.out)))))))
          refine wpQuiet_nil ?_
          intro wn hbn
          have hsz := B.size
          have hzn := hbn.size
          replace B := B.trans (hbn.mono B.size)
          try first | replace od := od.of_eq (hbn.block _ od.lt) | replace od := od.below hbn
          try first | replace rx := rx.of_eq (hbn.block _ rx.lt) | replace rx := rx.below hbn
          try first | replace ry := ry.of_eq (hbn.block _ ry.lt) | replace ry := ry.below hbn
          go_wp2
          refine wp_region_ov (by kernel_rfl) (by kernel_rfl) ?_
          repeat (first | go_big_quiet_skip | (go_big_quiet_want; first | (refine quiet_loadAny (t := 24) rfl _ _ _ rfl (fun w hw => rc_pos (ov_rc rx w hw) (show 0 < (d :: X).length by simp) (show aT (d :: X) 0 = d from rfl)) (by first | rfl | omega) ?_; simp only [Act.put, putS]; go_big_quiet_on) | (refine quiet_loadAny (t := 40) rfl _ _ _ rfl (fun w hw => rc_tile (ov_rc rx w hw) (show 0 < (d :: X).length by simp) (show aT (d :: X) 0 = d from rfl)) (by first | rfl | omega) ?_; simp only [Act.put, putS]; go_big_quiet_on) | (refine quiet_loadAny (t := 24) rfl _ _ _ rfl (fun w hw => rc_pos (ov_rc ry w hw) (show 0 < (e :: Y).length by simp) (show aT (e :: Y) 0 = e from rfl)) (by first | rfl | omega) ?_; simp only [Act.put, putS]; go_big_quiet_on) | (refine quiet_loadAny (t := 40) rfl _ _ _ rfl (fun w hw => rc_tile (ov_rc ry w hw) (show 0 < (e :: Y).length by simp) (show aT (e :: Y) 0 = e from rfl)) (by first | rfl | omega) ?_; simp only [Act.put, putS]; go_big_quiet_on) | (go_big_quiet_op; first | go_big_quiet_on | go_big_quiet_call ((first | (go_at_call 55; exact calls_ov (P_orderO d.x d.y e.x e.y 0 _ HO.out)))))))
          refine wpQuiet_nil ?_
          intro wn hbn
          have hsz := B.size
          have hzn := hbn.size
          replace B := B.trans (hbn.mono B.size)
          try first | replace od := od.of_eq (hbn.block _ od.lt) | replace od := od.below hbn
          try first | replace rx := rx.of_eq (hbn.block _ rx.lt) | replace rx := rx.below hbn
          try first | replace ry := ry.of_eq (hbn.block _ ry.lt) | replace ry := ry.below hbn
          have hneq := fun w => neq_tile d.t e.t w
          cases ht : eqT d.t e.t with
          | true =>
            rw [ht] at hneq
            rw [if_pos ht, List.nil_append] at HCH
            clear ht
            go_wp2
            try simp only [List.getElem_toArray, List.getElem_cons_zero, List.getElem_cons_succ]
            try have lx_od := od.lt
            try have lx_rx := rx.lt
            try have lx_ry := ry.lt
            refine wp_region_RL 9 [] (by kernel_rfl) (by kernel_rfl) (by kernel_rfl) ?_
            rotate_left 0
            simp only [takS, Nat.reduceAdd]
            refine wpRL_chunk 9 (by kernel_rfl) ?_
            simp only [takS, Nat.reduceAdd]
            repeat (first | go_big_quiet_skip | (go_big_quiet_want; first | (refine quiet_loadAny (t := 40) rfl _ _ _ rfl (fun w hw => rc_tile (ov_rc rx w hw) (show 0 < (d :: X).length by simp) (show aT (d :: X) 0 = d from rfl)) (by first | rfl | omega) ?_; simp only [Act.put, putS]; go_big_quiet_on) | (refine quiet_loadAny (t := 40) rfl _ _ _ rfl (fun w hw => rc_tile (ov_rc ry w hw) (show 0 < (e :: Y).length by simp) (show aT (e :: Y) 0 = e from rfl)) (by first | rfl | omega) ?_; simp only [Act.put, putS]; go_big_quiet_on) | (go_big_quiet_op; go_big_quiet_on)))
            refine wpQuiet_nil ?_
            refine wpRL_nil ?_
            intro wn hbn hE
            have hsz := B.size
            have hzn := hbn.size
            replace B := B.trans (hbn.mono B.size)
            (try first | replace od := od.of_eq (hbn.block _ od.lt) | replace od := od.below hbn)
            (try first | replace rx := rx.of_eq (hbn.block _ rx.lt) | replace rx := rx.below hbn)
            (try first | replace ry := ry.of_eq (hbn.block _ ry.lt) | replace ry := ry.below hbn)
            clear hE
            try simp only [List.drop_succ_cons, List.drop_zero]
            refine NoPan.normal ?_
            go_wp2
            try simp only [List.getElem_toArray, List.getElem_cons_zero, List.getElem_cons_succ]
            try have lx_od := od.lt
            try have lx_rx := rx.lt
            try have lx_ry := ry.lt
            refine wp_region_RL 6 [] (by kernel_rfl) (by kernel_rfl) (by kernel_rfl) ?_
            rotate_left 0
            simp only [takS, Nat.reduceAdd]
            refine wpRL_chunk 6 (by kernel_rfl) ?_
            simp only [takS, Nat.reduceAdd]
            repeat (first | go_big_quiet_skip | (go_big_quiet_want; first | (go_big_quiet_op; go_big_quiet_on)))
            refine wpQuiet_nil ?_
            refine wpRL_nil ?_
            intro wn hbn hE
            have hsz := B.size
            have hzn := hbn.size
            replace B := B.trans (hbn.mono B.size)
            (try first | replace od := od.of_eq (hbn.block _ od.lt) | replace od := od.below hbn)
            (try first | replace rx := rx.of_eq (hbn.block _ rx.lt) | replace rx := rx.below hbn)
            (try first | replace ry := ry.of_eq (hbn.block _ ry.lt) | replace ry := ry.below hbn)
            clear hE
            try simp only [List.drop_succ_cons, List.drop_zero]
            refine NoPan.normal ?_
            go_wp2
            go_roundw
            case rel => exact ⟨X, Y, O, _, _, _, _, _, _, rfl, rfl, rfl, rtx, rty, trivial, B, od, (congrArg (O ++ ·) HCH.out).symm.trans HST.out⟩
            case measure => simp [lenV]; omega
          | false =>
            rw [ht] at hneq
            rw [if_neg (by rw [ht]; decide)] at HCH
            clear ht
            go_wp2
            try simp only [List.getElem_toArray, List.getElem_cons_zero, List.getElem_cons_succ]
            try have lx_od := od.lt
            try have lx_rx := rx.lt
            try have lx_ry := ry.lt
            refine wp_region_RL 9 [] (by kernel_rfl) (by kernel_rfl) (by kernel_rfl) ?_
            rotate_left 0
            simp only [takS, Nat.reduceAdd]
            refine wpRL_chunk 9 (by kernel_rfl) ?_
            simp only [takS, Nat.reduceAdd]
            repeat (first | go_big_quiet_skip | (go_big_quiet_want; first | (refine quiet_loadAny (t := 40) rfl _ _ _ rfl (fun w hw => rc_tile (ov_rc rx w hw) (show 0 < (d :: X).length by simp) (show aT (d :: X) 0 = d from rfl)) (by first | rfl | omega) ?_; simp only [Act.put, putS]; go_big_quiet_on) | (refine quiet_loadAny (t := 40) rfl _ _ _ rfl (fun w hw => rc_tile (ov_rc ry w hw) (show 0 < (e :: Y).length by simp) (show aT (e :: Y) 0 = e from rfl)) (by first | rfl | omega) ?_; simp only [Act.put, putS]; go_big_quiet_on) | (go_big_quiet_op; go_big_quiet_on)))
            refine wpQuiet_nil ?_
            refine wpRL_nil ?_
            intro wn hbn hE
            have hsz := B.size
            have hzn := hbn.size
            replace B := B.trans (hbn.mono B.size)
            (try first | replace od := od.of_eq (hbn.block _ od.lt) | replace od := od.below hbn)
            (try first | replace rx := rx.of_eq (hbn.block _ rx.lt) | replace rx := rx.below hbn)
            (try first | replace ry := ry.of_eq (hbn.block _ ry.lt) | replace ry := ry.below hbn)
            clear hE
            try simp only [List.drop_succ_cons, List.drop_zero]
            refine NoPan.normal ?_
            go_upto_region 5 with fail
            refine wp_region_lit ?_
            try simp only [List.getElem_toArray, List.getElem_cons_zero, List.getElem_cons_succ]
            refine wpList_chunk 5 (by kernel_rfl) ?_
            simp only [takS, Nat.reduceAdd]
            repeat (first | go_big_quiet_skip | (go_big_quiet_want; first | (refine quiet_loadAny (t := 24) rfl _ _ _ rfl (fun w hw => rc_pos (ov_rc rx w hw) (show 0 < (d :: X).length by simp) (show aT (d :: X) 0 = d from rfl)) (by first | rfl | omega) ?_; simp only [Act.put, putS]; go_big_quiet_on) | (refine quiet_loadAny (t := 24) rfl _ _ _ rfl (fun w hw => rc_pos (ov_rc ry w hw) (show 0 < (e :: Y).length by simp) (show aT (e :: Y) 0 = e from rfl)) (by first | rfl | omega) ?_; simp only [Act.put, putS]; go_big_quiet_on) | (go_big_quiet_op; go_big_quiet_on)))
            refine wpQuiet_nil ?_
            (refine wpList_bs1E (E := psE) rfl _ rfl ((d.x, d.y)) rfl (by omega) ?_; intro b_s1 wn hle hge ht hbn hzn; replace od := od.below (hbn.mono hle); have hsz := B.size; replace B := B.trans (hbn.mono (by omega)); have hln := Nat.lt_of_lt_of_eq (Nat.lt_succ_self _) hzn.symm; clear hzn; (try first | (have hlt := rx.lt; replace rx := rx.of_eq (hbn.block _ (by omega))) | replace rx := rx.below (hbn.mono hle)); (try first | (have hlt := ry.lt; replace ry := ry.of_eq (hbn.block _ (by omega))) | replace ry := ry.below (hbn.mono hle)); have s1 := ht; clear ht; simp only [Act.put, putS])
            (at_builtin; refine wpList_appendE rfl _ _ rfl _ _ rfl rfl od ((RSE.one s1)) (by simp only [List.length_cons, List.length_nil]; omega) (by omega) ?_; intro v_od wn ht hbn; have hsz := B.size; have hbz := hbn.size; replace B := B.trans (hbn.mono (by omega)); clear od; (try replace rx := rx.of_eq (hbn.block _ (by omega))); (try replace ry := ry.of_eq (hbn.block _ (by omega))); have od := ht; clear ht; obtain ⟨a_od, c_od, hv, hco⟩ := od.len; (try simp only [List.length_append, List.length_cons, List.length_nil, Nat.zero_add] at hv hco); subst hv; simp only [Act.put, putS])
            refine wpList_chunk 1 (by kernel_rfl) ?_
            simp only [takS, Nat.reduceAdd]
            repeat (first | go_big_quiet_skip | (go_big_quiet_want; first | (go_big_quiet_op; go_big_quiet_on)))
            refine wpQuiet_nil ?_
            refine wpList_nil ?_
            go_wp2
            try simp only [List.getElem_toArray, List.getElem_cons_zero, List.getElem_cons_succ]
            try have lx_od := od.lt
            try have lx_rx := rx.lt
            try have lx_ry := ry.lt
            refine wp_region_RL 6 [] (by kernel_rfl) (by kernel_rfl) (by kernel_rfl) ?_
            rotate_left 0
            simp only [takS, Nat.reduceAdd]
            refine wpRL_chunk 6 (by kernel_rfl) ?_
            simp only [takS, Nat.reduceAdd]
            repeat (first | go_big_quiet_skip | (go_big_quiet_want; first | (go_big_quiet_op; go_big_quiet_on)))
            refine wpQuiet_nil ?_
            refine wpRL_nil ?_
            intro wn hbn hE
            have hsz := B.size
            have hzn := hbn.size
            replace B := B.trans (hbn.mono B.size)
            (try first | replace od := od.of_eq (hbn.block _ od.lt) | replace od := od.below hbn)
            (try first | replace rx := rx.of_eq (hbn.block _ rx.lt) | replace rx := rx.below hbn)
            (try first | replace ry := ry.of_eq (hbn.block _ ry.lt) | replace ry := ry.below hbn)
            clear hE
            try simp only [List.drop_succ_cons, List.drop_zero]
            refine NoPan.normal ?_
            go_wp2
            go_roundw
            case rel => exact ⟨X, Y, O ++ [posA d], _, _, _, _, _, _, rfl, rfl, by rw [List.length_append]; rfl, rtx, rty, trivial, B, by rw [List.length_append]; exact od, by rw [List.append_assoc]; exact (congrArg (O ++ ·) HCH.out).symm.trans HST.out⟩
            case measure => simp [lenV]; omega
end Go.Proofs.Ytppccnjckiedlaa
/- Regions within a round of a range over a function: walked as anywhere. What a loop's body keeps. -/
namespace Go.Proofs.Ytppccnjckiedlaa
open Go.RowKit
set_option linter.unusedVariables false
set_option linter.unusedSimpArgs false

/-- The walk goes on, and in no other way. -/
def Only (K : Act → World → Prop) : Exit → Act → World → Prop
  | .normal, a, w => K a w
  | _, _, _ => False
theorem Only.out (K : Act → World → Prop) : ¬ LetsOut (Only K) := fun ⟨_, _, h⟩ => h
theorem Only.at {K : Act → World → Prop} {a : Act} {w : World} (h : K a w) : Only K .normal a w := h
def noDefer (l : List Oper) : Bool := l.all fun o => match o.op with
  | .defer _ => false
  | _ => true
section
variable {P : Program} {r n : Nat}
end

/-! ### What a body keeps that turns one block b of cells -/
structure KpB (b : Nat) (W W' : World) : Prop where
  size : W.heap.size ≤ W'.heap.size
  same : ∀ (k : Nat) (o : Obj), k ≠ b → W.heap[k]? = some o → o.isCells = true → W'.heap[k]? = some o
theorem KpB.trans {b : Nat} {X Y Z : World} (h : KpB b X Y) (k : KpB b Y Z) : KpB b X Z := ⟨Nat.le_trans h.size k.size, fun i o hi ho hc => k.same i o hi (h.same i o hi ho hc) hc⟩
theorem KpB.refl (b : Nat) (W : World) : KpB b W W := ⟨Nat.le_refl _, fun _ _ _ h _ => h⟩
theorem KpB.chg {b : Nat} {W W' : World} (h : Chg b W W') : KpB b W W' :=
  ⟨h.size, fun k o hk ho _ => (h.block k (Array.getElem?_eq_some_iff.1 ho).1 hk).trans ho⟩
theorem KeepsFrom.chg {B b : Nat} {W W' : World} (h : Chg b W W') (hb : b < B) : KeepsFrom B W W' :=
  ⟨h.size, fun k o hB hk _ => (h.block k (Array.getElem?_eq_some_iff.1 hk).1 (by omega)).trans hk⟩
theorem grown_of_below {W W' : World} (h : Below W.heap.size W W') : W.grownBy W' none :=
  ⟨h.os, h.tape, h.output, h.size, fun k hk _ => h.block k hk⟩
theorem AbidesFrom.below {β : Type} {B : Nat} {J : β → World → Prop} (h : AbidesFrom B J) {s : β} {W W' : World} (hs : J s W) (hb : Below W.heap.size W W') : J s W' :=
  h s W W' none hs (grown_of_below hb) (fun r e => by cases e)

/-! ### Facts of cells abide the turn of what is no cells -/
end Go.Proofs.Ytppccnjckiedlaa
/- Paste of package raster: what it does to one pixel; the iterator over the tiles of a rectangle. -/
namespace Go.Proofs.Ytppccnjckiedlaa
open Go.RowKit Go.Shelf Pl
set_option linter.unusedVariables false
set_option linter.unusedSimpArgs false
set_option maxRecDepth 20000
end Go.Proofs.Ytppccnjckiedlaa
/- Image of both packages, whether the rectangle fits or not. -/
namespace Go.Proofs.Ytppccnjckiedlaa
open Go.RowKit Go.Shelf Pl
set_option linter.unusedVariables false
set_option linter.unusedSimpArgs false
set_option maxRecDepth 20000
def imR (c : Rc) : Rc := if fitsE c = 0 then c else Rc.zero
def imLs (c : Rc) (ks : List TA) : List Px := if fitsE c = 0 then imgL c ks else []
end Go.Proofs.Ytppccnjckiedlaa
/- Contract of Paste of package raster. -/
namespace Go.Proofs.Ytppccnjckiedlaa
open Go.RowKit Go.Shelf Pl
attribute [local go_sem] Oper.semAt_some
set_option linter.unusedVariables false
set_option linter.unusedSimpArgs false
set_option maxRecDepth 20000
end Go.Proofs.Ytppccnjckiedlaa
/- Contract of Paste of the reference. -/
namespace Go.Proofs.Ytppccnjckiedlaa
open Go.RowKit Go.Shelf Pl
set_option linter.unusedVariables false
set_option linter.unusedSimpArgs false
set_option maxRecDepth 20000
theorem R_TileO (v : Value) (ls : List TA) (x y : Int) (w : World) (h : RS v ls w) (hn : ls.length ≤ maxLen) : Calls Try.prog 23 #[.agg #[v], .agg #[.int .i64 x, .int .i64 y]] w fun e w' => e = .returned (Tile.v (tileL ls x y)) ∧ Below w.heap.size w w' := R_Tile v ls x y w h hn
theorem rce_ne {g o b : Nat} {t : TypeId} {cs : Array Value} {ls : List (Int × Int)} {w : World} (h : RCellsE psE g o ls w) (hn : 0 < ls.length) (k : AtB t w b cs) (hs : ∀ (i : Nat) (n : Int), cs[i]? ≠ some (.int .i64 n)) : g ≠ b := by
  rintro rfl
  have h0 := h.2 0 _ (List.getElem?_eq_getElem hn) 0 (by omega)
  rw [(cells_of_block k).1] at h0
  exact hs _ _ h0
theorem rce_ps {g o : Nat} {ls : List (Int × Int)} {w : World} (h : RCellsE psE g o ls w) {i : Nat} {x y : Int} (hi : ls[i]? = some (x, y)) : (Instr.loadAt 24 (.pointer (some ⟨g, o + i * 2, none⟩))).run Try.prog w = .ok (.agg #[.int .i64 x, .int .i64 y]) w :=
  h.load Try.isAgg24 hi
end Go.Proofs.Ytppccnjckiedlaa
/- Changed of the reference: insert, the two loops. -/
namespace Go.Proofs.Ytppccnjckiedlaa
open Go.RowKit Go.Shelf Pl
set_option linter.unusedVariables false
set_option linter.unusedSimpArgs false
set_option maxRecDepth 20000
section
variable {ops : Array Oper} {rest : List Oper} {o : Oper} {a : Act} {w : World} {Q : Exit → Act → World → Prop}
theorem run_bsEP (w : World) (o : Oper) (ho : o.op = .buildSlice 88 0 #[]) (ev : Operand → Value) : (execOp ev o).run Try.prog w = .ok (.value (.slice (some ⟨w.heap.size, 0, none⟩) 0 0)) (w.alloc (.cells #[] 24)) := by
  obtain ⟨d, p, t, ps, af, gd⟩ := o
  simp only at ho
  subst ho
  kernel_rfl
/-- A slice of no positions, in memory of the call's own. -/
theorem wpList_bsEP (hg : o.guard = none) (ho : o.op = .buildSlice 88 0 #[])
    (h : ∀ b w', w.heap.size ≤ b → b ≤ w.heap.size → OwnE psE b (.slice (some ⟨b, 0, none⟩) 0 0) [] w' → Below b w w' → w'.heap.size = b + 1 → wpList Try.prog ops Q rest (a.put o.dst (.slice (some ⟨b, 0, none⟩) 0 0)) w') : wpList Try.prog ops Q (o :: rest) a w :=
  wpList_plain hg fun K hK => by
    unfold Oper.wp
    rw [run_bsEP w o ho]
    exact hK _ _ (h _ _ (Nat.le_refl _) (Nat.le_refl _) ⟨rfl, .inr ⟨w.heap.size, 0, #[], rfl, Nat.le_refl _, by rw [heap_get_alloc, if_pos rfl], Nat.le_refl _, by unfold maxLen; omega, rfl, rfl⟩⟩ ((Below.refl _ _).alloc (Nat.le_refl _) _) (World.size_alloc _ _))
end
theorem R_lessO (ax ay bx bv : Int) (b : Bool) (w : World) (e : lessB ax ay bx bv = b) : Calls Try.prog 60 #[.agg #[.int .i64 ax, .int .i64 ay], .agg #[.int .i64 bx, .int .i64 bv]] w fun e w' => e = .returned (.bool b) ∧ Below w.heap.size w w' := e ▸ R_less ax ay bx bv w
theorem insP_cons (q : Int × Int) (r : List (Int × Int)) (p : Int × Int) : insP (q :: r) p = if q = p then q :: r else if ltP p q = true then p :: q :: r else q :: insP r p := rfl
/-- How far the insertion has come: what has been put, whether it is there. -/
def insD (l : List (Int × Int)) (p : Int × Int) (d : Bool) : List (Int × Int) := if d = true then l else insP l p
set_option maxHeartbeats 4000000 in
theorem R_insert (v : Value) (l : List (Int × Int)) (x y : Int) (w : World) (h : RSE psE v l w) (hn : l.length ≤ 5000) : Calls Try.prog 90 #[v, .agg #[.int .i64 x, .int .i64 y]] w fun e w' => ∃ a cp, e = .returned (.slice a (insP l (x, y)).length cp) ∧ RSE psE (.slice a (insP l (x, y)).length cp) (insP l (x, y)) w' ∧ Below w.heap.size w w' := by
  have B := Below.refl w.heap.size w
  obtain ⟨a, cp, rfl, hcp⟩ := h.len
  have HA := Lib.hid (fun k => h.at k)
  clear h
  go_enter Try.func90, Try.ntmps90
  go_upto_region 0 with fail
  refine wp_region_lit ?_
  try simp only [List.getElem_toArray, List.getElem_cons_zero, List.getElem_cons_succ]
  (refine wpList_boxB (t := 24) rfl _ rfl _ rfl ?_; intro b_p3 wn hle hge ht hbn hzn; have hsz := B.size; replace B := B.trans (hbn.mono (by omega)); have hln := Nat.lt_of_lt_of_eq (Nat.lt_succ_self _) hzn.symm; clear hzn; have p3 := ht; clear ht; simp only [Act.put, putS])
  refine wpList_chunk 1 (by kernel_rfl) ?_
  simp only [takS, Nat.reduceAdd]
  repeat (first | go_big_quiet_skip | (go_big_quiet_want; first | (go_big_quiet_op; go_big_quiet_on)))
  refine wpQuiet_nil ?_
  refine wpList_nil ?_
  go_upto_region 1 with fail
  refine wp_region_lit ?_
  try simp only [List.getElem_toArray, List.getElem_cons_zero, List.getElem_cons_succ]
  (refine wpList_bsEP rfl rfl ?_; intro b_od wn hle hge ht hbn hzn; have hsz := B.size; replace B := B.trans (hbn.mono (by omega)); (have hlt := p3.lt; replace p3 := p3.of_eq (hbn.block _ (by omega))); have od := ht; clear ht; simp only [Act.put, putS])
  refine wpList_chunk 1 (by kernel_rfl) ?_
  simp only [takS, Nat.reduceAdd]
  repeat (first | go_big_quiet_skip | (go_big_quiet_want; first | (go_big_quiet_op; go_big_quiet_on)))
  refine wpQuiet_nil ?_
  refine wpList_nil ?_
  have k3 : w.heap.size ≤ b_p3 := by omega
  have k4 := p3.lt
  have k5 : b_p3 < b_od := by omega
  go_upto_region 2 with fail
  refine wp_region_lit ?_
  try simp only [List.getElem_toArray, List.getElem_cons_zero, List.getElem_cons_succ]
  refine wpList_chunk 1 (by kernel_rfl) ?_
  simp only [takS, Nat.reduceAdd]
  repeat (first | go_big_quiet_skip | (go_big_quiet_want; first | (go_big_quiet_op; go_big_quiet_on)))
  refine wpQuiet_nil ?_
  refine wpList_nil ?_
  go_upto_region 3 with fail
  refine wp_region_lit ?_
  try simp only [List.getElem_toArray, List.getElem_cons_zero, List.getElem_cons_succ]
  refine wpList_chunk 1 (by kernel_rfl) ?_
  simp only [takS, Nat.reduceAdd]
  repeat (first | go_big_quiet_skip | (go_big_quiet_want; first | (go_big_quiet_op; go_big_quiet_on)))
  refine wpQuiet_nil ?_
  refine wpList_nil ?_
  have k6 : b_od ≤ wn.heap.size := by omega
  go_wp2
  go_loopw [5, 6, 7] (fun ov dv iv wr => ∃ (k : Nat) (O : List (Int × Int)) (d : Bool) (ao : Option Addr) (co : Nat), k ≤ l.length ∧ iv = .int .i64 (k : Int) ∧ ov = .slice ao O.length co ∧ dv = .bool d ∧ Below w.heap.size w wr ∧ b_od ≤ wr.heap.size ∧ AtB 24 wr b_p3 #[.int .i64 x, .int .i64 y] ∧ OwnE psE b_od (.slice ao O.length co) O wr ∧ O ++ insD (l.drop k) (x, y) d = insP l (x, y)) (fun _ _ iv _ => (l.length - intOf iv).toNat)
  case atStart => exact ⟨0, [], false, _, _, by omega, rfl, rfl, rfl, B, k6, p3, od, rfl⟩
  case round =>
    clear B p3 od k6 k4
    obtain ⟨k, O, d, ao, co, hk, rfl, rfl, rfl, B, k6, p3, od, hO⟩ := hrel
    have hOl := congrArg List.length hO
    have hil := insP_len l (x, y)
    rw [List.length_append] at hOl
    have hO1 : O.length ≤ 5001 := by omega
    clear hOl hil
    have HO := Lib.hid hO
    clear hO
    by_cases hkl : k < l.length
    · have q1 : decide ((k : Int) < (l.length : Int)) = true := decide_eq_true (by omega)
      have q2 : decide (k < l.length) = true := decide_eq_true hkl
      obtain ⟨g, o, rfl, rc0⟩ := HA.out (by omega)
      have hg := rc0.lt
      have rc := rc0.of_eq (B.block _ hg)
      clear rc0
      obtain ⟨⟨qx, qy⟩, hqe⟩ : ∃ q, l[k] = q := ⟨_, rfl⟩
      have hq : l[k]? = some (qx, qy) := by rw [List.getElem?_eq_getElem hkl, hqe]
      have HD := Lib.hid (show l.drop k = (qx, qy) :: l.drop (k + 1) from by rw [List.drop_eq_getElem_cons hkl, hqe])
      clear hqe
      have heq : ∀ w, (binOp .eql 24 (.agg #[.int .i64 qx, .int .i64 qy]) (.agg #[.int .i64 x, .int .i64 y])).run Try.prog w = .ok (.bool (eqB qx qy x y)) w := fun w => eql_pos qx qy x y w
      have HQ := Lib.hid (show ∀ b, eqB qx qy x y = b → ((qx, qy) = (x, y) ↔ b = true) from fun b hb => by
        rw [← hb]
        unfold eqB
        rw [decide_eq_true_iff]
        exact ⟨fun e => by injection e with e1 e2; exact ⟨e1, e2⟩, fun e => Prod.ext e.1 e.2⟩)
      go_upto_region 4 with fail
      refine wp_region_lit ?_
      try simp only [List.getElem_toArray, List.getElem_cons_zero, List.getElem_cons_succ]
      refine wpList_chunk 2 (by kernel_rfl) ?_
      simp only [takS, Nat.reduceAdd]
      repeat (first | go_big_quiet_skip | (go_big_quiet_want; first | (go_big_quiet_op; go_big_quiet_on)))
      refine wpQuiet_nil ?_
      refine wpList_lenS (by first | rfl | simp [Region.wanted, yielded]) rfl Try.underlying88 rfl ?_
      simp only [Act.put, putS]
      refine wpList_chunk 1 (by kernel_rfl) ?_
      simp only [takS, Nat.reduceAdd]
      repeat (first | go_big_quiet_skip | (go_big_quiet_want; first | (go_big_quiet_op; go_big_quiet_on)))
      refine wpQuiet_nil ?_
      refine wpList_nil ?_
      cases he : eqB qx qy x y with
      | true =>
        rw [he] at heq
        have HE := Lib.hid (HQ.out _ he)
        clear he
        cases d with
        | true =>
          go_upto_region 6 with fail
          refine wp_region_ov (by kernel_rfl) (by kernel_rfl) ?_
          repeat (first | go_big_quiet_skip | (go_big_quiet_want; first | (refine quiet_loadAny (t := 24) rfl _ _ _ rfl (fun w hw => rce_ps (ov_rce rc w hw) hq) (by first | rfl | omega) ?_; simp only [Act.put, putS]; go_big_quiet_on) | (refine quiet_loadAny (t := 24) rfl _ _ _ rfl (fun w hw => run_load_B (ov_B p3 w hw) Try.isAgg24 (by kernel_rfl)) (by rfl) ?_; simp only [Act.put, putS]; go_big_quiet_on) | (go_big_quiet_op; first | go_big_quiet_on | go_big_quiet_call ((fail)))))
          refine wpQuiet_nil ?_
          intro wn hbn
          have hsz := B.size
          have hzn := hbn.size
          replace B := B.trans (hbn.mono B.size)
          try first | replace p3 := p3.of_eq (hbn.block _ p3.lt) | replace p3 := p3.below hbn
          try first | replace rc := rc.of_eq (hbn.block _ rc.lt) | replace rc := rc.below hbn
          try first | replace od := od.of_eq (hbn.block _ od.lt) | replace od := od.below hbn
          go_upto_region 7 with fail
          refine wp_region_lit ?_
          try simp only [List.getElem_toArray, List.getElem_cons_zero, List.getElem_cons_succ]
          refine wpList_chunk 1 (by kernel_rfl) ?_
          simp only [takS, Nat.reduceAdd]
          repeat (first | go_big_quiet_skip | (go_big_quiet_want; first | (go_big_quiet_op; go_big_quiet_on)))
          refine wpQuiet_nil ?_
          refine wpList_nil ?_
          go_upto_region 8 with fail
          refine wp_region_ov (by kernel_rfl) (by kernel_rfl) ?_
          repeat (first | go_big_quiet_skip | (go_big_quiet_want; first | (refine quiet_loadAny (t := 24) rfl _ _ _ rfl (fun w hw => rce_ps (ov_rce rc w hw) hq) (by first | rfl | omega) ?_; simp only [Act.put, putS]; go_big_quiet_on) | (refine quiet_loadAny (t := 24) rfl _ _ _ rfl (fun w hw => run_load_B (ov_B p3 w hw) Try.isAgg24 (by kernel_rfl)) (by rfl) ?_; simp only [Act.put, putS]; go_big_quiet_on) | (go_big_quiet_op; first | go_big_quiet_on | go_big_quiet_call ((fail)))))
          refine wpQuiet_nil ?_
          intro wn hbn
          have hsz := B.size
          have hzn := hbn.size
          replace B := B.trans (hbn.mono B.size)
          try first | replace p3 := p3.of_eq (hbn.block _ p3.lt) | replace p3 := p3.below hbn
          try first | replace rc := rc.of_eq (hbn.block _ rc.lt) | replace rc := rc.below hbn
          try first | replace od := od.of_eq (hbn.block _ od.lt) | replace od := od.below hbn
          go_upto_region 11 with fail
          refine wp_region_lit ?_
          try simp only [List.getElem_toArray, List.getElem_cons_zero, List.getElem_cons_succ]
          refine wpList_chunk 5 (by kernel_rfl) ?_
          simp only [takS, Nat.reduceAdd]
          repeat (first | go_big_quiet_skip | (go_big_quiet_want; first | (refine quiet_loadAny (t := 24) rfl _ _ _ rfl (fun w hw => rce_ps (ov_rce rc w hw) hq) (by first | rfl | omega) ?_; simp only [Act.put, putS]; go_big_quiet_on) | (refine quiet_loadAny (t := 24) rfl _ _ _ rfl (fun w hw => run_load_B (ov_B p3 w hw) Try.isAgg24 (by kernel_rfl)) (by rfl) ?_; simp only [Act.put, putS]; go_big_quiet_on) | (go_big_quiet_op; go_big_quiet_on)))
          refine wpQuiet_nil ?_
          (refine wpList_bs1E (E := psE) rfl _ rfl ((qx, qy)) rfl (by omega) ?_; intro b_s1 wn hle hge ht hbn hzn; replace od := od.below (hbn.mono hle); have hsz := B.size; replace B := B.trans (hbn.mono (by omega)); have hln := Nat.lt_of_lt_of_eq (Nat.lt_succ_self _) hzn.symm; clear hzn; (try first | (have hlt := p3.lt; replace p3 := p3.of_eq (hbn.block _ (by omega))) | replace p3 := p3.below (hbn.mono hle)); (try first | (have hlt := rc.lt; replace rc := rc.of_eq (hbn.block _ (by omega))) | replace rc := rc.below (hbn.mono hle)); have s1 := ht; clear ht; simp only [Act.put, putS])
          (at_builtin; refine wpList_appendE rfl _ _ rfl _ _ rfl rfl od ((RSE.one s1)) (by simp only [List.length_append, List.length_cons, List.length_nil]; omega) (by omega) ?_; intro v_od wn ht hbn; have hsz := B.size; have hbz := hbn.size; replace B := B.trans (hbn.mono (by omega)); clear od; (try replace p3 := p3.of_eq (hbn.block _ (by omega))); (try replace rc := rc.of_eq (hbn.block _ (by omega))); have od := ht; clear ht; obtain ⟨a_od, c_od, hv, hco⟩ := od.len; (try simp only [List.length_append, List.length_cons, List.length_nil, Nat.zero_add] at hv hco); subst hv; simp only [Act.put, putS])
          refine wpList_chunk 1 (by kernel_rfl) ?_
          simp only [takS, Nat.reduceAdd]
          repeat (first | go_big_quiet_skip | (go_big_quiet_want; first | (go_big_quiet_op; go_big_quiet_on)))
          refine wpQuiet_nil ?_
          refine wpList_nil ?_
          go_wp2
          go_roundw
          case rel => exact ⟨k + 1, O ++ [(qx, qy)], true, _, _, by omega, by go_num, by (repeat rw [List.length_append]); rfl, rfl, B, by omega, p3, by (repeat rw [List.length_append]); exact od, by rw [← HO.out, HD.out, List.append_assoc]; rfl⟩
          case measure => simp [intOf]; omega
        | false =>
          go_upto_region 6 with fail
          refine wp_region_ov (by kernel_rfl) (by kernel_rfl) ?_
          repeat (first | go_big_quiet_skip | (go_big_quiet_want; first | (refine quiet_loadAny (t := 24) rfl _ _ _ rfl (fun w hw => rce_ps (ov_rce rc w hw) hq) (by first | rfl | omega) ?_; simp only [Act.put, putS]; go_big_quiet_on) | (refine quiet_loadAny (t := 24) rfl _ _ _ rfl (fun w hw => run_load_B (ov_B p3 w hw) Try.isAgg24 (by kernel_rfl)) (by rfl) ?_; simp only [Act.put, putS]; go_big_quiet_on) | (go_big_quiet_op; first | go_big_quiet_on | go_big_quiet_call ((fail)))))
          refine wpQuiet_nil ?_
          intro wn hbn
          have hsz := B.size
          have hzn := hbn.size
          replace B := B.trans (hbn.mono B.size)
          try first | replace p3 := p3.of_eq (hbn.block _ p3.lt) | replace p3 := p3.below hbn
          try first | replace rc := rc.of_eq (hbn.block _ rc.lt) | replace rc := rc.below hbn
          try first | replace od := od.of_eq (hbn.block _ od.lt) | replace od := od.below hbn
          go_upto_region 7 with fail
          refine wp_region_lit ?_
          try simp only [List.getElem_toArray, List.getElem_cons_zero, List.getElem_cons_succ]
          refine wpList_chunk 1 (by kernel_rfl) ?_
          simp only [takS, Nat.reduceAdd]
          repeat (first | go_big_quiet_skip | (go_big_quiet_want; first | (go_big_quiet_op; go_big_quiet_on)))
          refine wpQuiet_nil ?_
          refine wpList_nil ?_
          go_upto_region 8 with fail
          refine wp_region_ov (by kernel_rfl) (by kernel_rfl) ?_
          repeat (first | go_big_quiet_skip | (go_big_quiet_want; first | (refine quiet_loadAny (t := 24) rfl _ _ _ rfl (fun w hw => rce_ps (ov_rce rc w hw) hq) (by first | rfl | omega) ?_; simp only [Act.put, putS]; go_big_quiet_on) | (refine quiet_loadAny (t := 24) rfl _ _ _ rfl (fun w hw => run_load_B (ov_B p3 w hw) Try.isAgg24 (by kernel_rfl)) (by rfl) ?_; simp only [Act.put, putS]; go_big_quiet_on) | (go_big_quiet_op; first | go_big_quiet_on | go_big_quiet_call ((fail)))))
          refine wpQuiet_nil ?_
          intro wn hbn
          have hsz := B.size
          have hzn := hbn.size
          replace B := B.trans (hbn.mono B.size)
          try first | replace p3 := p3.of_eq (hbn.block _ p3.lt) | replace p3 := p3.below hbn
          try first | replace rc := rc.of_eq (hbn.block _ rc.lt) | replace rc := rc.below hbn
          try first | replace od := od.of_eq (hbn.block _ od.lt) | replace od := od.below hbn
          go_upto_region 11 with fail
          refine wp_region_lit ?_
          try simp only [List.getElem_toArray, List.getElem_cons_zero, List.getElem_cons_succ]
          refine wpList_chunk 5 (by kernel_rfl) ?_
          simp only [takS, Nat.reduceAdd]
          repeat (first | go_big_quiet_skip | (go_big_quiet_want; first | (refine quiet_loadAny (t := 24) rfl _ _ _ rfl (fun w hw => rce_ps (ov_rce rc w hw) hq) (by first | rfl | omega) ?_; simp only [Act.put, putS]; go_big_quiet_on) | (refine quiet_loadAny (t := 24) rfl _ _ _ rfl (fun w hw => run_load_B (ov_B p3 w hw) Try.isAgg24 (by kernel_rfl)) (by rfl) ?_; simp only [Act.put, putS]; go_big_quiet_on) | (go_big_quiet_op; go_big_quiet_on)))
          refine wpQuiet_nil ?_
          (refine wpList_bs1E (E := psE) rfl _ rfl ((qx, qy)) rfl (by omega) ?_; intro b_s1 wn hle hge ht hbn hzn; replace od := od.below (hbn.mono hle); have hsz := B.size; replace B := B.trans (hbn.mono (by omega)); have hln := Nat.lt_of_lt_of_eq (Nat.lt_succ_self _) hzn.symm; clear hzn; (try first | (have hlt := p3.lt; replace p3 := p3.of_eq (hbn.block _ (by omega))) | replace p3 := p3.below (hbn.mono hle)); (try first | (have hlt := rc.lt; replace rc := rc.of_eq (hbn.block _ (by omega))) | replace rc := rc.below (hbn.mono hle)); have s1 := ht; clear ht; simp only [Act.put, putS])
          (at_builtin; refine wpList_appendE rfl _ _ rfl _ _ rfl rfl od ((RSE.one s1)) (by simp only [List.length_append, List.length_cons, List.length_nil]; omega) (by omega) ?_; intro v_od wn ht hbn; have hsz := B.size; have hbz := hbn.size; replace B := B.trans (hbn.mono (by omega)); clear od; (try replace p3 := p3.of_eq (hbn.block _ (by omega))); (try replace rc := rc.of_eq (hbn.block _ (by omega))); have od := ht; clear ht; obtain ⟨a_od, c_od, hv, hco⟩ := od.len; (try simp only [List.length_append, List.length_cons, List.length_nil, Nat.zero_add] at hv hco); subst hv; simp only [Act.put, putS])
          refine wpList_chunk 1 (by kernel_rfl) ?_
          simp only [takS, Nat.reduceAdd]
          repeat (first | go_big_quiet_skip | (go_big_quiet_want; first | (go_big_quiet_op; go_big_quiet_on)))
          refine wpQuiet_nil ?_
          refine wpList_nil ?_
          go_wp2
          go_roundw
          case rel => exact ⟨k + 1, O ++ [(qx, qy)], true, _, _, by omega, by go_num, by (repeat rw [List.length_append]); rfl, rfl, B, by omega, p3, by (repeat rw [List.length_append]); exact od, by rw [← HO.out, HD.out, List.append_assoc]; show O ++ ((qx, qy) :: l.drop (k + 1)) = O ++ insP ((qx, qy) :: l.drop (k + 1)) (x, y); rw [insP_cons, if_pos (HE.out.2 rfl)]⟩
          case measure => simp [intOf]; omega
      | false =>
        rw [he] at heq
        have HE := Lib.hid (HQ.out _ he)
        clear he
        cases d with
        | true =>
          go_upto_region 6 with fail
          refine wp_region_ov (by kernel_rfl) (by kernel_rfl) ?_
          repeat (first | go_big_quiet_skip | (go_big_quiet_want; first | (refine quiet_loadAny (t := 24) rfl _ _ _ rfl (fun w hw => rce_ps (ov_rce rc w hw) hq) (by first | rfl | omega) ?_; simp only [Act.put, putS]; go_big_quiet_on) | (refine quiet_loadAny (t := 24) rfl _ _ _ rfl (fun w hw => run_load_B (ov_B p3 w hw) Try.isAgg24 (by kernel_rfl)) (by rfl) ?_; simp only [Act.put, putS]; go_big_quiet_on) | (go_big_quiet_op; first | go_big_quiet_on | go_big_quiet_call ((fail)))))
          refine wpQuiet_nil ?_
          intro wn hbn
          have hsz := B.size
          have hzn := hbn.size
          replace B := B.trans (hbn.mono B.size)
          try first | replace p3 := p3.of_eq (hbn.block _ p3.lt) | replace p3 := p3.below hbn
          try first | replace rc := rc.of_eq (hbn.block _ rc.lt) | replace rc := rc.below hbn
          try first | replace od := od.of_eq (hbn.block _ od.lt) | replace od := od.below hbn
          go_upto_region 8 with fail
          refine wp_region_ov (by kernel_rfl) (by kernel_rfl) ?_
          repeat (first | go_big_quiet_skip | (go_big_quiet_want; first | (refine quiet_loadAny (t := 24) rfl _ _ _ rfl (fun w hw => rce_ps (ov_rce rc w hw) hq) (by first | rfl | omega) ?_; simp only [Act.put, putS]; go_big_quiet_on) | (refine quiet_loadAny (t := 24) rfl _ _ _ rfl (fun w hw => run_load_B (ov_B p3 w hw) Try.isAgg24 (by kernel_rfl)) (by rfl) ?_; simp only [Act.put, putS]; go_big_quiet_on) | (go_big_quiet_op; first | go_big_quiet_on | go_big_quiet_call ((fail)))))
          refine wpQuiet_nil ?_
          intro wn hbn
          have hsz := B.size
          have hzn := hbn.size
          replace B := B.trans (hbn.mono B.size)
          try first | replace p3 := p3.of_eq (hbn.block _ p3.lt) | replace p3 := p3.below hbn
          try first | replace rc := rc.of_eq (hbn.block _ rc.lt) | replace rc := rc.below hbn
          try first | replace od := od.of_eq (hbn.block _ od.lt) | replace od := od.below hbn
          go_upto_region 11 with fail
          refine wp_region_lit ?_
          try simp only [List.getElem_toArray, List.getElem_cons_zero, List.getElem_cons_succ]
          refine wpList_chunk 5 (by kernel_rfl) ?_
          simp only [takS, Nat.reduceAdd]
          repeat (first | go_big_quiet_skip | (go_big_quiet_want; first | (refine quiet_loadAny (t := 24) rfl _ _ _ rfl (fun w hw => rce_ps (ov_rce rc w hw) hq) (by first | rfl | omega) ?_; simp only [Act.put, putS]; go_big_quiet_on) | (refine quiet_loadAny (t := 24) rfl _ _ _ rfl (fun w hw => run_load_B (ov_B p3 w hw) Try.isAgg24 (by kernel_rfl)) (by rfl) ?_; simp only [Act.put, putS]; go_big_quiet_on) | (go_big_quiet_op; go_big_quiet_on)))
          refine wpQuiet_nil ?_
          (refine wpList_bs1E (E := psE) rfl _ rfl ((qx, qy)) rfl (by omega) ?_; intro b_s1 wn hle hge ht hbn hzn; replace od := od.below (hbn.mono hle); have hsz := B.size; replace B := B.trans (hbn.mono (by omega)); have hln := Nat.lt_of_lt_of_eq (Nat.lt_succ_self _) hzn.symm; clear hzn; (try first | (have hlt := p3.lt; replace p3 := p3.of_eq (hbn.block _ (by omega))) | replace p3 := p3.below (hbn.mono hle)); (try first | (have hlt := rc.lt; replace rc := rc.of_eq (hbn.block _ (by omega))) | replace rc := rc.below (hbn.mono hle)); have s1 := ht; clear ht; simp only [Act.put, putS])
          (at_builtin; refine wpList_appendE rfl _ _ rfl _ _ rfl rfl od ((RSE.one s1)) (by simp only [List.length_append, List.length_cons, List.length_nil]; omega) (by omega) ?_; intro v_od wn ht hbn; have hsz := B.size; have hbz := hbn.size; replace B := B.trans (hbn.mono (by omega)); clear od; (try replace p3 := p3.of_eq (hbn.block _ (by omega))); (try replace rc := rc.of_eq (hbn.block _ (by omega))); have od := ht; clear ht; obtain ⟨a_od, c_od, hv, hco⟩ := od.len; (try simp only [List.length_append, List.length_cons, List.length_nil, Nat.zero_add] at hv hco); subst hv; simp only [Act.put, putS])
          refine wpList_chunk 1 (by kernel_rfl) ?_
          simp only [takS, Nat.reduceAdd]
          repeat (first | go_big_quiet_skip | (go_big_quiet_want; first | (go_big_quiet_op; go_big_quiet_on)))
          refine wpQuiet_nil ?_
          refine wpList_nil ?_
          go_wp2
          go_roundw
          case rel => exact ⟨k + 1, O ++ [(qx, qy)], true, _, _, by omega, by go_num, by (repeat rw [List.length_append]); rfl, rfl, B, by omega, p3, by (repeat rw [List.length_append]); exact od, by rw [← HO.out, HD.out, List.append_assoc]; rfl⟩
          case measure => simp [intOf]; omega
        | false =>
          go_upto_region 6 with fail
          refine wp_region_ov (by kernel_rfl) (by kernel_rfl) ?_
          repeat (first | go_big_quiet_skip | (go_big_quiet_want; first | (refine quiet_loadAny (t := 24) rfl _ _ _ rfl (fun w hw => rce_ps (ov_rce rc w hw) hq) (by first | rfl | omega) ?_; simp only [Act.put, putS]; go_big_quiet_on) | (refine quiet_loadAny (t := 24) rfl _ _ _ rfl (fun w hw => run_load_B (ov_B p3 w hw) Try.isAgg24 (by kernel_rfl)) (by rfl) ?_; simp only [Act.put, putS]; go_big_quiet_on) | (go_big_quiet_op; first | go_big_quiet_on | go_big_quiet_call ((fail)))))
          refine wpQuiet_nil ?_
          intro wn hbn
          have hsz := B.size
          have hzn := hbn.size
          replace B := B.trans (hbn.mono B.size)
          try first | replace p3 := p3.of_eq (hbn.block _ p3.lt) | replace p3 := p3.below hbn
          try first | replace rc := rc.of_eq (hbn.block _ rc.lt) | replace rc := rc.below hbn
          try first | replace od := od.of_eq (hbn.block _ od.lt) | replace od := od.below hbn
          cases hl : lessB x y qx qy with
          | true =>
            have HLS := Lib.hid hl
            clear hl
            go_upto_region 8 with fail
            refine wp_region_ov (by kernel_rfl) (by kernel_rfl) ?_
            repeat (first | go_big_quiet_skip | (go_big_quiet_want; first | (refine quiet_loadAny (t := 24) rfl _ _ _ rfl (fun w hw => rce_ps (ov_rce rc w hw) hq) (by first | rfl | omega) ?_; simp only [Act.put, putS]; go_big_quiet_on) | (refine quiet_loadAny (t := 24) rfl _ _ _ rfl (fun w hw => run_load_B (ov_B p3 w hw) Try.isAgg24 (by kernel_rfl)) (by rfl) ?_; simp only [Act.put, putS]; go_big_quiet_on) | (go_big_quiet_op; first | go_big_quiet_on | go_big_quiet_call ((first | (go_at_call 60; exact calls_ov (R_lessO x y qx qy true _ HLS.out)))))))
            refine wpQuiet_nil ?_
            intro wn hbn
            have hsz := B.size
            have hzn := hbn.size
            replace B := B.trans (hbn.mono B.size)
            try first | replace p3 := p3.of_eq (hbn.block _ p3.lt) | replace p3 := p3.below hbn
            try first | replace rc := rc.of_eq (hbn.block _ rc.lt) | replace rc := rc.below hbn
            try first | replace od := od.of_eq (hbn.block _ od.lt) | replace od := od.below hbn
            go_upto_region 9 with fail
            refine wp_region_lit ?_
            try simp only [List.getElem_toArray, List.getElem_cons_zero, List.getElem_cons_succ]
            refine wpList_chunk 2 (by kernel_rfl) ?_
            simp only [takS, Nat.reduceAdd]
            repeat (first | go_big_quiet_skip | (go_big_quiet_want; first | (refine quiet_loadAny (t := 24) rfl _ _ _ rfl (fun w hw => rce_ps (ov_rce rc w hw) hq) (by first | rfl | omega) ?_; simp only [Act.put, putS]; go_big_quiet_on) | (refine quiet_loadAny (t := 24) rfl _ _ _ rfl (fun w hw => run_load_B (ov_B p3 w hw) Try.isAgg24 (by kernel_rfl)) (by rfl) ?_; simp only [Act.put, putS]; go_big_quiet_on) | (go_big_quiet_op; go_big_quiet_on)))
            refine wpQuiet_nil ?_
            (refine wpList_bs1E (E := psE) rfl _ rfl ((x, y)) rfl (by omega) ?_; intro b_s1 wn hle hge ht hbn hzn; replace od := od.below (hbn.mono hle); have hsz := B.size; replace B := B.trans (hbn.mono (by omega)); have hln := Nat.lt_of_lt_of_eq (Nat.lt_succ_self _) hzn.symm; clear hzn; (try first | (have hlt := p3.lt; replace p3 := p3.of_eq (hbn.block _ (by omega))) | replace p3 := p3.below (hbn.mono hle)); (try first | (have hlt := rc.lt; replace rc := rc.of_eq (hbn.block _ (by omega))) | replace rc := rc.below (hbn.mono hle)); have s1 := ht; clear ht; simp only [Act.put, putS])
            (at_builtin; refine wpList_appendE rfl _ _ rfl _ _ rfl rfl od ((RSE.one s1)) (by simp only [List.length_append, List.length_cons, List.length_nil]; omega) (by omega) ?_; intro v_od wn ht hbn; have hsz := B.size; have hbz := hbn.size; replace B := B.trans (hbn.mono (by omega)); clear od; (try replace p3 := p3.of_eq (hbn.block _ (by omega))); (try replace rc := rc.of_eq (hbn.block _ (by omega))); have od := ht; clear ht; obtain ⟨a_od, c_od, hv, hco⟩ := od.len; (try simp only [List.length_append, List.length_cons, List.length_nil, Nat.zero_add] at hv hco); subst hv; simp only [Act.put, putS])
            refine wpList_chunk 1 (by kernel_rfl) ?_
            simp only [takS, Nat.reduceAdd]
            repeat (first | go_big_quiet_skip | (go_big_quiet_want; first | (go_big_quiet_op; go_big_quiet_on)))
            refine wpQuiet_nil ?_
            refine wpList_nil ?_
            go_upto_region 10 with fail
            refine wp_region_lit ?_
            try simp only [List.getElem_toArray, List.getElem_cons_zero, List.getElem_cons_succ]
            refine wpList_chunk 1 (by kernel_rfl) ?_
            simp only [takS, Nat.reduceAdd]
            repeat (first | go_big_quiet_skip | (go_big_quiet_want; first | (go_big_quiet_op; go_big_quiet_on)))
            refine wpQuiet_nil ?_
            refine wpList_nil ?_
            go_upto_region 11 with fail
            refine wp_region_lit ?_
            try simp only [List.getElem_toArray, List.getElem_cons_zero, List.getElem_cons_succ]
            refine wpList_chunk 5 (by kernel_rfl) ?_
            simp only [takS, Nat.reduceAdd]
            repeat (first | go_big_quiet_skip | (go_big_quiet_want; first | (refine quiet_loadAny (t := 24) rfl _ _ _ rfl (fun w hw => rce_ps (ov_rce rc w hw) hq) (by first | rfl | omega) ?_; simp only [Act.put, putS]; go_big_quiet_on) | (refine quiet_loadAny (t := 24) rfl _ _ _ rfl (fun w hw => run_load_B (ov_B p3 w hw) Try.isAgg24 (by kernel_rfl)) (by rfl) ?_; simp only [Act.put, putS]; go_big_quiet_on) | (go_big_quiet_op; go_big_quiet_on)))
            refine wpQuiet_nil ?_
            (refine wpList_bs1E (E := psE) rfl _ rfl ((qx, qy)) rfl (by omega) ?_; intro b_s1 wn hle hge ht hbn hzn; replace od := od.below (hbn.mono hle); have hsz := B.size; replace B := B.trans (hbn.mono (by omega)); have hln := Nat.lt_of_lt_of_eq (Nat.lt_succ_self _) hzn.symm; clear hzn; (try first | (have hlt := p3.lt; replace p3 := p3.of_eq (hbn.block _ (by omega))) | replace p3 := p3.below (hbn.mono hle)); (try first | (have hlt := rc.lt; replace rc := rc.of_eq (hbn.block _ (by omega))) | replace rc := rc.below (hbn.mono hle)); have s1 := ht; clear ht; simp only [Act.put, putS])
            (at_builtin; refine wpList_appendE rfl _ _ rfl _ _ rfl rfl od ((RSE.one s1)) (by simp only [List.length_append, List.length_cons, List.length_nil]; omega) (by omega) ?_; intro v_od wn ht hbn; have hsz := B.size; have hbz := hbn.size; replace B := B.trans (hbn.mono (by omega)); clear od; (try replace p3 := p3.of_eq (hbn.block _ (by omega))); (try replace rc := rc.of_eq (hbn.block _ (by omega))); have od := ht; clear ht; obtain ⟨a_od, c_od, hv, hco⟩ := od.len; (try simp only [List.length_append, List.length_cons, List.length_nil, Nat.zero_add] at hv hco); subst hv; simp only [Act.put, putS])
            refine wpList_chunk 1 (by kernel_rfl) ?_
            simp only [takS, Nat.reduceAdd]
            repeat (first | go_big_quiet_skip | (go_big_quiet_want; first | (go_big_quiet_op; go_big_quiet_on)))
            refine wpQuiet_nil ?_
            refine wpList_nil ?_
            go_wp2
            go_roundw
            case rel => exact ⟨k + 1, O ++ [(x, y)] ++ [(qx, qy)], true, _, _, by omega, by go_num, by (repeat rw [List.length_append]); rfl, rfl, B, by omega, p3, by (repeat rw [List.length_append]); exact od, by rw [← HO.out, HD.out]; show (O ++ [(x, y)] ++ [(qx, qy)]) ++ l.drop (k + 1) = O ++ insP ((qx, qy) :: l.drop (k + 1)) (x, y); rw [insP_cons, if_neg (fun e => by have := HE.out.1 e; cases this), if_pos (show ltP (x, y) (qx, qy) = true from HLS.out)]; simp⟩
            case measure => simp [intOf]; omega
          | false =>
            have HLS := Lib.hid hl
            clear hl
            go_upto_region 8 with fail
            refine wp_region_ov (by kernel_rfl) (by kernel_rfl) ?_
            repeat (first | go_big_quiet_skip | (go_big_quiet_want; first | (refine quiet_loadAny (t := 24) rfl _ _ _ rfl (fun w hw => rce_ps (ov_rce rc w hw) hq) (by first | rfl | omega) ?_; simp only [Act.put, putS]; go_big_quiet_on) | (refine quiet_loadAny (t := 24) rfl _ _ _ rfl (fun w hw => run_load_B (ov_B p3 w hw) Try.isAgg24 (by kernel_rfl)) (by rfl) ?_; simp only [Act.put, putS]; go_big_quiet_on) | (go_big_quiet_op; first | go_big_quiet_on | go_big_quiet_call ((first | (go_at_call 60; exact calls_ov (R_lessO x y qx qy false _ HLS.out)))))))
            refine wpQuiet_nil ?_
            intro wn hbn
            have hsz := B.size
            have hzn := hbn.size
            replace B := B.trans (hbn.mono B.size)
            try first | replace p3 := p3.of_eq (hbn.block _ p3.lt) | replace p3 := p3.below hbn
            try first | replace rc := rc.of_eq (hbn.block _ rc.lt) | replace rc := rc.below hbn
            try first | replace od := od.of_eq (hbn.block _ od.lt) | replace od := od.below hbn
            go_upto_region 11 with fail
            refine wp_region_lit ?_
            try simp only [List.getElem_toArray, List.getElem_cons_zero, List.getElem_cons_succ]
            refine wpList_chunk 5 (by kernel_rfl) ?_
            simp only [takS, Nat.reduceAdd]
            repeat (first | go_big_quiet_skip | (go_big_quiet_want; first | (refine quiet_loadAny (t := 24) rfl _ _ _ rfl (fun w hw => rce_ps (ov_rce rc w hw) hq) (by first | rfl | omega) ?_; simp only [Act.put, putS]; go_big_quiet_on) | (refine quiet_loadAny (t := 24) rfl _ _ _ rfl (fun w hw => run_load_B (ov_B p3 w hw) Try.isAgg24 (by kernel_rfl)) (by rfl) ?_; simp only [Act.put, putS]; go_big_quiet_on) | (go_big_quiet_op; go_big_quiet_on)))
            refine wpQuiet_nil ?_
            (refine wpList_bs1E (E := psE) rfl _ rfl ((qx, qy)) rfl (by omega) ?_; intro b_s1 wn hle hge ht hbn hzn; replace od := od.below (hbn.mono hle); have hsz := B.size; replace B := B.trans (hbn.mono (by omega)); have hln := Nat.lt_of_lt_of_eq (Nat.lt_succ_self _) hzn.symm; clear hzn; (try first | (have hlt := p3.lt; replace p3 := p3.of_eq (hbn.block _ (by omega))) | replace p3 := p3.below (hbn.mono hle)); (try first | (have hlt := rc.lt; replace rc := rc.of_eq (hbn.block _ (by omega))) | replace rc := rc.below (hbn.mono hle)); have s1 := ht; clear ht; simp only [Act.put, putS])
            (at_builtin; refine wpList_appendE rfl _ _ rfl _ _ rfl rfl od ((RSE.one s1)) (by simp only [List.length_append, List.length_cons, List.length_nil]; omega) (by omega) ?_; intro v_od wn ht hbn; have hsz := B.size; have hbz := hbn.size; replace B := B.trans (hbn.mono (by omega)); clear od; (try replace p3 := p3.of_eq (hbn.block _ (by omega))); (try replace rc := rc.of_eq (hbn.block _ (by omega))); have od := ht; clear ht; obtain ⟨a_od, c_od, hv, hco⟩ := od.len; (try simp only [List.length_append, List.length_cons, List.length_nil, Nat.zero_add] at hv hco); subst hv; simp only [Act.put, putS])
            refine wpList_chunk 1 (by kernel_rfl) ?_
            simp only [takS, Nat.reduceAdd]
            repeat (first | go_big_quiet_skip | (go_big_quiet_want; first | (go_big_quiet_op; go_big_quiet_on)))
            refine wpQuiet_nil ?_
            refine wpList_nil ?_
            go_wp2
            go_roundw
            case rel => exact ⟨k + 1, O ++ [(qx, qy)], false, _, _, by omega, by go_num, by (repeat rw [List.length_append]); rfl, rfl, B, by omega, p3, by (repeat rw [List.length_append]); exact od, by rw [← HO.out, HD.out]; show (O ++ [(qx, qy)]) ++ insP (l.drop (k + 1)) (x, y) = O ++ insP ((qx, qy) :: l.drop (k + 1)) (x, y); rw [insP_cons, if_neg (fun e => by have := HE.out.1 e; cases this), if_neg (show ¬ ltP (x, y) (qx, qy) = true from by show ¬ lessB x y qx qy = true; rw [HLS.out]; decide)]; simp⟩
            case measure => simp [intOf]; omega
    · obtain rfl : k = l.length := by omega
      have q1 : decide (((l.length : Nat) : Int) < (l.length : Int)) = false := decide_eq_false (by omega)
      have q2 : decide (l.length < l.length) = false := decide_eq_false (by omega)
      go_upto_region 4 with fail
      refine wp_region_lit ?_
      try simp only [List.getElem_toArray, List.getElem_cons_zero, List.getElem_cons_succ]
      refine wpList_chunk 2 (by kernel_rfl) ?_
      simp only [takS, Nat.reduceAdd]
      repeat (first | go_big_quiet_skip | (go_big_quiet_want; first | (go_big_quiet_op; go_big_quiet_on)))
      refine wpQuiet_nil ?_
      refine wpList_lenS (by first | rfl | simp [Region.wanted, yielded]) rfl Try.underlying88 rfl ?_
      simp only [Act.put, putS]
      refine wpList_chunk 1 (by kernel_rfl) ?_
      simp only [takS, Nat.reduceAdd]
      repeat (first | go_big_quiet_skip | (go_big_quiet_want; first | (go_big_quiet_op; go_big_quiet_on)))
      refine wpQuiet_nil ?_
      refine wpList_nil ?_
      cases d with
      | true =>
        go_upto_region 12 with fail
        refine wp_region_lit ?_
        try simp only [List.getElem_toArray, List.getElem_cons_zero, List.getElem_cons_succ]
        refine wpList_chunk 2 (by kernel_rfl) ?_
        simp only [takS, Nat.reduceAdd]
        repeat (first | go_big_quiet_skip | (go_big_quiet_want; first | (go_big_quiet_op; go_big_quiet_on)))
        refine wpQuiet_nil ?_
        refine wpList_nil ?_
        go_upto_region 14 with fail
        refine wp_region_lit ?_
        try simp only [List.getElem_toArray, List.getElem_cons_zero, List.getElem_cons_succ]
        refine wpList_chunk 2 (by kernel_rfl) ?_
        simp only [takS, Nat.reduceAdd]
        repeat (first | go_big_quiet_skip | (go_big_quiet_want; first | (go_big_quiet_op; go_big_quiet_on)))
        refine wpQuiet_nil ?_
        refine wpList_nil ?_
        iterate 3 go_step
        go_ret
        have e := HO.out
        rw [List.drop_length] at e
        have e : O ++ [] = _ := e
        rw [List.append_nil] at e
        rw [← e]
        exact ⟨_, _, rfl, od.rs, B⟩
      | false =>
        go_upto_region 12 with fail
        refine wp_region_lit ?_
        try simp only [List.getElem_toArray, List.getElem_cons_zero, List.getElem_cons_succ]
        refine wpList_chunk 2 (by kernel_rfl) ?_
        simp only [takS, Nat.reduceAdd]
        repeat (first | go_big_quiet_skip | (go_big_quiet_want; first | (go_big_quiet_op; go_big_quiet_on)))
        refine wpQuiet_nil ?_
        refine wpList_nil ?_
        go_upto_region 13 with fail
        refine wp_region_lit ?_
        try simp only [List.getElem_toArray, List.getElem_cons_zero, List.getElem_cons_succ]
        refine wpList_chunk 2 (by kernel_rfl) ?_
        simp only [takS, Nat.reduceAdd]
        repeat (first | go_big_quiet_skip | (go_big_quiet_want; first | (refine quiet_loadAny (t := 24) rfl _ _ _ rfl (fun w hw => rce_ps (ov_rce rc w hw) hq) (by first | rfl | omega) ?_; simp only [Act.put, putS]; go_big_quiet_on) | (refine quiet_loadAny (t := 24) rfl _ _ _ rfl (fun w hw => run_load_B (ov_B p3 w hw) Try.isAgg24 (by kernel_rfl)) (by rfl) ?_; simp only [Act.put, putS]; go_big_quiet_on) | (go_big_quiet_op; go_big_quiet_on)))
        refine wpQuiet_nil ?_
        (refine wpList_bs1E (E := psE) rfl _ rfl ((x, y)) rfl (by omega) ?_; intro b_s1 wn hle hge ht hbn hzn; replace od := od.below (hbn.mono hle); have hsz := B.size; replace B := B.trans (hbn.mono (by omega)); have hln := Nat.lt_of_lt_of_eq (Nat.lt_succ_self _) hzn.symm; clear hzn; (try first | (have hlt := p3.lt; replace p3 := p3.of_eq (hbn.block _ (by omega))) | replace p3 := p3.below (hbn.mono hle)); have s1 := ht; clear ht; simp only [Act.put, putS])
        (at_builtin; refine wpList_appendE rfl _ _ rfl _ _ rfl rfl od ((RSE.one s1)) (by simp only [List.length_append, List.length_cons, List.length_nil]; omega) (by omega) ?_; intro v_od wn ht hbn; have hsz := B.size; have hbz := hbn.size; replace B := B.trans (hbn.mono (by omega)); clear od; (try replace p3 := p3.of_eq (hbn.block _ (by omega))); have od := ht; clear ht; obtain ⟨a_od, c_od, hv, hco⟩ := od.len; (try simp only [List.length_append, List.length_cons, List.length_nil, Nat.zero_add] at hv hco); subst hv; simp only [Act.put, putS])
        refine wpList_chunk 1 (by kernel_rfl) ?_
        simp only [takS, Nat.reduceAdd]
        repeat (first | go_big_quiet_skip | (go_big_quiet_want; first | (go_big_quiet_op; go_big_quiet_on)))
        refine wpQuiet_nil ?_
        refine wpList_nil ?_
        go_upto_region 14 with fail
        refine wp_region_lit ?_
        try simp only [List.getElem_toArray, List.getElem_cons_zero, List.getElem_cons_succ]
        refine wpList_chunk 2 (by kernel_rfl) ?_
        simp only [takS, Nat.reduceAdd]
        repeat (first | go_big_quiet_skip | (go_big_quiet_want; first | (go_big_quiet_op; go_big_quiet_on)))
        refine wpQuiet_nil ?_
        refine wpList_nil ?_
        iterate 3 go_step
        go_ret
        have e := HO.out
        rw [List.drop_length] at e
        have e : O ++ [(x, y)] = _ := e
        rw [← e, List.length_append]
        exact ⟨_, _, rfl, by have := od.rs; simpa using this, B⟩
end Go.Proofs.Ytppccnjckiedlaa
/- Changed of the reference: the two loops. -/
namespace Go.Proofs.Ytppccnjckiedlaa
open Go.RowKit Go.Shelf Pl
set_option linter.unusedVariables false
set_option linter.unusedSimpArgs false
set_option maxRecDepth 20000
theorem R_SameO (a b : Nat → Px) (r : Bool) (w : World) (h : eqT a b = r) : Calls Try.prog 57 #[Tile.v a, Tile.v b] w fun e w' => e = .returned (.bool r) ∧ Below w.heap.size w w' := h ▸ R_Same a b w
theorem take_snoc {ls : List TA} {k : Nat} (h : k < ls.length) {e : TA} (he : aT ls k = e) : ls.take (k + 1) = ls.take k ++ [e] := by
  subst he
  unfold aT
  rw [List.take_add_one, List.getD_eq_getElem?_getD, List.getElem?_eq_getElem h]
  rfl
set_option maxHeartbeats 4000000 in
theorem R_Changed (v u : Value) (ls ks : List TA) (w : World) (h : RS v ls w) (h' : RS u ks w) (tk : TokL ls) (tk' : TokL ks) (hn : ls.length ≤ maxLen) (hn' : ks.length ≤ maxLen) : Calls Try.prog 46 #[.agg #[v], .agg #[u]] w fun e w' => ∃ a cp, e = .returned (.slice a (chgR (fineL ls) (fineL ks)).length cp) ∧ RSE psE (.slice a (chgR (fineL ls) (fineL ks)).length cp) (chgR (fineL ls) (fineL ks)) w' ∧ Below w.heap.size w w' := by
  have B := Below.refl w.heap.size w
  obtain ⟨a1, c1, hT⟩ := R_Of v ls w h tk hn
  have HT1 := Lib.hid hT
  clear hT
  obtain ⟨a2, c2, hT⟩ := R_Of u ks w h' tk' hn'
  have HT2 := Lib.hid hT
  clear hT
  have hfl := fineL_length ls
  have hfk := fineL_length ks
  obtain ⟨a, c, rfl, hc⟩ := h.len
  obtain ⟨a', c', rfl, hc'⟩ := h'.len
  clear h h' tk tk'
  generalize fineL ls = LS at *
  generalize fineL ks = KS at *
  have rs1 := (HT1.out _ B).2
  have rs2 := (HT2.out _ B).2
  have HL := Lib.hid (show LS.length ≤ maxLen from by unfold maxLen; omega)
  have HK := Lib.hid (show KS.length ≤ maxLen from by unfold maxLen; omega)
  go_enter Try.func46, Try.ntmps46
  go_upto_region 0 with fail
  refine wp_region_lit ?_
  try simp only [List.getElem_toArray, List.getElem_cons_zero, List.getElem_cons_succ]
  (refine wpList_boxB (t := 30) rfl _ rfl _ rfl ?_; intro b_r2 wn hle hge ht hbn hzn; have hsz := B.size; replace B := B.trans (hbn.mono (by omega)); have hln := Nat.lt_of_lt_of_eq (Nat.lt_succ_self _) hzn.symm; clear hzn; have r2 := ht; clear ht; simp only [Act.put, putS])
  (refine wpList_boxB (t := 30) rfl _ rfl _ rfl ?_; intro b_r3 wn hle hge ht hbn hzn; have hsz := B.size; replace B := B.trans (hbn.mono (by omega)); have hln := Nat.lt_of_lt_of_eq (Nat.lt_succ_self _) hzn.symm; clear hzn; (try first | (have hlt := r2.lt; replace r2 := r2.of_eq (hbn.block _ (by omega))) | replace r2 := r2.below (hbn.mono hle)); have r3 := ht; clear ht; simp only [Act.put, putS])
  refine wpList_chunk 1 (by kernel_rfl) ?_
  simp only [takS, Nat.reduceAdd]
  repeat (first | go_big_quiet_skip | (go_big_quiet_want; first | (go_big_quiet_op; go_big_quiet_on)))
  refine wpQuiet_nil ?_
  refine wpList_nil ?_
  go_upto_region 1 with fail
  refine wp_region_lit ?_
  try simp only [List.getElem_toArray, List.getElem_cons_zero, List.getElem_cons_succ]
  refine wpList_chunk 1 (by kernel_rfl) ?_
  simp only [takS, Nat.reduceAdd]
  repeat (first | go_big_quiet_skip | (go_big_quiet_want; first | (refine quiet_loadAny (t := 30) rfl _ _ _ rfl (fun w hw => run_load_B (ov_B r2 w hw) Try.isAgg30 (by kernel_rfl)) (by rfl) ?_; simp only [Act.put, putS]; go_big_quiet_on) | (refine quiet_loadAny (t := 30) rfl _ _ _ rfl (fun w hw => run_load_B (ov_B r3 w hw) Try.isAgg30 (by kernel_rfl)) (by rfl) ?_; simp only [Act.put, putS]; go_big_quiet_on) | (go_big_quiet_op; go_big_quiet_on)))
  refine wpQuiet_nil ?_
  refine wpList_callF (by first | rfl | simp [Region.wanted, yielded]) rfl (enters_of Try.func70 (by kernel_rfl) rfl) (by simp only [List.map_toArray, List.map_cons, List.map_nil, Act.eval, Array.getD_eq_getD_getElem?, List.getElem?_toArray, List.getElem?_cons_succ, List.getElem?_cons_zero, Option.getD_some]; rfl) ?_
  refine ((HT1.out _ B).1).mono ?_
  rintro e wn ⟨rfl, hbn⟩
  have hsz := B.size
  have hzn := hbn.size
  replace B := B.trans (hbn.mono B.size)
  (try first | replace r2 := r2.of_eq (hbn.block _ r2.lt) | replace r2 := r2.below hbn)
  (try first | replace r3 := r3.of_eq (hbn.block _ r3.lt) | replace r3 := r3.below hbn)
  refine ⟨_, rfl, ?_⟩
  simp only [Act.put, putS]
  (refine wpList_storeB (t := 30) rfl _ _ rfl _ rfl _ rfl r2 (by kernel_rfl) rfl (by simp [Value.oneCell']) ?_; clear r2; intro wn ht hcn hzn; have hsz := B.size; replace hzn := Nat.le_of_eq hzn.symm; replace B := Chg.below B hcn (by omega) B.size; (try replace r3 := r3.of_eq (hcn.block _ r3.lt (by omega))); have r2 := ht; clear ht; simp only [Act.put, putS])
  refine wpList_nil ?_
  go_upto_region 2 with fail
  refine wp_region_lit ?_
  try simp only [List.getElem_toArray, List.getElem_cons_zero, List.getElem_cons_succ]
  refine wpList_chunk 1 (by kernel_rfl) ?_
  simp only [takS, Nat.reduceAdd]
  repeat (first | go_big_quiet_skip | (go_big_quiet_want; first | (refine quiet_loadAny (t := 30) rfl _ _ _ rfl (fun w hw => run_load_B (ov_B r2 w hw) Try.isAgg30 (by kernel_rfl)) (by rfl) ?_; simp only [Act.put, putS]; go_big_quiet_on) | (refine quiet_loadAny (t := 30) rfl _ _ _ rfl (fun w hw => run_load_B (ov_B r3 w hw) Try.isAgg30 (by kernel_rfl)) (by rfl) ?_; simp only [Act.put, putS]; go_big_quiet_on) | (go_big_quiet_op; go_big_quiet_on)))
  refine wpQuiet_nil ?_
  refine wpList_callF (by first | rfl | simp [Region.wanted, yielded]) rfl (enters_of Try.func70 (by kernel_rfl) rfl) (by simp only [List.map_toArray, List.map_cons, List.map_nil, Act.eval, Array.getD_eq_getD_getElem?, List.getElem?_toArray, List.getElem?_cons_succ, List.getElem?_cons_zero, Option.getD_some]; rfl) ?_
  refine ((HT2.out _ B).1).mono ?_
  rintro e wn ⟨rfl, hbn⟩
  have hsz := B.size
  have hzn := hbn.size
  replace B := B.trans (hbn.mono B.size)
  (try first | replace r2 := r2.of_eq (hbn.block _ r2.lt) | replace r2 := r2.below hbn)
  (try first | replace r3 := r3.of_eq (hbn.block _ r3.lt) | replace r3 := r3.below hbn)
  refine ⟨_, rfl, ?_⟩
  simp only [Act.put, putS]
  (refine wpList_storeB (t := 30) rfl _ _ rfl _ rfl _ rfl r3 (by kernel_rfl) rfl (by simp [Value.oneCell']) ?_; clear r3; intro wn ht hcn hzn; have hsz := B.size; replace hzn := Nat.le_of_eq hzn.symm; replace B := Chg.below B hcn (by omega) B.size; (try replace r2 := r2.of_eq (hcn.block _ r2.lt (by omega))); have r3 := ht; clear ht; simp only [Act.put, putS])
  refine wpList_nil ?_
  clear HT1 HT2
  have k2 := r2.lt
  have k3 := r3.lt
  have k1 : w.heap.size ≤ b_r2 := by omega
  have k4 : w.heap.size ≤ b_r3 := by omega
  go_upto_region 3 with fail
  refine wp_region_lit ?_
  try simp only [List.getElem_toArray, List.getElem_cons_zero, List.getElem_cons_succ]
  (refine wpList_bsEP rfl rfl ?_; intro b_od wn hle hge ht hbn hzn; have hsz := B.size; replace B := B.trans (hbn.mono (by omega)); (have hlt := r2.lt; replace r2 := r2.of_eq (hbn.block _ (by omega))); (have hlt := r3.lt; replace r3 := r3.of_eq (hbn.block _ (by omega))); have od := ht; clear ht; simp only [Act.put, putS])
  refine wpList_chunk 1 (by kernel_rfl) ?_
  simp only [takS, Nat.reduceAdd]
  repeat (first | go_big_quiet_skip | (go_big_quiet_want; first | (go_big_quiet_op; go_big_quiet_on)))
  refine wpQuiet_nil ?_
  refine wpList_nil ?_
  have k5 : b_r2 < b_od := by omega
  have k6 : b_r3 < b_od := by omega
  have k7 : b_od ≤ wn.heap.size := by omega
  clear k2 k3
  go_upto_region 4 with fail
  refine wp_region_lit ?_
  try simp only [List.getElem_toArray, List.getElem_cons_zero, List.getElem_cons_succ]
  refine wpList_chunk 1 (by kernel_rfl) ?_
  simp only [takS, Nat.reduceAdd]
  repeat (first | go_big_quiet_skip | (go_big_quiet_want; first | (go_big_quiet_op; go_big_quiet_on)))
  refine wpQuiet_nil ?_
  refine wpList_nil ?_
  go_wp2
  go_loopw [5, 6, 7] (fun ov iv _ wr => ∃ (k : Nat) (O : List (Int × Int)) (ao : Option Addr) (co : Nat), k ≤ LS.length ∧ iv = .int .i64 (k : Int) ∧ ov = .slice ao O.length co ∧ Below w.heap.size w wr ∧ AtB 30 wr b_r2 #[.slice a1 LS.length c1] ∧ AtB 30 wr b_r3 #[.slice a2 KS.length c2] ∧ b_od ≤ wr.heap.size ∧ OwnE psE b_od (.slice ao O.length co) O wr ∧ O = chg1 (LS.take k) KS) (fun _ iv _ _ => (LS.length - intOf iv).toNat)
  case atStart => exact ⟨0, [], _, _, by omega, rfl, rfl, B, r2, r3, k7, od, rfl⟩
  case round =>
    clear B r2 r3 od k7
    obtain ⟨k, O, ao, co, hk, rfl, rfl, B, r2, r3, k7, od, hO⟩ := hrel
    have hO1 := chg1_len (LS.take k) KS
    rw [← hO, List.length_take] at hO1
    have hO2 : O.length ≤ 1024 := by omega
    clear hO1
    have HO := Lib.hid hO
    clear hO
    by_cases hkl : k < LS.length
    · have q1 : decide ((k : Int) < (LS.length : Int)) = true := decide_eq_true (by omega)
      have q2 : decide (k < LS.length) = true := decide_eq_true hkl
      obtain ⟨g, o, rfl, rc0⟩ := rs1.at (by omega)
      have rc := rc0.of_eq (B.block _ rc0.lt)
      clear rc0
      obtain ⟨⟨x, y, t⟩, he⟩ : ∃ e, aT LS k = e := ⟨_, rfl⟩
      have HT := Lib.hid (take_snoc hkl he)
      have rs2c := rs2.below B
      go_upto_region 5 with fail
      refine wp_region_lit ?_
      try simp only [List.getElem_toArray, List.getElem_cons_zero, List.getElem_cons_succ]
      refine wpList_chunk 3 (by kernel_rfl) ?_
      simp only [takS, Nat.reduceAdd]
      repeat (first | go_big_quiet_skip | (go_big_quiet_want; first | (refine quiet_loadAny (t := 28) rfl _ _ _ rfl (fun w hw => run_load_sl (ov_B r2 w hw).cell0) (by rfl) ?_; simp only [Act.put, putS]; go_big_quiet_on) | (refine quiet_loadAny (t := 28) rfl _ _ _ rfl (fun w hw => run_load_sl (ov_B r3 w hw).cell0) (by rfl) ?_; simp only [Act.put, putS]; go_big_quiet_on) | (go_big_quiet_op; go_big_quiet_on)))
      refine wpQuiet_nil ?_
      refine wpList_lenS (by first | rfl | simp [Region.wanted, yielded]) rfl Try.underlying28 rfl ?_
      simp only [Act.put, putS]
      refine wpList_chunk 1 (by kernel_rfl) ?_
      simp only [takS, Nat.reduceAdd]
      repeat (first | go_big_quiet_skip | (go_big_quiet_want; first | (go_big_quiet_op; go_big_quiet_on)))
      refine wpQuiet_nil ?_
      refine wpList_nil ?_
      cases heq : eqT t (tileL KS x y) with
      | true =>
        have HE := Lib.hid heq
        clear heq
        go_upto_region 7 with fail
        try simp only [List.getElem_toArray, List.getElem_cons_zero, List.getElem_cons_succ]
        try have lx_r2 := r2.lt
        try have lx_r3 := r3.lt
        try have lx_rc := rc.lt
        try have lx_od := od.lt
        try have lx_rs2c := rs2c.lt
        refine wp_region_RL 16 [(13, detS ?v1_13), (14, detS ?v1_14)] (by kernel_rfl) (by kernel_rfl) (by kernel_rfl) ?_
        rotate_left 2
        simp only [takS, Nat.reduceAdd]
        refine wpRL_chunk 13 (by kernel_rfl) ?_
        simp only [takS, Nat.reduceAdd]
        repeat (first | go_big_quiet_skip | (go_big_quiet_want; first | (refine quiet_loadAny (t := 28) rfl _ _ _ rfl (fun w hw => run_load_sl (ov_B r2 w hw).cell0) (by rfl) ?_; simp only [Act.put, putS]; go_big_quiet_on) | (refine quiet_loadAny (t := 30) rfl _ _ _ rfl (fun w hw => run_load_B (ov_B r3 w hw) Try.isAgg30 (by kernel_rfl)) (by rfl) ?_; simp only [Act.put, putS]; go_big_quiet_on) | (refine quiet_loadAny (t := 40) rfl _ _ _ rfl (fun w hw => rc_tile (ov_rc rc w hw) hkl he) (by first | rfl | omega) ?_; simp only [Act.put, putS]; go_big_quiet_on) | (refine quiet_loadAny (t := 24) rfl _ _ _ rfl (fun w hw => rc_pos (ov_rc rc w hw) hkl he) (by first | rfl | omega) ?_; simp only [Act.put, putS]; go_big_quiet_on) | (go_big_quiet_op; go_big_quiet_on)))
        refine wpQuiet_nil ?_
        refine wpRL_callB (by rfl) (by first | rfl | simp [Region.wanted, yielded]) ?_ ?_
        · intro wn hbn hE Kx hKx
          have hsz := B.size
          have hzn := hbn.size
          replace B := B.trans (hbn.mono B.size)
          (try first | replace r2 := r2.of_eq (hbn.block _ r2.lt) | replace r2 := r2.below hbn)
          (try first | replace r3 := r3.of_eq (hbn.block _ r3.lt) | replace r3 := r3.below hbn)
          (try first | replace rc := rc.of_eq (hbn.block _ rc.lt) | replace rc := rc.below hbn)
          (try first | replace od := od.of_eq (hbn.block _ od.lt) | replace od := od.below hbn)
          (try first | replace rs2c := rs2c.of_eq (hbn.block _ rs2c.lt) | replace rs2c := rs2c.below hbn)
          refine wp_callF rfl (enters_of Try.func23 (by kernel_rfl) rfl) (by simp only [List.map_toArray, List.map_cons, List.map_nil, Act.eval, Array.getD_eq_getD_getElem?, List.getElem?_toArray, List.getElem?_cons_succ, List.getElem?_cons_zero, Option.getD_some]; rfl) ?_
          refine (R_TileO _ KS x y _ rs2c HK.out).mono ?_
          rintro e wm ⟨rfl, hbm⟩
          refine ⟨_, rfl, ?_⟩
          have hz := hKx () wm trivial hbm
          dsimp only [detS] at hz
          exact hz
        rintro ⟨⟩
        dsimp only [detS]
        simp only [Act.put, putS]
        refine wpRL_callB (by rfl) (by first | rfl | simp [Region.wanted, yielded]) ?_ ?_
        · intro wn hbn hE Kx hKx
          have hsz := B.size
          have hzn := hbn.size
          replace B := B.trans (hbn.mono B.size)
          (try first | replace r2 := r2.of_eq (hbn.block _ r2.lt) | replace r2 := r2.below hbn)
          (try first | replace r3 := r3.of_eq (hbn.block _ r3.lt) | replace r3 := r3.below hbn)
          (try first | replace rc := rc.of_eq (hbn.block _ rc.lt) | replace rc := rc.below hbn)
          (try first | replace od := od.of_eq (hbn.block _ od.lt) | replace od := od.below hbn)
          (try first | replace rs2c := rs2c.of_eq (hbn.block _ rs2c.lt) | replace rs2c := rs2c.below hbn)
          refine wp_callF rfl (enters_of Try.func57 (by kernel_rfl) rfl) (by simp only [List.map_toArray, List.map_cons, List.map_nil, Act.eval, Array.getD_eq_getD_getElem?, List.getElem?_toArray, List.getElem?_cons_succ, List.getElem?_cons_zero, Option.getD_some]; rfl) ?_
          refine (R_SameO t (tileL KS x y) true _ HE.out).mono ?_
          rintro e wm ⟨rfl, hbm⟩
          refine ⟨_, rfl, ?_⟩
          have hz := hKx () wm trivial hbm
          dsimp only [detS] at hz
          exact hz
        rintro ⟨⟩
        dsimp only [detS]
        simp only [Act.put, putS]
        refine wpRL_chunk 1 (by kernel_rfl) ?_
        simp only [takS, Nat.reduceAdd]
        repeat (first | go_big_quiet_skip | (go_big_quiet_want; first | (go_big_quiet_op; go_big_quiet_on)))
        refine wpQuiet_nil ?_
        refine wpRL_nil ?_
        intro wn hbn hE
        have hsz := B.size
        have hzn := hbn.size
        replace B := B.trans (hbn.mono B.size)
        (try first | replace r2 := r2.of_eq (hbn.block _ r2.lt) | replace r2 := r2.below hbn)
        (try first | replace r3 := r3.of_eq (hbn.block _ r3.lt) | replace r3 := r3.below hbn)
        (try first | replace rc := rc.of_eq (hbn.block _ rc.lt) | replace rc := rc.below hbn)
        (try first | replace od := od.of_eq (hbn.block _ od.lt) | replace od := od.below hbn)
        (try first | replace rs2c := rs2c.of_eq (hbn.block _ rs2c.lt) | replace rs2c := rs2c.below hbn)
        clear hE
        try simp only [List.drop_succ_cons, List.drop_zero]
        refine NoPan.normal ?_
        go_upto_region 8 with fail
        refine wp_region_lit ?_
        try simp only [List.getElem_toArray, List.getElem_cons_zero, List.getElem_cons_succ]
        refine wpList_chunk 2 (by kernel_rfl) ?_
        simp only [takS, Nat.reduceAdd]
        repeat (first | go_big_quiet_skip | (go_big_quiet_want; first | (go_big_quiet_op; go_big_quiet_on)))
        refine wpQuiet_nil ?_
        refine wpList_nil ?_
        go_wp2
        go_roundw
        case rel => exact ⟨k + 1, O, _, _, by omega, by go_num, rfl, B, r2, r3, by omega, od, by rw [HT.out, chg1_snoc, if_pos HE.out, ← HO.out, List.append_nil]⟩
        case measure => simp [intOf]; omega
      | false =>
        have HE := Lib.hid heq
        clear heq
        go_upto_region 7 with fail
        try simp only [List.getElem_toArray, List.getElem_cons_zero, List.getElem_cons_succ]
        try have lx_r2 := r2.lt
        try have lx_r3 := r3.lt
        try have lx_rc := rc.lt
        try have lx_od := od.lt
        try have lx_rs2c := rs2c.lt
        refine wp_region_RL 16 [(13, detS ?v2_13), (14, detS ?v2_14)] (by kernel_rfl) (by kernel_rfl) (by kernel_rfl) ?_
        rotate_left 2
        simp only [takS, Nat.reduceAdd]
        refine wpRL_chunk 13 (by kernel_rfl) ?_
        simp only [takS, Nat.reduceAdd]
        repeat (first | go_big_quiet_skip | (go_big_quiet_want; first | (refine quiet_loadAny (t := 28) rfl _ _ _ rfl (fun w hw => run_load_sl (ov_B r2 w hw).cell0) (by rfl) ?_; simp only [Act.put, putS]; go_big_quiet_on) | (refine quiet_loadAny (t := 30) rfl _ _ _ rfl (fun w hw => run_load_B (ov_B r3 w hw) Try.isAgg30 (by kernel_rfl)) (by rfl) ?_; simp only [Act.put, putS]; go_big_quiet_on) | (refine quiet_loadAny (t := 40) rfl _ _ _ rfl (fun w hw => rc_tile (ov_rc rc w hw) hkl he) (by first | rfl | omega) ?_; simp only [Act.put, putS]; go_big_quiet_on) | (refine quiet_loadAny (t := 24) rfl _ _ _ rfl (fun w hw => rc_pos (ov_rc rc w hw) hkl he) (by first | rfl | omega) ?_; simp only [Act.put, putS]; go_big_quiet_on) | (go_big_quiet_op; go_big_quiet_on)))
        refine wpQuiet_nil ?_
        refine wpRL_callB (by rfl) (by first | rfl | simp [Region.wanted, yielded]) ?_ ?_
        · intro wn hbn hE Kx hKx
          have hsz := B.size
          have hzn := hbn.size
          replace B := B.trans (hbn.mono B.size)
          (try first | replace r2 := r2.of_eq (hbn.block _ r2.lt) | replace r2 := r2.below hbn)
          (try first | replace r3 := r3.of_eq (hbn.block _ r3.lt) | replace r3 := r3.below hbn)
          (try first | replace rc := rc.of_eq (hbn.block _ rc.lt) | replace rc := rc.below hbn)
          (try first | replace od := od.of_eq (hbn.block _ od.lt) | replace od := od.below hbn)
          (try first | replace rs2c := rs2c.of_eq (hbn.block _ rs2c.lt) | replace rs2c := rs2c.below hbn)
          refine wp_callF rfl (enters_of Try.func23 (by kernel_rfl) rfl) (by simp only [List.map_toArray, List.map_cons, List.map_nil, Act.eval, Array.getD_eq_getD_getElem?, List.getElem?_toArray, List.getElem?_cons_succ, List.getElem?_cons_zero, Option.getD_some]; rfl) ?_
          refine (R_TileO _ KS x y _ rs2c HK.out).mono ?_
          rintro e wm ⟨rfl, hbm⟩
          refine ⟨_, rfl, ?_⟩
          have hz := hKx () wm trivial hbm
          dsimp only [detS] at hz
          exact hz
        rintro ⟨⟩
        dsimp only [detS]
        simp only [Act.put, putS]
        refine wpRL_callB (by rfl) (by first | rfl | simp [Region.wanted, yielded]) ?_ ?_
        · intro wn hbn hE Kx hKx
          have hsz := B.size
          have hzn := hbn.size
          replace B := B.trans (hbn.mono B.size)
          (try first | replace r2 := r2.of_eq (hbn.block _ r2.lt) | replace r2 := r2.below hbn)
          (try first | replace r3 := r3.of_eq (hbn.block _ r3.lt) | replace r3 := r3.below hbn)
          (try first | replace rc := rc.of_eq (hbn.block _ rc.lt) | replace rc := rc.below hbn)
          (try first | replace od := od.of_eq (hbn.block _ od.lt) | replace od := od.below hbn)
          (try first | replace rs2c := rs2c.of_eq (hbn.block _ rs2c.lt) | replace rs2c := rs2c.below hbn)
          refine wp_callF rfl (enters_of Try.func57 (by kernel_rfl) rfl) (by simp only [List.map_toArray, List.map_cons, List.map_nil, Act.eval, Array.getD_eq_getD_getElem?, List.getElem?_toArray, List.getElem?_cons_succ, List.getElem?_cons_zero, Option.getD_some]; rfl) ?_
          refine (R_SameO t (tileL KS x y) false _ HE.out).mono ?_
          rintro e wm ⟨rfl, hbm⟩
          refine ⟨_, rfl, ?_⟩
          have hz := hKx () wm trivial hbm
          dsimp only [detS] at hz
          exact hz
        rintro ⟨⟩
        dsimp only [detS]
        simp only [Act.put, putS]
        refine wpRL_chunk 1 (by kernel_rfl) ?_
        simp only [takS, Nat.reduceAdd]
        repeat (first | go_big_quiet_skip | (go_big_quiet_want; first | (go_big_quiet_op; go_big_quiet_on)))
        refine wpQuiet_nil ?_
        refine wpRL_nil ?_
        intro wn hbn hE
        have hsz := B.size
        have hzn := hbn.size
        replace B := B.trans (hbn.mono B.size)
        (try first | replace r2 := r2.of_eq (hbn.block _ r2.lt) | replace r2 := r2.below hbn)
        (try first | replace r3 := r3.of_eq (hbn.block _ r3.lt) | replace r3 := r3.below hbn)
        (try first | replace rc := rc.of_eq (hbn.block _ rc.lt) | replace rc := rc.below hbn)
        (try first | replace od := od.of_eq (hbn.block _ od.lt) | replace od := od.below hbn)
        (try first | replace rs2c := rs2c.of_eq (hbn.block _ rs2c.lt) | replace rs2c := rs2c.below hbn)
        clear hE
        try simp only [List.drop_succ_cons, List.drop_zero]
        refine NoPan.normal ?_
        go_upto_region 8 with fail
        refine wp_region_lit ?_
        try simp only [List.getElem_toArray, List.getElem_cons_zero, List.getElem_cons_succ]
        refine wpList_chunk 2 (by kernel_rfl) ?_
        simp only [takS, Nat.reduceAdd]
        repeat (first | go_big_quiet_skip | (go_big_quiet_want; first | (go_big_quiet_op; go_big_quiet_on)))
        refine wpQuiet_nil ?_
        refine wpList_nil ?_
        go_upto_region 9 with fail
        refine wp_region_lit ?_
        try simp only [List.getElem_toArray, List.getElem_cons_zero, List.getElem_cons_succ]
        refine wpList_chunk 7 (by kernel_rfl) ?_
        simp only [takS, Nat.reduceAdd]
        repeat (first | go_big_quiet_skip | (go_big_quiet_want; first | (refine quiet_loadAny (t := 28) rfl _ _ _ rfl (fun w hw => run_load_sl (ov_B r2 w hw).cell0) (by rfl) ?_; simp only [Act.put, putS]; go_big_quiet_on) | (refine quiet_loadAny (t := 24) rfl _ _ _ rfl (fun w hw => rc_pos (ov_rc rc w hw) hkl he) (by first | rfl | omega) ?_; simp only [Act.put, putS]; go_big_quiet_on) | (go_big_quiet_op; go_big_quiet_on)))
        refine wpQuiet_nil ?_
        (refine wpList_bs1E (E := psE) rfl _ rfl ((x, y)) rfl (by omega) ?_; intro b_s1 wn hle hge ht hbn hzn; replace od := od.below (hbn.mono hle); have hsz := B.size; replace B := B.trans (hbn.mono (by omega)); have hln := Nat.lt_of_lt_of_eq (Nat.lt_succ_self _) hzn.symm; clear hzn; (try first | (have hlt := r2.lt; replace r2 := r2.of_eq (hbn.block _ (by omega))) | replace r2 := r2.below (hbn.mono hle)); (try first | (have hlt := r3.lt; replace r3 := r3.of_eq (hbn.block _ (by omega))) | replace r3 := r3.below (hbn.mono hle)); (try first | (have hlt := rc.lt; replace rc := rc.of_eq (hbn.block _ (by omega))) | replace rc := rc.below (hbn.mono hle)); have s1 := ht; clear ht; simp only [Act.put, putS])
        (at_builtin; refine wpList_appendE rfl _ _ rfl _ _ rfl rfl od ((RSE.one s1)) (by simp only [List.length_append, List.length_cons, List.length_nil]; omega) (by omega) ?_; intro v_od wn ht hbn; have hsz := B.size; have hbz := hbn.size; replace B := B.trans (hbn.mono (by omega)); clear od; (try replace r2 := r2.of_eq (hbn.block _ (by omega))); (try replace r3 := r3.of_eq (hbn.block _ (by omega))); (try replace rc := rc.of_eq (hbn.block _ (by omega))); have od := ht; clear ht; obtain ⟨a_od, c_od, hv, hco⟩ := od.len; (try simp only [List.length_append, List.length_cons, List.length_nil, Nat.zero_add] at hv hco); subst hv; simp only [Act.put, putS])
        refine wpList_chunk 1 (by kernel_rfl) ?_
        simp only [takS, Nat.reduceAdd]
        repeat (first | go_big_quiet_skip | (go_big_quiet_want; first | (go_big_quiet_op; go_big_quiet_on)))
        refine wpQuiet_nil ?_
        refine wpList_nil ?_
        go_wp2
        go_roundw
        case rel => exact ⟨k + 1, O ++ [(x, y)], _, _, by omega, by go_num, by rw [List.length_append]; rfl, B, r2, r3, by omega, by rw [List.length_append]; exact od, by rw [HT.out, chg1_snoc, if_neg (by rw [HE.out]; decide), ← HO.out]; rfl⟩
        case measure => simp [intOf]; omega
    · obtain rfl : k = LS.length := by omega
      have q1 : decide (((LS.length : Nat) : Int) < (LS.length : Int)) = false := decide_eq_false (by omega)
      have q2 : decide (LS.length < LS.length) = false := decide_eq_false (by omega)
      have o1 := od.rs
      have HC := Lib.hid (show O = chg1 LS KS from by rw [HO.out, List.take_length])
      clear HO od
      go_upto_region 5 with fail
      refine wp_region_lit ?_
      try simp only [List.getElem_toArray, List.getElem_cons_zero, List.getElem_cons_succ]
      refine wpList_chunk 3 (by kernel_rfl) ?_
      simp only [takS, Nat.reduceAdd]
      repeat (first | go_big_quiet_skip | (go_big_quiet_want; first | (refine quiet_loadAny (t := 28) rfl _ _ _ rfl (fun w hw => run_load_sl (ov_B r2 w hw).cell0) (by rfl) ?_; simp only [Act.put, putS]; go_big_quiet_on) | (refine quiet_loadAny (t := 28) rfl _ _ _ rfl (fun w hw => run_load_sl (ov_B r3 w hw).cell0) (by rfl) ?_; simp only [Act.put, putS]; go_big_quiet_on) | (go_big_quiet_op; go_big_quiet_on)))
      refine wpQuiet_nil ?_
      refine wpList_lenS (by first | rfl | simp [Region.wanted, yielded]) rfl Try.underlying28 rfl ?_
      simp only [Act.put, putS]
      refine wpList_chunk 1 (by kernel_rfl) ?_
      simp only [takS, Nat.reduceAdd]
      repeat (first | go_big_quiet_skip | (go_big_quiet_want; first | (go_big_quiet_op; go_big_quiet_on)))
      refine wpQuiet_nil ?_
      refine wpList_nil ?_
      go_upto_region 10 with fail
      refine wp_region_lit ?_
      try simp only [List.getElem_toArray, List.getElem_cons_zero, List.getElem_cons_succ]
      refine wpList_chunk 1 (by kernel_rfl) ?_
      simp only [takS, Nat.reduceAdd]
      repeat (first | go_big_quiet_skip | (go_big_quiet_want; first | (go_big_quiet_op; go_big_quiet_on)))
      refine wpQuiet_nil ?_
      refine wpList_nil ?_
      go_wp2
      go_loopw [5, 8, 9] (fun ov iv _ wr => ∃ (j : Nat) (M : List (Int × Int)) (ao : Option Addr) (co : Nat), j ≤ KS.length ∧ iv = .int .i64 (j : Int) ∧ ov = .slice ao M.length co ∧ Below w.heap.size w wr ∧ AtB 30 wr b_r2 #[.slice a1 LS.length c1] ∧ AtB 30 wr b_r3 #[.slice a2 KS.length c2] ∧ RSE psE (.slice ao M.length co) M wr ∧ M = chg2 LS (chg1 LS KS) (KS.take j)) (fun _ iv _ _ => (KS.length - intOf iv).toNat)
      case atStart => exact ⟨0, O, _, _, by omega, rfl, rfl, B, r2, r3, o1, HC.out⟩
      case round =>
        clear B r2 r3 o1 HC
        obtain ⟨j, M, ao, co, hj, rfl, rfl, B, r2, r3, o1, hM⟩ := hrel
        have hM1 := chg2_len LS (KS.take j) (chg1 LS KS)
        have hM2 := chg1_len LS KS
        rw [← hM, List.length_take] at hM1
        have hM3 : M.length ≤ 4000 := by omega
        clear hM1 hM2
        have HM := Lib.hid hM
        clear hM
        by_cases hjl : j < KS.length
        · have q1 : decide ((j : Int) < (KS.length : Int)) = true := decide_eq_true (by omega)
          have q2 : decide (j < KS.length) = true := decide_eq_true hjl
          obtain ⟨g, o, rfl, rc0⟩ := rs2.at (by omega)
          have rc := rc0.of_eq (B.block _ rc0.lt)
          clear rc0
          obtain ⟨⟨x, y, t⟩, he⟩ : ∃ e, aT KS j = e := ⟨_, rfl⟩
          have HT := Lib.hid (take_snoc hjl he)
          have rs1c := rs1.below B
          go_upto_region 11 with fail
          refine wp_region_lit ?_
          try simp only [List.getElem_toArray, List.getElem_cons_zero, List.getElem_cons_succ]
          refine wpList_chunk 3 (by kernel_rfl) ?_
          simp only [takS, Nat.reduceAdd]
          repeat (first | go_big_quiet_skip | (go_big_quiet_want; first | (refine quiet_loadAny (t := 28) rfl _ _ _ rfl (fun w hw => run_load_sl (ov_B r2 w hw).cell0) (by rfl) ?_; simp only [Act.put, putS]; go_big_quiet_on) | (refine quiet_loadAny (t := 28) rfl _ _ _ rfl (fun w hw => run_load_sl (ov_B r3 w hw).cell0) (by rfl) ?_; simp only [Act.put, putS]; go_big_quiet_on) | (go_big_quiet_op; go_big_quiet_on)))
          refine wpQuiet_nil ?_
          refine wpList_lenS (by first | rfl | simp [Region.wanted, yielded]) rfl Try.underlying28 rfl ?_
          simp only [Act.put, putS]
          refine wpList_chunk 1 (by kernel_rfl) ?_
          simp only [takS, Nat.reduceAdd]
          repeat (first | go_big_quiet_skip | (go_big_quiet_want; first | (go_big_quiet_op; go_big_quiet_on)))
          refine wpQuiet_nil ?_
          refine wpList_nil ?_
          cases heq : eqT t (tileL LS x y) with
          | true =>
            have HE := Lib.hid heq
            clear heq
            go_upto_region 13 with fail
            try simp only [List.getElem_toArray, List.getElem_cons_zero, List.getElem_cons_succ]
            try have lx_r2 := r2.lt
            try have lx_r3 := r3.lt
            try have lx_rc := rc.lt
            try have lx_o1 := o1.lt
            try have lx_rs1c := rs1c.lt
            refine wp_region_RL 16 [(13, detS ?v3_13), (14, detS ?v3_14)] (by kernel_rfl) (by kernel_rfl) (by kernel_rfl) ?_
            rotate_left 2
            simp only [takS, Nat.reduceAdd]
            refine wpRL_chunk 13 (by kernel_rfl) ?_
            simp only [takS, Nat.reduceAdd]
            repeat (first | go_big_quiet_skip | (go_big_quiet_want; first | (refine quiet_loadAny (t := 28) rfl _ _ _ rfl (fun w hw => run_load_sl (ov_B r3 w hw).cell0) (by rfl) ?_; simp only [Act.put, putS]; go_big_quiet_on) | (refine quiet_loadAny (t := 30) rfl _ _ _ rfl (fun w hw => run_load_B (ov_B r2 w hw) Try.isAgg30 (by kernel_rfl)) (by rfl) ?_; simp only [Act.put, putS]; go_big_quiet_on) | (refine quiet_loadAny (t := 40) rfl _ _ _ rfl (fun w hw => rc_tile (ov_rc rc w hw) hjl he) (by first | rfl | omega) ?_; simp only [Act.put, putS]; go_big_quiet_on) | (refine quiet_loadAny (t := 24) rfl _ _ _ rfl (fun w hw => rc_pos (ov_rc rc w hw) hjl he) (by first | rfl | omega) ?_; simp only [Act.put, putS]; go_big_quiet_on) | (go_big_quiet_op; go_big_quiet_on)))
            refine wpQuiet_nil ?_
            refine wpRL_callB (by rfl) (by first | rfl | simp [Region.wanted, yielded]) ?_ ?_
            · intro wn hbn hE Kx hKx
              have hsz := B.size
              have hzn := hbn.size
              replace B := B.trans (hbn.mono B.size)
              (try first | replace r2 := r2.of_eq (hbn.block _ r2.lt) | replace r2 := r2.below hbn)
              (try first | replace r3 := r3.of_eq (hbn.block _ r3.lt) | replace r3 := r3.below hbn)
              (try first | replace rc := rc.of_eq (hbn.block _ rc.lt) | replace rc := rc.below hbn)
              (try first | replace o1 := o1.of_eq (hbn.block _ o1.lt) | replace o1 := o1.below hbn)
              (try first | replace rs1c := rs1c.of_eq (hbn.block _ rs1c.lt) | replace rs1c := rs1c.below hbn)
              refine wp_callF rfl (enters_of Try.func23 (by kernel_rfl) rfl) (by simp only [List.map_toArray, List.map_cons, List.map_nil, Act.eval, Array.getD_eq_getD_getElem?, List.getElem?_toArray, List.getElem?_cons_succ, List.getElem?_cons_zero, Option.getD_some]; rfl) ?_
              refine (R_TileO _ LS x y _ rs1c HL.out).mono ?_
              rintro e wm ⟨rfl, hbm⟩
              refine ⟨_, rfl, ?_⟩
              have hz := hKx () wm trivial hbm
              dsimp only [detS] at hz
              exact hz
            rintro ⟨⟩
            dsimp only [detS]
            simp only [Act.put, putS]
            refine wpRL_callB (by rfl) (by first | rfl | simp [Region.wanted, yielded]) ?_ ?_
            · intro wn hbn hE Kx hKx
              have hsz := B.size
              have hzn := hbn.size
              replace B := B.trans (hbn.mono B.size)
              (try first | replace r2 := r2.of_eq (hbn.block _ r2.lt) | replace r2 := r2.below hbn)
              (try first | replace r3 := r3.of_eq (hbn.block _ r3.lt) | replace r3 := r3.below hbn)
              (try first | replace rc := rc.of_eq (hbn.block _ rc.lt) | replace rc := rc.below hbn)
              (try first | replace o1 := o1.of_eq (hbn.block _ o1.lt) | replace o1 := o1.below hbn)
              (try first | replace rs1c := rs1c.of_eq (hbn.block _ rs1c.lt) | replace rs1c := rs1c.below hbn)
              refine wp_callF rfl (enters_of Try.func57 (by kernel_rfl) rfl) (by simp only [List.map_toArray, List.map_cons, List.map_nil, Act.eval, Array.getD_eq_getD_getElem?, List.getElem?_toArray, List.getElem?_cons_succ, List.getElem?_cons_zero, Option.getD_some]; rfl) ?_
              refine (R_SameO t (tileL LS x y) true _ HE.out).mono ?_
              rintro e wm ⟨rfl, hbm⟩
              refine ⟨_, rfl, ?_⟩
              have hz := hKx () wm trivial hbm
              dsimp only [detS] at hz
              exact hz
            rintro ⟨⟩
            dsimp only [detS]
            simp only [Act.put, putS]
            refine wpRL_chunk 1 (by kernel_rfl) ?_
            simp only [takS, Nat.reduceAdd]
            repeat (first | go_big_quiet_skip | (go_big_quiet_want; first | (go_big_quiet_op; go_big_quiet_on)))
            refine wpQuiet_nil ?_
            refine wpRL_nil ?_
            intro wn hbn hE
            have hsz := B.size
            have hzn := hbn.size
            replace B := B.trans (hbn.mono B.size)
            (try first | replace r2 := r2.of_eq (hbn.block _ r2.lt) | replace r2 := r2.below hbn)
            (try first | replace r3 := r3.of_eq (hbn.block _ r3.lt) | replace r3 := r3.below hbn)
            (try first | replace rc := rc.of_eq (hbn.block _ rc.lt) | replace rc := rc.below hbn)
            (try first | replace o1 := o1.of_eq (hbn.block _ o1.lt) | replace o1 := o1.below hbn)
            (try first | replace rs1c := rs1c.of_eq (hbn.block _ rs1c.lt) | replace rs1c := rs1c.below hbn)
            clear hE
            try simp only [List.drop_succ_cons, List.drop_zero]
            refine NoPan.normal ?_
            go_upto_region 14 with fail
            refine wp_region_lit ?_
            try simp only [List.getElem_toArray, List.getElem_cons_zero, List.getElem_cons_succ]
            refine wpList_chunk 2 (by kernel_rfl) ?_
            simp only [takS, Nat.reduceAdd]
            repeat (first | go_big_quiet_skip | (go_big_quiet_want; first | (go_big_quiet_op; go_big_quiet_on)))
            refine wpQuiet_nil ?_
            refine wpList_nil ?_
            go_wp2
            go_roundw
            case rel => exact ⟨j + 1, M, _, _, by omega, by go_num, rfl, B, r2, r3, o1, by rw [HT.out, chg2_snoc, if_pos HE.out, ← HM.out]⟩
            case measure => simp [intOf]; omega
          | false =>
            have HE := Lib.hid heq
            clear heq
            go_upto_region 13 with fail
            try simp only [List.getElem_toArray, List.getElem_cons_zero, List.getElem_cons_succ]
            try have lx_r2 := r2.lt
            try have lx_r3 := r3.lt
            try have lx_rc := rc.lt
            try have lx_o1 := o1.lt
            try have lx_rs1c := rs1c.lt
            refine wp_region_RL 16 [(13, detS ?v4_13), (14, detS ?v4_14)] (by kernel_rfl) (by kernel_rfl) (by kernel_rfl) ?_
            rotate_left 2
            simp only [takS, Nat.reduceAdd]
            refine wpRL_chunk 13 (by kernel_rfl) ?_
            simp only [takS, Nat.reduceAdd]
            repeat (first | go_big_quiet_skip | (go_big_quiet_want; first | (refine quiet_loadAny (t := 28) rfl _ _ _ rfl (fun w hw => run_load_sl (ov_B r3 w hw).cell0) (by rfl) ?_; simp only [Act.put, putS]; go_big_quiet_on) | (refine quiet_loadAny (t := 30) rfl _ _ _ rfl (fun w hw => run_load_B (ov_B r2 w hw) Try.isAgg30 (by kernel_rfl)) (by rfl) ?_; simp only [Act.put, putS]; go_big_quiet_on) | (refine quiet_loadAny (t := 40) rfl _ _ _ rfl (fun w hw => rc_tile (ov_rc rc w hw) hjl he) (by first | rfl | omega) ?_; simp only [Act.put, putS]; go_big_quiet_on) | (refine quiet_loadAny (t := 24) rfl _ _ _ rfl (fun w hw => rc_pos (ov_rc rc w hw) hjl he) (by first | rfl | omega) ?_; simp only [Act.put, putS]; go_big_quiet_on) | (go_big_quiet_op; go_big_quiet_on)))
            refine wpQuiet_nil ?_
            refine wpRL_callB (by rfl) (by first | rfl | simp [Region.wanted, yielded]) ?_ ?_
            · intro wn hbn hE Kx hKx
              have hsz := B.size
              have hzn := hbn.size
              replace B := B.trans (hbn.mono B.size)
              (try first | replace r2 := r2.of_eq (hbn.block _ r2.lt) | replace r2 := r2.below hbn)
              (try first | replace r3 := r3.of_eq (hbn.block _ r3.lt) | replace r3 := r3.below hbn)
              (try first | replace rc := rc.of_eq (hbn.block _ rc.lt) | replace rc := rc.below hbn)
              (try first | replace o1 := o1.of_eq (hbn.block _ o1.lt) | replace o1 := o1.below hbn)
              (try first | replace rs1c := rs1c.of_eq (hbn.block _ rs1c.lt) | replace rs1c := rs1c.below hbn)
              refine wp_callF rfl (enters_of Try.func23 (by kernel_rfl) rfl) (by simp only [List.map_toArray, List.map_cons, List.map_nil, Act.eval, Array.getD_eq_getD_getElem?, List.getElem?_toArray, List.getElem?_cons_succ, List.getElem?_cons_zero, Option.getD_some]; rfl) ?_
              refine (R_TileO _ LS x y _ rs1c HL.out).mono ?_
              rintro e wm ⟨rfl, hbm⟩
              refine ⟨_, rfl, ?_⟩
              have hz := hKx () wm trivial hbm
              dsimp only [detS] at hz
              exact hz
            rintro ⟨⟩
            dsimp only [detS]
            simp only [Act.put, putS]
            refine wpRL_callB (by rfl) (by first | rfl | simp [Region.wanted, yielded]) ?_ ?_
            · intro wn hbn hE Kx hKx
              have hsz := B.size
              have hzn := hbn.size
              replace B := B.trans (hbn.mono B.size)
              (try first | replace r2 := r2.of_eq (hbn.block _ r2.lt) | replace r2 := r2.below hbn)
              (try first | replace r3 := r3.of_eq (hbn.block _ r3.lt) | replace r3 := r3.below hbn)
              (try first | replace rc := rc.of_eq (hbn.block _ rc.lt) | replace rc := rc.below hbn)
              (try first | replace o1 := o1.of_eq (hbn.block _ o1.lt) | replace o1 := o1.below hbn)
              (try first | replace rs1c := rs1c.of_eq (hbn.block _ rs1c.lt) | replace rs1c := rs1c.below hbn)
              refine wp_callF rfl (enters_of Try.func57 (by kernel_rfl) rfl) (by simp only [List.map_toArray, List.map_cons, List.map_nil, Act.eval, Array.getD_eq_getD_getElem?, List.getElem?_toArray, List.getElem?_cons_succ, List.getElem?_cons_zero, Option.getD_some]; rfl) ?_
              refine (R_SameO t (tileL LS x y) false _ HE.out).mono ?_
              rintro e wm ⟨rfl, hbm⟩
              refine ⟨_, rfl, ?_⟩
              have hz := hKx () wm trivial hbm
              dsimp only [detS] at hz
              exact hz
            rintro ⟨⟩
            dsimp only [detS]
            simp only [Act.put, putS]
            refine wpRL_chunk 1 (by kernel_rfl) ?_
            simp only [takS, Nat.reduceAdd]
            repeat (first | go_big_quiet_skip | (go_big_quiet_want; first | (go_big_quiet_op; go_big_quiet_on)))
            refine wpQuiet_nil ?_
            refine wpRL_nil ?_
            intro wn hbn hE
            have hsz := B.size
            have hzn := hbn.size
            replace B := B.trans (hbn.mono B.size)
            (try first | replace r2 := r2.of_eq (hbn.block _ r2.lt) | replace r2 := r2.below hbn)
            (try first | replace r3 := r3.of_eq (hbn.block _ r3.lt) | replace r3 := r3.below hbn)
            (try first | replace rc := rc.of_eq (hbn.block _ rc.lt) | replace rc := rc.below hbn)
            (try first | replace o1 := o1.of_eq (hbn.block _ o1.lt) | replace o1 := o1.below hbn)
            (try first | replace rs1c := rs1c.of_eq (hbn.block _ rs1c.lt) | replace rs1c := rs1c.below hbn)
            clear hE
            try simp only [List.drop_succ_cons, List.drop_zero]
            refine NoPan.normal ?_
            go_upto_region 14 with fail
            refine wp_region_lit ?_
            try simp only [List.getElem_toArray, List.getElem_cons_zero, List.getElem_cons_succ]
            refine wpList_chunk 2 (by kernel_rfl) ?_
            simp only [takS, Nat.reduceAdd]
            repeat (first | go_big_quiet_skip | (go_big_quiet_want; first | (go_big_quiet_op; go_big_quiet_on)))
            refine wpQuiet_nil ?_
            refine wpList_nil ?_
            go_upto_region 15 with fail
            refine wp_region_lit ?_
            try simp only [List.getElem_toArray, List.getElem_cons_zero, List.getElem_cons_succ]
            refine wpList_chunk 7 (by kernel_rfl) ?_
            simp only [takS, Nat.reduceAdd]
            repeat (first | go_big_quiet_skip | (go_big_quiet_want; first | (refine quiet_loadAny (t := 28) rfl _ _ _ rfl (fun w hw => run_load_sl (ov_B r3 w hw).cell0) (by rfl) ?_; simp only [Act.put, putS]; go_big_quiet_on) | (refine quiet_loadAny (t := 24) rfl _ _ _ rfl (fun w hw => rc_pos (ov_rc rc w hw) hjl he) (by first | rfl | omega) ?_; simp only [Act.put, putS]; go_big_quiet_on) | (go_big_quiet_op; go_big_quiet_on)))
            refine wpQuiet_nil ?_
            refine wpList_callF (by first | rfl | simp [Region.wanted, yielded]) rfl (enters_of Try.func90 (by kernel_rfl) rfl) (by simp only [List.map_toArray, List.map_cons, List.map_nil, Act.eval, Array.getD_eq_getD_getElem?, List.getElem?_toArray, List.getElem?_cons_succ, List.getElem?_cons_zero, Option.getD_some]; rfl) ?_
            refine (R_insert _ M x y _ o1 (by omega)).mono ?_
            rintro e wn ⟨a3, c3, rfl, o2, hbn⟩
            have hsz := B.size
            have hzn := hbn.size
            replace B := B.trans (hbn.mono B.size)
            (try first | replace r2 := r2.of_eq (hbn.block _ r2.lt) | replace r2 := r2.below hbn)
            (try first | replace r3 := r3.of_eq (hbn.block _ r3.lt) | replace r3 := r3.below hbn)
            (try first | replace rc := rc.of_eq (hbn.block _ rc.lt) | replace rc := rc.below hbn)
            refine ⟨_, rfl, ?_⟩
            simp only [Act.put, putS]
            refine wpList_chunk 1 (by kernel_rfl) ?_
            simp only [takS, Nat.reduceAdd]
            repeat (first | go_big_quiet_skip | (go_big_quiet_want; first | (go_big_quiet_op; go_big_quiet_on)))
            refine wpQuiet_nil ?_
            refine wpList_nil ?_
            go_wp2
            go_roundw
            case rel => exact ⟨j + 1, insP M (x, y), _, _, by omega, by go_num, rfl, B, r2, r3, o2, by rw [HT.out, chg2_snoc, if_neg (by rw [HE.out]; decide), ← HM.out]; rfl⟩
            case measure => simp [intOf]; omega
        · obtain rfl : j = KS.length := by omega
          have q1 : decide (((KS.length : Nat) : Int) < (KS.length : Int)) = false := decide_eq_false (by omega)
          have q2 : decide (KS.length < KS.length) = false := decide_eq_false (by omega)
          have HC := Lib.hid (show M = chgR LS KS from by rw [HM.out, List.take_length]; rfl)
          clear HM
          go_upto_region 11 with fail
          refine wp_region_lit ?_
          try simp only [List.getElem_toArray, List.getElem_cons_zero, List.getElem_cons_succ]
          refine wpList_chunk 3 (by kernel_rfl) ?_
          simp only [takS, Nat.reduceAdd]
          repeat (first | go_big_quiet_skip | (go_big_quiet_want; first | (refine quiet_loadAny (t := 28) rfl _ _ _ rfl (fun w hw => run_load_sl (ov_B r2 w hw).cell0) (by rfl) ?_; simp only [Act.put, putS]; go_big_quiet_on) | (refine quiet_loadAny (t := 28) rfl _ _ _ rfl (fun w hw => run_load_sl (ov_B r3 w hw).cell0) (by rfl) ?_; simp only [Act.put, putS]; go_big_quiet_on) | (go_big_quiet_op; go_big_quiet_on)))
          refine wpQuiet_nil ?_
          refine wpList_lenS (by first | rfl | simp [Region.wanted, yielded]) rfl Try.underlying28 rfl ?_
          simp only [Act.put, putS]
          refine wpList_chunk 1 (by kernel_rfl) ?_
          simp only [takS, Nat.reduceAdd]
          repeat (first | go_big_quiet_skip | (go_big_quiet_want; first | (go_big_quiet_op; go_big_quiet_on)))
          refine wpQuiet_nil ?_
          refine wpList_nil ?_
          go_upto_region 16 with fail
          refine wp_region_lit ?_
          try simp only [List.getElem_toArray, List.getElem_cons_zero, List.getElem_cons_succ]
          refine wpList_chunk 2 (by kernel_rfl) ?_
          simp only [takS, Nat.reduceAdd]
          repeat (first | go_big_quiet_skip | (go_big_quiet_want; first | (go_big_quiet_op; go_big_quiet_on)))
          refine wpQuiet_nil ?_
          refine wpList_nil ?_
          iterate 3 go_step
          go_ret
          rw [← HC.out]
          exact ⟨_, _, rfl, o1, B⟩
end Go.Proofs.Ytppccnjckiedlaa
