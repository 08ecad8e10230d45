import Derived.Test.YtamgpfblhlfhaaaGreatSl2
import Derived.Shelf.Abstract
import Derived.RangeFuncNested
import Derived.RangeFuncBound
import Derived.RangeFuncCalls
import Derived.RangeFuncLeaves
import Derived.OrdersIn
import Derived.OwnWalkIn
import Derived.TacticsInMore
import Derived.LoopNIn
import Derived.LoopIn
import Derived.RangeFuncFrom
import Derived.Sort.CutIn
import Derived.Lib.AppendZeros

/- Plain laws of rasters: cropping, bounds. -/
namespace Go.Proofs.YtamgpfblhlfhaaaGreat
open Go.RowKit Pl
set_option linter.unusedVariables false
set_option linter.unusedSimpArgs false
/-- A tile cropped. -/
def cropT (c : Rc) (x y : Int) (t : Nat → Px) : Nat → Px := fun i => if i < 64 then (if hasR c (x * 8 + (i : Int) % 8) (y * 8 + (i : Int) / 8) = true then t i else Px.zero) else t i
def cropE (c : Rc) (e : TA) : List TA := newA e.x e.y (cropT c e.x e.y e.t)
theorem hasR_iff (r : Rc) (x y : Int) : hasR r x y = true ↔ (r.x0 ≤ x ∧ x < r.x1 ∧ r.y0 ≤ y ∧ y < r.y1) := by unfold hasR; exact decide_eq_true_iff
theorem emptyR_iff (r : Rc) : emptyR r = true ↔ (r.x1 ≤ r.x0 ∨ r.y1 ≤ r.y0) := by unfold emptyR; exact decide_eq_true_iff
theorem emptyR_not (r : Rc) : emptyR r = false ↔ (r.x0 < r.x1 ∧ r.y0 < r.y1) := by
 rw [← Bool.not_eq_true, emptyR_iff]; omega
theorem zeroB_iff (t : Nat → Px) : zeroB t = true ↔ ∀ i, i < 64 → (t i).a = 0 := by
 unfold zeroB
 rw [decide_eq_true_iff]
 exact ⟨fun h i hi => h i (List.mem_range.2 hi), fun h i hi => h i (List.mem_range.1 hi)⟩
theorem goodA_iff (e : TA) : goodA e = true ↔ withinB e.x e.y = true ∧ zeroB e.t = false ∧ eqT (cleanT e.t) e.t = true := by
 unfold goodA
 rw [Bool.and_eq_true, Bool.and_eq_true, Bool.not_eq_true']
theorem eqT_at {t u : Nat → Px} (h : eqT t u = true) {i : Nat} (hi : i < 64) : t i = u i := by
 unfold eqT at h
 exact of_decide_eq_true h i (List.mem_range.2 hi)
theorem eqA_refl (e : TA) : eqA e e = true := by
 unfold eqA eqB
 rw [eqT_refl, decide_eq_true ⟨rfl, rfl⟩]
 rfl
theorem eqL_refl (ls : List TA) : eqL ls ls = true := eqL_yes rfl fun j _ => eqA_refl _
/-! ### Bounds -/
/-- A pixel that is not transparent. -/
def Vis (ls : List TA) (x y : Int) : Prop := ∃ e, e ∈ ls ∧ ∃ i : Nat, i < 64 ∧ 0 < (e.t i).a ∧ x = e.x * 8 + (i : Int) % 8 ∧ y = e.y * 8 + (i : Int) / 8
/-- The least rectangle around V. -/
def Tight (V : Int → Int → Prop) (r : Rc) : Prop := (r = Rc.zero ∧ ∀ x y, ¬ V x y) ∨ (emptyR r = false ∧ (∀ x y, V x y → hasR r x y = true) ∧ (∃ y, V r.x0 y) ∧ (∃ x, V x r.y0) ∧ (∃ y, V (r.x1 - 1) y) ∧ ∃ x, V x (r.y1 - 1))
theorem Tight.iff {V V' : Int → Int → Prop} {r : Rc} (h : Tight V r) (k : ∀ x y, V x y ↔ V' x y) : Tight V' r := by
 have e : V = V' := funext fun x => funext fun y => propext (k x y)
 rw [← e]; exact h
theorem Tight.add {V : Int → Int → Prop} {r : Rc} (h : Tight V r) (x y : Int) : Tight (fun a b => V a b ∨ (a = x ∧ b = y)) (unionR r ⟨x, y, x + 1, y + 1⟩) := by
 have h1 : emptyR ⟨x, y, x + 1, y + 1⟩ = false := (emptyR_not _).2 ⟨by show x < x + 1; omega, by show y < y + 1; omega⟩
 rcases h with ⟨rfl, hn⟩ | ⟨he, hin, ⟨ya, ha⟩, ⟨xb, hb⟩, ⟨yc, hc⟩, ⟨xd, hd⟩⟩
 ·have e : unionR Rc.zero ⟨x, y, x + 1, y + 1⟩ = ⟨x, y, x + 1, y + 1⟩ := by
   unfold unionR normR
   rw [if_pos (by decide), h1]
   rfl
  rw [e]
  refine .inr ⟨h1, fun a b hv => ?_, ⟨y, .inr ⟨rfl, rfl⟩⟩, ⟨x, .inr ⟨rfl, rfl⟩⟩, ⟨y, .inr ⟨by show x + 1 - 1 = x; omega, rfl⟩⟩, ⟨x, .inr ⟨rfl, by show y + 1 - 1 = y; omega⟩⟩⟩
  rcases hv with hv | ⟨rfl, rfl⟩
  ·exact absurd hv (hn a b)
  ·rw [hasR_iff]; simp only; omega
 ·have e : unionR r ⟨x, y, x + 1, y + 1⟩ = ⟨min r.x0 x, min r.y0 y, max r.x1 (x + 1), max r.y1 (y + 1)⟩ := by
   unfold unionR
   rw [he, h1, if_neg (by decide), if_neg (by decide)]
  rw [e]
  have hen := (emptyR_not r).1 he
  refine .inr ⟨(emptyR_not _).2 ⟨by show min r.x0 x < max r.x1 (x + 1); omega, by show min r.y0 y < max r.y1 (y + 1); omega⟩, fun a b hv => ?_, ?_, ?_, ?_, ?_⟩
  ·rw [hasR_iff]
   simp only
   rcases hv with hv | ⟨rfl, rfl⟩
   ·have := (hasR_iff r a b).1 (hin a b hv)
    omega
   ·omega
  ·show ∃ b, V (min r.x0 x) b ∨ (min r.x0 x = x ∧ b = y)
   by_cases hh : r.x0 ≤ x
   ·exact ⟨ya, .inl (by rw [Int.min_eq_left hh]; exact ha)⟩
   ·exact ⟨y, .inr ⟨by omega, rfl⟩⟩
  ·show ∃ a, V a (min r.y0 y) ∨ (a = x ∧ min r.y0 y = y)
   by_cases hh : r.y0 ≤ y
   ·exact ⟨xb, .inl (by rw [Int.min_eq_left hh]; exact hb)⟩
   ·exact ⟨x, .inr ⟨rfl, by omega⟩⟩
  ·show ∃ b, V (max r.x1 (x + 1) - 1) b ∨ (max r.x1 (x + 1) - 1 = x ∧ b = y)
   by_cases hh : x + 1 ≤ r.x1
   ·exact ⟨yc, .inl (by rw [Int.max_eq_left hh]; exact hc)⟩
   ·exact ⟨y, .inr ⟨by omega, rfl⟩⟩
  ·show ∃ a, V a (max r.y1 (y + 1) - 1) ∨ (a = x ∧ max r.y1 (y + 1) - 1 = y)
   by_cases hh : y + 1 ≤ r.y1
   ·exact ⟨xd, .inl (by rw [Int.max_eq_left hh]; exact hd)⟩
   ·exact ⟨x, .inr ⟨rfl, by omega⟩⟩
theorem runT_bound (e : TA) {V : Int → Int → Prop} {s : Rc} (h : Tight V s) : ∀ k, Tight (fun a b => V a b ∨ ∃ i : Nat, i < k ∧ 0 < (e.t i).a ∧ a = e.x * 8 + (i : Int) % 8 ∧ b = e.y * 8 + (i : Int) / 8) (runT boundF e k s).1
 | 0 => h.iff fun a b => ⟨.inl, fun hv => by
   rcases hv with hv | ⟨i, hi, _⟩
   ·exact hv
   ·omega⟩
 | k + 1 => by
  have ih := runT_bound e h k
  show Tight _ (if 0 < (e.t k).a then unionR (runT boundF e k s).1 ⟨e.x * 8 + (k : Int) % 8, e.y * 8 + (k : Int) / 8, e.x * 8 + (k : Int) % 8 + 1, e.y * 8 + (k : Int) / 8 + 1⟩ else (runT boundF e k s).1)
  by_cases ha : 0 < (e.t k).a
  ·rw [if_pos ha]
   refine (ih.add _ _).iff fun a b => ⟨fun hv => ?_, fun hv => ?_⟩
   ·rcases hv with (hv | ⟨i, hi, hr⟩) | ⟨rfl, rfl⟩
    ·exact .inl hv
    ·exact .inr ⟨i, by omega, hr⟩
    ·exact .inr ⟨k, by omega, ha, rfl, rfl⟩
   ·rcases hv with hv | ⟨i, hi, hr⟩
    ·exact .inl (.inl hv)
    ·by_cases hik : i = k
     ·subst hik; exact .inr hr.2
     ·exact .inl (.inr ⟨i, by omega, hr⟩)
  ·rw [if_neg ha]
   refine ih.iff fun a b => ⟨fun hv => ?_, fun hv => ?_⟩
   ·rcases hv with hv | ⟨i, hi, hr⟩
    ·exact .inl hv
    ·exact .inr ⟨i, by omega, hr⟩
   ·rcases hv with hv | ⟨i, hi, hr⟩
    ·exact .inl hv
    ·by_cases hik : i = k
     ·subst hik; exact absurd hr.1 ha
     ·exact .inr ⟨i, by omega, hr⟩
theorem mapK_bound (ls : List TA) : ∀ k, k ≤ ls.length → Tight (Vis (ls.take k)) (mapK boundF ls Rc.zero k).1
 | 0, _ => .inl ⟨rfl, fun x y ⟨e, he, _⟩ => by simp at he⟩
 | k + 1, hk => by
  refine (runT_bound (aT ls k) (mapK_bound ls k (by omega)) 64).iff fun a b => ?_
  rw [List.take_add_one, aT_at (show k < ls.length from hk)]
  unfold Vis
  constructor
  ·rintro (⟨e, he, hr⟩ | ⟨i, hi, hr⟩)
   ·exact ⟨e, List.mem_append_left _ he, hr⟩
   ·exact ⟨aT ls k, List.mem_append_right _ (by simp), i, hi, hr⟩
  ·rintro ⟨e, he, i, hi, hr⟩
   rcases List.mem_append.1 he with he | he
   ·exact .inl ⟨e, he, i, hi, hr⟩
   ·obtain rfl : e = aT ls k := by simpa using he
    exact .inr ⟨i, hi, hr⟩
theorem boundL_tight (ls : List TA) : Tight (Vis ls) (boundL ls) := by
 have := mapK_bound ls ls.length (Nat.le_refl _)
 rw [List.take_length] at this
 exact this
theorem tileL_some (ls : List TA) (x y : Int) : tileL ls x y = zT ∨ ∃ e, e ∈ ls ∧ e.x = x ∧ e.y = y ∧ tileL ls x y = e.t := by
 induction ls with
 | nil => exact .inl rfl
 | cons e r ih =>
  unfold tileL
  by_cases h : eqB e.x e.y x y = true
  ·rw [if_pos h]
   have := of_decide_eq_true h
   exact .inr ⟨e, List.mem_cons_self .., this.1, this.2, rfl⟩
  ·rw [if_neg h]
   rcases ih with ih | ⟨k, hk, hr⟩
   ·exact .inl ih
   ·exact .inr ⟨k, List.mem_cons_of_mem _ hk, hr⟩
theorem getL_vis {ls : List TA} {x y : Int} (h : 0 < (getL ls x y).a) : Vis ls x y := by
 unfold getL at h
 rcases tileL_some ls (x / 8) (y / 8) with e | ⟨e, he, e1, e2, e3⟩
 ·rw [e] at h
  have h : (0 : Int) < 0 := h
  omega
 ·rw [e3] at h
  exact ⟨e, he, (8 * (y % 8) + x % 8).toNat, by omega, h, by omega, by omega⟩
theorem boundL_has {ls : List TA} {x y : Int} (h : Vis ls x y) : hasR (boundL ls) x y = true := by
 rcases boundL_tight ls with ⟨_, hn⟩ | ⟨_, hin, _⟩
 ·exact absurd h (hn x y)
 ·exact hin x y h
end Go.Proofs.YtamgpfblhlfhaaaGreat
/- Regions that draw their order, some of whose operations hand back values that are known by a fact alone: one walk in the order of the text serves for all orders. -/
namespace Go.Proofs.YtamgpfblhlfhaaaGreat
open Go.RowKit
set_option linter.unusedVariables false
set_option linter.unusedSimpArgs false
/-- What is known of an operation's value: its shape, a fact that lasts. -/
structure NSpec where
 α : Type
 ne : Nonempty α
 f : α → Value
 F : α → World → Prop
 mono : ∀ x w w', Below w.heap.size w w' → F x w → F x w'
theorem put_same {a b : Act} {d : Option Tmp} {u v : Value} (hs : b.tmps.size = a.tmps.size) (h : a.put d u = a.put d v) : b.put d u = b.put d v := by
 cases d with
 | none => rfl
 | some d =>
  have h1 : a.tmps.setIfInBounds d u = a.tmps.setIfInBounds d v := congrArg Act.tmps h
  show ({ b with tmps := b.tmps.setIfInBounds d u } : Act) = { b with tmps := b.tmps.setIfInBounds d v }
  by_cases hd : d < a.tmps.size
  ·have h2 := congrArg (fun t : Array Value => t[d]?) h1
   simp [hd] at h2
   rw [h2]
  ·have hd1 : a.tmps.size ≤ d := Nat.le_of_not_lt hd
   have hd2 : b.tmps.size ≤ d := hs ▸ hd1
   rw [Array.setIfInBounds_eq_of_size_le hd2, Array.setIfInBounds_eq_of_size_le hd2]
theorem put_size (a : Act) (d : Option Tmp) (v : Value) : (a.put d v).tmps.size = a.tmps.size := by
 cases d with
 | none => rfl
 | some d => show (a.tmps.setIfInBounds d v).size = _; simp
def envS (E : Nat → World → Prop) (k : Nat) (G : World → Prop) : Nat → World → Prop := fun j => if j = k then G else E j
theorem envS_comm (E : Nat → World → Prop) {k i : Nat} (h : k ≠ i) (A B : World → Prop) : envS (envS E k A) i B = envS (envS E i B) k A := by
 funext j
 unfold envS
 by_cases h1 : j = i
 ·rw [if_pos h1, if_neg (by omega), if_pos h1]
 ·rw [if_neg h1]
  by_cases h2 : j = k
  ·rw [if_pos h2, if_pos h2]
  ·rw [if_neg h2, if_neg h2, if_neg h1]
theorem envS_ne (E : Nat → World → Prop) {k j : Nat} (h : j ≠ k) (A : World → Prop) : envS E k A j = E j := if_neg h
section
variable {P : Program} {ops : Array Oper} {Q : Exit → Act → World → Prop} {md : Region.Mode} {C : World → Prop} {S : Nat → Option NSpec} {L : (Nat → World → Prop) → Act → Prop}
/-- The operation number k hands back a value as its specification says, wherever those it waits for have come. -/
def stepR (P : Program) (ops : Array Oper) (md : Region.Mode) (Q : Exit → Act → World → Prop) (C : World → Prop) (E : Nat → World → Prop) (k : Nat) (o : Oper) (a : Act) (s : NSpec) : Prop :=
 ∀ w, C w → (∀ j, Region.waitsFor md ops k j = true → E j w) → o.wp P a w (fun a' w' => ∃ x, a' = a.put o.dst (s.f x) ∧ s.F x w' ∧ Below w.heap.size w w') (NoPan Q)
theorem stepR_of {E : Nat → World → Prop} {k : Nat} {o : Oper} {a : Act} {s : NSpec}
  (h : ∀ w, C w → (∀ j, Region.waitsFor md ops k j = true → E j w) → ∀ K : Act → World → Prop, (∀ x w', s.F x w' → Below w.heap.size w w' → K (a.put o.dst (s.f x)) w') → o.wp P a w K (NoPan Q)) : stepR P ops md Q C E k o a s :=
 fun w hC hE => h w hC hE _ fun x w' h1 h2 => ⟨x, rfl, h1, h2⟩
theorem stepR_move {E E' : Nat → World → Prop} {k : Nat} {o : Oper} {a b : Act} {s : NSpec} (he : execOp b.eval o = execOp a.eval o) (hs : b.tmps.size = a.tmps.size) (hE : ∀ j w, Region.waitsFor md ops k j = true → E' j w → E j w)
  (h : stepR P ops md Q C E k o a s) : stepR P ops md Q C E' k o b s := by
 intro w hC hE'
 have h1 := h w hC fun j hj => hE j w hj (hE' j hj)
 unfold Oper.wp at *
 rw [he]
 generalize (execOp a.eval o).run P w = r at *
 cases r with
 | ok n w' =>
  cases n <;> simp only [Oper.upon] at h1 ⊢
  case value u => obtain ⟨x, h2, h3⟩ := h1; exact ⟨x, put_same hs h2, h3⟩
  case skip => obtain ⟨x, h2, h3⟩ := h1; exact ⟨x, put_same hs h2, h3⟩
  case defer d =>
   obtain ⟨x, h2, h3⟩ := h1
   have h4 := congrArg (fun y : Act => y.defers.length) h2
   cases ho : o.dst <;> rw [ho] at h4 <;> simp [Act.put] at h4
  case enter f args =>
   refine Calls.mono h1 fun e w'' he => ?_
   cases e with
   | returned u => obtain ⟨x, h2, h3⟩ := he; exact ⟨x, put_same hs h2, h3⟩
   | panicked c => exact he
   | outgrown => exact he
  case row row args => exact Rows.mono h1 fun u w'' ⟨x, h2, h3⟩ => ⟨x, put_same hs h2, h3⟩
 | halt x w' =>
  cases x <;> simp only [Oper.upon] at h1 ⊢
  case panic u => exact h1
/-- The walk in the order of the text. -/
def wpR (P : Program) (md : Region.Mode) (ops : Array Oper) (Q : Exit → Act → World → Prop) (C : World → Prop) (S : Nat → Option NSpec) (L : (Nat → World → Prop) → Act → Prop) : List Nat → (Nat → World → Prop) → Act → Prop
 | [], E, a => L E a
 | k :: r, E, a => match ops[k]? with
  | none => False
  | some o =>
   if Region.wanted o (yielded ops a.tmps) = true then
    match S k with
    | none => ∃ v, (∀ w, C w → (execOp a.eval o).run P w = .ok (.value v) w) ∧ wpR P md ops Q C S L r E (a.put o.dst v)
    | some s => stepR P ops md Q C E k o a s ∧ ∀ x, wpR P md ops Q C S L r (envS E k (s.F x)) (a.put o.dst (s.f x))
   else wpR P md ops Q C S L r E (a.put o.dst undef)
theorem wpR_swap {k i : Nat} {ok oi : Oper} {r : List Nat} (hk : ops[k]? = some ok) (hi : ops[i]? = some oi) (hap : ok.apart ops oi = true) (hsk : ∀ cs b, ok.op ≠ .select cs b) (hsi : ∀ cs b, oi.op ≠ .select cs b)
  (hne : k ≠ i) (hik : Region.waitsFor md ops i k = false) (hki : Region.waitsFor md ops k i = false) (hC : ∃ w, C w) {E : Nat → World → Prop} {a : Act}
  (h : wpR P md ops Q C S L (k :: i :: r) E a) : wpR P md ops Q C S L (i :: k :: r) E a := by
 obtain ⟨h1, h2, h3⟩ := Oper.apart_spec hap
 have ei : ∀ u, execOp (a.put ok.dst u).eval oi = execOp a.eval oi := fun u => execOp_put oi hsi a ok.dst u h1
 have ek : ∀ u, execOp (a.put oi.dst u).eval ok = execOp a.eval ok := fun u => execOp_put ok hsk a oi.dst u h3
 have wi : ∀ u, Region.wanted oi (yielded ops (a.put ok.dst u).tmps) = Region.wanted oi (yielded ops a.tmps) := fun u => wanted_put oi a ok.dst u h1
 have wk : ∀ u, Region.wanted ok (yielded ops (a.put oi.dst u).tmps) = Region.wanted ok (yielded ops a.tmps) := fun u => wanted_put ok a oi.dst u h3
 have pc : ∀ u v, (a.put ok.dst u).put oi.dst v = (a.put oi.dst v).put ok.dst u := fun u v => Act.put_comm a u v h2
 have Ek : ∀ (s : NSpec) x j w, Region.waitsFor md ops i j = true → E j w → envS E k (s.F x) j w := fun s x j w hj he => by
  rw [envS_ne]; exact he
  intro e; rw [e, hik] at hj; cases hj
 have Ek' : ∀ (s : NSpec) x j w, Region.waitsFor md ops i j = true → envS E k (s.F x) j w → E j w := fun s x j w hj he => by
  rw [envS_ne] at he; exact he
  intro e; rw [e, hik] at hj; cases hj
 have Ei' : ∀ (s : NSpec) x j w, Region.waitsFor md ops k j = true → envS E i (s.F x) j w → E j w := fun s x j w hj he => by
  rw [envS_ne] at he; exact he
  intro e; rw [e, hki] at hj; cases hj
 unfold wpR at h ⊢
 rw [hk] at h
 rw [hi]
 simp only at h ⊢
 -- the second's part of what the first leaves
 by_cases Wk : Region.wanted ok (yielded ops a.tmps) = true
 ·rw [if_pos Wk] at h
  cases Sk : S k with
  | none =>
   rw [Sk] at h
   obtain ⟨v, hv, h⟩ := h
   unfold wpR at h
   rw [hi] at h
   simp only at h
   rw [wi] at h
   by_cases Wi : Region.wanted oi (yielded ops a.tmps) = true
   ·rw [if_pos Wi] at h ⊢
    cases Si : S i with
    | none =>
     rw [Si] at h
     obtain ⟨u, hu, h⟩ := h
     refine ⟨u, fun w hw => by rw [← ei v]; exact hu w hw, ?_⟩
     unfold wpR
     rw [hk]
     simp only
     rw [wk, if_pos Wk, Sk]
     exact ⟨v, fun w hw => by rw [ek u]; exact hv w hw, by rw [← pc]; exact h⟩
    | some s =>
     rw [Si] at h
     obtain ⟨hs, h⟩ := h
     refine ⟨stepR_move (ei v).symm (put_size _ _ _).symm (fun _ _ _ he => he) hs, fun y => ?_⟩
     unfold wpR
     rw [hk]
     simp only
     rw [wk, if_pos Wk, Sk]
     exact ⟨v, fun w hw => by rw [ek]; exact hv w hw, by rw [← pc]; exact h y⟩
   ·rw [if_neg Wi] at h ⊢
    unfold wpR
    rw [hk]
    simp only
    rw [wk, if_pos Wk, Sk]
    exact ⟨v, fun w hw => by rw [ek]; exact hv w hw, by rw [← pc]; exact h⟩
  | some s =>
   rw [Sk] at h
   obtain ⟨hs, h⟩ := h
   obtain ⟨x0⟩ := s.ne
   by_cases Wi : Region.wanted oi (yielded ops a.tmps) = true
   ·rw [if_pos Wi]
    cases Si : S i with
    | none =>
     have hx : ∀ x, ∃ v, (∀ w, C w → (execOp a.eval oi).run P w = .ok (.value v) w) ∧ wpR P md ops Q C S L r (envS E k (s.F x)) ((a.put ok.dst (s.f x)).put oi.dst v) := fun x => by
      have h := h x
      unfold wpR at h
      rw [hi] at h
      simp only at h
      rw [wi, if_pos Wi, Si] at h
      obtain ⟨v, hv, h⟩ := h
      exact ⟨v, fun w hw => by rw [← ei (s.f x)]; exact hv w hw, h⟩
     obtain ⟨v, hv, _⟩ := hx x0
     refine ⟨v, hv, ?_⟩
     unfold wpR
     rw [hk]
     simp only
     rw [wk, if_pos Wk, Sk]
     refine ⟨stepR_move (ek v) (put_size _ _ _) (fun _ _ _ he => he) hs, fun x => ?_⟩
     obtain ⟨v', hv', h'⟩ := hx x
     obtain ⟨w, hw⟩ := hC
     have e := (hv w hw).symm.trans (hv' w hw)
     injection e with e _
     injection e with e
     rw [← pc, e]
     exact h'
    | some t =>
     have hx : ∀ x, stepR P ops md Q C (envS E k (s.F x)) i oi (a.put ok.dst (s.f x)) t ∧ ∀ y, wpR P md ops Q C S L r (envS (envS E k (s.F x)) i (t.F y)) ((a.put ok.dst (s.f x)).put oi.dst (t.f y)) := fun x => by
      have h := h x
      unfold wpR at h
      rw [hi] at h
      simp only at h
      rw [wi, if_pos Wi, Si] at h
      exact h
     refine ⟨stepR_move (ei (s.f x0)).symm (put_size _ _ _).symm (Ek s x0) (hx x0).1, fun y => ?_⟩
     unfold wpR
     rw [hk]
     simp only
     rw [wk, if_pos Wk, Sk]
     refine ⟨stepR_move (ek _) (put_size _ _ _) (Ei' t y) hs, fun x => ?_⟩
     rw [← pc, ← envS_comm E hne]
     exact (hx x).2 y
   ·rw [if_neg Wi]
    unfold wpR
    rw [hk]
    simp only
    rw [wk, if_pos Wk, Sk]
    refine ⟨stepR_move (ek _) (put_size _ _ _) (fun _ _ _ he => he) hs, fun x => ?_⟩
    have h := h x
    unfold wpR at h
    rw [hi] at h
    simp only at h
    rw [wi, if_neg Wi] at h
    rw [← pc]
    exact h
 ·rw [if_neg Wk] at h
  unfold wpR at h
  rw [hi] at h
  simp only at h
  rw [wi] at h
  by_cases Wi : Region.wanted oi (yielded ops a.tmps) = true
  ·rw [if_pos Wi] at h ⊢
   cases Si : S i with
   | none =>
    rw [Si] at h
    obtain ⟨u, hu, h⟩ := h
    refine ⟨u, fun w hw => by rw [← ei undef]; exact hu w hw, ?_⟩
    unfold wpR
    rw [hk]
    simp only
    rw [wk, if_neg Wk, ← pc]
    exact h
   | some s =>
    rw [Si] at h
    obtain ⟨hs, h⟩ := h
    refine ⟨stepR_move (ei undef).symm (put_size _ _ _).symm (fun _ _ _ he => he) hs, fun y => ?_⟩
    unfold wpR
    rw [hk]
    simp only
    rw [wk, if_neg Wk, ← pc]
    exact h y
  ·rw [if_neg Wi] at h ⊢
   unfold wpR
   rw [hk]
   simp only
   rw [wk, if_neg Wk, ← pc]
   exact h
theorem wpR_cons {k : Nat} {r r' : List Nat} {E : Nat → World → Prop} {a : Act} (hr : ∀ E a, wpR P md ops Q C S L r E a → wpR P md ops Q C S L r' E a) (h : wpR P md ops Q C S L (k :: r) E a) : wpR P md ops Q C S L (k :: r') E a := by
 unfold wpR at h ⊢
 cases hk : ops[k]? with
 | none => rw [hk] at h; exact h
 | some o =>
  rw [hk] at h
  simp only at h ⊢
  split
  ·rename_i hw
   rw [if_pos hw] at h
   cases hS : S k with
   | none => rw [hS] at h; obtain ⟨v, h1, h2⟩ := h; exact ⟨v, h1, hr _ _ h2⟩
   | some s => rw [hS] at h; exact ⟨h.1, fun x => hr _ _ (h.2 x)⟩
  ·rename_i hw
   rw [if_neg hw] at h
   exact hr _ _ h
/-- Its value hangs on no world. -/
def pureO (o : Oper) : Bool := match o.op with
 | .move _ | .assign _ | .extract .. => true
 | _ => false
theorem pureO_run {o : Oper} {v : Value} {ρ : Operand → Value} {w0 : World} (h : pureO o = true) (hr : (execOp ρ o).run P w0 = .ok (.value v) w0) : ∀ w, (execOp ρ o).run P w = .ok (.value v) w := by
 intro w
 unfold pureO at h
 unfold execOp at hr ⊢
 cases ho : o.op <;> rw [ho] at h hr <;> first | (cases h; done) | skip
 all_goals simp only [Sem.run_bind, Sem.run_pure] at hr ⊢
 all_goals first
  | (injection hr with e _; rw [e])
  | skip
 rename_i t ix
 unfold Instr.extract at hr ⊢
 split at hr
 ·rename_i vs hv
  split at hr
  ·rename_i x hx
   simp only [Sem.run_pure, Result.andThen_ok] at hr
   injection hr with e _
   rw [← e]
   simp only [Sem.run_pure, Result.andThen_ok]
  ·exact absurd hr (by simp [stuck, Result.andThen])
 ·exact absurd hr (by simp [stuck, Result.andThen])
/-- The text's order is one of the orders; two operations of the head wait for one another or are apart. -/
def relH (md : Region.Mode) (ops : Array Oper) (hd : Nat → Bool) : Bool :=
 Region.noSelect ops && (List.range ops.size).all fun k => !hd k || match ops[k]? with
  | none => false
  | some ok => (ok.after.all fun e => !Region.binds md e || (decide (e.on < k) && hd e.on)) && (List.range k).all fun j => !hd j || match ops[j]? with
   | none => false
   | some oj => Region.waitsFor md ops k j || oj.apart ops ok
/-- What is not of the head waits for all of it that hangs on the world, and is apart from the rest. -/
def tailH (md : Region.Mode) (ops : Array Oper) (hd : Nat → Bool) : Bool :=
 (List.range ops.size).all fun t => hd t || match ops[t]? with
  | none => false
  | some ot => (List.range ops.size).all fun k => !hd k || match ops[k]? with
   | none => false
   | some ok => bif pureO ok then Region.waitsFor md ops t k || ok.apart ops ot else trB md ops k 8 t
variable {hd : Nat → Bool}
theorem relH_at {k : Nat} (h : relH md ops hd = true) (hk : hd k = true) (hks : k < ops.size) : ∃ ok, ops[k]? = some ok ∧ (∀ e ∈ ok.after, Region.binds md e = true → e.on < k ∧ hd e.on = true) ∧ ∀ j, j < k → hd j = true → ∃ oj, ops[j]? = some oj ∧ (Region.waitsFor md ops k j = true ∨ oj.apart ops ok = true) := by
 simp only [relH, Bool.and_eq_true] at h
 have h1 := List.all_eq_true.1 h.2 k (List.mem_range.2 hks)
 rw [hk] at h1
 cases ho : ops[k]? with
 | none => rw [ho] at h1; cases h1
 | some ok =>
  rw [ho] at h1
  simp only [Bool.not_true, Bool.false_or, Bool.and_eq_true] at h1
  refine ⟨ok, rfl, fun e he hb => ?_, fun j hj hdj => ?_⟩
  ·have := Array.all_eq_true'.1 h1.1 e he
   rw [hb] at this
   simpa using this
  ·have h2 := List.all_eq_true.1 h1.2 j (List.mem_range.2 hj)
   rw [hdj] at h2
   cases hj : ops[j]? with
   | none => rw [hj] at h2; cases h2
   | some oj =>
    rw [hj] at h2
    simp only [Bool.not_true, Bool.false_or, Bool.or_eq_true] at h2
    exact ⟨oj, rfl, h2⟩
theorem relH_sel (h : relH md ops hd = true) : Region.noSelect ops = true := by simp only [relH, Bool.and_eq_true] at h; exact h.1
theorem tailH_at {t k : Nat} {ot ok : Oper} (h : tailH md ops hd = true) (ht : hd t = false) (hot : ops[t]? = some ot) (hk : hd k = true) (hok : ops[k]? = some ok) : (pureO ok = true → Region.waitsFor md ops t k = true ∨ ok.apart ops ot = true) ∧ (pureO ok = false → trB md ops k 8 t = true) := by
 have h1 := List.all_eq_true.1 h t (List.mem_range.2 (Array.getElem?_eq_some_iff.1 hot).1)
 rw [ht, hot] at h1
 simp only [Bool.false_or] at h1
 have h2 := List.all_eq_true.1 h1 k (List.mem_range.2 (Array.getElem?_eq_some_iff.1 hok).1)
 rw [hk, hok] at h2
 simp only [Bool.not_true, Bool.false_or] at h2
 refine ⟨fun hp => ?_, fun hp => ?_⟩
 ·rw [hp] at h2; simpa using h2
 ·rw [hp] at h2; simpa using h2
theorem waitsFor_lt {k j : Nat} (h : relH md ops hd = true) (hk : hd k = true) (hw : Region.waitsFor md ops k j = true) : j < k := by
 obtain ⟨o, ho, e, he, hb, rfl⟩ := Region.waitsFor_spec hw
 obtain ⟨ok, hok, h1, _⟩ := relH_at h hk (Array.getElem?_eq_some_iff.1 ho).1
 obtain rfl : o = ok := Option.some.inj (ho.symm.trans hok)
 exact (h1 e he hb).1
theorem ready_waits {i k : Nat} {listed : Array Bool} (hi : i ∈ Region.ready md ops listed) (hk : listed.getD k true = false) : Region.waitsFor md ops i k = false := by
 cases h : Region.waitsFor md ops i k with
 | false => rfl
 | true =>
  obtain ⟨_, oi, hoi, hall⟩ := mem_ready.1 hi
  obtain ⟨o, ho, e, he, hb, rfl⟩ := Region.waitsFor_spec h
  obtain rfl : o = oi := Option.some.inj (ho.symm.trans hoi)
  have := hall e he hb
  rw [getD_both hk] at this
  cases this
theorem wpR_front {i : Nat} {listed : Array Bool} (hB : relH md ops hd = true) (hi : i ∈ Region.ready md ops listed) (hin : hd i = true) (hC : ∃ w, C w) : ∀ (l1 l2 : List Nat) (E : Nat → World → Prop) (a : Act),
  (∀ k ∈ l1, k < i ∧ hd k = true ∧ listed.getD k true = false) → wpR P md ops Q C S L (l1 ++ i :: l2) E a → wpR P md ops Q C S L (i :: (l1 ++ l2)) E a
 | [], _, _, _, _, h => h
 | k :: l1, l2, E, a, hl, h => by
  have h1 : wpR P md ops Q C S L (k :: i :: (l1 ++ l2)) E a := wpR_cons (fun E a => wpR_front hB hi hin hC l1 l2 E a fun j hj => hl j (List.mem_cons_of_mem _ hj)) h
  obtain ⟨hki, hkd, hun⟩ := hl k (List.mem_cons_self ..)
  have his : i < ops.size := by
   obtain ⟨_, oi, hoi, _⟩ := mem_ready.1 hi
   exact (Array.getElem?_eq_some_iff.1 hoi).1
  obtain ⟨oi, hoi, _, hj⟩ := relH_at hB hin his
  obtain ⟨ok, hok, hap⟩ := hj k hki hkd
  have hsel := Region.noSelect_spec (relH_sel hB)
  have hik := ready_waits hi hun
  have hap : ok.apart ops oi = true := hap.resolve_left (by rw [hik]; simp)
  have hki' : Region.waitsFor md ops k i = false := by
   cases hw : Region.waitsFor md ops k i with
   | false => rfl
   | true => have := waitsFor_lt hB hkd hw; omega
  exact wpR_swap hok hoi hap (fun cs b => hsel k ok cs b hok) (fun cs b => hsel i oi cs b hoi) (by omega) hik hki' hC h1
/-- Behind the head the tail comes. -/
theorem wpAny_of_R {g : Nat} (hB : relH md ops hd = true) (htail : tailH md ops hd = true) (hC : ∀ w w', C w → Below w.heap.size w w' → C w') (hS : ∀ k o, ops[k]? = some o → pureO o = true → S k = none)
  (hfin : ∀ listed a E w, listed.size = ops.size → (∀ k, k < ops.size → listed.getD k true = hd k) → L E a → C w → (∀ j, E j w) → wpAny P md ops (NoPan Q) g listed a w) :
  ∀ (m : Nat) (rem : List Nat) (listed : Array Bool) (a : Act) (E : Nat → World → Prop) (w : World), rem.length = m → rem.Pairwise (· < ·) → listed.size = ops.size → (∀ k, k ∈ rem ↔ k < ops.size ∧ hd k = true ∧ listed.getD k true = false) → (∀ t, t < ops.size → hd t = false → listed.getD t true = false) → ClosedX md ops listed →
   C w → (∀ j, E j w) → (∀ j w w', Below w.heap.size w w' → E j w → E j w') → wpR P md ops Q C S L rem E a → wpAny P md ops (NoPan Q) (m + g) listed a w := by
 have hsel := Region.noSelect_spec (relH_sel hB)
 intro m
 induction m with
 | zero =>
  intro rem listed a E w hm _ hsz hrem htl _ hw hE _ h
  obtain rfl := List.eq_nil_of_length_eq_zero hm
  rw [Nat.zero_add]
  refine hfin listed a E w hsz (fun k hks => ?_) h hw hE
  cases hk : hd k with
  | false => exact htl k hks hk
  | true =>
   cases hh : listed.getD k true with
   | true => rfl
   | false => have := (hrem k).2 ⟨hks, hk, hh⟩; cases this
 | succ m ih =>
  intro rem listed a E w hm hp hsz hrem htl hcl hw hE hmono h
  rw [show m + 1 + g = (m + g) + 1 by omega]
  obtain ⟨k0, r0, rfl⟩ : ∃ k r, rem = k :: r := by
   cases rem with
   | nil => cases hm
   | cons k r => exact ⟨k, r, rfl⟩
  have hk0 := (hrem k0).1 (List.mem_cons_self ..)
  obtain ⟨ok, hok, hk1, _⟩ := relH_at hB hk0.2.1 hk0.1
  have hready : k0 ∈ Region.ready md ops listed := by
   refine mem_ready.2 ⟨hk0.2.2, ok, hok, fun e he hb => ?_⟩
   have hlt := hk1 e he hb
   cases hh : listed.getD e.on false with
   | true => rfl
   | false =>
    have hm' := (hrem e.on).2 ⟨by omega, hlt.2, getD_in (by omega) hh⟩
    rcases List.mem_cons.1 hm' with e' | hm'
    ·omega
    ·have := (List.pairwise_cons.1 hp).1 _ hm'
     omega
  -- the state behind an operation of the head
  have after : ∀ i l1 l2, i < ops.size → hd i = true → i ∈ Region.ready md ops listed → k0 :: r0 = l1 ++ i :: l2 → ∀ (a' : Act) (E' : Nat → World → Prop) (w' : World), C w' → (∀ j, E' j w') → (∀ j w w', Below w.heap.size w w' → E' j w → E' j w') → wpR P md ops Q C S L (l1 ++ l2) E' a' → wpAny P md ops (NoPan Q) (m + g) (listed.setIfInBounds i true) a' w' := by
   intro i l1 l2 his hin hi hsp a' E' w'
   rw [hsp] at hp hm
   have hlt1 : ∀ k ∈ l1, k < i := fun k hk => (List.pairwise_append.1 hp).2.2 k hk i (List.mem_cons_self ..)
   have hp' : (l1 ++ l2).Pairwise (· < ·) := hp.sublist (List.Sublist.append (List.Sublist.refl l1) (List.sublist_cons_self i l2))
   have hlen : (l1 ++ l2).length = m := by rw [List.length_append] at hm ⊢; rw [List.length_cons] at hm; omega
   have hnot : i ∉ l1 ++ l2 := fun hh => by
    rw [List.pairwise_append] at hp
    rcases List.mem_append.1 hh with hh | hh
    ·exact absurd (hlt1 i hh) (Nat.lt_irrefl _)
    ·exact absurd ((List.pairwise_cons.1 hp.2.1).1 i hh) (Nat.lt_irrefl _)
   have hrem' : ∀ k, k ∈ l1 ++ l2 ↔ k < ops.size ∧ hd k = true ∧ (listed.setIfInBounds i true).getD k true = false := fun k => by
    by_cases hki : k = i
    ·subst hki
     refine ⟨fun hh => absurd hh hnot, fun hh => ?_⟩
     have hks : k < listed.size := by omega
     simp [hks] at hh
    ·rw [getD_set_ne true (Ne.symm hki), ← hrem k, hsp]
     simp only [List.mem_append, List.mem_cons]
     constructor
     ·rintro (hh | hh)
      ·exact .inl hh
      ·exact .inr (.inr hh)
     ·rintro (hh | hh | hh)
      ·exact .inl hh
      ·exact absurd hh hki
      ·exact .inr hh
   have htl' : ∀ t, t < ops.size → hd t = false → (listed.setIfInBounds i true).getD t true = false := fun t hts ht => by
    rw [getD_set_ne true (fun e => by rw [e, ht] at hin; cases hin)]; exact htl t hts ht
   exact ih (l1 ++ l2) (listed.setIfInBounds i true) a' E' w' hlen hp' (by simp; exact hsz) hrem' htl' (hcl.set hi)
  cases hpu : pureO ok with
  | true =>
   have h2 := h
   unfold wpR at h2
   rw [hok] at h2
   simp only at h2
   obtain ⟨v, hy, h3⟩ : ∃ v, Yields P ops ok v a ∧ wpR P md ops Q C S L r0 E (a.put ok.dst v) := by
    by_cases Wi : Region.wanted ok (yielded ops a.tmps) = true
    ·rw [if_pos Wi, hS k0 ok hok hpu] at h2
     obtain ⟨v, hv, h2⟩ := h2
     exact ⟨v, .inl ⟨Wi, pureO_run hpu (hv w hw)⟩, h2⟩
    ·rw [if_neg Wi] at h2
     exact ⟨undef, .inr ⟨by simpa using Wi, rfl⟩, h2⟩
   refine wpAny_first hok hsel (fun _ _ _ h => h) (m + g) listed a w (fun j oj hj hne hun hno => ?_) hready hy (after k0 [] r0 hk0.1 hk0.2.1 hready rfl _ E w hw hE hmono h3)
   have hjs : j < ops.size := (Array.getElem?_eq_some_iff.1 hj).1
   have hnw : Region.waitsFor md ops j k0 = false := by
    cases hw' : Region.waitsFor md ops j k0 with
    | false => rfl
    | true =>
     obtain ⟨o, ho, e, he, hb, heq⟩ := Region.waitsFor_spec hw'
     obtain rfl : o = oj := Option.some.inj (ho.symm.trans hj)
     exact absurd heq (hno e he hb)
   cases hdj : hd j with
   | true =>
    have hmem := (hrem j).2 ⟨hjs, hdj, hun⟩
    have hlt : k0 < j := by
     rcases List.mem_cons.1 hmem with e | hmem
     ·exact absurd e hne
     ·exact (List.pairwise_cons.1 hp).1 _ hmem
    obtain ⟨oj', hoj', _, hap⟩ := relH_at hB hdj hjs
    obtain rfl : oj' = oj := Option.some.inj (hoj'.symm.trans hj)
    obtain ⟨ok', hok', hap⟩ := hap k0 hlt hk0.2.1
    obtain rfl : ok' = ok := Option.some.inj (hok'.symm.trans hok)
    exact hap.resolve_left (by rw [hnw]; simp)
   | false =>
    exact ((tailH_at htail hdj hj hk0.2.1 hok).1 hpu).resolve_left (by rw [hnw]; simp)
  | false =>
   refine ⟨fun h0 => (by rw [h0] at hready; cases hready), fun i hi => ?_⟩
   have hun := (mem_ready.1 hi).1
   obtain ⟨_, oi, hoi, _⟩ := mem_ready.1 hi
   have his : i < ops.size := (Array.getElem?_eq_some_iff.1 hoi).1
   have hin : hd i = true := by
    cases hdi : hd i with
    | true => rfl
    | false =>
     exact absurd hi (trB_undone hcl hk0.2.2 8 i ((tailH_at htail hdi hoi hk0.2.1 hok).2 hpu)).2
   have hmem : i ∈ k0 :: r0 := (hrem i).2 ⟨his, hin, hun⟩
   obtain ⟨l1, l2, hsp⟩ := List.append_of_mem hmem
   have hlt1 : ∀ k ∈ l1, k < i ∧ hd k = true ∧ listed.getD k true = false := fun k hk => by
    have hpp := hp
    rw [hsp] at hpp
    have hm2 : k ∈ k0 :: r0 := by rw [hsp]; exact List.mem_append_left _ hk
    exact ⟨(List.pairwise_append.1 hpp).2.2 k hk i (List.mem_cons_self ..), ((hrem k).1 hm2).2⟩
   have h2 := h
   rw [hsp] at h2
   have h2 := wpR_front hB hi hin ⟨w, hw⟩ l1 l2 E a hlt1 h2
   have key := after i l1 l2 his hin hi hsp
   unfold wpR at h2
   rw [hoi] at h2
   simp only at h2
   unfold wpOp
   rw [hoi]
   simp only
   by_cases Wi : Region.wanted oi (yielded ops a.tmps) = true
   ·rw [if_pos Wi] at h2 ⊢
    cases Si : S i with
    | none =>
     rw [Si] at h2
     obtain ⟨v, hv, h2⟩ := h2
     left
     unfold Oper.wp
     rw [hv w hw]
     exact key _ _ _ hw hE hmono h2
    | some s =>
     rw [Si] at h2
     obtain ⟨hs, h2⟩ := h2
     left
     refine Oper.wp_mono ?_ (hs w hw fun j _ => hE j)
     rintro a' w' ⟨x, rfl, hF, hb⟩
     refine key _ _ _ (hC _ _ hw hb) (fun j => ?_) (fun j w1 w2 hb' he => ?_) (h2 x)
     ·unfold envS
      split
      ·exact hF
      ·exact hmono j _ _ hb (hE j)
     ·unfold envS at he ⊢
      split
      ·rename_i hj
       rw [if_pos hj] at he
       exact s.mono x _ _ hb' he
      ·rename_i hj
       rw [if_neg hj] at he
       exact hmono j _ _ hb' he
   ·rw [if_neg Wi] at h2 ⊢
    exact key _ _ _ hw hE hmono h2
end
/-- No pure operation among those with a specification. -/
def pureS (ops : Array Oper) (S : Nat → Option NSpec) : Prop := ∀ k o, ops[k]? = some o → pureO o = true → S k = none
def specs (l : List (Nat × NSpec)) (k : Nat) : Option NSpec := (l.find? fun x => x.1 == k).map (·.2)
def specsB (ops : Array Oper) (l : List Nat) : Bool := l.all fun k => match ops[k]? with
 | none => true
 | some o => !pureO o
theorem specs_pure {ops : Array Oper} {l : List (Nat × NSpec)} (h : specsB ops (l.map (·.1)) = true) : pureS ops (specs l) := by
 intro k o hk hp
 unfold specs
 cases hf : l.find? (fun x => x.1 == k) with
 | none => rfl
 | some x =>
  have h1 := List.find?_some hf
  have h2 := List.mem_of_find?_eq_some hf
  have h3 := List.all_eq_true.1 h x.1 (List.mem_map.2 ⟨x, h2, rfl⟩)
  have e : x.1 = k := by simpa using h1
  rw [e, hk] at h3
  simp only [hp] at h3
  cases h3
def relTailB (md : Region.Mode) (ops : Array Oper) (n : Nat) : Bool :=
 decide (n ≤ ops.size) && relH md ops (fun k => decide (k < n)) && tailH md ops (fun k => decide (k < n)) && Region.seqB md ops (ops.size - n) n (Array.replicate n true ++ Array.replicate (ops.size - n) false)
theorem wp_region_R {P : Program} {id : Nat} {Q : Exit → Act → World → Prop} {a : Act} {w : World} {l : List Oper} (n : Nat) (S : Nat → Option NSpec) (hm : P.follows .mixedOrders = true) (hB : relTailB .any l.toArray n = true) (hS : pureS l.toArray S)
  (h : wpR P .any l.toArray Q (fun w' => ∃ u, w' = ov w u) S (fun E a' => ∀ w', Below w.heap.size w w' → (∀ j, E j w') → wpList P l.toArray (NoPan Q) (l.drop n) a' w') (List.range n) (fun _ _ => True) a) : (Code.region id l.toArray true).wp P Q a w := by
 simp only [relTailB, Bool.and_eq_true, decide_eq_true_eq] at hB
 obtain ⟨⟨⟨hn, hR⟩, htl⟩, hseq⟩ := hB
 refine Code.wp_mono NoPan.imp (wp_region_any hm ?_)
 have hdl : (l.drop n).length = l.toArray.size - n := by simp
 have := wpAny_of_R (P := P) (Q := Q) (md := .any) (C := fun w' => ∃ u, w' = ov w u) (S := S) (g := (l.drop n).length) hR htl (fun w1 w2 ⟨u, hu⟩ hb => by
   subst hu
   exact ⟨w2, ov_of ((ov_below w u).trans (hb.mono (ov_below w u).size))⟩) hS
  (L := fun E a' => ∀ w', Below w.heap.size w w' → (∀ j, E j w') → wpList P l.toArray (NoPan Q) (l.drop n) a' w')
  (fun listed a' E w' hsz hall hL ⟨u, hu⟩ hE => by
   have hT : listed = Array.replicate n true ++ Array.replicate (l.toArray.size - n) false := by
    apply Array.ext_getElem?
    intro j
    rw [Array.getElem?_append, Array.size_replicate]
    by_cases hjs : j < l.toArray.size
    ·have hjl : j < listed.size := by omega
     have h1 := hall j hjs
     rw [Array.getD_eq_getD_getElem?, Array.getElem?_eq_getElem hjl, Option.getD_some] at h1
     rw [Array.getElem?_eq_getElem hjl, h1]
     by_cases hj : j < n
     ·rw [if_pos hj, Array.getElem?_replicate, if_pos hj, decide_eq_true hj]
     ·rw [if_neg hj, Array.getElem?_replicate, if_pos (by omega), decide_eq_false hj]
    ·rw [Array.getElem?_eq_none (by omega), if_neg (by omega), Array.getElem?_replicate, if_neg (by omega)]
   rw [hT]
   refine wpAny_of_seq (l.drop n) n _ a' w' (fun j => by simp [List.getElem?_drop]) (by rw [hdl]; exact hseq) ?_
   subst hu
   exact hL _ (ov_below w u) hE)
  n (List.range n) (Array.replicate l.toArray.size false) a (fun _ _ => True) w.drew (by simp) List.pairwise_lt_range (by simp) (fun k => by
   rw [List.mem_range, decide_eq_true_eq]
   refine ⟨fun hk => ⟨by omega, hk, getD_in (by rw [Array.size_replicate]; omega) (getD_replicate_false _ _)⟩, fun hk => hk.2.1⟩)
  (fun t hts _ => getD_in (by rw [Array.size_replicate]; exact hts) (getD_replicate_false _ _)) (fun j oj _ hl => (by rw [getD_replicate_false] at hl; cases hl))
  ⟨w.drew, ov_of ((Below.refl _ _).drew)⟩ (fun _ => trivial) (fun _ _ _ _ _ => trivial) h
 rw [hdl, show n + (l.toArray.size - n) = l.toArray.size by omega] at this
 exact this
/-- One operation (a store) comes behind all that hangs on the world; what hangs on none may come behind it. -/
def relStB (md : Region.Mode) (ops : Array Oper) (t : Nat) : Bool :=
 decide (t < ops.size) && relH md ops (fun k => !(k == t)) && tailH md ops (fun k => !(k == t)) && decide (Region.ready md ops ((Array.replicate ops.size true).setIfInBounds t false) = [t]) && (Region.ready md ops (Array.replicate ops.size true)).isEmpty
/-! ### The walk over the operations themselves -/
def rOp (o : Oper) : Bool := match o.op with
 | .move _ | .load .. | .binOp .. | .unOp .. | .convert .. | .fieldAddr .. | .field .. | .indexAddr .. | .index .. | .build .. | .slice .. | .extract .. | .assign .. | .pick .. => true
 | _ => false
theorem rOp_run {P : Program} {o : Oper} (h : rOp o = true) (ρ : Operand → Value) : ∃ s : Sem Value, ∀ w, (execOp ρ o).run P w = (s.run P w).andThen fun v w' => .ok (.value v) w' := by
 unfold rOp at h
 have hv : ∀ s : Sem Value, ∀ w, (do let x ← s; pure (Next.value x) : Sem Next).run P w = (s.run P w).andThen fun v w' => .ok (.value v) w' := fun s w => by
  simp only [Sem.run_bind, Sem.run_pure]
 unfold execOp
 cases ho : o.op <;> rw [ho] at h <;> first | (exact ⟨_, fun w => hv _ w⟩) | (cases h; done) | skip
 rotate_right
 ·rename_i c x y
  refine ⟨do let b ← asBool (ρ c); pure (if b = true then ρ x else ρ y), fun w => ?_⟩
  simp only [Sem.run_bind, Sem.run_pure]
  cases (asBool (ρ c)).run P w <;> rfl
 all_goals first | (exact ⟨pure _, fun w => rfl⟩) | (simp only [Sem.run_pure]; exact ⟨pure _, fun w => by simp only [Sem.run_pure, Result.andThen_ok]⟩)
section
variable {P : Program} {ops : Array Oper} {Q : Exit → Act → World → Prop} {md : Region.Mode} {C : World → Prop} {S : Nat → Option NSpec} {L : (Nat → World → Prop) → Act → Prop}
theorem run_of_quiet {o : Oper} {v : Value} {a : Act} (ho : rOp o = true) (h : ∀ w, C w → o.quietAt P a C w v) : ∀ w, C w → (execOp a.eval o).run P w = .ok (.value v) w := fun w hw => by
 have h1 := h w hw
 unfold Oper.quietAt at h1
 obtain ⟨s, hs⟩ := rOp_run (P := P) ho a.eval
 rw [hs w] at h1 ⊢
 cases hr : s.run P w with
 | ok x w' =>
  rw [hr] at h1
  obtain ⟨e1, e2⟩ : w' = w ∧ x = v := h1
  rw [e1, e2]; rfl
 | halt x w' =>
  rw [hr] at h1
  exact (h1 : False).elim
def wpRL (P : Program) (md : Region.Mode) (ops : Array Oper) (Q : Exit → Act → World → Prop) (C : World → Prop) (S : Nat → Option NSpec) (L : (Nat → World → Prop) → Act → Prop) (l : List Oper) (k : Nat) (E : Nat → World → Prop) (a : Act) : Prop :=
 (∀ j, j < l.length → l[j]? = ops[k + j]?) → wpR P md ops Q C S L (List.range' k l.length) E a
theorem wpRL_nil {k : Nat} {E : Nat → World → Prop} {a : Act} (h : L E a) : wpRL P md ops Q C S L [] k E a := fun _ => h
theorem wpRL_chunk (m : Nat) {l : List Oper} {k : Nat} {E : Nat → World → Prop} {a : Act} (hB : ((l.take m).all rOp && (List.range' k m).all fun i => (S i).isNone) = true)
  (h : wpQuiet P ops C (fun a' => wpRL P md ops Q C S L (l.drop m) (k + m) E a') (l.take m) a) : wpRL P md ops Q C S L l k E a := by
 induction m generalizing l k a with
 | zero =>
  have h' : wpRL P md ops Q C S L (l.drop 0) (k + 0) E a := h
  simpa using h'
 | succ m ih =>
  cases l with
  | nil =>
   intro _
   have h' : wpRL P md ops Q C S L [] (k + (m + 1)) E a := h
   exact h' (fun j hj => absurd hj (by simp))
  | cons o r =>
   intro hl
   simp only [List.take_succ_cons, List.all_cons, Bool.and_eq_true, List.range'_succ, List.drop_succ_cons] at hB h
   obtain ⟨⟨ho, hr⟩, hk, hS⟩ := hB
   have h0 : ops[k]? = some o := by simpa using (hl 0 (by simp)).symm
   have hSk : S k = none := by simpa using hk
   rw [List.length_cons, List.range'_succ]
   have hl' : ∀ j, j < r.length → r[j]? = ops[k + 1 + j]? := fun j hj => by
    have := hl (j + 1) (by simp; omega)
    simpa [Nat.add_assoc, Nat.add_comm 1 j] using this
   have go : ∀ a', wpQuiet P ops C (fun a' => wpRL P md ops Q C S L (r.drop m) (k + (m + 1)) E a') (r.take m) a' → wpR P md ops Q C S L (List.range' (k + 1) r.length) E a' := fun a' h' =>
    ih (by simp only [Bool.and_eq_true]; exact ⟨hr, hS⟩) (by rw [show k + 1 + m = k + (m + 1) by omega]; exact h') hl'
   unfold wpR
   rw [h0]
   simp only
   unfold wpQuiet at h
   by_cases hw : Region.wanted o (yielded ops a.tmps) = true
   ·rw [if_pos hw] at h ⊢
    rw [hSk]
    obtain ⟨v, hv, hK⟩ := h
    exact ⟨v, run_of_quiet ho hv, go _ hK⟩
   ·rw [if_neg hw] at h ⊢
    exact go _ h
theorem wpRL_call {o : Oper} {r : List Oper} {k : Nat} {E : Nat → World → Prop} {a : Act} {s : NSpec} (hS : S k = some s) (hw : Region.wanted o (yielded ops a.tmps) = true)
  (hstep : ∀ w, C w → (∀ j, Region.waitsFor md ops k j = true → E j w) → ∀ K : Act → World → Prop, (∀ x w', s.F x w' → Below w.heap.size w w' → K (a.put o.dst (s.f x)) w') → o.wp P a w K (NoPan Q))
  (h : ∀ x, wpRL P md ops Q C S L r (k + 1) (envS E k (s.F x)) (a.put o.dst (s.f x))) : wpRL P md ops Q C S L (o :: r) k E a := by
 intro hl
 have h0 : ops[k]? = some o := by simpa using (hl 0 (by simp)).symm
 rw [List.length_cons, List.range'_succ]
 unfold wpR
 rw [h0]
 simp only
 rw [if_pos hw, hS]
 refine ⟨stepR_of hstep, fun x => h x fun j hj => ?_⟩
 have := hl (j + 1) (by simp; omega)
 simpa [Nat.add_assoc, Nat.add_comm 1 j] using this
end
theorem wpRL_callB {P : Program} {ops : Array Oper} {Q : Exit → Act → World → Prop} {md : Region.Mode} {w0 : World} {S : Nat → Option NSpec} {L : (Nat → World → Prop) → Act → Prop} {o : Oper} {r : List Oper} {k : Nat} {E : Nat → World → Prop} {a : Act} {s : NSpec} (hS : S k = some s) (hw : Region.wanted o (yielded ops a.tmps) = true)
  (hstep : ∀ w, Below w0.heap.size w0 w → (∀ j, Region.waitsFor md ops k j = true → E j w) → ∀ K : Act → World → Prop, (∀ x w', s.F x w' → Below w.heap.size w w' → K (a.put o.dst (s.f x)) w') → o.wp P a w K (NoPan Q))
  (h : ∀ x, wpRL P md ops Q (fun w' => ∃ u, w' = ov w0 u) S L r (k + 1) (envS E k (s.F x)) (a.put o.dst (s.f x))) : wpRL P md ops Q (fun w' => ∃ u, w' = ov w0 u) S L (o :: r) k E a :=
 wpRL_call hS hw (fun w ⟨u, hu⟩ hE => hstep w (by rw [hu]; exact ov_below _ _) hE) h
def detS (v : Value) : NSpec := ⟨Unit, ⟨()⟩, fun _ => v, fun _ _ => True, fun _ _ _ _ h => h⟩
theorem wp_region_RL {P : Program} {id : Nat} {Q : Exit → Act → World → Prop} {a : Act} {w : World} {l : List Oper} (n : Nat) (S : List (Nat × NSpec)) (hm : P.follows .mixedOrders = true) (hB : relTailB .any l.toArray n = true) (hS : specsB l.toArray (S.map (·.1)) = true)
  (h : wpRL P .any l.toArray Q (fun w' => ∃ u, w' = ov w u) (specs S) (fun E a' => ∀ w', Below w.heap.size w w' → (∀ j, E j w') → wpList P l.toArray (NoPan Q) (l.drop n) a' w') (l.take n) 0 (fun _ _ => True) a) : (Code.region id l.toArray true).wp P Q a w := by
 have hn : n ≤ l.length := by
  have hB' := hB
  simp only [relTailB, Bool.and_eq_true, decide_eq_true_eq] at hB'
  simpa using hB'.1.1.1
 have hlen : (l.take n).length = n := by simp; omega
 have h' := h fun j hj => by
  rw [hlen] at hj
  simp [hj]
 rw [hlen, ← List.range_eq_range'] at h'
 exact wp_region_R n (specs S) hm hB (specs_pure hS) h'
/-! ### A call, its act left as it is -/
theorem wp_callF {P : Program} {g : FuncId} {xs : Array Operand} {ats : Array TypeId} {o : Oper} {a : Act} {w : World} {K : Act → World → Prop} {Q : Exit → Act → World → Prop} {vals : Array Value} (ho : o.op = .call { callee := .value (.func g), args := xs, argTypes := ats }) (eg : Go.Proofs.Enters P g) (hv : xs.map a.eval = vals)
  (h : Calls P g vals w fun e w' => ∃ v, e = .returned v ∧ K (a.put o.dst v) w') : o.wp P a w K Q := by
 subst hv
 obtain ⟨dst, op, ty, pos, after, guard⟩ := o
 simp only at ho
 subst ho
 unfold Oper.wp
 rw [execOp_call_go, show (#[] ++ xs.map a.eval ++ #[] : Array Value) = xs.map a.eval by simp, eg]
 exact Calls.mono h fun e w' ⟨v, he, hk⟩ => by subst he; exact hk
theorem wp_lenS {P : Program} {x : Operand} {t e : TypeId} {o : Oper} {a : Act} {w : World} {K : Act → World → Prop} {Q : Exit → Act → World → Prop} {ad : Option Addr} {n c : Nat} (ho : o.op = .call { callee := .builtin .len, args := #[x], argTypes := #[t] }) (ht : P.underlying t = some (.slice e)) (hx : a.eval x = .slice ad n c)
  (h : K (a.put o.dst (.int .i64 n)) w) : o.wp P a w K Q := by
 obtain ⟨dst, op, ty, pos, after, guard⟩ := o
 simp only at ho
 subst ho
 unfold Oper.wp
 have hu := run_underlying ht w
 have key : ∀ ρ : Operand → Value, ρ x = .slice ad n c → (execOp ρ { dst, op := .call { callee := .builtin .len, args := #[x], argTypes := #[t] }, type := ty, pos, after, guard : Oper }).run P w = .ok (.value (.int .i64 n)) w := fun ρ hρ => by
  have hl : (Builtin.len_ #[t] ty #[.slice ad n c]).run P w = .ok (goInt n) w := by simp [Builtin.len_, hu]
  simp [go_sem, hρ, hl]
 have := key a.eval hx
 rw [this]
 exact h
/-! ### A region in the order of its text, operation by operation -/
section
variable {P : Program} {ops : Array Oper} {Q : Exit → Act → World → Prop} {w : World}
theorem wpList_chunk (m : Nat) {l : List Oper} {a : Act} (hB : (l.take m).all rOp = true)
  (h : wpQuiet P ops (fun w' => ∃ u, w' = ov w u) (fun a' => wpList P ops Q (l.drop m) a' w) (l.take m) a) : wpList P ops Q l a w := by
 induction m generalizing l a with
 | zero => exact h
 | succ m ih =>
  cases l with
  | nil => exact h
  | cons o r =>
   simp only [List.take_succ_cons, List.all_cons, Bool.and_eq_true, List.drop_succ_cons] at hB h
   unfold wpQuiet at h
   unfold wpList
   by_cases hw : Region.wanted o (yielded ops a.tmps) = true
   ·rw [if_pos hw] at h ⊢
    obtain ⟨v, hv, hK⟩ := h
    left
    unfold Oper.wp
    rw [run_of_quiet hB.1 hv w ⟨w, ov_of (Below.refl _ _)⟩]
    exact ih hB.2 hK
   ·rw [if_neg hw] at h ⊢
    exact ih hB.2 h
theorem wpList_callF {g : FuncId} {xs : Array Operand} {ats : Array TypeId} {o : Oper} {r : List Oper} {a : Act} {vals : Array Value} (hw : Region.wanted o (yielded ops a.tmps) = true) (ho : o.op = .call { callee := .value (.func g), args := xs, argTypes := ats }) (eg : Go.Proofs.Enters P g) (hv : xs.map a.eval = vals)
  (h : Calls P g vals w fun e w' => ∃ v, e = .returned v ∧ wpList P ops Q r (a.put o.dst v) w') : wpList P ops Q (o :: r) a w := by
 unfold wpList
 rw [if_pos hw]
 exact .inl (wp_callF ho eg hv h)
theorem wpList_lenS {x : Operand} {t e : TypeId} {o : Oper} {r : List Oper} {a : Act} {ad : Option Addr} {n c : Nat} (hw : Region.wanted o (yielded ops a.tmps) = true) (ho : o.op = .call { callee := .builtin .len, args := #[x], argTypes := #[t] }) (ht : P.underlying t = some (.slice e)) (hx : a.eval x = .slice ad n c)
  (h : wpList P ops Q r (a.put o.dst (.int .i64 n)) w) : wpList P ops Q (o :: r) a w := by
 unfold wpList
 rw [if_pos hw]
 exact .inl (wp_lenS ho ht hx h)
theorem wpList_skip {o : Oper} {r : List Oper} {a : Act} (hw : Region.wanted o (yielded ops a.tmps) = false) (h : wpList P ops Q r (a.put o.dst undef) w) : wpList P ops Q (o :: r) a w := by
 unfold wpList
 rw [if_neg (by rw [hw]; decide)]
 exact h
end
end Go.Proofs.YtamgpfblhlfhaaaGreat
/- Specifications of values that are rasters, for regions that draw their order; the full raster's validity. -/
namespace Go.Proofs.YtamgpfblhlfhaaaGreat
open Go.RowKit Go.Shelf Pl
set_option linter.unusedVariables false
set_option linter.unusedSimpArgs false
set_option maxRecDepth 20000
def rasS (L : List TA) : NSpec := ⟨Option Addr × Nat, ⟨(none, 0)⟩, fun x => .agg #[.slice x.1 L.length x.2], fun x w => RS (.slice x.1 L.length x.2) L w, fun _ _ _ hb h => h.below hb⟩
def tupS (L : List TA) (n : Int) : NSpec := ⟨Option Addr × Nat, ⟨(none, 0)⟩, fun x => .tuple #[.agg #[.slice x.1 L.length x.2], .int .i64 n], fun x w => RS (.slice x.1 L.length x.2) L w, fun _ _ _ hb h => h.below hb⟩
def gotS (L : List TA) (n : Int) : NSpec := ⟨Option Addr × Nat, ⟨(none, 0)⟩, fun x => .agg #[.slice x.1 L.length x.2, .int .i64 n], fun x w => RS (.slice x.1 L.length x.2) L w, fun _ _ _ hb h => h.below hb⟩
def ptrS (n : Nat) (t : TypeId) (cs : Array Value) : NSpec := ⟨Nat, ⟨0⟩, fun b => .pointer (some ⟨b, 0, none⟩), fun b w => n ≤ b ∧ AtB t w b cs, fun _ _ _ hb h => ⟨h.1, h.2.of_eq (hb.block _ h.2.lt)⟩⟩
theorem len_maxLen {n : Nat} (h : n ≤ 2000) : n ≤ maxLen := by unfold maxLen; omega
/-! ### The contracts at lists that are known to be valid; results told by another word -/
theorem P_ValidB (v : Value) (ls : List TA) (r : Bool) (w : World) (h : RS v ls w) (tk : TokL ls) (hn : ls.length ≤ maxLen) (e : validL ls = r) : Calls Tryz.prog 56 #[.agg #[v]] w fun e w' => e = .returned (.bool r) ∧ Below w.heap.size w w' := e ▸ P_Valid v ls w h tk hn
theorem P_BoundsV (v : Value) (ls : List TA) (w : World) (h : RS v ls w) (tk : TokL ls) (hn : ls.length ≤ maxLen) (hv : validL ls = true) : Calls Tryz.prog 59 #[.agg #[v]] w fun e w' => e = .returned (Rc.v (boundL ls)) ∧ Below w.heap.size w w' := by
 have := P_BoundsR v ls w h tk hn
 rw [fineL_of hv] at this
 exact this
/- Contract of gouacheref08.Near. -/
def nearR (c : Rc) : Rc := ⟨c.x0 % 64 - 30, c.y0 % 64 - 30, c.x0 % 64 - 30 + 1 + c.x1 % 32, c.y0 % 64 - 30 + 1 + c.y1 % 32⟩
@[go_sem] theorem run_field_a (p0 p1 p2 pa : Int) (w : World) : (Instr.field 25 (.agg #[.int .u8 p0, .int .u8 p1, .int .u8 p2, .int .u8 pa]) 3).run Tryz.prog w = .ok (.int .u8 pa) w := by kernel_rfl
/- Pairs of integers as blocks; one byte of a tile stored; contracts of Set and Put with a result told. -/
def i2 (a b : Int) (k : Nat) : Int := if k = 0 then a else b
theorem AtB.cellL {t : TypeId} {w : World} {b : Nat} {l : List Value} (h : AtB t w b l.toArray) (i : Nat) {v : Value} (hv : l[i]? = some v) : w.cell? ⟨b, i, none⟩ = some v := h.cell i (by simpa using hv)
theorem set_self {cs : Array Value} {i : Nat} {v : Value} (h : cs[i]? = some v) : cs.setIfInBounds i v = cs := by
 apply Array.ext_getElem?
 intro k
 rw [Array.getElem?_setIfInBounds]
 by_cases e : i = k
 ·subst e
  rw [if_pos rfl, if_pos (Array.getElem?_eq_some_iff.1 h).1, h]
 ·rw [if_neg e]
theorem setR_valid (ls : List TA) (x y : Int) (p : Px) : validL (setR ls x y p) = true := putR_valid _ _ _ _
theorem RS.chgT {v : Value} {ls : List TA} {b : Nat} {f : Nat → Px} {w w' : World} (h : RS v ls w) (hb : TileAt w b f) (hc : Chg b w w') : RS v ls w' :=
 RS.chg (t := 70) (cs := tileC f) h hb (by rw [size_tileC]; omega) hc
end Go.Proofs.YtamgpfblhlfhaaaGreat
/- Plain laws: how many tiles there are behind put; the full raster. -/
namespace Go.Proofs.YtamgpfblhlfhaaaGreat
open Go.RowKit Pl
set_option linter.unusedVariables false
set_option linter.unusedSimpArgs false
/-- The tile of the law: its first pixel full. -/
def limT (Ls : List Int) : Nat → Px := upd (madeT Ls) 0 ⟨0, 0, 3, 255⟩
def F24 : List TA := fullL 1024
/- Plain: a raster after pixel updates, by its pixels; grids of 32 times 32 pixels. -/
/-- A pixel update, as the law sends it. -/
structure Dt where
 x : Int
 y : Int
 p : Px
/-- All positions lie near the origin. -/
def Small (r : List TA) : Prop := ∀ e ∈ r, -2 ≤ e.x ∧ e.x ≤ 1 ∧ -2 ≤ e.y ∧ e.y ≤ 1
theorem inc_len : ∀ (l : List Nat) (m n : Nat), l.Pairwise (· < ·) → (∀ x ∈ l, m ≤ x ∧ x < n) → l.length ≤ n - m
 | [], _, _, _, _ => Nat.zero_le _
 | a :: t, m, n, hp, hb => by
  have ha := hb a (List.mem_cons_self ..)
  have h1 := List.pairwise_cons.1 hp
  have := inc_len t (a + 1) n h1.2 fun x hx => ⟨h1.1 x hx, (hb x (List.mem_cons_of_mem _ hx)).2⟩
  rw [List.length_cons]
  omega
theorem small_len {r : List TA} (hs : Srt r) (h : Small r) : r.length ≤ 16 := by
 have hp : (r.map fun e => ((e.y + 2) * 4 + (e.x + 2)).toNat).Pairwise (· < ·) := by
  rw [List.pairwise_map]
  refine hs.imp_of_mem fun {a b} ha hb hab => ?_
  have := h a ha
  have := h b hb
  have hh := of_decide_eq_true hab
  omega
 have := inc_len _ 0 16 hp fun x hx => by
  obtain ⟨e, he, rfl⟩ := List.mem_map.1 hx
  have := h e he
  omega
 simpa using this
theorem putL_small {r : List TA} (h : Small r) {x y : Int} {t : Nat → Px} (hx : -2 ≤ x ∧ x ≤ 1 ∧ -2 ≤ y ∧ y ≤ 1) : Small (putL r x y t) := fun e he => by
 rcases putL_mem he with he | ⟨rfl, _⟩
 ·exact h e he
 ·exact hx
/-- What stands in a valid raster is clean. -/
theorem tileL_clean {r : List TA} (h : validL r = true) (x y : Int) {i : Nat} (hi : i < 64) : cleanP (tileL r x y i) = tileL r x y i := by
 rcases tileL_some r x y with e | ⟨e, he, _, _, ht⟩
 ·rw [e]; rfl
 ·rw [ht]
  exact eqT_at ((goodA_iff e).1 (validL_good h e he)).2.2 hi
section
variable {r : List TA} {X Y : Int} {p : Px} (hv : validL r = true) (hs : Small r) (hX : -16 ≤ X ∧ X ≤ 15) (hY : -16 ≤ Y ∧ Y ≤ 15)
theorem near_within {X Y : Int} (hX : -16 ≤ X ∧ X ≤ 15) (hY : -16 ≤ Y ∧ Y ≤ 15) : withinB (X / 8) (Y / 8) = true := decide_eq_true (by omega)
theorem dot_len {r : List TA} {X Y : Int} (hv : validL r = true) (hs : Small r) (hX : -16 ≤ X ∧ X ≤ 15) (hY : -16 ≤ Y ∧ Y ≤ 15) (t : Nat → Px) : (putL r (X / 8) (Y / 8) t).length ≤ 1024 := by
 have := small_len (putL_srt (validL_srt hv) (x := X / 8) (y := Y / 8) (t := t)) (putL_small hs (by omega))
 omega
theorem dot_set {r : List TA} {X Y : Int} (hv : validL r = true) (hs : Small r) (hX : -16 ≤ X ∧ X ≤ 15) (hY : -16 ≤ Y ∧ Y ≤ 15) (p : Px) : setR r X Y p = putL r (X / 8) (Y / 8) (cleanT (setT (tileL r (X / 8) (Y / 8)) (X % 8) (Y % 8) p)) := by
 unfold setR putR manyL setS
 rw [near_within hX hY, if_pos rfl, fineL_of hv, if_pos (dot_len hv hs hX hY _)]
theorem dot_small {r : List TA} {X Y : Int} (hv : validL r = true) (hs : Small r) (hX : -16 ≤ X ∧ X ≤ 15) (hY : -16 ≤ Y ∧ Y ≤ 15) (p : Px) : Small (setR r X Y p) := by
 rw [dot_set hv hs hX hY]
 exact putL_small hs (by omega)
theorem dot_get {r : List TA} {X Y : Int} (hv : validL r = true) (hs : Small r) (hX : -16 ≤ X ∧ X ≤ 15) (hY : -16 ≤ Y ∧ Y ≤ 15) (p : Px) (x y : Int) : getL (setR r X Y p) x y = if x = X ∧ y = Y then cleanP p else getL r x y := by
 rw [dot_set hv hs hX hY]
 unfold getL
 have hi : (8 * (y % 8) + x % 8).toNat < 64 := by omega
 by_cases h : eqB (X / 8) (Y / 8) (x / 8) (y / 8) = true
 ·have h' := of_decide_eq_true h
  rw [← h'.1, ← h'.2, tileL_put_same (validL_srt hv)]
  have hz : ∀ t : Nat → Px, (if zeroB (cleanT t) = true then zT else cleanT t) (8 * (y % 8) + x % 8).toNat = cleanP (t (8 * (y % 8) + x % 8).toNat) := fun t => by
   split
   ·rename_i hz
    have ha := (zeroB_iff _).1 hz _ hi
    show Px.zero = cleanP (t _)
    unfold cleanT at ha
    unfold cleanP at ha ⊢
    split
    ·rfl
    ·rename_i hne
     rw [if_neg hne] at ha
     exact absurd ha hne
   ·rfl
  rw [hz]
  have hin : insB (X % 8) (Y % 8) = true := decide_eq_true (by omega)
  unfold setT
  rw [hin, if_pos rfl]
  unfold upd
  by_cases hxy : x = X ∧ y = Y
  ·rw [if_pos hxy, hxy.1, hxy.2, if_pos (by unfold posI; rfl)]
  ·rw [if_neg hxy, if_neg (by unfold posI; omega)]
   exact tileL_clean hv _ _ hi
 ·have h2 : eqB (X / 8) (Y / 8) (x / 8) (y / 8) = false := by simpa using h
  rw [tileL_put_other _ _ _ _ h2, if_neg (fun hh => by
   rw [hh.1, hh.2] at h2
   simp [eqB] at h2)]
end
/-- The raster after the first k updates. -/
def dotX (d : Dt) : Int := d.x % 32 - 16
def dotY (d : Dt) : Int := d.y % 32 - 16
def dAt (l : List Dt) (k : Nat) : Dt := l.getD k ⟨0, 0, Px.zero⟩
def dotR (l : List Dt) : Nat → List TA
 | 0 => []
 | k + 1 => setR (dotR l k) (dotX (dAt l k)) (dotY (dAt l k)) (dAt l k).p
/-- The pixels wanted. -/
def dotW (l : List Dt) : Nat → Nat → Px
 | 0 => fun _ => Px.zero
 | k + 1 => upd (dotW l k) (((dAt l k).y % 32).toNat * 32 + ((dAt l k).x % 32).toNat) (cleanP (dAt l k).p)
/-! ### Grids -/
def gridC (f : Nat → Px) : Array Value := Array.ofFn (n := 4096) fun k => pxC (f (k.val / 4)) (k.val % 4)
/- Plain: the pixels that Image makes are the raster's pixels, row by row. -/
/-- The pixel number j of a rectangle. -/
def widN (c : Rc) : Nat := (c.x1 - c.x0).toNat
def pxX (c : Rc) (j : Nat) : Int := c.x0 + ((j % widN c : Nat) : Int)
def pxY (c : Rc) (j : Nat) : Int := c.y0 + ((j / widN c : Nat) : Int)
def imgL (c : Rc) (ks : List TA) : List Px := (List.range (areaN c)).map fun j => getL ks (pxX c j) (pxY c j)
/-- The place of a pixel in its tile. -/
def inT (x y : Int) : Nat := (8 * (y % 8) + x % 8).toNat
end Go.Proofs.YtamgpfblhlfhaaaGreat
/- The pixel at a column and a row of a rectangle. -/
namespace Go.Proofs.YtamgpfblhlfhaaaGreat
open Go.RowKit Go.Shelf Pl
end Go.Proofs.YtamgpfblhlfhaaaGreat
/- Plain: the positions of a rectangle's tiles; what Paste computes. -/
namespace Go.Proofs.YtamgpfblhlfhaaaGreat
open Go.RowKit Pl
set_option linter.unusedVariables false
set_option linter.unusedSimpArgs false
/-- The rectangle of the tiles that a rectangle meets. -/
def tlR (c : Rc) : Rc := ⟨c.x0 / 8, c.y0 / 8, (c.x1 - 1) / 8 + 1, (c.y1 - 1) / 8 + 1⟩
def tlN (c : Rc) : Nat := areaN (tlR c)
def posP (c : Rc) (k : Nat) : Int × Int := (pxX (tlR c) k, pxY (tlR c) k)
def posL (c : Rc) : List (Int × Int) := (List.range (tlN c)).map (posP c)
/-! ### Pasting -/
def pixL (c : Rc) (L : List Px) (X Y : Int) : Px := L.getD (idxI c X Y).toNat Px.zero
def pstP (c : Rc) (L : List Px) (X Y : Int) (p : Px) : Px := if hasR c X Y = true then cleanP (pixL c L X Y) else p
def pstT (c : Rc) (L : List Px) (x y : Int) (t : Nat → Px) : Nat → Px := fun i => if i < 64 then pstP c L (x * 8 + (i : Int) % 8) (y * 8 + (i : Int) / 8) (t i) else t i
def pstF (c : Rc) (L : List Px) (_ : Unit) (X Y : Int) (p : Px) : Unit × Px := ((), pstP c L X Y p)
def OkL (L : List Px) : Prop := ∀ p ∈ L, p.ok
def CleanL (ls : List TA) : Prop := ∀ e ∈ ls, eqT (cleanT e.t) e.t = true
def pst1 (c : Rc) (L : List Px) (ls : List TA) (p : Int × Int) : List TA := putL ls p.1 p.2 (pstT c L p.1 p.2 (tileL ls p.1 p.2))
def pstL (c : Rc) (L : List Px) (ls : List TA) (ps : List (Int × Int)) : List TA := ps.foldl (pst1 c L) ls
def pstE (c : Rc) (L : List Px) (ls : List TA) : Int := if validR c = true ∧ (L.length : Int) = areaR c then (if fitsE c = 0 then manyE (pstL c L (fineL ls) (posL c)) else fitsE c) else 1
def pstR (c : Rc) (L : List Px) (ls : List TA) : List TA := if validR c = true ∧ (L.length : Int) = areaR c then (if fitsE c = 0 then manyL (pstL c L (fineL ls) (posL c)) else []) else []
theorem RS.congr {v : Value} {ls ks : List TA} {w : World} (h : RS v ls w) (hl : ls.length = ks.length) (hr : rowC ls = rowC ks) : RS v ks w := by
 rcases h with ⟨h1, rfl⟩ | ⟨g, o, c, e, hc, sc⟩
 ·exact .inl ⟨h1, List.eq_nil_of_length_eq_zero hl.symm⟩
 ·refine .inr ⟨g, o, c, by rw [← hl]; exact e, by omega, fun hn => ⟨(sc (by omega)).1, fun i hi j hj => ?_⟩⟩
  rw [(sc (by omega)).2 i (by omega) j hj, ← rowC_at ls i j (by omega) hj, hr, rowC_at ks i j hi hj]
/- Plain: the positions at which two rasters differ, in order; replacing them. -/
def ltP (a b : Int × Int) : Bool := lessB a.1 a.2 b.1 b.2
def posA (e : TA) : Int × Int := (e.x, e.y)
def SrtP (l : List (Int × Int)) : Prop := l.Pairwise fun a b => ltP a b = true
theorem lessB_iff {a b c d : Int} : lessB a b c d = true ↔ (b < d ∨ (b = d ∧ a < c)) := by unfold lessB; exact decide_eq_true_iff
theorem ltP_iff {a b : Int × Int} : ltP a b = true ↔ (a.2 < b.2 ∨ (a.2 = b.2 ∧ a.1 < b.1)) := lessB_iff
theorem ltP_trans {a b c : Int × Int} (h : ltP a b = true) (k : ltP b c = true) : ltP a c = true := by
 rw [ltP_iff] at *
 omega
theorem ltP_irr (a : Int × Int) : ¬ ltP a a = true := by rw [ltP_iff]; omega
theorem ltP_tri {a b : Int × Int} (h : ¬ a = b) (k : ¬ ltP a b = true) : ltP b a = true := by
 rw [ltP_iff] at *
 have : ¬ (a.1 = b.1 ∧ a.2 = b.2) := fun e => h (Prod.ext e.1 e.2)
 omega
theorem eqT_symm {t u : Nat → Px} (h : eqT t u = true) : eqT u t = true := eqT_true fun i hi => (eqT_at h hi).symm
theorem eqT_comm (t u : Nat → Px) : eqT t u = eqT u t := by
 rw [Bool.eq_iff_iff]
 exact ⟨eqT_symm, eqT_symm⟩
theorem eqT_zero {t : Nat → Px} (h : zeroB t = false) : eqT t zT = false := by
 by_cases e : eqT t zT = true
 ·exfalso
  have : zeroB t = true := (zeroB_iff t).2 fun i hi => by rw [eqT_at e hi]; rfl
  rw [h] at this
  cases this
 ·simpa using e
/-- No tile without a visible pixel. -/
def Nz (ls : List TA) : Prop := ∀ e ∈ ls, zeroB e.t = false
theorem valid_nz {ls : List TA} (h : validL ls = true) : Nz ls := fun e he => ((goodA_iff e).1 (validL_good h e he)).2.1
def Diff (a b : List TA) (p : Int × Int) : Prop := eqT (tileL a p.1 p.2) (tileL b p.1 p.2) = false
theorem Diff.symm {a b : List TA} {p : Int × Int} (h : Diff a b p) : Diff b a p := by unfold Diff at *; rw [eqT_comm]; exact h
theorem diff_in {a b : List TA} {p : Int × Int} (h : Diff a b p) : (∃ e ∈ a, posA e = p) ∨ ∃ e ∈ b, posA e = p := by
 rcases tileL_some a p.1 p.2 with e | ⟨e, he, e1, e2, _⟩
 ·rcases tileL_some b p.1 p.2 with f | ⟨f, hf, f1, f2, _⟩
  ·unfold Diff at h
   rw [e, f, eqT_refl] at h
   cases h
  ·exact .inr ⟨f, hf, Prod.ext f1 f2⟩
 ·exact .inl ⟨e, he, Prod.ext e1 e2⟩
/-! ### Changed of package raster: two lists merged -/
def chgP : List TA → List TA → List (Int × Int)
 | [], [] => []
 | [], e :: r => posA e :: chgP [] r
 | d :: q, [] => posA d :: chgP q []
 | d :: q, e :: r => if lessB d.x d.y e.x e.y = true then posA d :: chgP q (e :: r) else if lessB e.x e.y d.x d.y = true then posA e :: chgP (d :: q) r else (if eqT d.t e.t = true then [] else [posA d]) ++ chgP q r
termination_by a b => a.length + b.length
theorem chgP_nil2 : chgP [] [] = [] := by rw [chgP]
theorem chgP_right (e : TA) (r : List TA) : chgP [] (e :: r) = posA e :: chgP [] r := by rw [chgP]
theorem chgP_left (d : TA) (q : List TA) : chgP (d :: q) [] = posA d :: chgP q [] := by rw [chgP]
theorem chgP_both (d : TA) (q : List TA) (e : TA) (r : List TA) : chgP (d :: q) (e :: r) = if lessB d.x d.y e.x e.y = true then posA d :: chgP q (e :: r) else if lessB e.x e.y d.x d.y = true then posA e :: chgP (d :: q) r else (if eqT d.t e.t = true then [] else [posA d]) ++ chgP q r := by rw [chgP]
theorem srt_cons {d : TA} {q : List TA} (h : Srt (d :: q)) : Srt q ∧ ∀ e ∈ q, ltP (posA d) (posA e) = true := by
 obtain ⟨h1, h2⟩ := List.pairwise_cons.1 h
 exact ⟨h2, h1⟩
theorem posA_ne {p : Int × Int} {e : TA} (h : ¬ posA e = p) : eqB e.x e.y p.1 p.2 = false := decide_eq_false fun k => h (Prod.ext k.1 k.2)
theorem tileL_head (d : TA) (q : List TA) : tileL (d :: q) d.x d.y = d.t := by
 show (if _ then _ else _) = _
 rw [if_pos (show eqB d.x d.y d.x d.y = true from decide_eq_true ⟨rfl, rfl⟩)]
theorem tileL_tail (d : TA) (q : List TA) {p : Int × Int} (h : ¬ posA d = p) : tileL (d :: q) p.1 p.2 = tileL q p.1 p.2 := by
 show (if _ then _ else _) = _
 rw [if_neg (by rw [posA_ne h]; decide)]
theorem tileL_lt {p : Int × Int} {q : List TA} (h : ∀ e ∈ q, ltP p (posA e) = true) : tileL q p.1 p.2 = zT :=
 tileL_none fun e he => posA_ne fun k => ltP_irr p (by have := h e he; rw [k] at this; exact this)
theorem chgP_spec : ∀ (a b : List TA), Srt a → Srt b → Nz a → Nz b → SrtP (chgP a b) ∧ ∀ p, p ∈ chgP a b ↔ Diff a b p := by
 intro a b
 induction a, b using chgP.induct with
 | case1 =>
  intro _ _ _ _
  rw [chgP_nil2]
  refine ⟨List.Pairwise.nil, fun p => ⟨fun h => (by cases h), fun h => ?_⟩⟩
  unfold Diff at h
  rw [show tileL ([] : List TA) p.1 p.2 = zT from rfl, eqT_refl] at h
  cases h
 | case2 e r ih =>
  intro ha hb na nb
  obtain ⟨hr, hlt⟩ := srt_cons hb
  obtain ⟨i1, i2⟩ := ih ha hr na (fun x hx => nb x (List.mem_cons_of_mem _ hx))
  rw [chgP_right]
  refine ⟨List.Pairwise.cons (fun p hp => ?_) i1, fun p => ?_⟩
  ·rcases diff_in ((i2 p).1 hp) with ⟨_, h, _⟩ | ⟨x, hx, rfl⟩
   ·cases h
   ·exact hlt x hx
  ·by_cases hp : posA e = p
   ·subst hp
    refine ⟨fun _ => ?_, fun _ => List.mem_cons_self ..⟩
    unfold Diff
    rw [show tileL ([] : List TA) (posA e).1 (posA e).2 = zT from rfl, show tileL (e :: r) (posA e).1 (posA e).2 = e.t from tileL_head e r, eqT_comm]
    exact eqT_zero (nb e (List.mem_cons_self ..))
   ·have : Diff [] (e :: r) p ↔ Diff [] r p := by unfold Diff; rw [tileL_tail e r hp]
    rw [this, ← i2, List.mem_cons]
    exact ⟨fun h => h.resolve_left (fun e => hp e.symm), .inr⟩
 | case3 d q ih =>
  intro ha hb na nb
  obtain ⟨hq, hlt⟩ := srt_cons ha
  obtain ⟨i1, i2⟩ := ih hq hb (fun x hx => na x (List.mem_cons_of_mem _ hx)) nb
  rw [chgP_left]
  refine ⟨List.Pairwise.cons (fun p hp => ?_) i1, fun p => ?_⟩
  ·rcases diff_in ((i2 p).1 hp) with ⟨x, hx, rfl⟩ | ⟨_, h, _⟩
   ·exact hlt x hx
   ·cases h
  ·by_cases hp : posA d = p
   ·subst hp
    refine ⟨fun _ => ?_, fun _ => List.mem_cons_self ..⟩
    unfold Diff
    rw [show tileL ([] : List TA) (posA d).1 (posA d).2 = zT from rfl, show tileL (d :: q) (posA d).1 (posA d).2 = d.t from tileL_head d q]
    exact eqT_zero (na d (List.mem_cons_self ..))
   ·have : Diff (d :: q) [] p ↔ Diff q [] p := by unfold Diff; rw [tileL_tail d q hp]
    rw [this, ← i2, List.mem_cons]
    exact ⟨fun h => h.resolve_left (fun e => hp e.symm), .inr⟩
 | case4 d q e r h ih =>
  intro ha hb na nb
  obtain ⟨hq, hlt⟩ := srt_cons ha
  obtain ⟨hr, hlr⟩ := srt_cons hb
  obtain ⟨i1, i2⟩ := ih hq hb (fun x hx => na x (List.mem_cons_of_mem _ hx)) nb
  have hde : ltP (posA d) (posA e) = true := h
  have hall : ∀ x ∈ e :: r, ltP (posA d) (posA x) = true := fun x hx => by
   rcases List.mem_cons.1 hx with rfl | hx
   ·exact hde
   ·exact ltP_trans hde (hlr x hx)
  rw [chgP_both, if_pos h]
  refine ⟨List.Pairwise.cons (fun p hp => ?_) i1, fun p => ?_⟩
  ·rcases diff_in ((i2 p).1 hp) with ⟨x, hx, rfl⟩ | ⟨x, hx, rfl⟩
   ·exact hlt x hx
   ·exact hall x hx
  ·by_cases hp : posA d = p
   ·subst hp
    refine ⟨fun _ => ?_, fun _ => List.mem_cons_self ..⟩
    unfold Diff
    rw [tileL_lt hall, show tileL (d :: q) (posA d).1 (posA d).2 = d.t from tileL_head d q]
    exact eqT_zero (na d (List.mem_cons_self ..))
   ·have : Diff (d :: q) (e :: r) p ↔ Diff q (e :: r) p := by unfold Diff; rw [tileL_tail d q hp]
    rw [this, ← i2, List.mem_cons]
    exact ⟨fun h => h.resolve_left (fun e => hp e.symm), .inr⟩
 | case5 d q e r h k ih =>
  intro ha hb na nb
  obtain ⟨hq, hlt⟩ := srt_cons ha
  obtain ⟨hr, hlr⟩ := srt_cons hb
  obtain ⟨i1, i2⟩ := ih ha hr na (fun x hx => nb x (List.mem_cons_of_mem _ hx))
  have hed : ltP (posA e) (posA d) = true := k
  have hall : ∀ x ∈ d :: q, ltP (posA e) (posA x) = true := fun x hx => by
   rcases List.mem_cons.1 hx with rfl | hx
   ·exact hed
   ·exact ltP_trans hed (hlt x hx)
  rw [chgP_both, if_neg h, if_pos k]
  refine ⟨List.Pairwise.cons (fun p hp => ?_) i1, fun p => ?_⟩
  ·rcases diff_in ((i2 p).1 hp) with ⟨x, hx, rfl⟩ | ⟨x, hx, rfl⟩
   ·exact hall x hx
   ·exact hlr x hx
  ·by_cases hp : posA e = p
   ·subst hp
    refine ⟨fun _ => ?_, fun _ => List.mem_cons_self ..⟩
    unfold Diff
    rw [tileL_lt hall, show tileL (e :: r) (posA e).1 (posA e).2 = e.t from tileL_head e r, eqT_comm]
    exact eqT_zero (nb e (List.mem_cons_self ..))
   ·have : Diff (d :: q) (e :: r) p ↔ Diff (d :: q) r p := by unfold Diff; rw [tileL_tail e r hp]
    rw [this, ← i2, List.mem_cons]
    exact ⟨fun h => h.resolve_left (fun e => hp e.symm), .inr⟩
 | case6 d q e r h k ih =>
  intro ha hb na nb
  obtain ⟨hq, hlt⟩ := srt_cons ha
  obtain ⟨hr, hlr⟩ := srt_cons hb
  obtain ⟨i1, i2⟩ := ih hq hr (fun x hx => na x (List.mem_cons_of_mem _ hx)) (fun x hx => nb x (List.mem_cons_of_mem _ hx))
  have hpe : posA d = posA e := by
   by_cases hh : posA d = posA e
   ·exact hh
   ·exact absurd (ltP_tri hh h) k
  rw [← hpe] at hlr
  have hall : ∀ p ∈ chgP q r, ltP (posA d) p = true := fun p hp => by
   rcases diff_in ((i2 p).1 hp) with ⟨x, hx, rfl⟩ | ⟨x, hx, rfl⟩
   ·exact hlt x hx
   ·exact hlr x hx
  have hno : ¬ posA d ∈ chgP q r := fun hm => ltP_irr _ (hall _ hm)
  have hev : Diff (d :: q) (e :: r) (posA d) ↔ ¬ eqT d.t e.t = true := by
   unfold Diff
   have h2 : tileL (e :: r) (posA d).1 (posA d).2 = e.t := by rw [hpe]; exact tileL_head e r
   rw [show tileL (d :: q) (posA d).1 (posA d).2 = d.t from tileL_head d q, h2]
   simp
  have hnt : ∀ p, ¬ posA d = p → (Diff (d :: q) (e :: r) p ↔ Diff q r p) := fun p hp => by
   unfold Diff
   rw [tileL_tail d q hp, tileL_tail e r (by rw [← hpe]; exact hp)]
  rw [chgP_both, if_neg h, if_neg k]
  by_cases ht : eqT d.t e.t = true
  ·rw [if_pos ht, List.nil_append]
   refine ⟨i1, fun p => ?_⟩
   by_cases hp : posA d = p
   ·subst hp
    exact ⟨fun hm => absurd hm hno, fun hm => absurd ht (hev.1 hm)⟩
   ·rw [hnt p hp, i2]
  ·rw [if_neg ht]
   refine ⟨List.Pairwise.cons hall i1, fun p => ?_⟩
   show p ∈ posA d :: chgP q r ↔ _
   by_cases hp : posA d = p
   ·subst hp
    exact ⟨fun _ => hev.2 ht, fun _ => List.mem_cons_self ..⟩
   ·rw [hnt p hp, ← i2, List.mem_cons]
    exact ⟨fun h => h.resolve_left (fun e => hp e.symm), .inr⟩
/-! ### Changed of the reference: what differs of the first, then the second's inserted -/
def insP : List (Int × Int) → Int × Int → List (Int × Int)
 | [], p => [p]
 | q :: r, p => if q = p then q :: r else if ltP p q = true then p :: q :: r else q :: insP r p
def chg1 (a b : List TA) : List (Int × Int) := (a.filter fun e => !eqT e.t (tileL b e.x e.y)).map posA
def chg2 (a : List TA) (o : List (Int × Int)) (b : List TA) : List (Int × Int) := b.foldl (fun o e => if eqT e.t (tileL a e.x e.y) = true then o else insP o (posA e)) o
def chgR (a b : List TA) : List (Int × Int) := chg2 a (chg1 a b) b
theorem eqL_cons (d : TA) (q : List TA) (e : TA) (r : List TA) : eqL (d :: q) (e :: r) = (eqA d e && eqL q r) := by
 rw [Bool.eq_iff_iff, Bool.and_eq_true_iff]
 unfold eqL
 rw [Bool.and_eq_true_iff, Bool.and_eq_true_iff, decide_eq_true_iff, decide_eq_true_iff, decide_eq_true_iff, decide_eq_true_iff]
 simp only [List.length_cons, List.mem_range, Nat.add_right_cancel_iff]
 constructor
 ·rintro ⟨h1, h2⟩
  exact ⟨h2 0 (by omega), h1, fun i hi => h2 (i + 1) (by omega)⟩
 ·rintro ⟨h1, h2, h3⟩
  refine ⟨h2, fun i hi => ?_⟩
  cases i with
  | zero => exact h1
  | succ i => exact h3 i (by omega)
theorem chgP_eqL : ∀ (a b : List TA), (chgP a b = []) ↔ eqL a b = true := by
 intro a b
 induction a, b using chgP.induct with
 | case1 => rw [chgP_nil2]; exact ⟨fun _ => eqL_refl _, fun _ => rfl⟩
 | case2 e r ih =>
  rw [chgP_right, eqL_len (by simp)]
  exact ⟨fun h => (by cases h), fun h => by cases h⟩
 | case3 d q ih =>
  rw [chgP_left, eqL_len (by simp)]
  exact ⟨fun h => (by cases h), fun h => by cases h⟩
 | case4 d q e r h ih =>
  rw [chgP_both, if_pos h, eqL_cons]
  refine ⟨fun k => (by cases k), fun k => ?_⟩
  have k := (Bool.and_eq_true_iff.1 k).1
  unfold eqA eqB at k
  have k := of_decide_eq_true (Bool.and_eq_true_iff.1 k).1
  have h := lessB_iff.1 h
  omega
 | case5 d q e r h h' ih =>
  rw [chgP_both, if_neg h, if_pos h', eqL_cons]
  refine ⟨fun k => (by cases k), fun k => ?_⟩
  have k := (Bool.and_eq_true_iff.1 k).1
  unfold eqA eqB at k
  have k := of_decide_eq_true (Bool.and_eq_true_iff.1 k).1
  have h := lessB_iff.1 h'
  omega
 | case6 d q e r h k ih =>
  rw [chgP_both, if_neg h, if_neg k, eqL_cons, Bool.and_eq_true_iff, ← ih]
  have hpe : d.x = e.x ∧ d.y = e.y := by
   rw [lessB_iff] at h k
   omega
  have hA : eqA d e = eqT d.t e.t := by
   unfold eqA eqB
   rw [decide_eq_true hpe, Bool.true_and]
  rw [hA]
  by_cases ht : eqT d.t e.t = true
  ·rw [if_pos ht, List.nil_append]
   exact ⟨fun h => ⟨ht, h⟩, fun h => h.2⟩
  ·rw [if_neg ht]
   exact ⟨fun h => (by cases h), fun h => absurd h.1 ht⟩
/-! ### The changed tiles replaced -/
def mv1 (b : List TA) (s : List TA) (p : Int × Int) : List TA := putR s p.1 p.2 (tileL b p.1 p.2)
def mvL (b : List TA) (s : List TA) (ps : List (Int × Int)) : List TA := ps.foldl (mv1 b) s
/- Plain: an image of one raster pasted into another. -/
theorem getL_okL {ls : List TA} (h : TokL ls) (x y : Int) : (getL ls x y).ok := tileL_tok h _ _ _ (by omega)
theorem tile_get (ls : List TA) (X Y : Int) {i : Nat} (hi : i < 64) : tileL ls X Y i = getL ls (X * 8 + (i : Int) % 8) (Y * 8 + (i : Int) / 8) := by
 unfold getL
 have e1 : (X * 8 + (i : Int) % 8) / 8 = X := by omega
 have e2 : (Y * 8 + (i : Int) / 8) / 8 = Y := by omega
 have e3 : (8 * ((Y * 8 + (i : Int) / 8) % 8) + (X * 8 + (i : Int) % 8) % 8).toNat = i := by omega
 rw [e1, e2, e3]
theorem eqL_get {a b : List TA} (ha : validL a = true) (hb : validL b = true) (h : ∀ x y, getL a x y = getL b x y) : eqL a b = true := by
 rw [← chgP_eqL]
 obtain ⟨_, k2⟩ := chgP_spec a b (validL_srt ha) (validL_srt hb) (valid_nz ha) (valid_nz hb)
 refine List.eq_nil_iff_forall_not_mem.2 fun p hp => ?_
 have hd := (k2 p).1 hp
 unfold Diff at hd
 have : eqT (tileL a p.1 p.2) (tileL b p.1 p.2) = true := eqT_true fun i hi => by rw [tile_get a _ _ hi, tile_get b _ _ hi, h]
 rw [this] at hd
 cases hd
/- Plain: polygons: which rays cross an edge, the coverage of a pixel, the rectangle from the least to the greatest coordinates. -/
abbrev Pnt := Int × Int
def farP (p : Pnt) : Bool := decide (p.1 < -65536 ∨ p.2 < -65536 ∨ 65536 < p.1 ∨ 65536 < p.2)
def nearL (l : List Pnt) : Prop := ∀ p ∈ l, farP p = false
def validG (l : List Pnt) : Bool := decide (3 ≤ l.length ∧ l.length ≤ 64) && l.all fun p => !farP p
theorem farP_no {p : Pnt} : farP p = false ↔ (-65536 ≤ p.1 ∧ p.1 ≤ 65536 ∧ -65536 ≤ p.2 ∧ p.2 ≤ 65536) := by
 unfold farP
 rw [decide_eq_false_iff_not]
 omega
theorem validG_iff {l : List Pnt} : validG l = true ↔ (3 ≤ l.length ∧ l.length ≤ 64) ∧ nearL l := by
 unfold validG nearL
 rw [Bool.and_eq_true_iff, decide_eq_true_iff, List.all_eq_true]
 simp
/-- The ray from (u, v) to the right crosses the edge from a up to b. -/
def crs0 (a b : Pnt) (u v : Int) : Bool := decide (a.2 ≤ v ∧ v < b.2 ∧ (u - a.1) * (b.2 - a.2) < (b.1 - a.1) * (v - a.2))
def crs (a b : Pnt) (u v : Int) : Bool := if b.2 < a.2 then crs0 b a u v else crs0 a b u v
def pt8 (p : Pnt) : Pnt := (8 * p.1, 8 * p.2)
def ptG (l : List Pnt) (i : Nat) : Pnt := l.getD i (0, 0)
def edgeB (l : List Pnt) (u v : Int) (i : Nat) : Bool := crs (pt8 (ptG l i)) (pt8 (ptG l ((i + 1) % l.length))) u v
/-- The parity of a sequence of answers. -/
def parK (f : Nat → Bool) : Nat → Bool
 | 0 => false
 | k + 1 => Bool.xor (parK f k) (f k)
def oddG (l : List Pnt) (u v : Int) : Bool := parK (edgeB l u v) l.length
def smpG (l : List Pnt) (x y : Int) (i : Nat) : Bool := oddG l (8 * x + 2 * ((i : Int) % 4) + 1) (8 * y + 2 * ((i : Int) / 4) + 1)
def cntK (f : Nat → Bool) : Nat → Nat
 | 0 => 0
 | k + 1 => cntK f k + (if f k = true then 1 else 0)
theorem cntK_le (f : Nat → Bool) : ∀ k, cntK f k ≤ k
 | 0 => Nat.le_refl _
 | k + 1 => by
  have := cntK_le f k
  show cntK f k + (if f k = true then 1 else 0) ≤ _
  split <;> omega
def covI (n : Nat) : Int := (255 * (n : Int) + 8) / 16
def covG (l : List Pnt) (x y : Int) : Int := covI (cntK (smpG l x y) 16)
/-! ### The rectangle from the least to the greatest coordinates -/
def growR (r : Rc) (p : Pnt) : Rc := ⟨min r.x0 p.1, min r.y0 p.2, max r.x1 p.1, max r.y1 p.2⟩
def ptR (p : Pnt) : Rc := ⟨p.1, p.2, p.1, p.2⟩
def hullG : List Pnt → Rc
 | [] => Rc.zero
 | p :: r => r.foldl growR (ptR p)
theorem growR_self (p : Pnt) : growR (ptR p) p = ptR p := by
 unfold growR ptR
 simp
/-- Each point lies within the rectangle; each side bears one. -/
structure Around (r : Rc) (l : List Pnt) : Prop where
 h1 : ∀ p ∈ l, r.x0 ≤ p.1 ∧ p.1 ≤ r.x1 ∧ r.y0 ≤ p.2 ∧ p.2 ≤ r.y1
 l1 : ∃ p ∈ l, p.1 = r.x0
 l2 : ∃ p ∈ l, p.1 = r.x1
 l3 : ∃ p ∈ l, p.2 = r.y0
 l4 : ∃ p ∈ l, p.2 = r.y1
theorem Around.grow {r : Rc} {l : List Pnt} (h : Around r l) (p : Pnt) : Around (growR r p) (l ++ [p]) := by
 obtain ⟨h1, ⟨a, ha, ea⟩, ⟨b, hb, eb⟩, ⟨c, hc, ec⟩, ⟨d, hd, ed⟩⟩ := h
 have hp : p ∈ l ++ [p] := List.mem_append_right _ (List.mem_cons_self ..)
 have hl : ∀ {q}, q ∈ l → q ∈ l ++ [p] := fun hq => List.mem_append_left _ hq
 unfold growR
 constructor
 ·intro q hq
  show min r.x0 p.1 ≤ q.1 ∧ q.1 ≤ max r.x1 p.1 ∧ min r.y0 p.2 ≤ q.2 ∧ q.2 ≤ max r.y1 p.2
  rcases List.mem_append.1 hq with hq | hq
  ·have := h1 q hq; omega
  ·obtain rfl : q = p := by simpa using hq
   omega
 ·show ∃ q ∈ l ++ [p], q.1 = min r.x0 p.1
  by_cases h : r.x0 ≤ p.1
  ·exact ⟨a, hl ha, by omega⟩
  ·exact ⟨p, hp, by omega⟩
 ·show ∃ q ∈ l ++ [p], q.1 = max r.x1 p.1
  by_cases h : p.1 ≤ r.x1
  ·exact ⟨b, hl hb, by omega⟩
  ·exact ⟨p, hp, by omega⟩
 ·show ∃ q ∈ l ++ [p], q.2 = min r.y0 p.2
  by_cases h : r.y0 ≤ p.2
  ·exact ⟨c, hl hc, by omega⟩
  ·exact ⟨p, hp, by omega⟩
 ·show ∃ q ∈ l ++ [p], q.2 = max r.y1 p.2
  by_cases h : p.2 ≤ r.y1
  ·exact ⟨d, hl hd, by omega⟩
  ·exact ⟨p, hp, by omega⟩
/-- What the program's loop has behind k points; its first round takes the first point anew. -/
def hullK (l : List Pnt) (k : Nat) : Rc := (l.take k).foldl growR (ptR (ptG l 0))
theorem take_ptG {l : List Pnt} {k : Nat} (h : k < l.length) : l.take (k + 1) = l.take k ++ [ptG l k] := by
 unfold ptG
 rw [List.take_add_one, List.getD_eq_getElem?_getD, List.getElem?_eq_getElem h]
 rfl
theorem hullK_step {l : List Pnt} {k : Nat} (h : k < l.length) : hullK l (k + 1) = growR (hullK l k) (ptG l k) := by
 unfold hullK
 rw [take_ptG h, List.foldl_append]
 rfl
theorem hullK_all {l : List Pnt} (h : l ≠ []) : hullK l l.length = hullG l := by
 unfold hullK
 rw [List.take_length]
 cases l with
 | nil => exact absurd rfl h
 | cons p r =>
  show r.foldl growR (growR (ptR p) p) = _
  rw [growR_self]
  rfl
def boundG (l : List Pnt) : Rc := if validG l = true then normR (hullG l) else Rc.zero
/-! ### A pixel outside of the rectangle is not covered -/
theorem ptG_mem {l : List Pnt} {i : Nat} (h : i < l.length) : ptG l i ∈ l := by
 unfold ptG
 rw [List.getD_eq_getElem?_getD, List.getElem?_eq_getElem h]
 exact List.getElem_mem h
def coverP (l : List Pnt) (x y : Int) : Int := if hasR (boundG l) x y = true then covG l x y else 0
def coverR (l : List Pnt) (x y : Int) : Int := if validG l = true ∧ -70000 ≤ x ∧ -70000 ≤ y ∧ x ≤ 70000 ∧ y ≤ 70000 then covG l x y else 0
/- Plain: a polygon shifted, turned round, told from another point or in the other order: the same coverage. -/
def shp (d : Pnt) (p : Pnt) : Pnt := (p.1 + d.1, p.2 + d.2)
/-- The list of the points at k, k + 1 .. of another one, shifted. -/
def rotG (l : List Pnt) (k : Nat) (d : Pnt) : List Pnt := (List.range l.length).map fun i => shp d (ptG l ((i + k) % l.length))
def revG (l : List Pnt) (k : Nat) : List Pnt := (List.range l.length).map fun i => ptG l ((l.length + k - i) % l.length)
/-! ### The polygon that numbers describe -/
def numI (q : List Int) (i : Nat) : Int := q.getD i 0
def pathN (q : List Int) : Nat := min (q.length / 2) 12
def pathP (q : List Int) (j : Nat) : Pnt := (numI q (2 * j) % 28 - 8, numI q (2 * j + 1) % 28 - 8)
def pathK (q : List Int) (k : Nat) : List Pnt := (List.range k).map (pathP q)
def pathG (q : List Int) : List Pnt := pathK q (pathN q)
/- Plain: the boundary of a set of pixels: edges, the edge that follows, the closed lists of edges, their corners. -/
structure Ed where
 x : Int
 y : Int
 d : Int
deriving DecidableEq
def dxE (d : Int) : Int := if d = 0 then 1 else if d = 2 then -1 else 0
def dyE (d : Int) : Int := if d = 1 then 1 else if d = 3 then -1 else 0
def hasE (S : Int → Int → Bool) (x y d : Int) : Bool :=
 if d = 0 then S x y && !S x (y - 1) else if d = 1 then S (x - 1) y && !S x y else if d = 2 then S (x - 1) (y - 1) && !S (x - 1) y else S x (y - 1) && !S (x - 1) (y - 1)
def nextE (S : Int → Int → Bool) (e : Ed) : Ed :=
 if hasE S (e.x + dxE e.d) (e.y + dyE e.d) ((e.d + 1) % 4) = true then ⟨e.x + dxE e.d, e.y + dyE e.d, (e.d + 1) % 4⟩
 else if hasE S (e.x + dxE e.d) (e.y + dyE e.d) e.d = true then ⟨e.x + dxE e.d, e.y + dyE e.d, e.d⟩
 else if hasE S (e.x + dxE e.d) (e.y + dyE e.d) ((e.d + 3) % 4) = true then ⟨e.x + dxE e.d, e.y + dyE e.d, (e.d + 3) % 4⟩
 else e
/-- The edge belongs to the boundary. -/
def Bnd (S : Int → Int → Bool) (e : Ed) : Prop := (0 ≤ e.d ∧ e.d ≤ 3) ∧ hasE S e.x e.y e.d = true
theorem dir4 {d : Int} (h : 0 ≤ d ∧ d ≤ 3) : d = 0 ∨ d = 1 ∨ d = 2 ∨ d = 3 := by omega
theorem has0 (S : Int → Int → Bool) (x y : Int) : hasE S x y 0 = (S x y && !S x (y - 1)) := rfl
theorem has1 (S : Int → Int → Bool) (x y : Int) : hasE S x y 1 = (S (x - 1) y && !S x y) := rfl
theorem has2 (S : Int → Int → Bool) (x y : Int) : hasE S x y 2 = (S (x - 1) (y - 1) && !S (x - 1) y) := rfl
theorem has3 (S : Int → Int → Bool) (x y : Int) : hasE S x y 3 = (S x (y - 1) && !S (x - 1) (y - 1)) := rfl
/-- What is known of the edge that follows: it starts where this one ends, its direction is the first one of the three. -/
theorem next_cases {S : Int → Int → Bool} {e : Ed} (h : Bnd S e) :
  (nextE S e).x = e.x + dxE e.d ∧ (nextE S e).y = e.y + dyE e.d ∧ Bnd S (nextE S e) ∧
  ((nextE S e).d = (e.d + 1) % 4 ∧ hasE S (e.x + dxE e.d) (e.y + dyE e.d) ((e.d + 1) % 4) = true ∨
   (nextE S e).d = e.d ∧ hasE S (e.x + dxE e.d) (e.y + dyE e.d) ((e.d + 1) % 4) = false ∧ hasE S (e.x + dxE e.d) (e.y + dyE e.d) e.d = true ∨
   (nextE S e).d = (e.d + 3) % 4 ∧ hasE S (e.x + dxE e.d) (e.y + dyE e.d) ((e.d + 1) % 4) = false ∧ hasE S (e.x + dxE e.d) (e.y + dyE e.d) e.d = false ∧ hasE S (e.x + dxE e.d) (e.y + dyE e.d) ((e.d + 3) % 4) = true) := by
 obtain ⟨x, y, d⟩ := e
 obtain ⟨hd, hh⟩ := h
 simp only at hd hh
 have three : hasE S (x + dxE d) (y + dyE d) ((d + 1) % 4) = true ∨ hasE S (x + dxE d) (y + dyE d) d = true ∨ hasE S (x + dxE d) (y + dyE d) ((d + 3) % 4) = true := by
  rcases dir4 hd with rfl | rfl | rfl | rfl
  · show hasE S (x + 1) (y + 0) 1 = true ∨ hasE S (x + 1) (y + 0) 0 = true ∨ hasE S (x + 1) (y + 0) 3 = true
    rw [has0] at hh
    rw [has1, has0, has3, Int.add_zero, show x + 1 - 1 = x by omega]
    cases h1 : S x y <;> cases h2 : S x (y - 1) <;> rw [h1, h2] at hh <;> first | (cases hh; done) | (cases S (x + 1) y <;> cases S (x + 1) (y - 1) <;> simp)
  · show hasE S (x + 0) (y + 1) 2 = true ∨ hasE S (x + 0) (y + 1) 1 = true ∨ hasE S (x + 0) (y + 1) 0 = true
    rw [has1] at hh
    rw [has2, has1, has0, Int.add_zero, show y + 1 - 1 = y by omega]
    cases h1 : S (x - 1) y <;> cases h2 : S x y <;> rw [h1, h2] at hh <;> first | (cases hh; done) | (cases S (x - 1) (y + 1) <;> cases S x (y + 1) <;> simp)
  · show hasE S (x + -1) (y + 0) 3 = true ∨ hasE S (x + -1) (y + 0) 2 = true ∨ hasE S (x + -1) (y + 0) 1 = true
    rw [has2] at hh
    rw [has3, has2, has1, Int.add_zero, show x + -1 = x - 1 by omega]
    cases h1 : S (x - 1) (y - 1) <;> cases h2 : S (x - 1) y <;> rw [h1, h2] at hh <;> first | (cases hh; done) | (cases S (x - 1 - 1) y <;> cases S (x - 1 - 1) (y - 1) <;> simp)
  · show hasE S (x + 0) (y + -1) 0 = true ∨ hasE S (x + 0) (y + -1) 3 = true ∨ hasE S (x + 0) (y + -1) 2 = true
    rw [has3] at hh
    rw [has0, has3, has2, Int.add_zero, show y + -1 = y - 1 by omega]
    cases h1 : S x (y - 1) <;> cases h2 : S (x - 1) (y - 1) <;> rw [h1, h2] at hh <;> first | (cases hh; done) | (cases S x (y - 1 - 1) <;> cases S (x - 1) (y - 1 - 1) <;> simp)
 have m1 : 0 ≤ (d + 1) % 4 ∧ (d + 1) % 4 ≤ 3 := by omega
 have m3 : 0 ≤ (d + 3) % 4 ∧ (d + 3) % 4 ≤ 3 := by omega
 unfold nextE
 simp only
 by_cases c1 : hasE S (x + dxE d) (y + dyE d) ((d + 1) % 4) = true
 ·rw [if_pos c1]
  exact ⟨rfl, rfl, ⟨m1, c1⟩, .inl ⟨rfl, c1⟩⟩
 ·rw [if_neg c1]
  have c1' : hasE S (x + dxE d) (y + dyE d) ((d + 1) % 4) = false := by simpa using c1
  by_cases c2 : hasE S (x + dxE d) (y + dyE d) d = true
  · rw [if_pos c2]
    exact ⟨rfl, rfl, ⟨hd, c2⟩, .inr (.inl ⟨rfl, c1', c2⟩)⟩
  · rw [if_neg c2]
    have c2' : hasE S (x + dxE d) (y + dyE d) d = false := by simpa using c2
    have c3 : hasE S (x + dxE d) (y + dyE d) ((d + 3) % 4) = true := by
     rcases three with h | h | h
     ·exact absurd h c1
     ·exact absurd h c2
     ·exact h
    rw [if_pos c3]
    exact ⟨rfl, rfl, ⟨m3, c3⟩, .inr (.inr ⟨rfl, c1', c2', c3⟩)⟩
/-- The directions at a corner: which one comes in, which one goes out; nw, ne, sw, se are the pixels around it. -/
def inD (nw ne sw se : Bool) (d : Int) : Bool := if d = 0 then sw && !nw else if d = 1 then nw && !ne else if d = 2 then ne && !se else se && !sw
def outD (nw ne sw se : Bool) (d : Int) : Bool := if d = 0 then se && !ne else if d = 1 then sw && !se else if d = 2 then nw && !sw else ne && !nw
def selD (nw ne sw se : Bool) (d : Int) : Int := if outD nw ne sw se ((d + 1) % 4) = true then (d + 1) % 4 else if outD nw ne sw se d = true then d else (d + 3) % 4
theorem sel_inj (nw ne sw se : Bool) {d d' : Int} (hd : 0 ≤ d ∧ d ≤ 3) (hd' : 0 ≤ d' ∧ d' ≤ 3) (h : inD nw ne sw se d = true) (h' : inD nw ne sw se d' = true) (e : selD nw ne sw se d = selD nw ne sw se d') : d = d' := by
 rcases dir4 hd with rfl | rfl | rfl | rfl <;> rcases dir4 hd' with rfl | rfl | rfl | rfl <;> first | rfl | (exfalso; revert h h' e; cases nw <;> cases ne <;> cases sw <;> cases se <;> decide)
theorem has_out (S : Int → Int → Bool) (x y : Int) (d : Int) : hasE S x y d = outD (S (x - 1) (y - 1)) (S x (y - 1)) (S (x - 1) y) (S x y) d := rfl
theorem bnd_in {S : Int → Int → Bool} {e : Ed} (h : Bnd S e) : inD (S (e.x + dxE e.d - 1) (e.y + dyE e.d - 1)) (S (e.x + dxE e.d) (e.y + dyE e.d - 1)) (S (e.x + dxE e.d - 1) (e.y + dyE e.d)) (S (e.x + dxE e.d) (e.y + dyE e.d)) e.d = true := by
 obtain ⟨x, y, d⟩ := e
 obtain ⟨hd, hh⟩ := h
 simp only at hd hh ⊢
 rcases dir4 hd with rfl | rfl | rfl | rfl
 ·show (S (x + 1 - 1) (y + 0) && !S (x + 1 - 1) (y + 0 - 1)) = true
  rw [has0] at hh
  rw [show x + 1 - 1 = x by omega, Int.add_zero]
  exact hh
 ·show (S (x + 0 - 1) (y + 1 - 1) && !S (x + 0) (y + 1 - 1)) = true
  rw [has1] at hh
  rw [show y + 1 - 1 = y by omega, Int.add_zero]
  exact hh
 ·show (S (x + -1) (y + 0 - 1) && !S (x + -1) (y + 0)) = true
  rw [has2] at hh
  rw [show x + -1 = x - 1 by omega, Int.add_zero]
  exact hh
 ·show (S (x + 0) (y + -1) && !S (x + 0 - 1) (y + -1)) = true
  rw [has3] at hh
  rw [show y + -1 = y - 1 by omega, Int.add_zero]
  exact hh
theorem next_sel {S : Int → Int → Bool} {e : Ed} (h : Bnd S e) : (nextE S e).d = selD (S (e.x + dxE e.d - 1) (e.y + dyE e.d - 1)) (S (e.x + dxE e.d) (e.y + dyE e.d - 1)) (S (e.x + dxE e.d - 1) (e.y + dyE e.d)) (S (e.x + dxE e.d) (e.y + dyE e.d)) e.d := by
 obtain ⟨_, _, _, h4⟩ := next_cases h
 simp only [has_out] at h4
 unfold selD
 rcases h4 with ⟨h1, h2⟩ | ⟨h1, h2, h3⟩ | ⟨h1, h2, h3, h4⟩
 ·rw [if_pos h2, h1]
 ·rw [if_neg (by rw [h2]; decide), if_pos h3, h1]
 ·rw [if_neg (by rw [h2]; decide), if_neg (by rw [h3]; decide), h1]
theorem next_inj {S : Int → Int → Bool} {e f : Ed} (he : Bnd S e) (hf : Bnd S f) (h : nextE S e = nextE S f) : e = f := by
 obtain ⟨a1, a2, _, _⟩ := next_cases he
 obtain ⟨b1, b2, _, _⟩ := next_cases hf
 have hx : e.x + dxE e.d = f.x + dxE f.d := by rw [← a1, ← b1, h]
 have hy : e.y + dyE e.d = f.y + dyE f.d := by rw [← a2, ← b2, h]
 have s1 := next_sel he
 have s2 := next_sel hf
 have i1 := bnd_in he
 have i2 := bnd_in hf
 rw [← hx, ← hy] at s2 i2
 have hd : e.d = f.d := sel_inj _ _ _ _ he.1 hf.1 i1 i2 (by rw [← s1, ← s2, h])
 obtain ⟨x, y, d⟩ := e
 obtain ⟨x', y', d'⟩ := f
 simp only at hd hx hy
 subst hd
 have : x = x' := by omega
 have : y = y' := by omega
 subst x' y'
 rfl
/-! ### Going round -/
def orbE (S : Int → Int → Bool) (s : Ed) : Nat → Ed
 | 0 => s
 | n + 1 => nextE S (orbE S s n)
theorem orb_bnd {S : Int → Int → Bool} {s : Ed} (h : Bnd S s) : ∀ n, Bnd S (orbE S s n)
 | 0 => h
 | n + 1 => (next_cases (orb_bnd h n)).2.2.1
theorem orb_back {S : Int → Int → Bool} {s : Ed} (h : Bnd S s) : ∀ i j, orbE S s i = orbE S s (i + j) → s = orbE S s j
 | 0, j, e => by rw [Nat.zero_add] at e; exact e
 | i + 1, j, e => orb_back h i j (by
  rw [show i + 1 + j = (i + j) + 1 by omega] at e
  exact next_inj (orb_bnd h i) (orb_bnd h (i + j)) e)
theorem pigeon : ∀ (N : Nat) (f : Nat → Nat), (∀ i, i ≤ N → f i < N) → ∃ i j, i < j ∧ j ≤ N ∧ f i = f j := by
 intro N
 induction N with
 | zero => intro f h; exact absurd (h 0 (Nat.le_refl _)) (by omega)
 | succ N ih =>
  intro f h
  by_cases hx : ∃ i, i < N + 1 ∧ f i = f (N + 1)
  ·obtain ⟨i, h1, h2⟩ := hx
   exact ⟨i, N + 1, h1, Nat.le_refl _, h2⟩
  ·obtain ⟨i, j, h1, h2, h3⟩ := ih (fun i => if f i = N then f (N + 1) else f i) (by
    intro i hi
    have a := h i (by omega)
    have b := h (N + 1) (Nat.le_refl _)
    show (if f i = N then f (N + 1) else f i) < N
    by_cases c : f i = N
    ·rw [if_pos c]
     have : f (N + 1) ≠ N := fun e => hx ⟨i, by omega, by rw [c, e]⟩
     omega
    ·rw [if_neg c]; omega)
   have e3 : (if f i = N then f (N + 1) else f i) = (if f j = N then f (N + 1) else f j) := h3
   refine ⟨i, j, h1, by omega, ?_⟩
   by_cases c : f i = N
   ·by_cases c' : f j = N
    ·rw [c, c']
    ·rw [if_pos c, if_neg c'] at e3
     exact absurd ⟨j, by omega, e3.symm⟩ hx
   ·by_cases c' : f j = N
    ·rw [if_neg c, if_pos c'] at e3
     exact absurd ⟨i, by omega, e3⟩ hx
    ·rw [if_neg c, if_neg c'] at e3
     exact e3
/-- All edges of the boundary lie between these corners. -/
def BoxE (S : Int → Int → Bool) (r : Rc) : Prop := ∀ e, Bnd S e → r.x0 ≤ e.x ∧ e.x ≤ r.x1 ∧ r.y0 ≤ e.y ∧ e.y ≤ r.y1
def boxN (r : Rc) : Nat := 4 * ((r.x1 - r.x0).toNat + 1) * ((r.y1 - r.y0).toNat + 1)
def codE (r : Rc) (e : Ed) : Nat := (e.d.toNat + 4 * (e.x - r.x0).toNat) + 4 * ((r.x1 - r.x0).toNat + 1) * (e.y - r.y0).toNat
theorem cod_lt {r : Rc} {e : Ed} (hd : 0 ≤ e.d ∧ e.d ≤ 3) (h : r.x0 ≤ e.x ∧ e.x ≤ r.x1 ∧ r.y0 ≤ e.y ∧ e.y ≤ r.y1) : codE r e < boxN r := by
 unfold codE boxN
 have h1 : (e.y - r.y0).toNat + 1 ≤ (r.y1 - r.y0).toNat + 1 := by omega
 have h2 := Nat.mul_le_mul_left (4 * ((r.x1 - r.x0).toNat + 1)) h1
 rw [Nat.mul_add, Nat.mul_one] at h2
 omega
theorem cod_inj {r : Rc} {e f : Ed} (hd : 0 ≤ e.d ∧ e.d ≤ 3) (h : r.x0 ≤ e.x ∧ e.x ≤ r.x1 ∧ r.y0 ≤ e.y ∧ e.y ≤ r.y1) (hd' : 0 ≤ f.d ∧ f.d ≤ 3) (h' : r.x0 ≤ f.x ∧ f.x ≤ r.x1 ∧ r.y0 ≤ f.y ∧ f.y ≤ r.y1) (k : codE r e = codE r f) : e = f := by
 unfold codE at k
 have hW : 0 < 4 * ((r.x1 - r.x0).toNat + 1) := by omega
 have a1 : e.d.toNat + 4 * (e.x - r.x0).toNat < 4 * ((r.x1 - r.x0).toNat + 1) := by omega
 have a2 : f.d.toNat + 4 * (f.x - r.x0).toNat < 4 * ((r.x1 - r.x0).toNat + 1) := by omega
 have k1 := congrArg (· % (4 * ((r.x1 - r.x0).toNat + 1))) k
 have k2 := congrArg (· / (4 * ((r.x1 - r.x0).toNat + 1))) k
 simp only [Nat.add_mul_mod_self_left, Nat.mod_eq_of_lt a1, Nat.mod_eq_of_lt a2] at k1
 simp only [Nat.add_mul_div_left _ _ hW, Nat.div_eq_of_lt a1, Nat.div_eq_of_lt a2, Nat.zero_add] at k2
 obtain ⟨x, y, d⟩ := e
 obtain ⟨x', y', d'⟩ := f
 simp only at *
 have : d = d' := by omega
 have : x = x' := by omega
 have : y = y' := by omega
 subst d' x' y'
 rfl
theorem orb_per {S : Int → Int → Bool} {r : Rc} (hb : BoxE S r) {s : Ed} (h : Bnd S s) : ∃ p, 0 < p ∧ p ≤ boxN r ∧ orbE S s p = s := by
 have hin := fun n => hb _ (orb_bnd h n)
 obtain ⟨i, j, h1, h2, h3⟩ := pigeon (boxN r) (fun n => codE r (orbE S s n)) (fun n _ => cod_lt (orb_bnd h n).1 (hin n))
 have e := cod_inj (orb_bnd h i).1 (hin i) (orb_bnd h j).1 (hin j) h3
 rw [show j = i + (j - i) by omega] at e
 exact ⟨j - i, by omega, by omega, (orb_back h i (j - i) e).symm⟩
def perF (f : Nat → Ed) (s : Ed) : Nat → Nat → Nat
 | 0, k => k
 | n + 1, k => if f k = s then k else perF f s n (k + 1)
theorem perF_spec (f : Nat → Ed) (s : Ed) : ∀ n k, (∃ p, k ≤ p ∧ p < k + n ∧ f p = s) → f (perF f s n k) = s ∧ k ≤ perF f s n k ∧ perF f s n k < k + n ∧ ∀ i, k ≤ i → i < perF f s n k → f i ≠ s
 | 0, k, ⟨p, h1, h2, _⟩ => absurd h2 (by omega)
 | n + 1, k, ⟨p, h1, h2, h3⟩ => by
  unfold perF
  by_cases h : f k = s
  ·rw [if_pos h]
   exact ⟨h, Nat.le_refl _, by omega, fun i a b => absurd b (by omega)⟩
  ·rw [if_neg h]
   have hp : p ≠ k := fun e => h (by rw [← e]; exact h3)
   obtain ⟨c1, c2, c3, c4⟩ := perF_spec f s n (k + 1) ⟨p, by omega, by omega, h3⟩
   refine ⟨c1, by omega, by omega, fun i a b => ?_⟩
   by_cases hi : i = k
   ·subst hi; exact h
   ·exact c4 i (by omega) b
/-- After so many steps the start is met again, for the first time. -/
def perE (S : Int → Int → Bool) (r : Rc) (s : Ed) : Nat := perF (orbE S s) s (boxN r) 1
theorem perE_spec {S : Int → Int → Bool} {r : Rc} (hb : BoxE S r) {s : Ed} (h : Bnd S s) : orbE S s (perE S r s) = s ∧ 1 ≤ perE S r s ∧ perE S r s ≤ boxN r ∧ ∀ i, 1 ≤ i → i < perE S r s → orbE S s i ≠ s := by
 obtain ⟨p, h1, h2, h3⟩ := orb_per hb h
 obtain ⟨c1, c2, c3, c4⟩ := perF_spec (orbE S s) s (boxN r) 1 ⟨p, h1, by omega, h3⟩
 exact ⟨c1, c2, by unfold perE; omega, c4⟩
def orbK (S : Int → Int → Bool) (s : Ed) (n : Nat) : List Ed := (List.range n).map (orbE S s)
def folE (S : Int → Int → Bool) (r : Rc) (s : Ed) : List Ed := orbK S s (perE S r s)
theorem orbK_len (S : Int → Int → Bool) (s : Ed) (n : Nat) : (orbK S s n).length = n := by unfold orbK; rw [List.length_map, List.length_range]
theorem orbK_snoc (S : Int → Int → Bool) (s : Ed) (n : Nat) : orbK S s (n + 1) = orbK S s n ++ [orbE S s n] := by
 unfold orbK
 rw [List.range_succ, List.map_append]
 rfl
/-! ### The corners of a closed list of edges; the polygons -/
def edG (l : List Ed) (i : Nat) : Ed := l.getD i ⟨0, 0, 0⟩
def cornB (l : List Ed) (i : Nat) : Bool := decide ((edG l ((i + l.length - 1) % l.length)).d ≠ (edG l i).d)
def cornK (l : List Ed) : Nat → List Pnt
 | 0 => []
 | k + 1 => cornK l k ++ (if cornB l k = true then [((edG l k).x, (edG l k).y)] else [])
def cornG (l : List Ed) : List Pnt := cornK l l.length
theorem cornK_len (l : List Ed) : ∀ k, (cornK l k).length ≤ k
 | 0 => Nat.le_refl _
 | k + 1 => by
  have := cornK_len l k
  show (cornK l k ++ (if cornB l k = true then [((edG l k).x, (edG l k).y)] else [])).length ≤ _
  rw [List.length_append]
  split
  ·simp only [List.length_cons, List.length_nil]; omega
  ·simp only [List.length_nil]; omega
/-- What the scan has: the edges that are done, the polygons. -/
abbrev ScSt := List Ed × List (List Pnt)
def scan1 (S : Int → Int → Bool) (r : Rc) (st : ScSt) (x y : Int) : ScSt :=
 if (decide ((⟨x, y, 0⟩ : Ed) ∈ st.1) || !hasE S x y 0) = true then st else (st.1 ++ folE S r ⟨x, y, 0⟩, st.2 ++ [cornG (folE S r ⟨x, y, 0⟩)])
def scanX (S : Int → Int → Bool) (r : Rc) (y : Int) (st : ScSt) : Nat → ScSt
 | 0 => st
 | k + 1 => scan1 S r (scanX S r y st k) (r.x0 + (k : Int)) y
def scanY (S : Int → Int → Bool) (r : Rc) : Nat → ScSt
 | 0 => ([], [])
 | k + 1 => scanX S r (r.y0 + (k : Int)) (scanY S r k) (r.x1 - r.x0).toNat
def outlG (S : Int → Int → Bool) (r : Rc) : List (List Pnt) := (scanY S r (r.y1 - r.y0).toNat).2
/- Plain: the mask that numbers describe; the box of a small raster's visible pixels. -/
def mkX (a : Int) : Int := a % 16 - 4
def mkY (a : Int) : Int := a.tdiv 16 % 16 - 4
def mkN (a : Int) : Nat := (1 + a.tdiv 256 % 3).toNat
def mkP (b : Int) : Px := ⟨0, 0, 0, b % 256⟩
theorem mkP_ok (b : Int) : (mkP b).ok := by unfold mkP Px.ok; simp only; omega
def mrunK (ls : List TA) (a b : Int) : Nat → List TA
 | 0 => ls
 | k + 1 => setR (mrunK ls a b k) (mkX a + (k : Int)) (mkY a) (mkP b)
def maskK (q : List Int) : Nat → List TA
 | 0 => []
 | j + 1 => mrunK (maskK q j) (numI q (2 * j)) (numI q (2 * j + 1)) (mkN (numI q (2 * j)))
def maskN (q : List Int) : Nat := min (q.length / 2) 30
def maskG (q : List Int) : List TA := maskK q (maskN q)
theorem mkN_bd (a : Int) : 1 ≤ mkN a ∧ mkN a ≤ 3 := by unfold mkN; omega
theorem mk_bd (a : Int) {k : Nat} (hk : k < mkN a) : (-16 ≤ mkX a + (k : Int) ∧ mkX a + (k : Int) ≤ 15) ∧ -16 ≤ mkY a ∧ mkY a ≤ 15 := by
 have := mkN_bd a
 unfold mkX mkY
 omega
theorem mk_bd2 (a : Int) {k : Nat} (hk : k < mkN a) : (-4 ≤ mkX a + (k : Int) ∧ mkX a + (k : Int) ≤ 13) ∧ -4 ≤ mkY a ∧ mkY a ≤ 11 := by
 have := mkN_bd a
 unfold mkX mkY
 omega
/-- Valid, few tiles, whole pixels; visible pixels near the origin. -/
structure MaskP (ls : List TA) : Prop where
 v : validL ls = true
 s : Small ls
 t : TokL ls
 g : ∀ x y, 0 < (getL ls x y).a → -4 ≤ x ∧ x ≤ 13 ∧ -4 ≤ y ∧ y ≤ 11
 c : ∀ x y, (getL ls x y).r = 0 ∧ (getL ls x y).g = 0 ∧ (getL ls x y).b = 0
theorem mrunK_P {ls : List TA} (h : MaskP ls) (a b : Int) : ∀ k, k ≤ mkN a → MaskP (mrunK ls a b k)
 | 0, _ => h
 | k + 1, hk => by
  have ih := mrunK_P h a b k (by omega)
  obtain ⟨hX, hY⟩ := mk_bd a (k := k) (by omega)
  obtain ⟨hX2, hY2⟩ := mk_bd2 a (k := k) (by omega)
  have hg := dot_get ih.v ih.s hX hY (mkP b)
  refine ⟨setR_valid _ _ _ _, dot_small ih.v ih.s hX hY _, setR_tok ih.t (mkP_ok b), fun x y hv => ?_, fun x y => ?_⟩
  ·have hv : 0 < (getL (setR (mrunK ls a b k) (mkX a + (k : Int)) (mkY a) (mkP b)) x y).a := hv
   rw [hg] at hv
   by_cases e : x = mkX a + (k : Int) ∧ y = mkY a
   ·omega
   ·rw [if_neg e] at hv
    exact ih.g x y hv
  ·show (getL (setR (mrunK ls a b k) (mkX a + (k : Int)) (mkY a) (mkP b)) x y).r = 0 ∧ _
   have e2 : getL (mrunK ls a b (k + 1)) x y = getL (setR (mrunK ls a b k) (mkX a + (k : Int)) (mkY a) (mkP b)) x y := rfl
   rw [e2, hg]
   split
   ·unfold cleanP mkP
    simp only
    split <;> exact ⟨rfl, rfl, rfl⟩
   ·exact ih.c x y
theorem mask_nil : MaskP [] := ⟨rfl, fun e he => (by cases he), fun e he => (by cases he), fun x y hv => absurd hv (by show ¬ (0 : Int) < 0; omega), fun x y => ⟨rfl, rfl, rfl⟩⟩
theorem maskK_P (q : List Int) : ∀ k, MaskP (maskK q k)
 | 0 => mask_nil
 | k + 1 => mrunK_P (maskK_P q k) _ _ _ (Nat.le_refl _)
theorem maskG_P (q : List Int) : MaskP (maskG q) := maskK_P q _
theorem MaskP.len {ls : List TA} (h : MaskP ls) : ls.length ≤ 16 := small_len (validL_srt h.v) h.s
/-- The set of the pixels whose alpha reaches t. -/
def setG (ls : List TA) (t : Int) (x y : Int) : Bool := decide (t ≤ (getL ls x y).a)
theorem setG_has {ls : List TA} {t : Int} (ht : 1 ≤ t) {x y : Int} (h : setG ls t x y = true) : hasR (boundL ls) x y = true :=
 boundL_has (getL_vis (by have := of_decide_eq_true h; omega))
theorem setG_box (ls : List TA) {t : Int} (ht : 1 ≤ t) : BoxE (setG ls t) (boundL ls) := by
 intro e ⟨hd, hh⟩
 have key : ∀ {x y : Int}, setG ls t x y = true → (boundL ls).x0 ≤ x ∧ x < (boundL ls).x1 ∧ (boundL ls).y0 ≤ y ∧ y < (boundL ls).y1 := fun h => (hasR_iff _ _ _).1 (setG_has ht h)
 obtain ⟨x, y, d⟩ := e
 simp only at hd hh ⊢
 rcases dir4 hd with rfl | rfl | rfl | rfl
 ·rw [has0, Bool.and_eq_true_iff] at hh
  have := key hh.1
  omega
 ·rw [has1, Bool.and_eq_true_iff] at hh
  have := key hh.1
  omega
 ·rw [has2, Bool.and_eq_true_iff] at hh
  have := key hh.1
  omega
 ·rw [has3, Bool.and_eq_true_iff] at hh
  have := key hh.1
  omega
/- Plain: two masks combined: the positions of their tiles in order, each once; the tiles. -/
abbrev Psn := Int × Int
def ltQ (p q : Psn) : Bool := lessB p.1 p.2 q.1 q.2
theorem ltQ_iff {p q : Psn} : ltQ p q = true ↔ (p.2 < q.2 ∨ (p.2 = q.2 ∧ p.1 < q.1)) := by unfold ltQ lessB; exact decide_eq_true_iff
theorem ltQ_irr (p : Psn) : ltQ p p = false := by
 rw [← Bool.not_eq_true, ltQ_iff]; omega
theorem ltQ_trans {p q r : Psn} (h : ltQ p q = true) (k : ltQ q r = true) : ltQ p r = true := by
 rw [ltQ_iff] at *; omega
theorem ltQ_tri (p q : Psn) : ltQ p q = true ∨ p = q ∨ ltQ q p = true := by
 rw [ltQ_iff, ltQ_iff]
 obtain ⟨a, b⟩ := p
 obtain ⟨c, d⟩ := q
 simp only [Prod.mk.injEq]
 omega
def SrtQ (l : List Psn) : Prop := l.Pairwise fun p q => ltQ p q = true
theorem srtQ_unique : ∀ {l m : List Psn}, SrtQ l → SrtQ m → (∀ p, p ∈ l ↔ p ∈ m) → l = m
 | [], [], _, _, _ => rfl
 | [], q :: m, _, _, h => absurd ((h q).2 List.mem_cons_self) (by simp)
 | p :: l, [], _, _, h => absurd ((h p).1 List.mem_cons_self) (by simp)
 | p :: l, q :: m, hl, hm, h => by
  have hl' := List.pairwise_cons.1 hl
  have hm' := List.pairwise_cons.1 hm
  have hpq : p = q := by
   rcases List.mem_cons.1 ((h p).1 List.mem_cons_self) with e | e
   ·exact e
   ·rcases List.mem_cons.1 ((h q).2 List.mem_cons_self) with e' | e'
    ·exact e'.symm
    ·have h1 := hm'.1 p e
     have h2 := hl'.1 q e'
     have := ltQ_trans h1 h2
     rw [ltQ_irr] at this
     cases this
  subst hpq
  congr 1
  refine srtQ_unique hl'.2 hm'.2 fun r => ?_
  have hr := h r
  have n1 : r ∈ l → r ≠ p := fun e e' => by
   have := hl'.1 r e
   rw [e', ltQ_irr] at this
   cases this
  have n2 : r ∈ m → r ≠ p := fun e e' => by
   have := hm'.1 r e
   rw [e', ltQ_irr] at this
   cases this
  constructor
  ·intro e
   rcases List.mem_cons.1 (hr.1 (List.mem_cons_of_mem _ e)) with k | k
   ·exact absurd k (n1 e)
   ·exact k
  ·intro e
   rcases List.mem_cons.1 (hr.2 (List.mem_cons_of_mem _ e)) with k | k
   ·exact absurd k (n2 e)
   ·exact k
def insP1 (p : Psn) : List Psn → List Psn
 | [] => [p]
 | q :: r => if ltQ p q = true then p :: q :: r else if p = q then q :: r else q :: insP1 p r
theorem insP1_mem (p : Psn) : ∀ (l : List Psn) (x : Psn), x ∈ insP1 p l ↔ x = p ∨ x ∈ l
 | [], x => by simp [insP1]
 | q :: r, x => by
  unfold insP1
  by_cases h1 : ltQ p q = true
  ·rw [if_pos h1]; simp
  ·rw [if_neg h1]
   by_cases h2 : p = q
   ·rw [if_pos h2, h2]; simp
   ·rw [if_neg h2, List.mem_cons, insP1_mem p r x, List.mem_cons]
    constructor
    ·rintro (h | h | h)
     ·exact .inr (.inl h)
     ·exact .inl h
     ·exact .inr (.inr h)
    ·rintro (h | h | h)
     ·exact .inr (.inl h)
     ·exact .inl h
     ·exact .inr (.inr h)
theorem insP1_srt (p : Psn) : ∀ (l : List Psn), SrtQ l → SrtQ (insP1 p l)
 | [], _ => List.pairwise_cons.2 ⟨fun _ h => (by cases h), List.Pairwise.nil⟩
 | q :: r, h => by
  have h' := List.pairwise_cons.1 h
  unfold insP1
  by_cases h1 : ltQ p q = true
  ·rw [if_pos h1]
   refine List.pairwise_cons.2 ⟨fun x hx => ?_, h⟩
   rcases List.mem_cons.1 hx with e | e
   ·rw [e]; exact h1
   ·exact ltQ_trans h1 (h'.1 x e)
  ·rw [if_neg h1]
   by_cases h2 : p = q
   ·rw [if_pos h2]; exact h
   ·rw [if_neg h2]
    have hqp : ltQ q p = true := by
     rcases ltQ_tri p q with k | k | k
     ·exact absurd k h1
     ·exact absurd k h2
     ·exact k
    refine List.pairwise_cons.2 ⟨fun x hx => ?_, insP1_srt p r h'.2⟩
    rcases (insP1_mem p r x).1 hx with e | e
    ·rw [e]; exact hqp
    ·exact h'.1 x e
/-- Positions in order, each once. -/
def ordP : List Psn → List Psn
 | [] => []
 | p :: l => insP1 p (ordP l)
theorem ordP_srt : ∀ l, SrtQ (ordP l)
 | [] => List.Pairwise.nil
 | p :: l => insP1_srt p _ (ordP_srt l)
theorem ordP_mem : ∀ (l : List Psn) (x : Psn), x ∈ ordP l ↔ x ∈ l
 | [], x => Iff.rfl
 | p :: l, x => by
  show x ∈ insP1 p (ordP l) ↔ _
  rw [insP1_mem, ordP_mem l x, List.mem_cons]
def pT (e : TA) : Psn := (e.x, e.y)
def posU (la lb : List TA) : List Psn := ordP (la.map pT ++ lb.map pT)
theorem posU_mem (la lb : List TA) (p : Psn) : p ∈ posU la lb ↔ (∃ e ∈ la, pT e = p) ∨ ∃ e ∈ lb, pT e = p := by
 unfold posU
 rw [ordP_mem, List.mem_append, List.mem_map, List.mem_map]
theorem posU_eq {la lb : List TA} {ps : List Psn} (h : SrtQ ps) (hm : ∀ p, p ∈ ps ↔ (∃ e ∈ la, pT e = p) ∨ ∃ e ∈ lb, pT e = p) : ps = posU la lb :=
 srtQ_unique h (ordP_srt _) fun p => (hm p).trans (posU_mem la lb p).symm
/-! ### The tiles -/
def uT (op : Int → Int → Int) (la lb : List TA) (p : Psn) (i : Nat) : Px := if i < 64 then ⟨0, 0, 0, op (tileL la p.1 p.2 i).a (tileL lb p.1 p.2 i).a⟩ else Px.zero
def combS (op : Int → Int → Int) (la lb : List TA) (acc : List TA) (p : Psn) : List TA :=
 if zeroB (uT op la lb p) = false ∧ acc.length < 1024 then acc ++ [⟨p.1, p.2, uT op la lb p⟩] else acc
def combK (op : Int → Int → Int) (la lb : List TA) (ps : List Psn) : List TA := ps.foldl (combS op la lb) []
theorem combK_snoc (op : Int → Int → Int) (la lb : List TA) (ps : List Psn) (p : Psn) : combK op la lb (ps ++ [p]) = combS op la lb (combK op la lb ps) p := by
 unfold combK
 rw [List.foldl_append]
 rfl
theorem combS_len (op : Int → Int → Int) (la lb : List TA) (acc : List TA) (p : Psn) (h : acc.length ≤ 1024) : (combS op la lb acc p).length ≤ 1024 ∧ (combS op la lb acc p).length ≤ acc.length + 1 := by
 unfold combS
 split
 ·rename_i hh
  rw [List.length_append]
  simp only [List.length_cons, List.length_nil]
  omega
 ·omega
def combL (op : Int → Int → Int) (la lb : List TA) : List TA := combK op la lb (posU la lb)
theorem snoc_ind {P : List Psn → Prop} (h0 : P []) (h1 : ∀ l p, P l → P (l ++ [p])) : ∀ l, P l := fun l => by
 have key : ∀ m : List Psn, P m.reverse := fun m => by
  induction m with
  | nil => exact h0
  | cons p m ih => rw [List.reverse_cons]; exact h1 _ _ ih
 have := key l.reverse
 rwa [List.reverse_reverse] at this
theorem combK_len (op : Int → Int → Int) (la lb : List TA) : ∀ ps, (combK op la lb ps).length ≤ 1024 ∧ (combK op la lb ps).length ≤ ps.length := by
 refine snoc_ind ⟨Nat.zero_le _, Nat.le_refl _⟩ fun l p h => ?_
 rw [combK_snoc, List.length_append]
 have := combS_len op la lb (combK op la lb l) p h.1
 exact ⟨this.1, by simp only [List.length_cons, List.length_nil]; omega⟩
def OpOk (op : Int → Int → Int) : Prop := ∀ a b, 0 ≤ a → a ≤ 255 → 0 ≤ b → b ≤ 255 → 0 ≤ op a b ∧ op a b ≤ 255
theorem uT_tok {op : Int → Int → Int} (ho : OpOk op) {la lb : List TA} (ta : TokL la) (tb : TokL lb) (p : Psn) : Tok (uT op la lb p) := fun i hi => by
 unfold uT
 rw [if_pos hi]
 obtain ⟨_, _, _, h1, h2⟩ := tileL_tok ta p.1 p.2 i hi
 obtain ⟨_, _, _, h3, h4⟩ := tileL_tok tb p.1 p.2 i hi
 have := ho _ _ h1 h2 h3 h4
 exact ⟨by simp, by simp, by simp, this⟩
theorem combK_tok {op : Int → Int → Int} (ho : OpOk op) {la lb : List TA} (ta : TokL la) (tb : TokL lb) : ∀ ps, TokL (combK op la lb ps) := by
 refine snoc_ind TokL.nil fun l p h => ?_
 rw [combK_snoc]
 unfold combS
 split
 ·intro e he
  rcases List.mem_append.1 he with k | k
  ·exact h e k
  ·rw [List.mem_singleton.1 k]
   exact uT_tok ho ta tb p
 ·exact h
/-! ### The merging of two lists in order -/
def eqPos (p q : Psn) : Bool := decide (p = q)
def leP (p q : Psn) : Bool := decide (p.2 < q.2 ∨ (p.2 = q.2 ∧ p.1 ≤ q.1))
def leftB (la lb : List TA) (i k : Nat) : Bool := decide (lb.length ≤ k) || (decide (i < la.length) && leP (pT (aT la i)) (pT (aT lb k)))
def mPos (la lb : List TA) (i k : Nat) : Psn := if leftB la lb i k = true then pT (aT la i) else pT (aT lb k)
def mNx (l : List TA) (p : Psn) (i : Nat) : Nat := if i < l.length ∧ pT (aT l i) = p then i + 1 else i
structure MG (la lb : List TA) (i k : Nat) (ps : List Psn) : Prop where
 hi : i ≤ la.length
 hk : k ≤ lb.length
 srt : SrtQ ps
 mem : ∀ p, p ∈ ps ↔ (∃ j, j < i ∧ pT (aT la j) = p) ∨ ∃ j, j < k ∧ pT (aT lb j) = p
 ga : ∀ p ∈ ps, ∀ j, i ≤ j → j < la.length → ltQ p (pT (aT la j)) = true
 gb : ∀ p ∈ ps, ∀ j, k ≤ j → j < lb.length → ltQ p (pT (aT lb j)) = true
/- Plain: what two masks combined hold; the laws of union, common part, difference. -/
def uOp (a b : Int) : Int := max a b
def cOp (a b : Int) : Int := min a b
def mOp (a b : Int) : Int := mulI a (255 - b)
structure OpZ (op : Int → Int → Int) : Prop where
 ok : OpOk op
 z : op 0 0 = 0
theorem uOp_z : OpZ uOp := ⟨fun a b h1 h2 h3 h4 => by unfold uOp; omega, by rfl⟩
theorem cOp_z : OpZ cOp := ⟨fun a b h1 h2 h3 h4 => by unfold cOp; omega, by rfl⟩
theorem mOp_z : OpZ mOp := ⟨fun a b h1 h2 h3 h4 => by unfold mOp; exact mulI_bd a (255 - b), by rfl⟩
theorem posU_small {la lb : List TA} (ha : Small la) (hb : Small lb) : ∀ p ∈ posU la lb, -2 ≤ p.1 ∧ p.1 ≤ 1 ∧ -2 ≤ p.2 ∧ p.2 ≤ 1 := fun p hp => by
 rcases (posU_mem la lb p).1 hp with ⟨e, he, rfl⟩ | ⟨e, he, rfl⟩
 ·exact ha e he
 ·exact hb e he
theorem small_pos {ps : List Psn} (hs : SrtQ ps) (h : ∀ p ∈ ps, -2 ≤ p.1 ∧ p.1 ≤ 1 ∧ -2 ≤ p.2 ∧ p.2 ≤ 1) : ps.length ≤ 16 := by
 have h1 : Srt (ps.map fun p => (⟨p.1, p.2, zT⟩ : TA)) := List.pairwise_map.2 (hs.imp fun hq => hq)
 have h2 : Small (ps.map fun p => (⟨p.1, p.2, zT⟩ : TA)) := fun e he => by
  obtain ⟨p, hp, rfl⟩ := List.mem_map.1 he
  exact h p hp
 have := small_len h1 h2
 rwa [List.length_map] at this
/-- What has been put together behind some positions. -/
structure CbI (op : Int → Int → Int) (la lb : List TA) (ps : List Psn) (r : List TA) : Prop where
 el : ∀ e ∈ r, pT e ∈ ps ∧ e.t = uT op la lb (pT e) ∧ zeroB e.t = false
 srt : Srt r
 has : ∀ p ∈ ps, zeroB (uT op la lb p) = false → ∃ e ∈ r, pT e = p
theorem cb_inv (op : Int → Int → Int) (la lb : List TA) : ∀ ps, SrtQ ps → ps.length ≤ 1024 → CbI op la lb ps (combK op la lb ps) := by
 refine snoc_ind (fun _ _ => ⟨fun e h => (by cases h), List.Pairwise.nil, fun p h => (by cases h)⟩) fun l p ih hs hl => ?_
 rw [List.length_append] at hl
 simp only [List.length_cons, List.length_nil] at hl
 have hs' := List.pairwise_append.1 hs
 have ih := ih hs'.1 (by omega)
 have hlen := (combK_len op la lb l).2
 rw [combK_snoc]
 unfold combS
 by_cases hz : zeroB (uT op la lb p) = false
 ·rw [if_pos ⟨hz, by omega⟩]
  refine ⟨fun e he => ?_, ?_, fun q hq hqz => ?_⟩
  ·rcases List.mem_append.1 he with k | k
   ·obtain ⟨h1, h2, h3⟩ := ih.el e k
    exact ⟨List.mem_append.2 (.inl h1), h2, h3⟩
   ·rw [List.mem_singleton.1 k]
    exact ⟨List.mem_append.2 (.inr (List.mem_singleton.2 rfl)), rfl, hz⟩
  ·refine List.pairwise_append.2 ⟨ih.srt, List.pairwise_cons.2 ⟨fun _ h => (by cases h), List.Pairwise.nil⟩, fun e he e' he' => ?_⟩
   rw [List.mem_singleton.1 he']
   exact hs'.2.2 (pT e) (ih.el e he).1 p (List.mem_singleton.2 rfl)
  ·rcases List.mem_append.1 hq with k | k
   ·obtain ⟨e, h1, h2⟩ := ih.has q k hqz
    exact ⟨e, List.mem_append.2 (.inl h1), h2⟩
   ·rw [List.mem_singleton.1 k]
    exact ⟨_, List.mem_append.2 (.inr (List.mem_singleton.2 rfl)), rfl⟩
 ·rw [if_neg (fun h => hz h.1)]
  refine ⟨fun e he => ?_, ih.srt, fun q hq hqz => ?_⟩
  ·obtain ⟨h1, h2, h3⟩ := ih.el e he
   exact ⟨List.mem_append.2 (.inl h1), h2, h3⟩
  ·rcases List.mem_append.1 hq with k | k
   ·exact ih.has q k hqz
   ·rw [List.mem_singleton.1 k] at hqz
    exact absurd hqz hz
theorem tile_out {ls : List TA} {p : Psn} (h : ∀ e ∈ ls, pT e ≠ p) : tileL ls p.1 p.2 = zT := tileL_none fun e he => by
 unfold eqB
 refine decide_eq_false fun k => h e he ?_
 unfold pT
 rw [k.1, k.2]
theorem comb_tile {op : Int → Int → Int} (ho : OpZ op) {la lb : List TA} (hn : (posU la lb).length ≤ 1024) (p : Psn) {i : Nat} (hi : i < 64) : tileL (combL op la lb) p.1 p.2 i = uT op la lb p i := by
 have hI := cb_inv op la lb (posU la lb) (ordP_srt _) hn
 by_cases hp : p ∈ posU la lb
 ·cases hz : zeroB (uT op la lb p) with
  | false =>
   obtain ⟨e, he, ep⟩ := hI.has p hp hz
   have h2 := (hI.el e he).2.1
   have := tileL_mem hI.srt he
   rw [← ep]
   show tileL (combK op la lb (posU la lb)) e.x e.y i = _
   rw [this, h2]
  | true =>
   have h1 : tileL (combL op la lb) p.1 p.2 = zT := tile_out fun e he k => by
    have := (hI.el e he).2
    rw [this.1, k, hz] at this
    cases this.2
   rw [h1]
   have h2 := (zeroB_iff _).1 hz i hi
   unfold uT at h2 ⊢
   rw [if_pos hi] at h2 ⊢
   simp only at h2
   show Px.zero = _
   rw [h2]
   rfl
 ·have n1 : ∀ e ∈ la, pT e ≠ p := fun e he k => hp ((posU_mem la lb p).2 (.inl ⟨e, he, k⟩))
  have n2 : ∀ e ∈ lb, pT e ≠ p := fun e he k => hp ((posU_mem la lb p).2 (.inr ⟨e, he, k⟩))
  have n3 : ∀ e ∈ combL op la lb, pT e ≠ p := fun e he k => hp (k ▸ (hI.el e he).1)
  rw [tile_out n3]
  unfold uT
  rw [if_pos hi, tile_out n1, tile_out n2]
  show Px.zero = (⟨0, 0, 0, op 0 0⟩ : Px)
  rw [ho.z]
  rfl
theorem comb_get {op : Int → Int → Int} (ho : OpZ op) {la lb : List TA} (hn : (posU la lb).length ≤ 1024) (x y : Int) : getL (combL op la lb) x y = ⟨0, 0, 0, op (getL la x y).a (getL lb x y).a⟩ := by
 have hi : (8 * (y % 8) + x % 8).toNat < 64 := by omega
 unfold getL
 rw [comb_tile ho hn (x / 8, y / 8) hi]
 unfold uT
 rw [if_pos hi]
theorem comb_valid {op : Int → Int → Int} {la lb : List TA} (va : validL la = true) (vb : validL lb = true) (hn : (posU la lb).length ≤ 1024) : validL (combL op la lb) = true := by
 have hI := cb_inv op la lb (posU la lb) (ordP_srt _) hn
 refine validL_mk (combK_len op la lb _).1 (fun e he => (goodA_iff e).2 ?_) hI.srt
 obtain ⟨h1, h2, h3⟩ := hI.el e he
 refine ⟨?_, h3, eqT_true fun i hi => ?_⟩
 ·rcases (posU_mem la lb _).1 h1 with ⟨d, hd, k⟩ | ⟨d, hd, k⟩
  ·have := ((goodA_iff d).1 (validL_good va d hd)).1
   unfold pT at k
   injection k with k1 k2
   rw [← k1, ← k2]
   exact this
  ·have := ((goodA_iff d).1 (validL_good vb d hd)).1
   unfold pT at k
   injection k with k1 k2
   rw [← k1, ← k2]
   exact this
 ·unfold cleanT
  rw [h2]
  unfold uT
  rw [if_pos hi]
  unfold cleanP
  simp only
  split
  ·rename_i hz
   rw [hz]
   rfl
  ·rfl
theorem mask_pos {la lb : List TA} (ha : MaskP la) (hb : MaskP lb) : (posU la lb).length ≤ 16 := small_pos (ordP_srt _) (posU_small ha.s hb.s)
/-- Two masks combined: a mask. -/
theorem comb_mask {op : Int → Int → Int} (ho : OpZ op) {la lb : List TA} (ha : MaskP la) (hb : MaskP lb) : MaskP (combL op la lb) := by
 have hn := mask_pos ha hb
 have hI := cb_inv op la lb (posU la lb) (ordP_srt _) (by omega)
 have hg := comb_get ho (la := la) (lb := lb) (by omega)
 refine ⟨comb_valid ha.v hb.v (by omega), fun e he => posU_small ha.s hb.s _ (hI.el e he).1, combK_tok ho.ok ha.t hb.t _, fun x y h => ?_, fun x y => by rw [hg]; exact ⟨rfl, rfl, rfl⟩⟩
 rw [hg] at h
 simp only at h
 obtain ⟨_, _, _, h1, h2⟩ := getL_okL ha.t x y
 obtain ⟨_, _, _, h3, h4⟩ := getL_okL hb.t x y
 by_cases ka : 0 < (getL la x y).a
 ·exact ha.g x y ka
 ·by_cases kb : 0 < (getL lb x y).a
  ·exact hb.g x y kb
  ·have e1 : (getL la x y).a = 0 := by omega
   have e2 : (getL lb x y).a = 0 := by omega
   rw [e1, e2, ho.z] at h
   omega
theorem mask_get {la lb : List TA} (ha : MaskP la) (hb : MaskP lb) {op : Int → Int → Int} (ho : OpZ op) (x y : Int) : getL (combL op la lb) x y = ⟨0, 0, 0, op (getL la x y).a (getL lb x y).a⟩ := comb_get ho (by have := mask_pos ha hb; omega) x y
theorem mask_self {la : List TA} (ha : MaskP la) (x y : Int) : getL la x y = ⟨0, 0, 0, (getL la x y).a⟩ := by
 obtain ⟨h1, h2, h3⟩ := ha.c x y
 generalize getL la x y = p at *
 obtain ⟨r, g, b, a⟩ := p
 simp only at h1 h2 h3
 rw [h1, h2, h3]
theorem mask_a {la : List TA} (ha : MaskP la) (x y : Int) : 0 ≤ (getL la x y).a ∧ (getL la x y).a ≤ 255 := by
 obtain ⟨_, _, _, h1, h2⟩ := getL_okL ha.t x y
 exact ⟨h1, h2⟩
theorem mask_eq {la lb : List TA} (ha : MaskP la) (hb : MaskP lb) (h : ∀ x y, (getL la x y).a = (getL lb x y).a) : eqL la lb = true := eqL_get ha.v hb.v fun x y => by rw [mask_self ha, mask_self hb, h]
section
variable {a b c : List TA} (ha : MaskP a) (hb : MaskP b) (hc : MaskP c)
include ha hb
theorem laws2 : eqL (combL uOp a b) (combL uOp b a) = true ∧ eqL (combL cOp a b) (combL cOp b a) = true ∧ eqL (combL uOp a (combL cOp a b)) a = true ∧ eqL (combL cOp a (combL uOp a b)) a = true := by
 have mU := comb_mask uOp_z ha hb
 have mC := comb_mask cOp_z ha hb
 refine ⟨mask_eq mU (comb_mask uOp_z hb ha) fun x y => ?_, mask_eq mC (comb_mask cOp_z hb ha) fun x y => ?_, mask_eq (comb_mask uOp_z ha mC) ha fun x y => ?_, mask_eq (comb_mask cOp_z ha mU) ha fun x y => ?_⟩
 ·rw [mask_get ha hb uOp_z, mask_get hb ha uOp_z]; simp only [uOp]; omega
 ·rw [mask_get ha hb cOp_z, mask_get hb ha cOp_z]; simp only [cOp]; omega
 ·rw [mask_get ha mC uOp_z, mask_get ha hb cOp_z]; simp only [uOp, cOp]; omega
 ·rw [mask_get ha mU cOp_z, mask_get ha hb uOp_z]; simp only [uOp, cOp]; omega
include hc
theorem laws3 : eqL (combL uOp (combL uOp a b) c) (combL uOp a (combL uOp b c)) = true ∧ eqL (combL cOp (combL cOp a b) c) (combL cOp a (combL cOp b c)) = true := by
 refine ⟨mask_eq (comb_mask uOp_z (comb_mask uOp_z ha hb) hc) (comb_mask uOp_z ha (comb_mask uOp_z hb hc)) fun x y => ?_, mask_eq (comb_mask cOp_z (comb_mask cOp_z ha hb) hc) (comb_mask cOp_z ha (comb_mask cOp_z hb hc)) fun x y => ?_⟩
 ·rw [mask_get (comb_mask uOp_z ha hb) hc uOp_z, mask_get ha hb uOp_z, mask_get ha (comb_mask uOp_z hb hc) uOp_z, mask_get hb hc uOp_z]; simp only [uOp]; omega
 ·rw [mask_get (comb_mask cOp_z ha hb) hc cOp_z, mask_get ha hb cOp_z, mask_get ha (comb_mask cOp_z hb hc) cOp_z, mask_get hb hc cOp_z]; simp only [cOp]; omega
end
theorem mul_one {a : Int} (h1 : 0 ≤ a) (h2 : a ≤ 255) : mulI a 255 = a := by
 have e1 : clampI a = a := by unfold clampI; omega
 have e2 : clampI 255 = 255 := by unfold clampI; omega
 unfold mulI roundI
 rw [e1, e2]
 omega
theorem mul_zero (b : Int) (h1 : 0 ≤ b) (h2 : b ≤ 255) : mulI 0 (255 - b) = 0 := by
 have e1 : clampI 0 = 0 := by unfold clampI; omega
 unfold mulI roundI
 rw [e1, Int.zero_mul]
 omega
theorem laws1 {a : List TA} (ha : MaskP a) : eqL (combL uOp a a) a = true ∧ eqL (combL cOp a a) a = true ∧ eqL (combL uOp a []) a = true ∧ eqL (combL cOp a []) [] = true ∧ eqL (combL mOp a []) a = true ∧ eqL (combL mOp [] a) [] = true := by
 have h0 := mask_nil
 have hz : ∀ x y, (getL [] x y).a = 0 := fun x y => rfl
 refine ⟨mask_eq (comb_mask uOp_z ha ha) ha fun x y => ?_, mask_eq (comb_mask cOp_z ha ha) ha fun x y => ?_, mask_eq (comb_mask uOp_z ha h0) ha fun x y => ?_, mask_eq (comb_mask cOp_z ha h0) h0 fun x y => ?_, mask_eq (comb_mask mOp_z ha h0) ha fun x y => ?_, mask_eq (comb_mask mOp_z h0 ha) h0 fun x y => ?_⟩
 all_goals have hb := mask_a ha x y
 ·rw [mask_get ha ha uOp_z]; simp only [uOp]; omega
 ·rw [mask_get ha ha cOp_z]; simp only [cOp]; omega
 ·rw [mask_get ha h0 uOp_z, hz]; simp only [uOp]; omega
 ·rw [mask_get ha h0 cOp_z, hz]; simp only [cOp]; omega
 ·rw [mask_get ha h0 mOp_z, hz]
  show mulI _ (255 - 0) = _
  exact mul_one hb.1 hb.2
 ·rw [mask_get h0 ha mOp_z, hz]
  exact mul_zero _ hb.1 hb.2
end Go.Proofs.YtamgpfblhlfhaaaGreat
/- Contract of the reference's Same at equal images. -/
namespace Go.Proofs.YtamgpfblhlfhaaaGreat
open Go.RowKit Go.Shelf Pl
set_option linter.unusedVariables false
set_option linter.unusedSimpArgs false
set_option maxRecDepth 20000
/- Contract of the reference's Image. -/
def shC (c : Rc) (u : Value) (n : Int) : Array Value := #[.int .i64 c.x0, .int .i64 c.y0, .int .i64 c.x1, .int .i64 c.y1, u, .int .i64 n]
section
variable {o : Oper} {a : Act} {C : World → Prop} {K : Act → Prop}
end
theorem OwnE.chgB {α : Type} {k : Nat} {T S : TypeId} {E : Elt α k T S} {B b : Nat} {v : Value} {ls : List α} {w w' : World} (h : OwnE E B v ls w) (hc : Chg b w w') (hne : ∀ k, v.ownBlock = some k → k ≠ b) : OwnE E B v ls w' := by
 refine World.ownsRow.kept (row := some b) h ⟨hc.os, hc.tape, hc.output, hc.size, fun k hk hn => hc.block k hk (fun e => hn (by rw [e]))⟩ ?_
 cases hv : v.ownBlock with
 | none => exact .inl rfl
 | some k =>
  right
  intro e
  injection e with e
  exact hne k hv e
/- The positions of a rectangle's tiles: the reference's Tiles. -/
def psE : Elt (Int × Int) 2 68 106 where
 enc := fun p => #[.int .i64 p.1, .int .i64 p.2]
 bytes := 16
 zero := (0, 0)
 size := fun _ => rfl
 one := fun x u hu => by
  have : u ∈ [Value.int .i64 x.1, .int .i64 x.2] := hu
  simp at this
  rcases this with rfl | rfl <;> rfl
 pos := by omega
 small := by omega
 und := Tryz.underlying106
 info := by kernel_rfl
 zer := by kernel_rfl
end Go.Proofs.YtamgpfblhlfhaaaGreat
/- Regions within a round of a range over a function: walked as anywhere. What a loop's body keeps. -/
namespace Go.Proofs.YtamgpfblhlfhaaaGreat
open Go.RowKit
set_option linter.unusedVariables false
set_option linter.unusedSimpArgs false
/-- The walk goes on, and in no other way. -/
def Only (K : Act → World → Prop) : Exit → Act → World → Prop
 | .normal, a, w => K a w
 | _, _, _ => False
theorem Only.out (K : Act → World → Prop) : ¬ LetsOut (Only K) := fun ⟨_, _, h⟩ => h
theorem Only.at {K : Act → World → Prop} {a : Act} {w : World} (h : K a w) : Only K .normal a w := h
def noDefer (l : List Oper) : Bool := l.all fun o => match o.op with
 | .defer _ => false
 | _ => true
theorem noDefer_at {l : List Oper} (h : noDefer l = true) {o : Oper} (ho : o ∈ l) : ∀ c, o.op ≠ .defer c := fun c e => by
 have := List.all_eq_true.1 h o ho
 rw [e] at this
 cases this
section
variable {P : Program} {r n : Nat}
theorem opIn_of {o : Oper} {a : Act} {w : World} {K K' : Act → World → Prop} {M : Act → World → Prop} {Q : Exit → Act → World → Prop} (hd : ∀ c, o.op ≠ .defer c) (hK : ∀ a w, K' a w → K a w) (h : o.wp P a w K' (Only M)) : o.wpIn (Fence.wide.inRound r) n P a w K Q := by
 refine ⟨fun _ _ => trivial, ?_⟩
 rw [Oper.semAt_eq _ _ _ hd]
 unfold Oper.wp at h
 generalize (execOp a.eval o).run P w = z at *
 cases z with
 | ok x w' =>
  cases x with
  | value v => exact hK _ _ h
  | skip => exact hK _ _ h
  | defer d => exact hK _ _ h
  | enter f args =>
   refine ⟨fun h => (by cases h), CallsIn.inRound r (callsIn_wide.2 (Calls.mono h fun e w'' he => ?_))⟩
   cases e with
   | returned v => exact hK _ _ he
   | panicked c => exact he.elim
   | outgrown => exact absurd he (Only.out M)
  | row s args =>
   refine ⟨fun h => (by cases h), fun c cs _ => ?_⟩
   obtain ⟨v, w'', h1, h2⟩ := h c cs
   exact ⟨v, w'', hK _ _ h1, stepsIn_wide.2 h2⟩
  | _ => exact absurd h (by simp [Oper.upon])
 | halt x w' =>
  cases x with
  | panic v => exact absurd h (by simp [Oper.upon, Only])
  | _ => exact absurd h (by simp [Oper.upon])
theorem wpListIn_of {ops : Array Oper} {K : Act → World → Prop} {Q : Exit → Act → World → Prop} (hK : ∀ a w, K a w → Q .normal a w) : ∀ (l : List Oper) (a : Act) (w : World), (∀ o ∈ l, ∀ c, o.op ≠ .defer c) → wpList P ops (Only K) l a w → wpListIn (Fence.wide.inRound r) n P ops Q l a w
 | [], a, w, _, h => hK _ _ h
 | o :: rest, a, w, hd, h => by
  unfold wpList at h
  unfold wpListIn
  have ih := wpListIn_of (ops := ops) hK rest
  by_cases hw : Region.wanted o (yielded ops a.tmps) = true
  ·rw [if_pos hw] at h ⊢
   rcases h with h | h
   ·exact opIn_of (hd o (List.mem_cons_self ..)) (fun a w hh => ih a w (fun o ho => hd o (List.mem_cons_of_mem _ ho)) hh) h
   ·exact absurd h.2 (Only.out K)
  ·rw [if_neg hw] at h ⊢
   exact ⟨fun _ _ => trivial, ih _ _ (fun o ho => hd o (List.mem_cons_of_mem _ ho)) h⟩
/-- A region within a round. -/
theorem round_lit {id : Nat} {l : List Oper} {Q : Exit → Act → World → Prop} {a : Act} {w : World} (hd : noDefer l = true) (h : wpList P l.toArray (Only fun a w => Q .normal a w) l a w) : (Code.region id l.toArray false).wpIn (Fence.wide.inRound r) n P Q a w :=
 wpIn_region_lit (wpListIn_of (fun _ _ h => h) l a w (fun o ho => noDefer_at hd ho) h)
end
/-! ### What a body keeps that turns one block b of cells -/
structure KpB (b : Nat) (W W' : World) : Prop where
 size : W.heap.size ≤ W'.heap.size
 same : ∀ (k : Nat) (o : Obj), k ≠ b → W.heap[k]? = some o → o.isCells = true → W'.heap[k]? = some o
theorem KpB.trans {b : Nat} {X Y Z : World} (h : KpB b X Y) (k : KpB b Y Z) : KpB b X Z := ⟨Nat.le_trans h.size k.size, fun i o hi ho hc => k.same i o hi (h.same i o hi ho hc) hc⟩
theorem KpB.refl (b : Nat) (W : World) : KpB b W W := ⟨Nat.le_refl _, fun _ _ _ h _ => h⟩
theorem KpB.putObj (b : Nat) {W : World} {l : Nat} {o : Obj} (o' : Obj) (hl : W.heap[l]? = some o) (ho : o.isCells = false) : KpB b W (W.putObj l o') :=
 ⟨by simp [World.putObj], fun k x hk hx hc => by
  have : k ≠ l := fun e => by rw [e, hl] at hx; cases hx; rw [ho] at hc; cases hc
  exact (World.putObj_heap_other (by omega)).trans hx⟩
theorem KpB.chg {b : Nat} {W W' : World} (h : Chg b W W') : KpB b W W' :=
 ⟨h.size, fun k o hk ho _ => (h.block k (Array.getElem?_eq_some_iff.1 ho).1 hk).trans ho⟩
theorem KpB.atB {b k : Nat} {t : TypeId} {cs : Array Value} {W W' : World} (h : KpB b W W') (hk : k ≠ b) (ha : AtB t W k cs) : AtB t W' k cs := h.same k _ hk ha rfl
theorem KeepsFrom.chg {B b : Nat} {W W' : World} (h : Chg b W W') (hb : b < B) : KeepsFrom B W W' :=
 ⟨h.size, fun k o hB hk _ => (h.block k (Array.getElem?_eq_some_iff.1 hk).1 (by omega)).trans hk⟩
theorem grown_of_below {W W' : World} (h : Below W.heap.size W W') : W.grownBy W' none :=
 ⟨h.os, h.tape, h.output, h.size, fun k hk _ => h.block k hk⟩
theorem AbidesFrom.below {β : Type} {B : Nat} {J : β → World → Prop} (h : AbidesFrom B J) {s : β} {W W' : World} (hs : J s W) (hb : Below W.heap.size W W') : J s W' :=
 h s W W' none hs (grown_of_below hb) (fun r e => by cases e)
/-! ### Facts of cells abide the turn of what is no cells -/
theorem AtB.own {t : TypeId} {A B : World} {b : Nat} {cs : Array Value} {row : Option Nat} (h : AtB t A b cs) (hg : A.grownBy B row) (hr : ∀ r, row = some r → ∃ o : Obj, A.heap[r]? = some o ∧ o.isCells = false) : AtB t B b cs :=
 (hg.block b h.lt (fun e => by
  obtain ⟨o, ho, hc⟩ := hr b e.symm
  rw [show A.heap[b]? = _ from h] at ho
  cases ho
  cases hc)).trans h
theorem cell_not {w : World} {g o : Nat} {v : Value} (h : w.cell? ⟨g, o, none⟩ = some v) : ∀ x : Obj, w.heap[g]? = some x → x.isCells = true := fun x hx => by
 unfold World.cell? at h
 simp only [hx] at h
 cases x <;> first | rfl | (simp at h)
end Go.Proofs.YtamgpfblhlfhaaaGreat
/- Paste of package raster: what it does to one pixel; the iterator over the tiles of a rectangle. -/
namespace Go.Proofs.YtamgpfblhlfhaaaGreat
open Go.RowKit Go.Shelf Pl
set_option linter.unusedVariables false
set_option linter.unusedSimpArgs false
set_option maxRecDepth 20000
theorem P_HasO (r : Rc) (x y : Int) (b : Bool) (w : World) (e : hasR r x y = b) : Calls Tryz.prog 51 #[.agg (rcA r), .agg #[.int .i64 x, .int .i64 y]] w fun e w' => e = .returned (.bool b) ∧ Below w.heap.size w w' := by
 subst e
 exact P_Has r x y w
/- Image of both packages, whether the rectangle fits or not. -/
def imR (c : Rc) : Rc := if fitsE c = 0 then c else Rc.zero
def imLs (c : Rc) (ks : List TA) : List Px := if fitsE c = 0 then imgL c ks else []
end Go.Proofs.YtamgpfblhlfhaaaGreat
/- Contract of Paste of package raster. -/
namespace Go.Proofs.YtamgpfblhlfhaaaGreat
open Go.RowKit Go.Shelf Pl
attribute [local go_sem] Oper.semAt_some
set_option linter.unusedVariables false
set_option linter.unusedSimpArgs false
set_option maxRecDepth 20000
end Go.Proofs.YtamgpfblhlfhaaaGreat
/- A range over a function whose loop variable lies in memory: the round's head makes its block. -/
namespace Go.Proofs.YtamgpfblhlfhaaaGreat
open Go Go.RowKit
set_option linter.unusedVariables false
set_option linter.unusedSimpArgs false
section
variable {F : Fence} {n : Nat} {P : Program}
end
section
variable {P : Program} {ops : Array Oper} {md : Region.Mode} {Q : Exit → Act → World → Prop} {S : World → Prop} {t0 f : Nat} {a : Act} {w : World} {T : Array Bool}
theorem anyX_three (i j k : Nat) {oi oj ok : Oper} (hi : ops[i]? = some oi) (hj : ops[j]? = some oj) (hk : ops[k]? = some ok) (hr : Region.ready md ops T = [i, j, k]) (hgi : oi.guard = none) (hgj : oj.guard = none) (hgk : ok.guard = none)
  (Hi : ∀ K : Act → World → Prop, (∀ a w, (i < t0 → S w) ∧ wpAnyX P md ops (NoPan Q) S t0 f (T.setIfInBounds i true) a w → K a w) → oi.wp P a w K (NoPan Q))
  (Hj : ∀ K : Act → World → Prop, (∀ a w, (j < t0 → S w) ∧ wpAnyX P md ops (NoPan Q) S t0 f (T.setIfInBounds j true) a w → K a w) → oj.wp P a w K (NoPan Q))
  (Hk : ∀ K : Act → World → Prop, (∀ a w, (k < t0 → S w) ∧ wpAnyX P md ops (NoPan Q) S t0 f (T.setIfInBounds k true) a w → K a w) → ok.wp P a w K (NoPan Q)) : wpAnyX P md ops (NoPan Q) S t0 (f + 1) T a w := by
 refine ⟨fun h => (by rw [hr] at h; cases h), fun n hn => ?_⟩
 rw [hr] at hn
 have hn : n = i ∨ n = j ∨ n = k := by simpa using hn
 rcases hn with rfl | rfl | rfl
 ·unfold wpOp
  rw [hi]
  simp only []
  rw [if_pos (by simp [Region.wanted, hgi])]
  exact .inl (Hi _ fun _ _ h => h)
 ·unfold wpOp
  rw [hj]
  simp only []
  rw [if_pos (by simp [Region.wanted, hgj])]
  exact .inl (Hj _ fun _ _ h => h)
 ·unfold wpOp
  rw [hk]
  simp only []
  rw [if_pos (by simp [Region.wanted, hgk])]
  exact .inl (Hk _ fun _ _ h => h)
end
/-- What keeps all but one block of cells, keeps whatever is no cells. -/
theorem KeepsOthers.chgB {b : Nat} {t : TypeId} {cs : Array Value} {W W' : World} (h : Chg b W W') (hb : AtB t W b cs) : KeepsOthers W W' :=
 ⟨h.size, fun k o hk ho => by
  by_cases e : k = b
  ·subst e
   rw [show W.heap[k]? = _ from hb] at hk
   cases hk
   cases ho
  ·exact (h.block k (Array.getElem?_eq_some_iff.1 hk).1 e).trans hk⟩
theorem KpB.below {b : Nat} {W W' : World} (h : Below W.heap.size W W') : KpB b W W' :=
 ⟨h.size, fun k o _ ho _ => (h.block k (Array.getElem?_eq_some_iff.1 ho).1).trans ho⟩
theorem RCells.own {g o : Nat} {ls : List TA} {A B : World} {row : Option Nat} (h : RCells g o ls A) (hn : 0 < ls.length) (hg : A.grownBy B row) (hr : ∀ r, row = some r → ∃ o : Obj, A.heap[r]? = some o ∧ o.isCells = false) : RCells g o ls B := by
 refine h.of_eq (hg.block g h.lt fun e => ?_)
 obtain ⟨x, hx, hc⟩ := hr g e.symm
 have h0 := h.2 0 hn 0 (by omega)
 have hs : ∃ v, (taC (aT ls 0))[0]? = some v := ⟨_, taC_x _⟩
 obtain ⟨v, hv⟩ := hs
 rw [hv] at h0
 have := cell_not h0 x hx
 rw [hc] at this
 cases this
theorem RS.own {v : Value} {ls : List TA} {A B : World} {row : Option Nat} (h : RS v ls A) (hg : A.grownBy B row) (hr : ∀ r, row = some r → ∃ o : Obj, A.heap[r]? = some o ∧ o.isCells = false) : RS v ls B := by
 rcases h with h | ⟨g, o, c, e, hc, sc⟩
 ·exact .inl h
 ·exact .inr ⟨g, o, c, e, hc, fun hn => (sc hn).own hn hg hr⟩
end Go.Proofs.YtamgpfblhlfhaaaGreat
/- The iterator over the tiles of a rectangle: its contract. -/
namespace Go.Proofs.YtamgpfblhlfhaaaGreat
open Go.RowKit Go.Shelf Pl
attribute [local go_sem] Oper.semAt_some
set_option linter.unusedVariables false
set_option linter.unusedSimpArgs false
set_option maxRecDepth 20000
/-- The first k of N. -/
def fpre (N k : Nat) : List (Fin N) := (List.finRange N).take k
def posF (c : Rc) (i : Fin (tlN c)) : Int × Int := posP c i.val
/- Contract of Paste of package raster, where the rectangle fits. -/
attribute [local go_sem] Oper.semAt_some
set_option linter.unusedVariables false
set_option linter.unusedSimpArgs false
set_option maxRecDepth 20000
theorem wpList_val {ops : Array Oper} {rest : List Oper} {o : Oper} {a : Act} {w : World} {Q : Exit → Act → World → Prop} (hg : o.guard = none) (v : Value) (hrun : (execOp a.eval o).run Tryz.prog w = .ok (.value v) w)
  (h : wpList Tryz.prog ops Q rest (a.put o.dst v) w) : wpList Tryz.prog ops Q (o :: rest) a w :=
 wpList_plain hg fun K hK => by
  unfold Oper.wp
  rw [hrun]
  exact hK _ _ h
theorem zip1_wp {F : Fence} {n : Nat} {P : Program} {c : Code} {Q : Exit → Act → World → Prop} {W : World} {t : Array Value} {p : Tmp} {v : Value} (h : c.wpIn F n P Q { tmps := t.setIfInBounds p v, defers := [] } W) :
  c.wpIn F n P Q { tmps := (#[p].zip #[v]).foldl (fun t (p, v) => t.setIfInBounds p v) t, defers := [] } W := by
 have e : (#[p].zip #[v]).foldl (fun t (p, v) => t.setIfInBounds p v) t = t.setIfInBounds p v := by
  show Array.foldl _ t (Array.zip (List.toArray [p]) (List.toArray [v])) = _
  rw [List.zip_toArray]
  simp
 rw [e]
 exact h
theorem arr_fn (t : Array Value) (n : Nat) (h : t.size = n) : ∃ U : Nat → Value, t = ((List.range n).map U).toArray ∧ ∀ i, U i = t.getD i undef := by
 refine ⟨fun i => t.getD i undef, ?_, fun _ => rfl⟩
 apply Array.ext_getElem?
 intro k
 by_cases hk : k < n
 ·simp [hk, h]
 ·simp [hk, h]
/-- A block of deferred calls, empty. -/
def DefAt (w : World) (D : Nat) : Prop := w.heap[D]? = some (.deferred (some []))
theorem DefAt.of_eq {w w' : World} {D : Nat} (h : DefAt w D) (e : w'.heap[D]? = w.heap[D]?) : DefAt w' D := e.trans h
theorem DefAt.lt {w : World} {D : Nat} (h : DefAt w D) : D < w.heap.size := (Array.getElem?_eq_some_iff.1 h).1
theorem DefAt.below {w w' : World} {D : Nat} (h : DefAt w D) (e : Below w.heap.size w w') : DefAt w' D := h.of_eq (e.block _ h.lt)
theorem DefAt.ne {w : World} {D b : Nat} {t : TypeId} {cs : Array Value} (h : DefAt w D) (k : AtB t w b cs) : b ≠ D := fun e => by
 subst e
 have k' : w.heap[b]? = _ := k
 rw [show w.heap[b]? = _ from h] at k'
 cases k'
end Go.Proofs.YtamgpfblhlfhaaaGreat
/- Contract of Paste of the reference. -/
namespace Go.Proofs.YtamgpfblhlfhaaaGreat
open Go.RowKit Go.Shelf Pl
set_option linter.unusedVariables false
set_option linter.unusedSimpArgs false
set_option maxRecDepth 20000
end Go.Proofs.YtamgpfblhlfhaaaGreat
/- Paste of both packages, whether the rectangle fits or not. -/
namespace Go.Proofs.YtamgpfblhlfhaaaGreat
open Go.RowKit Go.Shelf Pl
set_option linter.unusedVariables false
set_option linter.unusedSimpArgs false
end Go.Proofs.YtamgpfblhlfhaaaGreat
/- Plain: a rectangle painted pixel by pixel, and by pasting one image. -/
namespace Go.Proofs.YtamgpfblhlfhaaaGreat
open Go.RowKit Pl
set_option linter.unusedVariables false
set_option linter.unusedSimpArgs false
/-- The pixels of a rectangle by a function. -/
def paintL (c : Rc) (f : Int → Int → Px) : List Px := (List.range (areaN c)).map fun j => f (pxX c j) (pxY c j)
/-- Pixel by pixel; a pixel that `g` bars is passed by. -/
def setsK (c : Rc) (f : Int → Int → Px) (g : Int → Int → Bool) : Nat → List TA
 | 0 => []
 | k + 1 => if g (pxX c k) (pxY c k) = true then setR (setsK c f g k) (pxX c k) (pxY c k) (f (pxX c k) (pxY c k)) else setsK c f g k
/- Plain: the polygon of a rectangle; a mask inverted within a rectangle. -/
def rcP (r : Rc) : List Pnt := [(r.x0, r.y0), (r.x1, r.y0), (r.x1, r.y1), (r.x0, r.y1)]
def rcQ (r : Rc) : List Pnt := [(r.x1, r.y1), (r.x1, r.y0), (r.x0, r.y0), (r.x0, r.y1)]
def cov2 (b : Bool) : Int := if b = true then 255 else 0
/-! ### A mask inverted -/
def invF (ls : List TA) (x y : Int) : Px := ⟨0, 0, 0, 255 - (getL ls x y).a⟩
def invL (r : Rc) (ls : List TA) : List TA := pstR r (paintL r (invF ls)) []
end Go.Proofs.YtamgpfblhlfhaaaGreat
/- Slices of points; calls of function values. -/
namespace Go.Proofs.YtamgpfblhlfhaaaGreat
open Go.RowKit Go.Shelf Pl
set_option linter.unusedVariables false
set_option linter.unusedSimpArgs false
set_option maxRecDepth 20000
def ptE : Elt (Int × Int) 2 53 22 where
 enc := fun x => #[.int .i64 x.1, .int .i64 x.2]
 bytes := 16
 zero := (0, 0)
 size := fun _ => rfl
 one := fun x u hu => by
  have : u ∈ [Value.int .i64 x.1, .int .i64 x.2] := hu
  rcases List.mem_cons.1 this with rfl | this
  ·rfl
  ·rw [List.mem_singleton.1 this]; rfl
 pos := by omega
 small := by omega
 und := Tryz.underlying22
 info := by kernel_rfl
 zer := by kernel_rfl
theorem rce_pt {g o : Nat} {ls : List (Int × Int)} {w : World} (h : RCellsE ptE g o ls w) {i : Nat} {x y : Int} (hi : ls[i]? = some (x, y)) : (Instr.loadAt 53 (.pointer (some ⟨g, o + i * 2, none⟩))).run Tryz.prog w = .ok (.agg #[.int .i64 x, .int .i64 y]) w :=
 h.load Tryz.isAgg53 hi
theorem rce_ptx {g o : Nat} {ls : List (Int × Int)} {w : World} (h : RCellsE ptE g o ls w) {i : Nat} {x y : Int} (hi : ls[i]? = some (x, y)) : (Instr.loadAt 3 (.pointer (some ⟨g, o + i * 2, none⟩))).run Tryz.prog w = .ok (.int .i64 x) w :=
 run_load_int (by have := h.2 i _ hi 0 (by omega); rw [Nat.add_zero] at this; exact this)
theorem rce_pty {g o : Nat} {ls : List (Int × Int)} {w : World} (h : RCellsE ptE g o ls w) {i : Nat} {x y : Int} (hi : ls[i]? = some (x, y)) : (Instr.loadAt 3 (.pointer (some ⟨g, o + i * 2 + 1, none⟩))).run Tryz.prog w = .ok (.int .i64 y) w :=
 run_load_int (by have := h.2 i _ hi 1 (by omega); rw [← Nat.add_assoc] at this; exact this)
section
variable {P : Program} {ops : Array Oper} {Q : Exit → Act → World → Prop} {w : World}
theorem wp_callV {g : FuncId} {x : Operand} {xs : Array Operand} {ats : Array TypeId} {o : Oper} {a : Act} {K : Act → World → Prop} {vals lb : Array Value} (ho : o.op = .call { callee := .value x, args := xs, argTypes := ats }) (hx : a.eval x = .func (.func g) #[] lb) (eg : Go.Proofs.Enters P g) (hv : xs.map a.eval = vals)
  (h : Calls P g (vals ++ lb) w fun e w' => ∃ v, e = .returned v ∧ K (a.put o.dst v) w') : o.wp P a w K Q := by
 subst hv
 obtain ⟨dst, op, ty, pos, after, guard⟩ := o
 simp only at ho
 subst ho
 unfold Oper.wp
 have key : ∀ ρ : Operand → Value, ρ x = .func (.func g) #[] lb → (execOp ρ { dst, op := .call { callee := .value x, args := xs, argTypes := ats }, type := ty, pos, after, guard : Oper }).run P w = .ok (.enter g (xs.map ρ ++ lb)) w := fun ρ hρ => by
  have := eg (xs.map ρ ++ lb) w
  simp [go_sem, hρ, this]
 rw [key a.eval hx]
 exact Calls.mono h fun e w' ⟨v, he, hk⟩ => by subst he; exact hk
theorem wpList_minI {x y : Operand} {t : TypeId} {ty : TypeId} {o : Oper} {r : List Oper} {a : Act} {p q : Int} (hw : Region.wanted o (yielded ops a.tmps) = true) (ho : o.op = .call { callee := .builtin .min, args := #[x, y], argTypes := #[t, t] }) (hty : o.type = ty) (ht : P.underlying ty = some (.int .i64)) (hx : a.eval x = .int .i64 p) (hy : a.eval y = .int .i64 q)
  (h : wpList P ops Q r (a.put o.dst (.int .i64 (min p q))) w) : wpList P ops Q (o :: r) a w := by
 unfold wpList
 rw [if_pos hw]
 left
 obtain ⟨dst, op, type, pos, after, guard⟩ := o
 simp only at ho hty
 subst ho
 subst hty
 unfold Oper.wp
 have hu := run_underlying ht w
 have key : ∀ ρ : Operand → Value, ρ x = .int .i64 p → ρ y = .int .i64 q → (execOp ρ { dst, op := .call { callee := .builtin .min, args := #[x, y], argTypes := #[t, t] }, type, pos, after, guard : Oper }).run P w = .ok (.value (.int .i64 (min p q))) w := fun ρ h1 h2 => by
  simp [go_sem, h1, h2, hu, Builtin.min_, Builtin.min2, ht]; (split <;> omega)
 rw [key a.eval hx hy]
 exact h
theorem wpList_maxI {x y : Operand} {t : TypeId} {ty : TypeId} {o : Oper} {r : List Oper} {a : Act} {p q : Int} (hw : Region.wanted o (yielded ops a.tmps) = true) (ho : o.op = .call { callee := .builtin .max, args := #[x, y], argTypes := #[t, t] }) (hty : o.type = ty) (ht : P.underlying ty = some (.int .i64)) (hx : a.eval x = .int .i64 p) (hy : a.eval y = .int .i64 q)
  (h : wpList P ops Q r (a.put o.dst (.int .i64 (max p q))) w) : wpList P ops Q (o :: r) a w := by
 unfold wpList
 rw [if_pos hw]
 left
 obtain ⟨dst, op, type, pos, after, guard⟩ := o
 simp only at ho hty
 subst ho
 subst hty
 unfold Oper.wp
 have hu := run_underlying ht w
 have key : ∀ ρ : Operand → Value, ρ x = .int .i64 p → ρ y = .int .i64 q → (execOp ρ { dst, op := .call { callee := .builtin .max, args := #[x, y], argTypes := #[t, t] }, type, pos, after, guard : Oper }).run P w = .ok (.value (.int .i64 (max p q))) w := fun ρ h1 h2 => by
  simp [go_sem, h1, h2, hu, Builtin.max_, Builtin.max2, ht]; (split <;> omega)
 rw [key a.eval hx hy]
 exact h
end
/- Contract of painted: a rectangle's pixels by a function value. -/
def bsP1 (n : Nat) (t : TypeId) (cs : Array Value) : NSpec := ⟨Nat, ⟨0⟩, fun b => .slice (some ⟨b, 0, none⟩) 1 1, fun b w => n ≤ b ∧ AtB t w b cs, fun _ _ _ hb h => ⟨h.1, h.2.of_eq (hb.block _ h.2.lt)⟩⟩
def paintK (c : Rc) (F : Int → Int → Px) (k : Nat) : List Px := (List.range k).map fun j => F (pxX c j) (pxY c j)
end Go.Proofs.YtamgpfblhlfhaaaGreat
/- Contracts of far, crosses of package selection and of its reference; of rest. -/
namespace Go.Proofs.YtamgpfblhlfhaaaGreat
open Go.RowKit Pl
set_option linter.unusedVariables false
set_option linter.unusedSimpArgs false
set_option maxRecDepth 20000
theorem P_far (x y : Int) (w : World) : Calls Tryz.prog 66 #[.agg #[.int .i64 x, .int .i64 y]] w fun e w' => e = .returned (.bool (farP (x, y))) ∧ Below w.heap.size w w' := by
 by_cases h0 : min x y < -65536
 ·rw [show farP (x, y) = true from by unfold farP; exact decide_eq_true (by simp only; omega)]
  have d0 : decide (min x y < -65536) = true := decide_eq_true h0
  go_enter Tryz.func66, Tryz.ntmps66
  go_wp2
  go_ret
  exact ⟨rfl, by go_grown⟩
 ·by_cases h1 : 65536 < max x y
  ·rw [show farP (x, y) = true from by unfold farP; exact decide_eq_true (by simp only; omega)]
   have d0 : decide (min x y < -65536) = false := decide_eq_false h0
   have d1 : decide (65536 < max x y) = true := decide_eq_true h1
   go_enter Tryz.func66, Tryz.ntmps66
   go_wp2
   go_ret
   exact ⟨rfl, by go_grown⟩
  ·rw [show farP (x, y) = false from by unfold farP; exact decide_eq_false (by simp only; omega)]
   have d0 : decide (min x y < -65536) = false := decide_eq_false h0
   have d1 : decide (65536 < max x y) = false := decide_eq_false h1
   go_enter Tryz.func66, Tryz.ntmps66
   go_wp2
   go_ret
   exact ⟨rfl, by go_grown⟩
theorem mulS_bd {p q M : Int} (hp : -M ≤ p ∧ p ≤ M) (hq : -M ≤ q ∧ q ≤ M) : -(M * M) ≤ p * q ∧ p * q ≤ M * M := by
 have h1 : 0 ≤ (M - p) * (M + q) := Int.mul_nonneg (by omega) (by omega)
 have h2 : 0 ≤ (M + p) * (M - q) := Int.mul_nonneg (by omega) (by omega)
 have h3 : 0 ≤ (M - p) * (M - q) := Int.mul_nonneg (by omega) (by omega)
 have h4 : 0 ≤ (M + p) * (M + q) := Int.mul_nonneg (by omega) (by omega)
 simp only [Int.sub_mul, Int.mul_sub, Int.add_mul, Int.mul_add] at h1 h2 h3 h4
 constructor <;> omega
set_option maxHeartbeats 4000000 in
theorem P_crosses (ax ay bx bv u v : Int) (h1 : -600000 ≤ ax ∧ ax ≤ 600000) (h2 : -600000 ≤ ay ∧ ay ≤ 600000) (h3 : -600000 ≤ bx ∧ bx ≤ 600000) (h4 : -600000 ≤ bv ∧ bv ≤ 600000) (h5 : -600000 ≤ u ∧ u ≤ 600000) (h6 : -600000 ≤ v ∧ v ≤ 600000) (w : World) : Calls Tryz.prog 109 #[.agg #[.int .i64 ax, .int .i64 ay], .agg #[.int .i64 bx, .int .i64 bv], .int .i64 u, .int .i64 v] w fun e w' => e = .returned (.bool (crs (ax, ay) (bx, bv) u v)) ∧ Below w.heap.size w w' := by
 have g1 := h1
 have g2 := h2
 have g3 := h3
 have g4 := h4
 have g5 := h5
 have g6 := h6
 clear h1 h2 h3 h4 h5 h6
 by_cases hs : bv < ay
 ·rw [show crs (ax, ay) (bx, bv) u v = crs0 (bx, bv) (ax, ay) u v from if_pos hs]
  have ds : decide (bv < ay) = true := decide_eq_true hs
  by_cases h0 : bv ≤ v
  ·by_cases h1 : v < ay
   ·by_cases h2 : (u - bx) * (ay - bv) < (ax - bx) * (v - bv)
    ·rw [show crs0 (bx, bv) (ax, ay) u v = true from by unfold crs0; exact decide_eq_true (by simp only; omega)]
     have d0 : decide (bv ≤ v) = true := decide_eq_true h0
     have d1 : decide (v < ay) = true := decide_eq_true h1
     have d2 : decide ((u - bx) * (ay - bv) < (ax - bx) * (v - bv)) = true := decide_eq_true h2
     obtain ⟨m1, m2⟩ := mulS_bd (M := 1600000) (p := u - bx) (q := ay - bv) (by omega) (by omega)
     obtain ⟨m3, m4⟩ := mulS_bd (M := 1600000) (p := ax - bx) (q := v - bv) (by omega) (by omega)
     go_enter Tryz.func109, Tryz.ntmps109
     go_wp2
     go_ret
     exact ⟨rfl, by go_grown⟩
    ·rw [show crs0 (bx, bv) (ax, ay) u v = false from by unfold crs0; exact decide_eq_false (by simp only; omega)]
     have d0 : decide (bv ≤ v) = true := decide_eq_true h0
     have d1 : decide (v < ay) = true := decide_eq_true h1
     have d2 : decide ((u - bx) * (ay - bv) < (ax - bx) * (v - bv)) = false := decide_eq_false h2
     obtain ⟨m1, m2⟩ := mulS_bd (M := 1600000) (p := u - bx) (q := ay - bv) (by omega) (by omega)
     obtain ⟨m3, m4⟩ := mulS_bd (M := 1600000) (p := ax - bx) (q := v - bv) (by omega) (by omega)
     go_enter Tryz.func109, Tryz.ntmps109
     go_wp2
     go_ret
     exact ⟨rfl, by go_grown⟩
   ·rw [show crs0 (bx, bv) (ax, ay) u v = false from by unfold crs0; exact decide_eq_false (by simp only; omega)]
    have d0 : decide (bv ≤ v) = true := decide_eq_true h0
    have d1 : decide (v < ay) = false := decide_eq_false h1
    obtain ⟨m1, m2⟩ := mulS_bd (M := 1600000) (p := u - bx) (q := ay - bv) (by omega) (by omega)
    obtain ⟨m3, m4⟩ := mulS_bd (M := 1600000) (p := ax - bx) (q := v - bv) (by omega) (by omega)
    go_enter Tryz.func109, Tryz.ntmps109
    go_wp2
    go_ret
    exact ⟨rfl, by go_grown⟩
  ·rw [show crs0 (bx, bv) (ax, ay) u v = false from by unfold crs0; exact decide_eq_false (by simp only; omega)]
   have d0 : decide (bv ≤ v) = false := decide_eq_false h0
   obtain ⟨m1, m2⟩ := mulS_bd (M := 1600000) (p := u - bx) (q := ay - bv) (by omega) (by omega)
   obtain ⟨m3, m4⟩ := mulS_bd (M := 1600000) (p := ax - bx) (q := v - bv) (by omega) (by omega)
   go_enter Tryz.func109, Tryz.ntmps109
   go_wp2
   go_ret
   exact ⟨rfl, by go_grown⟩
 ·rw [show crs (ax, ay) (bx, bv) u v = crs0 (ax, ay) (bx, bv) u v from if_neg hs]
  have ds : decide (bv < ay) = false := decide_eq_false hs
  by_cases h0 : ay ≤ v
  ·by_cases h1 : v < bv
   ·by_cases h2 : (u - ax) * (bv - ay) < (bx - ax) * (v - ay)
    ·rw [show crs0 (ax, ay) (bx, bv) u v = true from by unfold crs0; exact decide_eq_true (by simp only; omega)]
     have d0 : decide (ay ≤ v) = true := decide_eq_true h0
     have d1 : decide (v < bv) = true := decide_eq_true h1
     have d2 : decide ((u - ax) * (bv - ay) < (bx - ax) * (v - ay)) = true := decide_eq_true h2
     obtain ⟨m1, m2⟩ := mulS_bd (M := 1600000) (p := u - ax) (q := bv - ay) (by omega) (by omega)
     obtain ⟨m3, m4⟩ := mulS_bd (M := 1600000) (p := bx - ax) (q := v - ay) (by omega) (by omega)
     go_enter Tryz.func109, Tryz.ntmps109
     go_wp2
     go_ret
     exact ⟨rfl, by go_grown⟩
    ·rw [show crs0 (ax, ay) (bx, bv) u v = false from by unfold crs0; exact decide_eq_false (by simp only; omega)]
     have d0 : decide (ay ≤ v) = true := decide_eq_true h0
     have d1 : decide (v < bv) = true := decide_eq_true h1
     have d2 : decide ((u - ax) * (bv - ay) < (bx - ax) * (v - ay)) = false := decide_eq_false h2
     obtain ⟨m1, m2⟩ := mulS_bd (M := 1600000) (p := u - ax) (q := bv - ay) (by omega) (by omega)
     obtain ⟨m3, m4⟩ := mulS_bd (M := 1600000) (p := bx - ax) (q := v - ay) (by omega) (by omega)
     go_enter Tryz.func109, Tryz.ntmps109
     go_wp2
     go_ret
     exact ⟨rfl, by go_grown⟩
   ·rw [show crs0 (ax, ay) (bx, bv) u v = false from by unfold crs0; exact decide_eq_false (by simp only; omega)]
    have d0 : decide (ay ≤ v) = true := decide_eq_true h0
    have d1 : decide (v < bv) = false := decide_eq_false h1
    obtain ⟨m1, m2⟩ := mulS_bd (M := 1600000) (p := u - ax) (q := bv - ay) (by omega) (by omega)
    obtain ⟨m3, m4⟩ := mulS_bd (M := 1600000) (p := bx - ax) (q := v - ay) (by omega) (by omega)
    go_enter Tryz.func109, Tryz.ntmps109
    go_wp2
    go_ret
    exact ⟨rfl, by go_grown⟩
  ·rw [show crs0 (ax, ay) (bx, bv) u v = false from by unfold crs0; exact decide_eq_false (by simp only; omega)]
   have d0 : decide (ay ≤ v) = false := decide_eq_false h0
   obtain ⟨m1, m2⟩ := mulS_bd (M := 1600000) (p := u - ax) (q := bv - ay) (by omega) (by omega)
   obtain ⟨m3, m4⟩ := mulS_bd (M := 1600000) (p := bx - ax) (q := v - ay) (by omega) (by omega)
   go_enter Tryz.func109, Tryz.ntmps109
   go_wp2
   go_ret
   exact ⟨rfl, by go_grown⟩
theorem R15_rest (x n : Int) (hn : 0 < n ∧ n ≤ 1000000) (w : World) : Calls Tryz.prog 24 #[.int .i64 x, .int .i64 n] w fun e w' => e = .returned (.int .i64 (x % n)) ∧ Below w.heap.size w w' := by
 have e1 : Int.tmod (Int.tmod x n + n) n = x % n := by
  rw [Int.tmod_eq_emod_of_nonneg (a := Int.tmod x n + n) (by have := Int.lt_tmod_of_pos x (show 0 < n by omega); omega), Int.add_emod_right]
  have := Int.tmod_def x n
  rw [this, Int.sub_eq_add_neg, ← Int.mul_neg, Int.add_mul_emod_self_left]
 have b1 := Int.lt_tmod_of_pos x (show 0 < n by omega)
 have b2 := Int.tmod_lt_of_pos x (show 0 < n by omega)
 have e0 : n ≠ 0 := by omega
 go_enter Tryz.func24, Tryz.ntmps24
 go_wp2
 go_ret
 exact ⟨by first | rfl | (rw [e1]) | skip, by go_grown⟩
end Go.Proofs.YtamgpfblhlfhaaaGreat
/- Contracts of IndexFunc, ContainsFunc at points, of Valid, hull, Bounds of package selection and of its reference. -/
namespace Go.Proofs.YtamgpfblhlfhaaaGreat
open Go.RowKit Go.Shelf Pl
set_option linter.unusedVariables false
set_option linter.unusedSimpArgs false
set_option maxRecDepth 20000
theorem pt_at {l : List Pnt} {k : Nat} (h : k < l.length) {x y : Int} (he : ptG l k = (x, y)) : l[k]? = some (x, y) := by
 rw [← he]
 unfold ptG
 rw [List.getD_eq_getElem?_getD, List.getElem?_eq_getElem h]
 rfl
theorem any_yes {l : List Pnt} {k : Nat} (h : k < l.length) (hf : farP (ptG l k) = true) : (l.any fun p => farP p) = true := List.any_eq_true.2 ⟨_, ptG_mem h, hf⟩
theorem any_no {l : List Pnt} (hf : ∀ i, i < l.length → farP (ptG l i) = false) : (l.any fun p => farP p) = false := by
 rw [List.any_eq_false]
 intro p hp
 obtain ⟨i, hi, rfl⟩ := List.getElem_of_mem hp
 have := hf i hi
 unfold ptG at this
 rw [List.getD_eq_getElem?_getD, List.getElem?_eq_getElem hi] at this
 have this : farP l[i] = false := this
 rw [this]; decide
theorem validG_eq (l : List Pnt) : validG l = (decide (3 ≤ l.length ∧ l.length ≤ 64) && !(l.any fun p => farP p)) := by
 unfold validG
 congr 1
 induction l with
 | nil => rfl
 | cons p r ih => rw [List.all_cons, List.any_cons, ih, Bool.not_or]
set_option maxHeartbeats 1000000 in
theorem P_IndexFar (v : Value) (l : List Pnt) (w : World) (h : RSE ptE v l w) (hn : l.length ≤ maxLen) : Calls Tryz.prog 101 #[v, .func (.func 66) #[] #[]] w fun e w' => ∃ n : Int, e = .returned (.int .i64 n) ∧ decide (0 ≤ n) = (l.any fun p => farP p) ∧ Below w.heap.size w w' := by
 unfold maxLen at hn
 obtain ⟨a, c, rfl, hc⟩ := h.len
 have B := Below.refl w.heap.size w
 have HS := Lib.hid h
 have eg := enters_of Tryz.func66 (by kernel_rfl) rfl
 clear h
 go_enter Tryz.func101, Tryz.ntmps101
 go_wp2
 go_loopw [5, 8] (fun _ i wr => ∃ k : Nat, k ≤ l.length ∧ i = .int .i64 k ∧ (∀ i, i < k → farP (ptG l i) = false) ∧ Below w.heap.size w wr) (fun _ i _ => (l.length - intOf i).toNat)
 case atStart => exact ⟨0, by omega, rfl, fun i hi => absurd hi (by omega), B⟩
 case round =>
  clear B
  obtain ⟨k, hk, rfl, hno, B⟩ := hrel
  have HNO := Lib.hid hno
  clear hno
  by_cases hkl : k < l.length
  ·obtain ⟨g, o, rfl, rc0⟩ := HS.out.at (by omega)
   have rc := rc0.of_eq (B.block _ rc0.lt)
   clear rc0
   obtain ⟨⟨x, y⟩, he⟩ : ∃ e, ptG l k = e := ⟨_, rfl⟩
   have hp := pt_at hkl he
   cases hf : farP (x, y) with
   | false =>
    have HN2 := Lib.hid (show ∀ i, i < k + 1 → farP (ptG l i) = false from fun i hi => by
     by_cases e : i = k
     ·rw [e, he]; exact hf
     ·exact HNO.out i (by omega))
    go_wp2_with (first | (go_at_call 66; refine (P_far x y _).mono ?_; rintro e' wn ⟨rfl, hbn⟩; replace B := B.trans (hbn.mono B.size)) | (refine wpList_loadAny (t := 53) rfl _ rfl _ _ _ rfl (rce_pt rc hp) (by first | rfl | omega) ?_; simp only [putS]) | fail)
    go_roundw
    case rel => exact ⟨k + 1, by omega, by go_num, HN2.out, B⟩
    case measure => simp [intOf]; omega
   | true =>
    have H := Lib.hid (any_yes hkl (by rw [he]; exact hf))
    go_wp2_with (first | (go_at_call 66; refine (P_far x y _).mono ?_; rintro e' wn ⟨rfl, hbn⟩; replace B := B.trans (hbn.mono B.size)) | (refine wpList_loadAny (t := 53) rfl _ rfl _ _ _ rfl (rce_pt rc hp) (by first | rfl | omega) ?_; simp only [putS]) | fail)
    go_ret
    exact ⟨k, rfl, by rw [H.out]; exact decide_eq_true (by omega), B⟩
  ·obtain rfl : k = l.length := by omega
   have H := Lib.hid (any_no HNO.out)
   go_wp2
   go_ret
   exact ⟨-1, rfl, by rw [H.out]; rfl, B⟩
theorem P_ContainsFar (v : Value) (l : List Pnt) (w : World) (h : RSE ptE v l w) (hn : l.length ≤ maxLen) : Calls Tryz.prog 65 #[v, .func (.func 66) #[] #[]] w fun e w' => e = .returned (.bool (l.any fun p => farP p)) ∧ Below w.heap.size w w' := by
 have B := Below.refl w.heap.size w
 go_enter Tryz.func65, Tryz.ntmps65
 go_upto_region 1 with fail
 refine wp_region_lit ?_
 try simp only [gelS]
 refine wpList_chunk 2 (by kernel_rfl) ?_
 simp only [takS, Nat.reduceAdd]
 repeat (first | go_big_quiet_skip | (go_big_quiet_want; go_big_quiet_op; go_big_quiet_on))
 refine wpQuiet_nil ?_
 refine wpList_callF (by first | rfl | simp [Region.wanted, yielded]) rfl (enters_of Tryz.func101 (by kernel_rfl) rfl) (by simp only [Act.eval, evlS]; rfl) ?_
 refine (P_IndexFar _ l _ h hn).mono ?_
 rintro e wn ⟨n, rfl, hnn, hbn⟩
 have hsz := B.size
 have hzn := hbn.size
 replace B := B.trans (hbn.mono B.size)
 refine ⟨_, rfl, ?_⟩
 simp only [putS]
 refine wpList_chunk 2 (by kernel_rfl) ?_
 simp only [takS, Nat.reduceAdd]
 repeat (first | go_big_quiet_skip | (go_big_quiet_want; go_big_quiet_op; go_big_quiet_on))
 refine wpQuiet_nil ?_
 refine wpList_nil ?_
 iterate 3 go_step
 go_ret
 exact ⟨by rw [← hnn]; try rfl, B⟩
theorem P_ValidG (v : Value) (l : List Pnt) (w : World) (h : RSE ptE v l w) (hn : l.length ≤ maxLen) : Calls Tryz.prog 29 #[v] w fun e w' => e = .returned (.bool (validG l)) ∧ Below w.heap.size w w' := by
 have B := Below.refl w.heap.size w
 obtain ⟨a, c, rfl, hc⟩ := h.len
 have H := Lib.hid h
 have HV := Lib.hid (validG_eq l)
 clear h
 by_cases h1 : 3 ≤ l.length
 ·have d1 : decide (3 ≤ (l.length : Int)) = true := decide_eq_true (by omega)
  have d1' : decide (3 ≤ l.length) = true := decide_eq_true h1
  by_cases h2 : l.length ≤ 64
  ·have d2 : decide ((l.length : Int) ≤ 64) = true := decide_eq_true (by omega)
   have d2' : decide (l.length ≤ 64) = true := decide_eq_true h2
   have HW := Lib.hid (show validG l = !(l.any fun p => farP p) from by rw [HV.out, decide_eq_true ⟨h1, h2⟩, Bool.true_and])
   go_enter Tryz.func29, Tryz.ntmps29
   go_wp2_with (first | (go_at_call 65; refine (P_ContainsFar _ l _ H.out hn).mono ?_; rintro e' wn ⟨rfl, hbn⟩; replace B := B.trans (hbn.mono B.size)) | fail)
   go_ret
   exact ⟨by rw [HW.out]; try rfl, B⟩
  ·have d2 : decide ((l.length : Int) ≤ 64) = false := decide_eq_false (by omega)
   have d2' : decide (l.length ≤ 64) = false := decide_eq_false h2
   have HW := Lib.hid (show validG l = false from by rw [HV.out, decide_eq_false (fun k => h2 k.2), Bool.false_and])
   go_enter Tryz.func29, Tryz.ntmps29
   go_wp2_with (first | (go_at_call 65; refine (P_ContainsFar _ l _ H.out hn).mono ?_; rintro e' wn ⟨rfl, hbn⟩; replace B := B.trans (hbn.mono B.size)) | fail)
   go_ret
   exact ⟨by rw [HW.out]; try rfl, B⟩
 ·have d1 : decide (3 ≤ (l.length : Int)) = false := decide_eq_false (by omega)
  have d1' : decide (3 ≤ l.length) = false := decide_eq_false h1
  have HW := Lib.hid (show validG l = false from by rw [HV.out, decide_eq_false (fun k => h1 k.1), Bool.false_and])
  go_enter Tryz.func29, Tryz.ntmps29
  go_wp2_with (first | (go_at_call 65; refine (P_ContainsFar _ l _ H.out hn).mono ?_; rintro e' wn ⟨rfl, hbn⟩; replace B := B.trans (hbn.mono B.size)) | fail)
  go_ret
  exact ⟨by rw [HW.out]; try rfl, B⟩
/- Contracts of hull, Bounds of package selection and of its reference. -/
set_option maxHeartbeats 4000000 in
theorem P_hull (v : Value) (l : List Pnt) (w : World) (h : RSE ptE v l w) (hne : 0 < l.length) (hn : l.length ≤ 17592186044416) : Calls Tryz.prog 64 #[v] w fun e w' => e = .returned (.agg (rcA (hullG l))) ∧ Below w.heap.size w w' := by
 have B := Below.refl w.heap.size w
 obtain ⟨a, c, rfl, hc⟩ := h.len
 obtain ⟨g, o, rfl, pc⟩ := h.at hne
 clear h
 have PC := Lib.hid pc
 have HK := Lib.hid (fun k (hk : k < l.length) => hullK_step hk)
 have HA := Lib.hid (hullK_all (List.length_pos_iff.1 hne))
 obtain ⟨⟨x0, y0⟩, he0⟩ : ∃ e, ptG l 0 = e := ⟨_, rfl⟩
 have hp0 := pt_at hne he0
 have H0 := Lib.hid (show hullK l 0 = ⟨x0, y0, x0, y0⟩ from by show ptR (ptG l 0) = _; rw [he0]; rfl)
 have q0 : decide (0 < l.length) = true := decide_eq_true hne
 clear he0
 go_enter Tryz.func64, Tryz.ntmps64
 go_upto_region 0 with fail
 refine wp_region_lit ?_
 try simp only [gelS]
 (refine wpList_allocBk (t := 30) rfl _ (run_alloc_Rc _ _ rfl) ?_; intro b_r2 wn hle hge ht hbn hzn; have hsz := B.size; replace B := B.trans (hbn.mono (by omega)); have hln := Nat.lt_of_lt_of_eq (Nat.lt_succ_self _) hzn.symm; clear hzn; (try have hlt := pc.lt); (try replace pc := pc.below (hbn.mono hle)); have r2 := ht; clear ht; simp only [putS])
 refine wpList_nil ?_
 go_upto_region 1 with fail
 try simp only [gelS]
 try have lx_r2 := r2.lt
 try have lx_pc := pc.lt
 refine wp_region_RL 18 [(17, ptrS (wn.heap.size) 30 #[.int .i64 0, .int .i64 0, .int .i64 0, .int .i64 0])] (by kernel_rfl) (by kernel_rfl) (by kernel_rfl) ?_
 rotate_left 0
 simp only [takS, Nat.reduceAdd]
 refine wpRL_chunk 17 (by kernel_rfl) ?_
 simp only [takS, Nat.reduceAdd]
 repeat (first | go_big_quiet_skip | (go_big_quiet_want; first | (refine quiet_loadAny (t := 3) rfl _ _ _ rfl (fun w hw => rce_ptx (ov_rce pc w hw) hp0) (by first | rfl | omega) ?_; simp only [putS]; go_big_quiet_on) | (refine quiet_loadAny (t := 3) rfl _ _ _ rfl (fun w hw => rce_pty (ov_rce pc w hw) hp0) (by first | rfl | omega) ?_; simp only [putS]; go_big_quiet_on) | (go_big_quiet_op; go_big_quiet_on)))
 refine wpQuiet_nil ?_
 refine wpRL_callB (by rfl) (by first | rfl | simp [Region.wanted, yielded]) ?_ ?_
 ·intro wn hbn hE Kx hKx
  have hsz := B.size
  have hzn := hbn.size
  replace B := B.trans (hbn.mono B.size)
  (try replace r2 := r2.below hbn)
  (try replace pc := pc.below hbn)
  refine owp_allocBk (t := 30) _ (run_alloc_Rc _ _ rfl) ?_
  intro b wm h1 h2 ht hbm hzm
  exact hKx b wm ⟨Nat.le_trans hbn.size h1, ht⟩ (hbm.mono h1)
 rintro b_r3
 dsimp only [detS, ptrS]
 simp only [putS]
 refine wpRL_nil ?_
 intro wn hbn hE
 have hsz := B.size
 have hzn := hbn.size
 replace B := B.trans (hbn.mono B.size)
 (try replace r2 := r2.below hbn)
 (try replace pc := pc.below hbn)
 obtain ⟨hge_r3, r3⟩ : _ ∧ AtB _ _ _ _ := hE 17
 clear hE
 try simp only [List.drop_succ_cons, List.drop_zero]
 go_wp2_with (first | (refine wpList_storeB (t := 30) rfl _ _ rfl _ rfl _ rfl r3 (by kernel_rfl) rfl (by simp [rcA, Value.oneCell']) ?_; clear r3; intro wn ht hcn hzn; have hsz := B.size; replace hzn := Nat.le_of_eq hzn.symm; replace B := Chg.below B hcn (by omega) B.size; (try replace r2 := r2.of_eq (hcn.block _ r2.lt (by omega))); (try replace p5 := p5.of_eq (hcn.block _ p5.lt (by omega))); (try replace pc := pc.of_eq (hcn.block _ pc.lt (by omega))); have r3 := ht; clear ht; simp only [putS]) | fail)
 refine NoPan.normal ?_
 replace r3 : AtB 30 wn b_r3 (rcA (hullK l 0)) := by rw [H0.out]; exact r3
 have k2 := r2.lt
 have k3 := r3.lt
 clear hp0 q0
 go_upto_region 2 with fail
 refine wp_region_lit ?_
 try simp only [gelS]
 refine wpList_chunk 1 (by kernel_rfl) ?_
 simp only [takS, Nat.reduceAdd]
 repeat (first | go_big_quiet_skip | (go_big_quiet_want; go_big_quiet_op; go_big_quiet_on))
 refine wpQuiet_nil ?_
 refine wpList_lenS (by first | rfl | simp [Region.wanted, yielded]) rfl Tryz.underlying22 rfl ?_
 simp only [putS]
 refine wpList_chunk 1 (by kernel_rfl) ?_
 simp only [takS, Nat.reduceAdd]
 repeat (first | go_big_quiet_skip | (go_big_quiet_want; go_big_quiet_op; go_big_quiet_on))
 refine wpQuiet_nil ?_
 refine wpList_nil ?_
 go_wp2
 go_loopw [5, 25] (fun _ iv wr => ∃ k : Nat, k ≤ l.length ∧ iv = .int .i64 (k : Int) ∧ Below w.heap.size w wr ∧ AtB 30 wr b_r2 #[.int .i64 0, .int .i64 0, .int .i64 0, .int .i64 0] ∧ AtB 30 wr b_r3 (rcA (hullK l k))) (fun _ iv _ => (l.length - intOf iv).toNat)
 case atStart => exact ⟨0, by omega, rfl, B, r2, r3⟩
 case round =>
  clear B r2 r3 k2 k3 pc
  obtain ⟨k, hk, rfl, B, r2, r3⟩ := hrel
  have k2 := r2.lt
  have k3 := r3.lt
  have pc := PC.out.of_eq (B.block _ PC.out.lt)
  by_cases hkl : k < l.length
  ·have q1 : decide ((k : Int) < (l.length : Int)) = true := decide_eq_true (by omega)
   have q2 : decide (k < l.length) = true := decide_eq_true hkl
   obtain ⟨⟨x, y⟩, he⟩ : ∃ e, ptG l k = e := ⟨_, rfl⟩
   have hp := pt_at hkl he
   obtain ⟨⟨x1, y1, x2, y2⟩, hR⟩ : ∃ r, hullK l k = r := ⟨_, rfl⟩
   have HNX := Lib.hid (show hullK l (k + 1) = ⟨min x1 x, min y1 y, max x2 x, max y2 y⟩ from by rw [HK.out k hkl, hR, he]; rfl)
   rw [hR] at r3
   replace r3 : AtB 30 _ b_r3 #[.int .i64 x1, .int .i64 y1, .int .i64 x2, .int .i64 y2] := r3
   clear he hR
   go_upto_region 3 with fail
   refine wp_region_lit ?_
   try simp only [gelS]
   refine wpList_chunk 1 (by kernel_rfl) ?_
   simp only [takS, Nat.reduceAdd]
   repeat (first | go_big_quiet_skip | (go_big_quiet_want; go_big_quiet_op; go_big_quiet_on))
   refine wpQuiet_nil ?_
   refine wpList_nil ?_
   go_upto_region 4 with fail
   refine wp_region_lit ?_
   try simp only [gelS]
   refine wpList_chunk 2 (by kernel_rfl) ?_
   simp only [takS, Nat.reduceAdd]
   repeat (first | go_big_quiet_skip | (go_big_quiet_want; first | (refine quiet_loadAny (t := 53) rfl _ _ _ rfl (fun w hw => rce_pt (ov_rce pc w hw) hp) (by first | rfl | omega) ?_; simp only [putS]; go_big_quiet_on) | (go_big_quiet_op; go_big_quiet_on)))
   refine wpQuiet_nil ?_
   (refine wpList_allocBk (t := 53) rfl _ (run_alloc_Pt _ _ rfl) ?_; intro b_p5 wn hle hge ht hbn hzn; have hsz := B.size; replace B := B.trans (hbn.mono (by omega)); have hln := Nat.lt_of_lt_of_eq (Nat.lt_succ_self _) hzn.symm; clear hzn; (try have hlt := r2.lt); (try replace r2 := r2.below (hbn.mono hle)); (try have hlt := r3.lt); (try replace r3 := r3.below (hbn.mono hle)); (try have hlt := pc.lt); have p5 := ht; clear ht; simp only [putS])
   (refine wpList_storeB (t := 53) rfl _ _ rfl _ rfl _ rfl p5 (by kernel_rfl) rfl (by simp [rcA, Value.oneCell']) ?_; clear p5; intro wn ht hcn hzn; have hsz := B.size; replace hzn := Nat.le_of_eq hzn.symm; replace B := Chg.below B hcn (by omega) B.size; (try replace r2 := r2.of_eq (hcn.block _ r2.lt (by omega))); (try replace r3 := r3.of_eq (hcn.block _ r3.lt (by omega))); have p5 := ht; clear ht; simp only [putS])
   refine wpList_nil ?_
   replace p5 : AtB 53 _ b_p5 #[.int .i64 x, .int .i64 y] := p5
   go_upto_region 5 with fail
   refine wp_region_lit ?_
   try simp only [gelS]
   refine wpList_chunk 4 (by kernel_rfl) ?_
   simp only [takS, Nat.reduceAdd]
   repeat (first | go_big_quiet_skip | (go_big_quiet_want; first | (refine quiet_loadAny (t := 3) rfl _ _ _ rfl (fun w hw => run_load_int ((ov_B r3 w hw).cellL 0 rfl)) (by rfl) ?_; simp only [putS]; go_big_quiet_on) | (refine quiet_loadAny (t := 3) rfl _ _ _ rfl (fun w hw => run_load_int ((ov_B r3 w hw).cellL 1 rfl)) (by rfl) ?_; simp only [putS]; go_big_quiet_on) | (refine quiet_loadAny (t := 3) rfl _ _ _ rfl (fun w hw => run_load_int ((ov_B r3 w hw).cellL 2 rfl)) (by rfl) ?_; simp only [putS]; go_big_quiet_on) | (refine quiet_loadAny (t := 3) rfl _ _ _ rfl (fun w hw => run_load_int ((ov_B r3 w hw).cellL 3 rfl)) (by rfl) ?_; simp only [putS]; go_big_quiet_on) | (refine quiet_loadAny (t := 3) rfl _ _ _ rfl (fun w hw => run_load_int ((ov_B p5 w hw).cellL 0 rfl)) (by rfl) ?_; simp only [putS]; go_big_quiet_on) | (refine quiet_loadAny (t := 3) rfl _ _ _ rfl (fun w hw => run_load_int ((ov_B p5 w hw).cellL 1 rfl)) (by rfl) ?_; simp only [putS]; go_big_quiet_on) | (go_big_quiet_op; go_big_quiet_on)))
   refine wpQuiet_nil ?_
   refine wpList_minI (by first | rfl | simp [Region.wanted, yielded]) rfl rfl Tryz.underlying3 rfl rfl ?_
   simp only [putS]
   refine wpList_chunk 4 (by kernel_rfl) ?_
   simp only [takS, Nat.reduceAdd]
   repeat (first | go_big_quiet_skip | (go_big_quiet_want; first | (refine quiet_loadAny (t := 3) rfl _ _ _ rfl (fun w hw => run_load_int ((ov_B r3 w hw).cellL 0 rfl)) (by rfl) ?_; simp only [putS]; go_big_quiet_on) | (refine quiet_loadAny (t := 3) rfl _ _ _ rfl (fun w hw => run_load_int ((ov_B r3 w hw).cellL 1 rfl)) (by rfl) ?_; simp only [putS]; go_big_quiet_on) | (refine quiet_loadAny (t := 3) rfl _ _ _ rfl (fun w hw => run_load_int ((ov_B r3 w hw).cellL 2 rfl)) (by rfl) ?_; simp only [putS]; go_big_quiet_on) | (refine quiet_loadAny (t := 3) rfl _ _ _ rfl (fun w hw => run_load_int ((ov_B r3 w hw).cellL 3 rfl)) (by rfl) ?_; simp only [putS]; go_big_quiet_on) | (refine quiet_loadAny (t := 3) rfl _ _ _ rfl (fun w hw => run_load_int ((ov_B p5 w hw).cellL 0 rfl)) (by rfl) ?_; simp only [putS]; go_big_quiet_on) | (refine quiet_loadAny (t := 3) rfl _ _ _ rfl (fun w hw => run_load_int ((ov_B p5 w hw).cellL 1 rfl)) (by rfl) ?_; simp only [putS]; go_big_quiet_on) | (go_big_quiet_op; go_big_quiet_on)))
   refine wpQuiet_nil ?_
   refine wpList_minI (by first | rfl | simp [Region.wanted, yielded]) rfl rfl Tryz.underlying3 rfl rfl ?_
   simp only [putS]
   refine wpList_chunk 4 (by kernel_rfl) ?_
   simp only [takS, Nat.reduceAdd]
   repeat (first | go_big_quiet_skip | (go_big_quiet_want; first | (refine quiet_loadAny (t := 3) rfl _ _ _ rfl (fun w hw => run_load_int ((ov_B r3 w hw).cellL 0 rfl)) (by rfl) ?_; simp only [putS]; go_big_quiet_on) | (refine quiet_loadAny (t := 3) rfl _ _ _ rfl (fun w hw => run_load_int ((ov_B r3 w hw).cellL 1 rfl)) (by rfl) ?_; simp only [putS]; go_big_quiet_on) | (refine quiet_loadAny (t := 3) rfl _ _ _ rfl (fun w hw => run_load_int ((ov_B r3 w hw).cellL 2 rfl)) (by rfl) ?_; simp only [putS]; go_big_quiet_on) | (refine quiet_loadAny (t := 3) rfl _ _ _ rfl (fun w hw => run_load_int ((ov_B r3 w hw).cellL 3 rfl)) (by rfl) ?_; simp only [putS]; go_big_quiet_on) | (refine quiet_loadAny (t := 3) rfl _ _ _ rfl (fun w hw => run_load_int ((ov_B p5 w hw).cellL 0 rfl)) (by rfl) ?_; simp only [putS]; go_big_quiet_on) | (refine quiet_loadAny (t := 3) rfl _ _ _ rfl (fun w hw => run_load_int ((ov_B p5 w hw).cellL 1 rfl)) (by rfl) ?_; simp only [putS]; go_big_quiet_on) | (go_big_quiet_op; go_big_quiet_on)))
   refine wpQuiet_nil ?_
   refine wpList_maxI (by first | rfl | simp [Region.wanted, yielded]) rfl rfl Tryz.underlying3 rfl rfl ?_
   simp only [putS]
   refine wpList_chunk 4 (by kernel_rfl) ?_
   simp only [takS, Nat.reduceAdd]
   repeat (first | go_big_quiet_skip | (go_big_quiet_want; first | (refine quiet_loadAny (t := 3) rfl _ _ _ rfl (fun w hw => run_load_int ((ov_B r3 w hw).cellL 0 rfl)) (by rfl) ?_; simp only [putS]; go_big_quiet_on) | (refine quiet_loadAny (t := 3) rfl _ _ _ rfl (fun w hw => run_load_int ((ov_B r3 w hw).cellL 1 rfl)) (by rfl) ?_; simp only [putS]; go_big_quiet_on) | (refine quiet_loadAny (t := 3) rfl _ _ _ rfl (fun w hw => run_load_int ((ov_B r3 w hw).cellL 2 rfl)) (by rfl) ?_; simp only [putS]; go_big_quiet_on) | (refine quiet_loadAny (t := 3) rfl _ _ _ rfl (fun w hw => run_load_int ((ov_B r3 w hw).cellL 3 rfl)) (by rfl) ?_; simp only [putS]; go_big_quiet_on) | (refine quiet_loadAny (t := 3) rfl _ _ _ rfl (fun w hw => run_load_int ((ov_B p5 w hw).cellL 0 rfl)) (by rfl) ?_; simp only [putS]; go_big_quiet_on) | (refine quiet_loadAny (t := 3) rfl _ _ _ rfl (fun w hw => run_load_int ((ov_B p5 w hw).cellL 1 rfl)) (by rfl) ?_; simp only [putS]; go_big_quiet_on) | (go_big_quiet_op; go_big_quiet_on)))
   refine wpQuiet_nil ?_
   refine wpList_maxI (by first | rfl | simp [Region.wanted, yielded]) rfl rfl Tryz.underlying3 rfl rfl ?_
   simp only [putS]
   refine wpList_chunk 1 (by kernel_rfl) ?_
   simp only [takS, Nat.reduceAdd]
   repeat (first | go_big_quiet_skip | (go_big_quiet_want; go_big_quiet_op; go_big_quiet_on))
   refine wpQuiet_nil ?_
   (refine wpList_storeB (t := 30) rfl _ _ rfl _ rfl _ rfl r3 (by kernel_rfl) rfl (by simp [rcA, Value.oneCell']) ?_; clear r3; intro wn ht hcn hzn; have hsz := B.size; replace hzn := Nat.le_of_eq hzn.symm; replace B := Chg.below B hcn (by omega) B.size; (try replace r2 := r2.of_eq (hcn.block _ r2.lt (by omega))); have r3 := ht; clear ht; simp only [putS])
   refine wpList_nil ?_
   go_wp2
   go_roundw
   case rel => exact ⟨k + 1, by omega, by go_num, B, r2, by rw [HNX.out]; exact r3⟩
   case measure => simp [intOf]; omega
  ·obtain rfl : k = l.length := by omega
   have q1 : decide (((l.length : Nat) : Int) < (l.length : Int)) = false := decide_eq_false (by omega)
   have q2 : decide (l.length < l.length) = false := decide_eq_false (by omega)
   rw [HA.out] at r3
   go_upto_region 3 with fail
   refine wp_region_lit ?_
   try simp only [gelS]
   refine wpList_chunk 1 (by kernel_rfl) ?_
   simp only [takS, Nat.reduceAdd]
   repeat (first | go_big_quiet_skip | (go_big_quiet_want; go_big_quiet_op; go_big_quiet_on))
   refine wpQuiet_nil ?_
   refine wpList_nil ?_
   go_upto_region 7 with fail
   refine wp_region_lit ?_
   try simp only [gelS]
   refine wpList_chunk 1 (by kernel_rfl) ?_
   simp only [takS, Nat.reduceAdd]
   repeat (first | go_big_quiet_skip | (go_big_quiet_want; first | (refine quiet_loadAny (t := 30) rfl _ _ _ rfl (fun w hw => run_load_B (ov_B r3 w hw) Tryz.isAgg30 (by kernel_rfl)) (by rfl) ?_; simp only [putS]; go_big_quiet_on) | (go_big_quiet_op; go_big_quiet_on)))
   refine wpQuiet_nil ?_
   (refine wpList_storeB (t := 30) rfl _ _ rfl _ rfl _ rfl r2 (by kernel_rfl) rfl (by simp [rcA, Value.oneCell']) ?_; clear r2; intro wn ht hcn hzn; have hsz := B.size; replace hzn := Nat.le_of_eq hzn.symm; replace B := Chg.below B hcn (by omega) B.size; have r2 := ht; clear ht; simp only [putS])
   refine wpList_nil ?_
   go_wp2
   refine bodyPost_ret (results_B (t := 30) rfl _ _ (b_r2) rfl r2 Tryz.isAgg30 (by kernel_rfl)) rfl ?_
   exact ⟨rfl, B⟩
theorem P_InterO (r s : Rc) (q : Rc) (w : World) (e : interR r s = q) : Calls Tryz.prog 63 #[.agg (rcA r), .agg (rcA s)] w fun e w' => e = .returned (.agg (rcA q)) ∧ Below w.heap.size w w' := e ▸ P_Intersect r s w
theorem inter_self (r : Rc) : interR r r = normR r := by
 unfold interR
 congr 1
 obtain ⟨a, b, c, d⟩ := r
 simp
theorem P_ValidO (v : Value) (l : List Pnt) (b : Bool) (w : World) (h : RSE ptE v l w) (hn : l.length ≤ maxLen) (e : validG l = b) : Calls Tryz.prog 29 #[v] w fun e w' => e = .returned (.bool b) ∧ Below w.heap.size w w' := e ▸ P_ValidG v l w h hn
theorem run_build_Rc0 (w : World) : (Instr.build 30 #[]).run Tryz.prog w = .ok (.agg (rcA Rc.zero)) w := by kernel_rfl
theorem quiet_buildRc0 {o : Oper} {a : Act} {C : World → Prop} {K : Act → Prop} (h : o.op = .build 30 #[]) (hk : K (a.put o.dst (.agg (rcA Rc.zero)))) : o.quiet Tryz.prog a C K :=
 ⟨_, fun w hw => by
  unfold Oper.quietAt execOp
  simp only [h, List.map_toArray, List.map_nil, Sem.run_bind, run_build_Rc0, Result.andThen_ok, Sem.run_pure]
  exact ⟨rfl, rfl⟩, hk⟩
set_option maxHeartbeats 4000000 in
theorem P_BoundG (v : Value) (l : List Pnt) (w : World) (h : RSE ptE v l w) (hn : l.length ≤ maxLen) : Calls Tryz.prog 28 #[v] w fun e w' => e = .returned (.agg (rcA (boundG l))) ∧ Below w.heap.size w w' := by
 have B := Below.refl w.heap.size w
 have HS := Lib.hid h
 clear h
 cases hv : validG l with
 | true =>
  have HV := Lib.hid hv
  have e1 : boundG l = normR (hullG l) := by unfold boundG; rw [if_pos hv]
  have hl := (validG_iff.1 hv).1
  rw [e1]
  clear hv e1
  go_enter Tryz.func28, Tryz.ntmps28
  go_upto_region 0 with fail
  refine wp_region_lit ?_
  try simp only [gelS]
  (refine wpList_allocBk (t := 30) rfl _ (run_alloc_Rc _ _ rfl) ?_; intro b_r2 wn hle hge ht hbn hzn; have hsz := B.size; replace B := B.trans (hbn.mono (by omega)); have hln := Nat.lt_of_lt_of_eq (Nat.lt_succ_self _) hzn.symm; clear hzn; have r2 := ht; clear ht; simp only [putS])
  refine wpList_nil ?_
  go_upto_region 1 with fail
  refine wp_region_lit ?_
  try simp only [gelS]
  refine wpList_chunk 1 (by kernel_rfl) ?_
  simp only [takS, Nat.reduceAdd]
  repeat (first | go_big_quiet_skip | (go_big_quiet_want; go_big_quiet_op; go_big_quiet_on))
  refine wpQuiet_nil ?_
  refine wpList_callF (by first | rfl | simp [Region.wanted, yielded]) rfl (enters_of Tryz.func29 (by kernel_rfl) rfl) (by simp only [Act.eval, evlS]; rfl) ?_
  refine (P_ValidO _ l true _ (HS.out.below B) hn HV.out).mono ?_
  rintro e wn ⟨rfl, hbn⟩
  have hsz := B.size
  have hzn := hbn.size
  replace B := B.trans (hbn.mono B.size)
  (try replace r2 := r2.below hbn)
  refine ⟨_, rfl, ?_⟩
  simp only [putS]
  refine wpList_chunk 1 (by kernel_rfl) ?_
  simp only [takS, Nat.reduceAdd]
  repeat (first | go_big_quiet_skip | (go_big_quiet_want; go_big_quiet_op; go_big_quiet_on))
  refine wpQuiet_nil ?_
  refine wpList_nil ?_
  go_upto_region 3 with fail
  refine wp_region_lit ?_
  try simp only [gelS]
  refine wpList_chunk 1 (by kernel_rfl) ?_
  simp only [takS, Nat.reduceAdd]
  repeat (first | go_big_quiet_skip | (go_big_quiet_want; go_big_quiet_op; go_big_quiet_on))
  refine wpQuiet_nil ?_
  refine wpList_callF (by first | rfl | simp [Region.wanted, yielded]) rfl (enters_of Tryz.func64 (by kernel_rfl) rfl) (by simp only [Act.eval, evlS]; rfl) ?_
  refine (P_hull _ l _ (HS.out.below B) (by omega) (by omega)).mono ?_
  rintro e wn ⟨rfl, hbn⟩
  have hsz := B.size
  have hzn := hbn.size
  replace B := B.trans (hbn.mono B.size)
  (try replace r2 := r2.below hbn)
  refine ⟨_, rfl, ?_⟩
  simp only [putS]
  refine wpList_chunk 1 (by kernel_rfl) ?_
  simp only [takS, Nat.reduceAdd]
  repeat (first | go_big_quiet_skip | (go_big_quiet_want; go_big_quiet_op; go_big_quiet_on))
  refine wpQuiet_nil ?_
  refine wpList_callF (by first | rfl | simp [Region.wanted, yielded]) rfl (enters_of Tryz.func64 (by kernel_rfl) rfl) (by simp only [Act.eval, evlS]; rfl) ?_
  refine (P_hull _ l _ (HS.out.below B) (by omega) (by omega)).mono ?_
  rintro e wn ⟨rfl, hbn⟩
  have hsz := B.size
  have hzn := hbn.size
  replace B := B.trans (hbn.mono B.size)
  (try replace r2 := r2.below hbn)
  refine ⟨_, rfl, ?_⟩
  simp only [putS]
  refine wpList_callF (by first | rfl | simp [Region.wanted, yielded]) rfl (enters_of Tryz.func63 (by kernel_rfl) rfl) (by simp only [Act.eval, evlS]; rfl) ?_
  refine (P_InterO _ _ _ _ (inter_self (hullG l))).mono ?_
  rintro e wn ⟨rfl, hbn⟩
  have hsz := B.size
  have hzn := hbn.size
  replace B := B.trans (hbn.mono B.size)
  (try replace r2 := r2.below hbn)
  refine ⟨_, rfl, ?_⟩
  simp only [putS]
  (refine wpList_storeB (t := 30) rfl _ _ rfl _ rfl _ rfl r2 (by kernel_rfl) rfl (by simp [rcA, Value.oneCell']) ?_; clear r2; intro wn ht hcn hzn; have hsz := B.size; replace hzn := Nat.le_of_eq hzn.symm; replace B := Chg.below B hcn (by omega) B.size; have r2 := ht; clear ht; simp only [putS])
  refine wpList_nil ?_
  go_wp2
  refine bodyPost_ret (results_B (t := 30) rfl _ _ (b_r2) rfl r2 Tryz.isAgg30 (by kernel_rfl)) rfl ?_
  exact ⟨rfl, B⟩
 | false =>
  have HV := Lib.hid hv
  have e1 : boundG l = Rc.zero := by unfold boundG; rw [hv]; rfl
  rw [e1]
  clear hv e1
  go_enter Tryz.func28, Tryz.ntmps28
  go_upto_region 0 with fail
  refine wp_region_lit ?_
  try simp only [gelS]
  (refine wpList_allocBk (t := 30) rfl _ (run_alloc_Rc _ _ rfl) ?_; intro b_r2 wn hle hge ht hbn hzn; have hsz := B.size; replace B := B.trans (hbn.mono (by omega)); have hln := Nat.lt_of_lt_of_eq (Nat.lt_succ_self _) hzn.symm; clear hzn; (try have hlt := r2.lt); (try replace r2 := r2.below (hbn.mono hle)); have r2 := ht; clear ht; simp only [putS])
  refine wpList_nil ?_
  go_upto_region 1 with fail
  refine wp_region_lit ?_
  try simp only [gelS]
  refine wpList_chunk 1 (by kernel_rfl) ?_
  simp only [takS, Nat.reduceAdd]
  repeat (first | go_big_quiet_skip | (go_big_quiet_want; go_big_quiet_op; go_big_quiet_on))
  refine wpQuiet_nil ?_
  refine wpList_callF (by first | rfl | simp [Region.wanted, yielded]) rfl (enters_of Tryz.func29 (by kernel_rfl) rfl) (by simp only [Act.eval, evlS]; rfl) ?_
  refine (P_ValidO _ l false _ (HS.out.below B) hn HV.out).mono ?_
  rintro e wn ⟨rfl, hbn⟩
  have hsz := B.size
  have hzn := hbn.size
  replace B := B.trans (hbn.mono B.size)
  (try replace r2 := r2.below hbn)
  refine ⟨_, rfl, ?_⟩
  simp only [putS]
  refine wpList_chunk 1 (by kernel_rfl) ?_
  simp only [takS, Nat.reduceAdd]
  repeat (first | go_big_quiet_skip | (go_big_quiet_want; go_big_quiet_op; go_big_quiet_on))
  refine wpQuiet_nil ?_
  refine wpList_nil ?_
  go_upto_region 2 with fail
  refine wp_region_lit ?_
  try simp only [gelS]
  refine wpList_chunk 1 (by kernel_rfl) ?_
  simp only [takS, Nat.reduceAdd]
  repeat (first | go_big_quiet_skip | (go_big_quiet_want; first | (refine quiet_buildRc0 rfl ?_; simp only [putS]; go_big_quiet_on) | (go_big_quiet_op; go_big_quiet_on)))
  refine wpQuiet_nil ?_
  (refine wpList_storeB (t := 30) rfl _ _ rfl _ rfl _ rfl r2 (by kernel_rfl) rfl (by simp [rcA, Value.oneCell']) ?_; clear r2; intro wn ht hcn hzn; have hsz := B.size; replace hzn := Nat.le_of_eq hzn.symm; replace B := Chg.below B hcn (by omega) B.size; have r2 := ht; clear ht; simp only [putS])
  refine wpList_nil ?_
  go_wp2
  refine bodyPost_ret (results_B (t := 30) rfl _ _ (b_r2) rfl r2 Tryz.isAgg30 (by kernel_rfl)) rfl ?_
  exact ⟨rfl, B⟩
/- Contracts of odd, cover, Cover of package selection and of its reference; of Path. -/
theorem P_crossesO (ax ay bx bv u v : Int) (b : Bool) (h1 : -600000 ≤ ax ∧ ax ≤ 600000) (h2 : -600000 ≤ ay ∧ ay ≤ 600000) (h3 : -600000 ≤ bx ∧ bx ≤ 600000) (h4 : -600000 ≤ bv ∧ bv ≤ 600000) (h5 : -600000 ≤ u ∧ u ≤ 600000) (h6 : -600000 ≤ v ∧ v ≤ 600000) (w : World) (e : crs (ax, ay) (bx, bv) u v = b) : Calls Tryz.prog 109 #[.agg #[.int .i64 ax, .int .i64 ay], .agg #[.int .i64 bx, .int .i64 bv], .int .i64 u, .int .i64 v] w fun e w' => e = .returned (.bool b) ∧ Below w.heap.size w w' := e ▸ P_crosses ax ay bx bv u v h1 h2 h3 h4 h5 h6 w
theorem parK_step {f : Nat → Bool} {k : Nat} {b c : Bool} (h : parK f k = c) (hf : f k = b) : parK f (k + 1) = if b = true then !c else c := by
 show Bool.xor (parK f k) (f k) = _
 rw [h, hf]
 cases b <;> cases c <;> rfl
set_option maxHeartbeats 8000000 in
theorem P_odd (v : Value) (l : List Pnt) (u vv : Int) (w : World) (h : RSE ptE v l w) (hn : l.length ≤ 17592186044416) (hnear : nearL l) (hu : -600000 ≤ u ∧ u ≤ 600000) (hv : -600000 ≤ vv ∧ vv ≤ 600000) : Calls Tryz.prog 70 #[v, .int .i64 u, .int .i64 vv] w fun e w' => e = .returned (.bool (oddG l u vv)) ∧ Below w.heap.size w w' := by
 have B := Below.refl w.heap.size w
 obtain ⟨a, c, rfl, hc⟩ := h.len
 have HS := Lib.hid h
 have HN := Lib.hid hnear
 have hu1 := hu
 have hv1 := hv
 clear h hnear hu hv
 go_enter Tryz.func70, Tryz.ntmps70
 go_upto_region 2 with fail
 refine wp_region_lit ?_
 try simp only [gelS]
 refine wpList_chunk 1 (by kernel_rfl) ?_
 simp only [takS, Nat.reduceAdd]
 repeat (first | go_big_quiet_skip | (go_big_quiet_want; go_big_quiet_op; go_big_quiet_on))
 refine wpQuiet_nil ?_
 refine wpList_lenS (by first | rfl | simp [Region.wanted, yielded]) rfl Tryz.underlying22 rfl ?_
 simp only [putS]
 refine wpList_chunk 1 (by kernel_rfl) ?_
 simp only [takS, Nat.reduceAdd]
 repeat (first | go_big_quiet_skip | (go_big_quiet_want; go_big_quiet_op; go_big_quiet_on))
 refine wpQuiet_nil ?_
 refine wpList_nil ?_
 go_wp2
 go_loopw [7, 8, 9, 10, 13] (fun iv _ _ _ kv wr => ∃ k : Nat, k ≤ l.length ∧ kv = .int .i64 (k : Int) ∧ iv = .bool (parK (edgeB l u vv) k) ∧ Below w.heap.size w wr) (fun iv _ _ _ kv _ => (l.length - intOf kv).toNat)
 case atStart => exact ⟨0, by omega, rfl, rfl, B⟩
 case round =>
  clear B
  obtain ⟨k, hk, rfl, rfl, B⟩ := hrel
  by_cases hkl : k < l.length
  ·have q1 : decide ((k : Int) < (l.length : Int)) = true := decide_eq_true (by omega)
   have q2 : decide (k < l.length) = true := decide_eq_true hkl
   obtain ⟨g, o, rfl, rc0⟩ := HS.out.at (by omega)
   have pc := rc0.of_eq (B.block _ rc0.lt)
   clear rc0
   obtain ⟨j, hj⟩ : ∃ j, (k + 1) % l.length = j := ⟨_, rfl⟩
   have hjl : j < l.length := by rw [← hj]; exact Nat.mod_lt _ (by omega)
   have hm : ((k : Int) + 1) % (l.length : Int) = (j : Int) := by rw [← hj, Int.natCast_emod]; rfl
   have hmt : Int.tmod ((k : Int) + 1) (l.length : Int) = (j : Int) := by rw [Int.tmod_eq_emod_of_nonneg (by omega), hm]
   have hn0 : (l.length : Int) ≠ 0 := by omega
   have q3 : decide (j < l.length) = true := decide_eq_true hjl
   obtain ⟨⟨x, y⟩, he⟩ : ∃ e, ptG l k = e := ⟨_, rfl⟩
   obtain ⟨⟨x2, y2⟩, he2⟩ : ∃ e, ptG l j = e := ⟨_, rfl⟩
   have hp := pt_at hkl he
   have hp2 := pt_at hjl he2
   obtain ⟨b1, b2, b3, b4⟩ := farP_no.1 (HN.out _ (ptG_mem hkl))
   obtain ⟨b5, b6, b7, b8⟩ := farP_no.1 (HN.out _ (ptG_mem hjl))
   rw [he] at b1 b2 b3 b4
   rw [he2] at b5 b6 b7 b8
   dsimp only at b1 b2 b3 b4 b5 b6 b7 b8
   have HEB := Lib.hid (show edgeB l u vv k = crs (8 * x, 8 * y) (8 * x2, 8 * y2) u vv from by unfold edgeB; rw [hj, he, he2]; rfl)
   clear hj he he2
   obtain ⟨P0, hP0⟩ : ∃ b, parK (edgeB l u vv) k = b := ⟨_, rfl⟩
   rw [hP0]
   have HP0 := Lib.hid hP0
   clear hP0
   cases hcr : crs (8 * x, 8 * y) (8 * x2, 8 * y2) u vv with
   | true =>
    have HC := Lib.hid hcr
    have HST := Lib.hid (parK_step HP0.out (HEB.out.trans hcr))
    clear hcr
    go_upto_region 3 with fail
    refine wp_region_lit ?_
    try simp only [gelS]
    refine wpList_chunk 1 (by kernel_rfl) ?_
    simp only [takS, Nat.reduceAdd]
    repeat (first | go_big_quiet_skip | (go_big_quiet_want; go_big_quiet_op; go_big_quiet_on))
    refine wpQuiet_nil ?_
    refine wpList_nil ?_
    go_upto_region 4 with fail
    refine wp_region_lit ?_
    try simp only [gelS]
    refine wpList_chunk 3 (by kernel_rfl) ?_
    simp only [takS, Nat.reduceAdd]
    repeat (first | go_big_quiet_skip | (go_big_quiet_want; first | (refine quiet_loadAny (t := 53) rfl _ _ _ rfl (fun w hw => rce_pt (ov_rce pc w hw) hp) (by first | rfl | omega) ?_; simp only [putS]; go_big_quiet_on) | (go_big_quiet_op; go_big_quiet_on)))
    refine wpQuiet_nil ?_
    (refine wpList_allocBk (t := 53) rfl _ (run_alloc_Pt _ _ rfl) ?_; intro b_p9 wn hle hge ht hbn hzn; have hsz := B.size; replace B := B.trans (hbn.mono (by omega)); have hln := Nat.lt_of_lt_of_eq (Nat.lt_succ_self _) hzn.symm; clear hzn; (try have hlt := pc.lt); (try replace pc := pc.below (hbn.mono hle)); have p9 := ht; clear ht; simp only [putS])
    refine wpList_chunk 1 (by kernel_rfl) ?_
    simp only [takS, Nat.reduceAdd]
    repeat (first | go_big_quiet_skip | (go_big_quiet_want; go_big_quiet_op; go_big_quiet_on))
    refine wpQuiet_nil ?_
    (refine wpList_storeB (t := 53) rfl _ _ rfl _ rfl _ rfl p9 (by kernel_rfl) rfl (by simp [Value.oneCell']) ?_; clear p9; intro wn ht hcn hzn; have hsz := B.size; replace hzn := Nat.le_of_eq hzn.symm; replace B := Chg.below B hcn (by omega) B.size; (try replace pc := pc.of_eq (hcn.block _ pc.lt (by omega))); have p9 := ht; clear ht; simp only [putS])
    refine wpList_nil ?_
    replace p9 : AtB 53 _ b_p9 #[.int .i64 x, .int .i64 y] := p9
    go_upto_region 5 with fail
    refine wp_region_lit ?_
    try simp only [gelS]
    refine wpList_chunk 4 (by kernel_rfl) ?_
    simp only [takS, Nat.reduceAdd]
    repeat (first | go_big_quiet_skip | (go_big_quiet_want; go_big_quiet_op; go_big_quiet_on))
    refine wpQuiet_nil ?_
    refine wpList_lenS (by first | rfl | simp [Region.wanted, yielded]) rfl Tryz.underlying22 rfl ?_
    simp only [putS]
    refine wpList_chunk 3 (by kernel_rfl) ?_
    simp only [takS, Nat.reduceAdd]
    repeat (first | go_big_quiet_skip | (go_big_quiet_want; first | (refine quiet_loadAny (t := 53) rfl _ _ _ rfl (fun w hw => rce_pt (ov_rce pc w hw) hp2) (by first | rfl | omega) ?_; simp only [putS]; go_big_quiet_on) | (go_big_quiet_op; go_big_quiet_on)))
    refine wpQuiet_nil ?_
    (refine wpList_allocBk (t := 53) rfl _ (run_alloc_Pt _ _ rfl) ?_; intro b_p10 wn hle hge ht hbn hzn; have hsz := B.size; replace B := B.trans (hbn.mono (by omega)); have hln := Nat.lt_of_lt_of_eq (Nat.lt_succ_self _) hzn.symm; clear hzn; (try have hlt := p9.lt); (try replace p9 := p9.below (hbn.mono hle)); (try have hlt := pc.lt); (try replace pc := pc.below (hbn.mono hle)); have p10 := ht; clear ht; simp only [putS])
    (refine wpList_storeB (t := 53) rfl _ _ rfl _ rfl _ rfl p10 (by kernel_rfl) rfl (by simp [Value.oneCell']) ?_; clear p10; intro wn ht hcn hzn; have hsz := B.size; replace hzn := Nat.le_of_eq hzn.symm; replace B := Chg.below B hcn (by omega) B.size; (try replace p9 := p9.of_eq (hcn.block _ p9.lt (by omega))); (try replace pc := pc.of_eq (hcn.block _ pc.lt (by omega))); have p10 := ht; clear ht; simp only [putS])
    refine wpList_nil ?_
    replace p10 : AtB 53 _ b_p10 #[.int .i64 x2, .int .i64 y2] := p10
    go_upto_region 6 with fail
    refine wp_region_lit ?_
    try simp only [gelS]
    refine wpList_chunk 16 (by kernel_rfl) ?_
    simp only [takS, Nat.reduceAdd]
    repeat (first | go_big_quiet_skip | (go_big_quiet_want; first | (refine quiet_loadAny (t := 3) rfl _ _ _ rfl (fun w hw => run_load_int ((ov_B p9 w hw).cellL 0 rfl)) (by rfl) ?_; simp only [putS]; go_big_quiet_on) | (refine quiet_loadAny (t := 3) rfl _ _ _ rfl (fun w hw => run_load_int ((ov_B p9 w hw).cellL 1 rfl)) (by rfl) ?_; simp only [putS]; go_big_quiet_on) | (refine quiet_loadAny (t := 3) rfl _ _ _ rfl (fun w hw => run_load_int ((ov_B p10 w hw).cellL 0 rfl)) (by rfl) ?_; simp only [putS]; go_big_quiet_on) | (refine quiet_loadAny (t := 3) rfl _ _ _ rfl (fun w hw => run_load_int ((ov_B p10 w hw).cellL 1 rfl)) (by rfl) ?_; simp only [putS]; go_big_quiet_on) | (go_big_quiet_op; go_big_quiet_on)))
    refine wpQuiet_nil ?_
    refine wpList_callF (by first | rfl | simp [Region.wanted, yielded]) rfl (enters_of Tryz.func109 (by kernel_rfl) rfl) (by simp only [Act.eval, evlS]; rfl) ?_
    refine (P_crossesO (8 * x) (8 * y) (8 * x2) (8 * y2) u vv true (by omega) (by omega) (by omega) (by omega) hu1 hv1 _ HC.out).mono ?_
    rintro e wn ⟨rfl, hbn⟩
    have hsz := B.size
    have hzn := hbn.size
    replace B := B.trans (hbn.mono B.size)
    (try replace p9 := p9.below hbn)
    (try replace p10 := p10.below hbn)
    (try replace pc := pc.below hbn)
    refine ⟨_, rfl, ?_⟩
    simp only [putS]
    refine wpList_nil ?_
    go_wp2
    go_roundw
    case rel => exact ⟨k + 1, by omega, by go_num, by rw [HST.out]; try rfl, B⟩
    case measure => simp [intOf]; omega
   | false =>
    have HC := Lib.hid hcr
    have HST := Lib.hid (parK_step HP0.out (HEB.out.trans hcr))
    clear hcr
    go_upto_region 3 with fail
    refine wp_region_lit ?_
    try simp only [gelS]
    refine wpList_chunk 1 (by kernel_rfl) ?_
    simp only [takS, Nat.reduceAdd]
    repeat (first | go_big_quiet_skip | (go_big_quiet_want; go_big_quiet_op; go_big_quiet_on))
    refine wpQuiet_nil ?_
    refine wpList_nil ?_
    go_upto_region 4 with fail
    refine wp_region_lit ?_
    try simp only [gelS]
    refine wpList_chunk 3 (by kernel_rfl) ?_
    simp only [takS, Nat.reduceAdd]
    repeat (first | go_big_quiet_skip | (go_big_quiet_want; first | (refine quiet_loadAny (t := 53) rfl _ _ _ rfl (fun w hw => rce_pt (ov_rce pc w hw) hp) (by first | rfl | omega) ?_; simp only [putS]; go_big_quiet_on) | (go_big_quiet_op; go_big_quiet_on)))
    refine wpQuiet_nil ?_
    (refine wpList_allocBk (t := 53) rfl _ (run_alloc_Pt _ _ rfl) ?_; intro b_p9 wn hle hge ht hbn hzn; have hsz := B.size; replace B := B.trans (hbn.mono (by omega)); have hln := Nat.lt_of_lt_of_eq (Nat.lt_succ_self _) hzn.symm; clear hzn; (try have hlt := p9.lt); (try replace p9 := p9.below (hbn.mono hle)); (try have hlt := p10.lt); (try replace p10 := p10.below (hbn.mono hle)); (try have hlt := pc.lt); (try replace pc := pc.below (hbn.mono hle)); have p9 := ht; clear ht; simp only [putS])
    refine wpList_chunk 1 (by kernel_rfl) ?_
    simp only [takS, Nat.reduceAdd]
    repeat (first | go_big_quiet_skip | (go_big_quiet_want; go_big_quiet_op; go_big_quiet_on))
    refine wpQuiet_nil ?_
    (refine wpList_storeB (t := 53) rfl _ _ rfl _ rfl _ rfl p9 (by kernel_rfl) rfl (by simp [Value.oneCell']) ?_; clear p9; intro wn ht hcn hzn; have hsz := B.size; replace hzn := Nat.le_of_eq hzn.symm; replace B := Chg.below B hcn (by omega) B.size; (try replace p10 := p10.of_eq (hcn.block _ p10.lt (by omega))); (try replace pc := pc.of_eq (hcn.block _ pc.lt (by omega))); have p9 := ht; clear ht; simp only [putS])
    refine wpList_nil ?_
    replace p9 : AtB 53 _ b_p9 #[.int .i64 x, .int .i64 y] := p9
    go_upto_region 5 with fail
    refine wp_region_lit ?_
    try simp only [gelS]
    refine wpList_chunk 4 (by kernel_rfl) ?_
    simp only [takS, Nat.reduceAdd]
    repeat (first | go_big_quiet_skip | (go_big_quiet_want; go_big_quiet_op; go_big_quiet_on))
    refine wpQuiet_nil ?_
    refine wpList_lenS (by first | rfl | simp [Region.wanted, yielded]) rfl Tryz.underlying22 rfl ?_
    simp only [putS]
    refine wpList_chunk 3 (by kernel_rfl) ?_
    simp only [takS, Nat.reduceAdd]
    repeat (first | go_big_quiet_skip | (go_big_quiet_want; first | (refine quiet_loadAny (t := 53) rfl _ _ _ rfl (fun w hw => rce_pt (ov_rce pc w hw) hp2) (by first | rfl | omega) ?_; simp only [putS]; go_big_quiet_on) | (go_big_quiet_op; go_big_quiet_on)))
    refine wpQuiet_nil ?_
    (refine wpList_allocBk (t := 53) rfl _ (run_alloc_Pt _ _ rfl) ?_; intro b_p10 wn hle hge ht hbn hzn; have hsz := B.size; replace B := B.trans (hbn.mono (by omega)); have hln := Nat.lt_of_lt_of_eq (Nat.lt_succ_self _) hzn.symm; clear hzn; (try have hlt := p9.lt); (try replace p9 := p9.below (hbn.mono hle)); (try have hlt := p10.lt); (try replace p10 := p10.below (hbn.mono hle)); (try have hlt := pc.lt); have p10 := ht; clear ht; simp only [putS])
    (refine wpList_storeB (t := 53) rfl _ _ rfl _ rfl _ rfl p10 (by kernel_rfl) rfl (by simp [Value.oneCell']) ?_; clear p10; intro wn ht hcn hzn; have hsz := B.size; replace hzn := Nat.le_of_eq hzn.symm; replace B := Chg.below B hcn (by omega) B.size; (try replace p9 := p9.of_eq (hcn.block _ p9.lt (by omega))); have p10 := ht; clear ht; simp only [putS])
    refine wpList_nil ?_
    replace p10 : AtB 53 _ b_p10 #[.int .i64 x2, .int .i64 y2] := p10
    go_upto_region 6 with fail
    refine wp_region_lit ?_
    try simp only [gelS]
    refine wpList_chunk 16 (by kernel_rfl) ?_
    simp only [takS, Nat.reduceAdd]
    repeat (first | go_big_quiet_skip | (go_big_quiet_want; first | (refine quiet_loadAny (t := 3) rfl _ _ _ rfl (fun w hw => run_load_int ((ov_B p9 w hw).cellL 0 rfl)) (by rfl) ?_; simp only [putS]; go_big_quiet_on) | (refine quiet_loadAny (t := 3) rfl _ _ _ rfl (fun w hw => run_load_int ((ov_B p9 w hw).cellL 1 rfl)) (by rfl) ?_; simp only [putS]; go_big_quiet_on) | (refine quiet_loadAny (t := 3) rfl _ _ _ rfl (fun w hw => run_load_int ((ov_B p10 w hw).cellL 0 rfl)) (by rfl) ?_; simp only [putS]; go_big_quiet_on) | (refine quiet_loadAny (t := 3) rfl _ _ _ rfl (fun w hw => run_load_int ((ov_B p10 w hw).cellL 1 rfl)) (by rfl) ?_; simp only [putS]; go_big_quiet_on) | (go_big_quiet_op; go_big_quiet_on)))
    refine wpQuiet_nil ?_
    refine wpList_callF (by first | rfl | simp [Region.wanted, yielded]) rfl (enters_of Tryz.func109 (by kernel_rfl) rfl) (by simp only [Act.eval, evlS]; rfl) ?_
    refine (P_crossesO (8 * x) (8 * y) (8 * x2) (8 * y2) u vv false (by omega) (by omega) (by omega) (by omega) hu1 hv1 _ HC.out).mono ?_
    rintro e wn ⟨rfl, hbn⟩
    have hsz := B.size
    have hzn := hbn.size
    replace B := B.trans (hbn.mono B.size)
    refine ⟨_, rfl, ?_⟩
    simp only [putS]
    refine wpList_nil ?_
    go_wp2
    go_roundw
    case rel => exact ⟨k + 1, by omega, by go_num, by rw [HST.out]; try rfl, B⟩
    case measure => simp [intOf]; omega
  ·obtain rfl : k = l.length := by omega
   have q1 : decide (((l.length : Nat) : Int) < (l.length : Int)) = false := decide_eq_false (by omega)
   have q2 : decide (l.length < l.length) = false := decide_eq_false (by omega)
   go_wp2
   go_ret
   exact ⟨rfl, B⟩
theorem P_oddO (v : Value) (l : List Pnt) (u vv : Int) (b : Bool) (w : World) (h : RSE ptE v l w) (hn : l.length ≤ 17592186044416) (hnear : nearL l) (hu : -600000 ≤ u ∧ u ≤ 600000) (hv : -600000 ≤ vv ∧ vv ≤ 600000) (e : oddG l u vv = b) : Calls Tryz.prog 70 #[v, .int .i64 u, .int .i64 vv] w fun e w' => e = .returned (.bool b) ∧ Below w.heap.size w w' := e ▸ P_odd v l u vv w h hn hnear hu hv
/- Contracts of cover, Cover of package selection and of its reference; of Path. -/
theorem cntK_step {f : Nat → Bool} {k c : Nat} {b : Bool} (h : cntK f k = c) (hf : f k = b) : cntK f (k + 1) = if b = true then c + 1 else c := by
 show cntK f k + (if f k = true then 1 else 0) = _
 rw [h, hf]
 cases b <;> rfl
set_option maxHeartbeats 4000000 in
theorem P_cover (v : Value) (l : List Pnt) (x y : Int) (w : World) (h : RSE ptE v l w) (hn : l.length ≤ 17592186044416) (hnear : nearL l) (hx : -70000 ≤ x ∧ x ≤ 70000) (hy : -70000 ≤ y ∧ y ≤ 70000) : Calls Tryz.prog 34 #[v, .int .i64 x, .int .i64 y] w fun e w' => e = .returned (.int .i64 (covG l x y)) ∧ Below w.heap.size w w' := by
 have B := Below.refl w.heap.size w
 have HS := Lib.hid h
 have HN := Lib.hid hnear
 have hx1 := hx
 have hy1 := hy
 clear h hnear hx hy
 have HC := Lib.hid (show covG l x y = (255 * (cntK (smpG l x y) 16 : Int) + 8) / 16 from rfl)
 go_enter Tryz.func34, Tryz.ntmps34
 go_wp2
 go_loopw [7, 8, 9] (fun nv _ kv wr => ∃ k : Nat, k ≤ 16 ∧ kv = .int .i64 (k : Int) ∧ nv = .int .i64 (cntK (smpG l x y) k : Int) ∧ Below w.heap.size w wr) (fun _ _ kv _ => (16 - intOf kv).toNat)
 case atStart => exact ⟨0, by omega, rfl, rfl, B⟩
 case round =>
  clear B
  obtain ⟨k, hk, rfl, rfl, B⟩ := hrel
  have hcl := cntK_le (smpG l x y) k
  obtain ⟨c, hc⟩ : ∃ c, cntK (smpG l x y) k = c := ⟨_, rfl⟩
  rw [hc] at hcl ⊢
  have HCN := Lib.hid hc
  clear hc
  by_cases hk6 : k < 16
  ·have q1 : decide ((k : Int) < 16) = true := decide_eq_true (by omega)
   have q2 : decide (k < 16) = true := decide_eq_true hk6
   cases ho : oddG l (8 * x + 2 * ((k : Int) % 4) + 1) (8 * y + 2 * ((k : Int) / 4) + 1) with
   | true =>
    have HO := Lib.hid ho
    have HST := Lib.hid (cntK_step HCN.out (show smpG l x y k = true from ho))
    clear ho
    go_upto_region 3 with fail
    refine wp_region_lit ?_
    try simp only [gelS]
    refine wpList_chunk 1 (by kernel_rfl) ?_
    simp only [takS, Nat.reduceAdd]
    repeat (first | go_big_quiet_skip | (go_big_quiet_want; go_big_quiet_op; go_big_quiet_on))
    refine wpQuiet_nil ?_
    refine wpList_nil ?_
    go_upto_region 5 with fail
    refine wp_region_lit ?_
    try simp only [gelS]
    refine wpList_chunk 15 (by kernel_rfl) ?_
    simp only [takS, Nat.reduceAdd]
    repeat (first | go_big_quiet_skip | (go_big_quiet_want; go_big_quiet_op; go_big_quiet_on))
    refine wpQuiet_nil ?_
    refine wpList_callF (by first | rfl | simp [Region.wanted, yielded]) rfl (enters_of Tryz.func70 (by kernel_rfl) rfl) (by simp only [Act.eval, evlS]; rfl) ?_
    refine (P_oddO _ l (8 * x + 2 * ((k : Int) % 4) + 1) (8 * y + 2 * ((k : Int) / 4) + 1) true _ (HS.out.below B) (by omega) HN.out (by omega) (by omega) HO.out).mono ?_
    rintro e wn ⟨rfl, hbn⟩
    have hsz := B.size
    have hzn := hbn.size
    replace B := B.trans (hbn.mono B.size)
    refine ⟨_, rfl, ?_⟩
    simp only [putS]
    refine wpList_nil ?_
    go_wp2
    go_roundw
    case rel => exact ⟨k + 1, by omega, by go_num, by rw [HST.out]; try (first | rfl | go_num), B⟩
    case measure => simp [intOf]; omega
   | false =>
    have HO := Lib.hid ho
    have HST := Lib.hid (cntK_step HCN.out (show smpG l x y k = false from ho))
    clear ho
    go_upto_region 3 with fail
    refine wp_region_lit ?_
    try simp only [gelS]
    refine wpList_chunk 1 (by kernel_rfl) ?_
    simp only [takS, Nat.reduceAdd]
    repeat (first | go_big_quiet_skip | (go_big_quiet_want; go_big_quiet_op; go_big_quiet_on))
    refine wpQuiet_nil ?_
    refine wpList_nil ?_
    go_upto_region 5 with fail
    refine wp_region_lit ?_
    try simp only [gelS]
    refine wpList_chunk 15 (by kernel_rfl) ?_
    simp only [takS, Nat.reduceAdd]
    repeat (first | go_big_quiet_skip | (go_big_quiet_want; go_big_quiet_op; go_big_quiet_on))
    refine wpQuiet_nil ?_
    refine wpList_callF (by first | rfl | simp [Region.wanted, yielded]) rfl (enters_of Tryz.func70 (by kernel_rfl) rfl) (by simp only [Act.eval, evlS]; rfl) ?_
    refine (P_oddO _ l (8 * x + 2 * ((k : Int) % 4) + 1) (8 * y + 2 * ((k : Int) / 4) + 1) false _ (HS.out.below B) (by omega) HN.out (by omega) (by omega) HO.out).mono ?_
    rintro e wn ⟨rfl, hbn⟩
    have hsz := B.size
    have hzn := hbn.size
    replace B := B.trans (hbn.mono B.size)
    refine ⟨_, rfl, ?_⟩
    simp only [putS]
    refine wpList_nil ?_
    go_wp2
    go_roundw
    case rel => exact ⟨k + 1, by omega, by go_num, by rw [HST.out]; try (first | rfl | go_num), B⟩
    case measure => simp [intOf]; omega
  ·obtain rfl : k = 16 := by omega
   have q1 : decide (((16 : Nat) : Int) < 16) = false := rfl
   rw [HCN.out] at HC
   go_wp2
   go_ret
   exact ⟨by rw [HC.out]; try rfl, B⟩
set_option maxHeartbeats 4000000 in
theorem P_CoverG (v : Value) (l : List Pnt) (x y : Int) (w : World) (h : RSE ptE v l w) (hn : l.length ≤ maxLen) (hx : -70000 ≤ x ∧ x ≤ 70000) (hy : -70000 ≤ y ∧ y ≤ 70000) : Calls Tryz.prog 20 #[v, .int .i64 x, .int .i64 y] w fun e w' => e = .returned (.int .i64 (coverP l x y)) ∧ Below w.heap.size w w' := by
 have B := Below.refl w.heap.size w
 have HS := Lib.hid h
 have hx1 := hx
 have hy1 := hy
 clear h hx hy
 cases hh : hasR (boundG l) x y with
 | true =>
  have HH := Lib.hid hh
  have e1 : coverP l x y = covG l x y := if_pos hh
  have hv : validG l = true := by
   cases hv : validG l with
   | true => rfl
   | false =>
    have : boundG l = Rc.zero := by unfold boundG; rw [hv]; rfl
    rw [this] at hh
    have := of_decide_eq_true hh
    simp only [Rc.zero] at this
    omega
  obtain ⟨⟨hl1, hl2⟩, hne⟩ := validG_iff.1 hv
  have HN := Lib.hid hne
  rw [e1]
  clear hh hv hne e1
  go_enter Tryz.func20, Tryz.ntmps20
  go_upto_region 1 with fail
  refine wp_region_lit ?_
  try simp only [gelS]
  refine wpList_chunk 1 (by kernel_rfl) ?_
  simp only [takS, Nat.reduceAdd]
  repeat (first | go_big_quiet_skip | (go_big_quiet_want; go_big_quiet_op; go_big_quiet_on))
  refine wpQuiet_nil ?_
  refine wpList_callF (by first | rfl | simp [Region.wanted, yielded]) rfl (enters_of Tryz.func28 (by kernel_rfl) rfl) (by simp only [Act.eval, evlS]; rfl) ?_
  refine (P_BoundG _ l _ (HS.out.below B) hn).mono ?_
  rintro e wn ⟨rfl, hbn⟩
  have hsz := B.size
  have hzn := hbn.size
  replace B := B.trans (hbn.mono B.size)
  refine ⟨_, rfl, ?_⟩
  simp only [putS]
  refine wpList_chunk 3 (by kernel_rfl) ?_
  simp only [takS, Nat.reduceAdd]
  repeat (first | go_big_quiet_skip | (go_big_quiet_want; go_big_quiet_op; go_big_quiet_on))
  refine wpQuiet_nil ?_
  refine wpList_callF (by first | rfl | simp [Region.wanted, yielded]) rfl (enters_of Tryz.func51 (by kernel_rfl) rfl) (by simp only [Act.eval, evlS]; rfl) ?_
  refine (P_HasO (boundG l) x y true _ HH.out).mono ?_
  rintro e wn ⟨rfl, hbn⟩
  have hsz := B.size
  have hzn := hbn.size
  replace B := B.trans (hbn.mono B.size)
  refine ⟨_, rfl, ?_⟩
  simp only [putS]
  refine wpList_chunk 1 (by kernel_rfl) ?_
  simp only [takS, Nat.reduceAdd]
  repeat (first | go_big_quiet_skip | (go_big_quiet_want; go_big_quiet_op; go_big_quiet_on))
  refine wpQuiet_nil ?_
  refine wpList_nil ?_
  go_upto_region 3 with fail
  refine wp_region_lit ?_
  try simp only [gelS]
  refine wpList_chunk 3 (by kernel_rfl) ?_
  simp only [takS, Nat.reduceAdd]
  repeat (first | go_big_quiet_skip | (go_big_quiet_want; go_big_quiet_op; go_big_quiet_on))
  refine wpQuiet_nil ?_
  refine wpList_callF (by first | rfl | simp [Region.wanted, yielded]) rfl (enters_of Tryz.func34 (by kernel_rfl) rfl) (by simp only [Act.eval, evlS]; rfl) ?_
  refine (P_cover _ l x y _ (HS.out.below B) (by omega) HN.out hx1 hy1).mono ?_
  rintro e wn ⟨rfl, hbn⟩
  have hsz := B.size
  have hzn := hbn.size
  replace B := B.trans (hbn.mono B.size)
  refine ⟨_, rfl, ?_⟩
  simp only [putS]
  refine wpList_chunk 1 (by kernel_rfl) ?_
  simp only [takS, Nat.reduceAdd]
  repeat (first | go_big_quiet_skip | (go_big_quiet_want; go_big_quiet_op; go_big_quiet_on))
  refine wpQuiet_nil ?_
  refine wpList_nil ?_
  iterate 3 go_step
  go_ret
  exact ⟨by try rfl, B⟩
 | false =>
  have HH := Lib.hid hh
  have e1 : coverP l x y = 0 := if_neg (by rw [hh]; decide)
  rw [e1]
  clear hh e1
  go_enter Tryz.func20, Tryz.ntmps20
  go_upto_region 1 with fail
  refine wp_region_lit ?_
  try simp only [gelS]
  refine wpList_chunk 1 (by kernel_rfl) ?_
  simp only [takS, Nat.reduceAdd]
  repeat (first | go_big_quiet_skip | (go_big_quiet_want; go_big_quiet_op; go_big_quiet_on))
  refine wpQuiet_nil ?_
  refine wpList_callF (by first | rfl | simp [Region.wanted, yielded]) rfl (enters_of Tryz.func28 (by kernel_rfl) rfl) (by simp only [Act.eval, evlS]; rfl) ?_
  refine (P_BoundG _ l _ (HS.out.below B) hn).mono ?_
  rintro e wn ⟨rfl, hbn⟩
  have hsz := B.size
  have hzn := hbn.size
  replace B := B.trans (hbn.mono B.size)
  refine ⟨_, rfl, ?_⟩
  simp only [putS]
  refine wpList_chunk 3 (by kernel_rfl) ?_
  simp only [takS, Nat.reduceAdd]
  repeat (first | go_big_quiet_skip | (go_big_quiet_want; go_big_quiet_op; go_big_quiet_on))
  refine wpQuiet_nil ?_
  refine wpList_callF (by first | rfl | simp [Region.wanted, yielded]) rfl (enters_of Tryz.func51 (by kernel_rfl) rfl) (by simp only [Act.eval, evlS]; rfl) ?_
  refine (P_HasO (boundG l) x y false _ HH.out).mono ?_
  rintro e wn ⟨rfl, hbn⟩
  have hsz := B.size
  have hzn := hbn.size
  replace B := B.trans (hbn.mono B.size)
  refine ⟨_, rfl, ?_⟩
  simp only [putS]
  refine wpList_chunk 1 (by kernel_rfl) ?_
  simp only [takS, Nat.reduceAdd]
  repeat (first | go_big_quiet_skip | (go_big_quiet_want; go_big_quiet_op; go_big_quiet_on))
  refine wpQuiet_nil ?_
  refine wpList_nil ?_
  go_wp2
  go_ret
  exact ⟨by try rfl, B⟩
/- The set of an outline (the closure of Outline), its boundary's edges; the reference's in, edge. -/
/-- The closure of Outline: its raster and its threshold lie in blocks. -/
def InB (r t : Nat) (ls : List TA) (th : Int) (w : World) : Prop := ∃ v, AtB 34 w r #[v] ∧ AtB 3 w t #[.int .i64 th] ∧ RS v ls w
theorem InB.below {r t : Nat} {ls : List TA} {th : Int} {w w' : World} (h : InB r t ls th w) (hb : Below w.heap.size w w') : InB r t ls th w' := by
 obtain ⟨v, h1, h2, h3⟩ := h
 exact ⟨v, AtB.of_eq h1 (hb.block _ (AtB.lt h1)), AtB.of_eq h2 (hb.block _ (AtB.lt h2)), h3.below hb⟩
def fB (r t : Nat) : Value := .func (.func 57) #[] #[.pointer (some ⟨r, 0, none⟩), .pointer (some ⟨t, 0, none⟩)]
theorem P_GetO (v : Value) (ls : List TA) (x y : Int) (pr pg pb pa : Int) (w : World) (h : RS v ls w) (hn : ls.length ≤ maxLen) (hx : (Lit.int .i64 x).wf = true) (hy : (Lit.int .i64 y).wf = true) (e1 : getL ls x y = ⟨pr, pg, pb, pa⟩) : Calls Tryz.prog 58 #[.agg #[v], .int .i64 x, .int .i64 y] w fun e w' => e = .returned (.agg #[.int .u8 pr, .int .u8 pg, .int .u8 pb, .int .u8 pa]) ∧ Below w.heap.size w w' := by
 have h0 := P_GetR v ls x y w h hn hx hy
 rw [e1] at h0
 exact h0
set_option maxHeartbeats 2000000 in
theorem P_in (r t : Nat) (ls : List TA) (th x y : Int) (b : Bool) (w : World) (h : InB r t ls th w) (tk : TokL ls) (hn : ls.length ≤ maxLen) (hx : (Lit.int .i64 x).wf = true) (hy : (Lit.int .i64 y).wf = true) (e : setG ls th x y = b) : Calls Tryz.prog 57 #[.int .i64 x, .int .i64 y, .pointer (some ⟨r, 0, none⟩), .pointer (some ⟨t, 0, none⟩)] w fun e w' => e = .returned (.bool b) ∧ Below w.heap.size w w' := by
 have B := Below.refl w.heap.size w
 obtain ⟨v, r2, r3, rs⟩ := h
 obtain ⟨⟨pr, pg, pb, pa⟩, hp⟩ : ∃ p, getL ls x y = p := ⟨_, rfl⟩
 have ok := getL_okL tk x y
 rw [hp] at ok
 have o1 : 0 ≤ pa ∧ pa ≤ 255 := ok.2.2.2
 have he : decide (th ≤ pa) = b := by rw [← e]; unfold setG; rw [hp]
 clear e ok
 go_enter Tryz.func57, Tryz.ntmps57
 go_upto_region 1 with fail
 try simp only [gelS]
 try have lx_r2 := r2.lt
 try have lx_r3 := r3.lt
 try have lx_rs := rs.lt
 refine wp_region_RL 9 [(3, detS ?v1_3)] (by kernel_rfl) (by kernel_rfl) (by kernel_rfl) ?_
 rotate_left 1
 simp only [takS, Nat.reduceAdd]
 refine wpRL_chunk 3 (by kernel_rfl) ?_
 simp only [takS, Nat.reduceAdd]
 repeat (first | go_big_quiet_skip | (go_big_quiet_want; first | (refine quiet_loadAny (t := 34) rfl _ _ _ rfl (fun w hw => run_load_ras ((ov_B r2 w hw).cell 0 rfl)) (by first | rfl | omega) ?_; simp only [putS]; go_big_quiet_on) | (go_big_quiet_op; go_big_quiet_on)))
 refine wpQuiet_nil ?_
 refine wpRL_callB (by rfl) (by first | rfl | simp [Region.wanted, yielded]) ?_ ?_
 ·intro wn hbn hE Kx hKx
  have hsz := B.size
  have hzn := hbn.size
  replace B := B.trans (hbn.mono B.size)
  (try replace r3 := r3.below hbn)
  (try replace rs := rs.below hbn)
  refine wp_callF rfl (enters_of Tryz.func58 (by kernel_rfl) rfl) (by simp only [Act.eval, evlS]; rfl) ?_
  refine (P_GetO v ls x y pr pg pb pa _ rs hn hx hy hp).mono ?_
  rintro e wm ⟨rfl, hbm⟩
  refine ⟨_, rfl, ?_⟩
  have hz := hKx () wm trivial hbm
  dsimp only [detS] at hz
  exact hz
 rintro ⟨⟩
 dsimp only [detS]
 simp only [putS]
 refine wpRL_chunk 5 (by kernel_rfl) ?_
 simp only [takS, Nat.reduceAdd]
 repeat (first | go_big_quiet_skip | (go_big_quiet_want; first | (refine quiet_loadAny (t := 3) rfl _ _ _ rfl (fun w hw => run_load_int ((ov_B r3 w hw).cell 0 rfl)) (by first | rfl | omega) ?_; simp only [putS]; go_big_quiet_on) | (go_big_quiet_op; go_big_quiet_on)))
 refine wpQuiet_nil ?_
 refine wpRL_nil ?_
 intro wn hbn hE
 have hsz := B.size
 have hzn := hbn.size
 replace B := B.trans (hbn.mono B.size)
 clear hE
 try simp only [List.drop_succ_cons, List.drop_zero]
 refine NoPan.normal ?_
 go_wp2
 go_ret
 exact ⟨by rw [← he]; try rfl, B⟩
theorem run_load_fn {w : World} {b j : Nat} {f : Fn} {x y : Array Value} (h : w.cell? ⟨b, j, none⟩ = some (.func f x y)) : (Instr.loadAt 84 (.pointer (some ⟨b, j, none⟩))).run Tryz.prog w = .ok (.func f x y) w := by
 simp [go_sem, h]
set_option maxHeartbeats 4000000 in
theorem P_has (r t : Nat) (ls : List TA) (th x y d : Int) (b : Bool) (w : World) (hI : InB r t ls th w) (tk : TokL ls) (hn : ls.length ≤ maxLen) (hx : -100000 ≤ x ∧ x ≤ 100000) (hy : -100000 ≤ y ∧ y ≤ 100000) (hd : 0 ≤ d ∧ d ≤ 3) (e : hasE (setG ls th) x y d = b) : Calls Tryz.prog 60 #[.agg #[fB r t], .agg #[.int .i64 x, .int .i64 y, .int .i64 d]] w fun e w' => e = .returned (.bool b) ∧ Below w.heap.size w w' := by
 have B := Below.refl w.heap.size w
 have wx := wf_mk (x := x) (by omega) (by omega)
 have wy := wf_mk (x := y) (by omega) (by omega)
 have wx1 := wf_mk (x := x - 1) (by omega) (by omega)
 have wy1 := wf_mk (x := y - 1) (by omega) (by omega)
 have HE := Lib.hid e
 clear e
 unfold fB
 go_enter Tryz.func60, Tryz.ntmps60
 go_upto_region 0 with fail
 refine wp_region_lit ?_
 try simp only [gelS]
 (refine wpList_boxB (t := 86) rfl _ rfl _ rfl ?_; intro b_r2 wn hle hge ht hbn hzn; have hsz := B.size; replace B := B.trans (hbn.mono (by omega)); have hln := Nat.lt_of_lt_of_eq (Nat.lt_succ_self _) hzn.symm; clear hzn; (try have hlt := hI.lt); (try replace hI := hI.below (hbn.mono hle)); have r2 := ht; clear ht; simp only [putS])
 (refine wpList_boxB (t := 90) rfl _ rfl _ rfl ?_; intro b_r3 wn hle hge ht hbn hzn; have hsz := B.size; replace B := B.trans (hbn.mono (by omega)); have hln := Nat.lt_of_lt_of_eq (Nat.lt_succ_self _) hzn.symm; clear hzn; (try have hlt := hI.lt); (try replace hI := hI.below (hbn.mono hle)); (try have hlt := r2.lt); (try replace r2 := r2.below (hbn.mono hle)); have r3 := ht; clear ht; simp only [putS])
 refine wpList_chunk 1 (by kernel_rfl) ?_
 simp only [takS, Nat.reduceAdd]
 repeat (first | go_big_quiet_skip | (go_big_quiet_want; go_big_quiet_op; go_big_quiet_on))
 refine wpQuiet_nil ?_
 refine wpList_nil ?_
 go_upto_region 1 with fail
 try simp only [gelS]
 try have lx_r2 := r2.lt
 try have lx_r3 := r3.lt
 try have lx_hI := hI.lt
 refine wp_region_RL 36 [(7, detS ?v2_7), (14, detS ?v2_14), (23, detS ?v2_23), (31, detS ?v2_31)] (by kernel_rfl) (by kernel_rfl) (by kernel_rfl) ?_
 rotate_left 4
 simp only [takS, Nat.reduceAdd]
 refine wpRL_chunk 7 (by kernel_rfl) ?_
 simp only [takS, Nat.reduceAdd]
 repeat (first | go_big_quiet_skip | (go_big_quiet_want; first | (refine quiet_loadAny (t := 84) rfl _ _ _ rfl (fun w hw => run_load_fn ((ov_B r2 w hw).cellL 0 rfl)) (by first | rfl | omega) ?_; simp only [putS]; go_big_quiet_on) | (refine quiet_loadAny (t := 3) rfl _ _ _ rfl (fun w hw => run_load_int ((ov_B r3 w hw).cellL 0 rfl)) (by first | rfl | omega) ?_; simp only [putS]; go_big_quiet_on) | (refine quiet_loadAny (t := 3) rfl _ _ _ rfl (fun w hw => run_load_int ((ov_B r3 w hw).cellL 1 rfl)) (by first | rfl | omega) ?_; simp only [putS]; go_big_quiet_on) | (refine quiet_loadAny (t := 3) rfl _ _ _ rfl (fun w hw => run_load_int ((ov_B r3 w hw).cellL 2 rfl)) (by first | rfl | omega) ?_; simp only [putS]; go_big_quiet_on) | (go_big_quiet_op; go_big_quiet_on)))
 refine wpQuiet_nil ?_
 refine wpRL_callB (by rfl) (by first | rfl | simp [Region.wanted, yielded]) ?_ ?_
 ·intro wn hbn hE Kx hKx
  have hsz := B.size
  have hzn := hbn.size
  replace B := B.trans (hbn.mono B.size)
  (try replace r2 := r2.below hbn)
  (try replace r3 := r3.below hbn)
  (try replace hI := hI.below hbn)
  refine wp_callV rfl (by simp only [Act.eval, evlS]; rfl) (enters_of Tryz.func57 (by kernel_rfl) rfl) (by simp only [Act.eval, evlS]; rfl) ?_
  refine (P_in r t ls th (x - 1) (y) _ _ hI tk hn wx1 wy rfl).mono ?_
  rintro e wm ⟨rfl, hbm⟩
  refine ⟨_, rfl, ?_⟩
  have hz := hKx () wm trivial hbm
  dsimp only [detS] at hz
  exact hz
 rintro ⟨⟩
 dsimp only [detS]
 simp only [putS]
 refine wpRL_chunk 6 (by kernel_rfl) ?_
 simp only [takS, Nat.reduceAdd]
 repeat (first | go_big_quiet_skip | (go_big_quiet_want; first | (refine quiet_loadAny (t := 84) rfl _ _ _ rfl (fun w hw => run_load_fn ((ov_B r2 w hw).cellL 0 rfl)) (by first | rfl | omega) ?_; simp only [putS]; go_big_quiet_on) | (refine quiet_loadAny (t := 3) rfl _ _ _ rfl (fun w hw => run_load_int ((ov_B r3 w hw).cellL 0 rfl)) (by first | rfl | omega) ?_; simp only [putS]; go_big_quiet_on) | (refine quiet_loadAny (t := 3) rfl _ _ _ rfl (fun w hw => run_load_int ((ov_B r3 w hw).cellL 1 rfl)) (by first | rfl | omega) ?_; simp only [putS]; go_big_quiet_on) | (refine quiet_loadAny (t := 3) rfl _ _ _ rfl (fun w hw => run_load_int ((ov_B r3 w hw).cellL 2 rfl)) (by first | rfl | omega) ?_; simp only [putS]; go_big_quiet_on) | (go_big_quiet_op; go_big_quiet_on)))
 refine wpQuiet_nil ?_
 refine wpRL_callB (by rfl) (by first | rfl | simp [Region.wanted, yielded]) ?_ ?_
 ·intro wn hbn hE Kx hKx
  have hsz := B.size
  have hzn := hbn.size
  replace B := B.trans (hbn.mono B.size)
  (try replace r2 := r2.below hbn)
  (try replace r3 := r3.below hbn)
  (try replace hI := hI.below hbn)
  refine wp_callV rfl (by simp only [Act.eval, evlS]; rfl) (enters_of Tryz.func57 (by kernel_rfl) rfl) (by simp only [Act.eval, evlS]; rfl) ?_
  refine (P_in r t ls th (x) (y) _ _ hI tk hn wx wy rfl).mono ?_
  rintro e wm ⟨rfl, hbm⟩
  refine ⟨_, rfl, ?_⟩
  have hz := hKx () wm trivial hbm
  dsimp only [detS] at hz
  exact hz
 rintro ⟨⟩
 dsimp only [detS]
 simp only [putS]
 refine wpRL_chunk 8 (by kernel_rfl) ?_
 simp only [takS, Nat.reduceAdd]
 repeat (first | go_big_quiet_skip | (go_big_quiet_want; first | (refine quiet_loadAny (t := 84) rfl _ _ _ rfl (fun w hw => run_load_fn ((ov_B r2 w hw).cellL 0 rfl)) (by first | rfl | omega) ?_; simp only [putS]; go_big_quiet_on) | (refine quiet_loadAny (t := 3) rfl _ _ _ rfl (fun w hw => run_load_int ((ov_B r3 w hw).cellL 0 rfl)) (by first | rfl | omega) ?_; simp only [putS]; go_big_quiet_on) | (refine quiet_loadAny (t := 3) rfl _ _ _ rfl (fun w hw => run_load_int ((ov_B r3 w hw).cellL 1 rfl)) (by first | rfl | omega) ?_; simp only [putS]; go_big_quiet_on) | (refine quiet_loadAny (t := 3) rfl _ _ _ rfl (fun w hw => run_load_int ((ov_B r3 w hw).cellL 2 rfl)) (by first | rfl | omega) ?_; simp only [putS]; go_big_quiet_on) | (go_big_quiet_op; go_big_quiet_on)))
 refine wpQuiet_nil ?_
 refine wpRL_callB (by rfl) (by first | rfl | simp [Region.wanted, yielded]) ?_ ?_
 ·intro wn hbn hE Kx hKx
  have hsz := B.size
  have hzn := hbn.size
  replace B := B.trans (hbn.mono B.size)
  (try replace r2 := r2.below hbn)
  (try replace r3 := r3.below hbn)
  (try replace hI := hI.below hbn)
  refine wp_callV rfl (by simp only [Act.eval, evlS]; rfl) (enters_of Tryz.func57 (by kernel_rfl) rfl) (by simp only [Act.eval, evlS]; rfl) ?_
  refine (P_in r t ls th (x - 1) (y - 1) _ _ hI tk hn wx1 wy1 rfl).mono ?_
  rintro e wm ⟨rfl, hbm⟩
  refine ⟨_, rfl, ?_⟩
  have hz := hKx () wm trivial hbm
  dsimp only [detS] at hz
  exact hz
 rintro ⟨⟩
 dsimp only [detS]
 simp only [putS]
 refine wpRL_chunk 7 (by kernel_rfl) ?_
 simp only [takS, Nat.reduceAdd]
 repeat (first | go_big_quiet_skip | (go_big_quiet_want; first | (refine quiet_loadAny (t := 84) rfl _ _ _ rfl (fun w hw => run_load_fn ((ov_B r2 w hw).cellL 0 rfl)) (by first | rfl | omega) ?_; simp only [putS]; go_big_quiet_on) | (refine quiet_loadAny (t := 3) rfl _ _ _ rfl (fun w hw => run_load_int ((ov_B r3 w hw).cellL 0 rfl)) (by first | rfl | omega) ?_; simp only [putS]; go_big_quiet_on) | (refine quiet_loadAny (t := 3) rfl _ _ _ rfl (fun w hw => run_load_int ((ov_B r3 w hw).cellL 1 rfl)) (by first | rfl | omega) ?_; simp only [putS]; go_big_quiet_on) | (refine quiet_loadAny (t := 3) rfl _ _ _ rfl (fun w hw => run_load_int ((ov_B r3 w hw).cellL 2 rfl)) (by first | rfl | omega) ?_; simp only [putS]; go_big_quiet_on) | (go_big_quiet_op; go_big_quiet_on)))
 refine wpQuiet_nil ?_
 refine wpRL_callB (by rfl) (by first | rfl | simp [Region.wanted, yielded]) ?_ ?_
 ·intro wn hbn hE Kx hKx
  have hsz := B.size
  have hzn := hbn.size
  replace B := B.trans (hbn.mono B.size)
  (try replace r3 := r3.below hbn)
  (try replace hI := hI.below hbn)
  refine wp_callV rfl (by simp only [Act.eval, evlS]; rfl) (enters_of Tryz.func57 (by kernel_rfl) rfl) (by simp only [Act.eval, evlS]; rfl) ?_
  refine (P_in r t ls th (x) (y - 1) _ _ hI tk hn wx wy1 rfl).mono ?_
  rintro e wm ⟨rfl, hbm⟩
  refine ⟨_, rfl, ?_⟩
  have hz := hKx () wm trivial hbm
  dsimp only [detS] at hz
  exact hz
 rintro ⟨⟩
 dsimp only [detS]
 simp only [putS]
 refine wpRL_chunk 4 (by kernel_rfl) ?_
 simp only [takS, Nat.reduceAdd]
 repeat (first | go_big_quiet_skip | (go_big_quiet_want; go_big_quiet_op; go_big_quiet_on))
 refine wpQuiet_nil ?_
 refine wpRL_nil ?_
 intro wn hbn hE
 have hsz := B.size
 have hzn := hbn.size
 replace B := B.trans (hbn.mono B.size)
 (try replace r3 := r3.below hbn)
 clear hE
 try simp only [List.drop_succ_cons, List.drop_zero]
 refine NoPan.normal ?_
 go_upto_region 2 with fail
 have he := Lib.hid (show outD (setG ls th (x - 1) (y - 1)) (setG ls th x (y - 1)) (setG ls th (x - 1) y) (setG ls th x y) d = b from HE.out)
 generalize setG ls th (x - 1) y = b1 at *
 generalize setG ls th x y = b2 at *
 generalize setG ls th (x - 1) (y - 1) = b3 at *
 generalize setG ls th x (y - 1) = b4 at *
 clear HE wx wy wx1 wy1 hx hy
 cases b1 <;> cases b2 <;> cases b3 <;> cases b4 <;> (
  refine wp_region_lit ?_
  try simp only [gelS]
  refine wpList_chunk 23 (by kernel_rfl) ?_
  simp only [takS, Nat.reduceAdd]
  repeat (first | go_big_quiet_skip | (go_big_quiet_want; first | (refine quiet_loadAny (t := 3) rfl _ _ _ rfl (fun w hw => run_load_int ((ov_B r3 w hw).cellL 2 rfl)) (by first | rfl | omega) ?_; simp only [putS]; go_big_quiet_on) | (go_big_quiet_op; go_big_quiet_on)))
  refine wpQuiet_nil ?_
  rcases dir4 hd with rfl | rfl | rfl | rfl <;> (
   refine wpList_val rfl (.bool b) (by rw [← he.out]; kernel_rfl) ?_
   simp only [putS]
   try simp only [gelS]
   refine wpList_chunk 1 (by kernel_rfl) ?_
   simp only [takS, Nat.reduceAdd]
   repeat (first | go_big_quiet_skip | (go_big_quiet_want; go_big_quiet_op; go_big_quiet_on))
   refine wpQuiet_nil ?_
   refine wpList_nil ?_
   go_wp2
   go_ret
   exact ⟨rfl, B⟩))
/- Fill, Inverse of package selection: their closures, of, large; the reference's Small. -/
def pxC4 (p : Px) : Array Value := #[.int .u8 p.r, .int .u8 p.g, .int .u8 p.b, .int .u8 p.a]
def largeR (c : Rc) : Bool := decide (256 < c.x1 - c.x0) || decide (256 < c.y1 - c.y0)
set_option maxHeartbeats 2000000 in
theorem P_of (v : Value) (ls : List TA) (w : World) (rs : RS v ls w) (tk : TokL ls) (hn : ls.length ≤ maxLen) (hv : validL ls = true) : Calls Tryz.prog 77 #[.agg #[v]] w fun e w' => e = .returned (.agg #[v]) ∧ Below w.heap.size w w' := by
 have B := Below.refl w.heap.size w
 obtain ⟨a, c, rfl, hc⟩ := rs.len
 go_enter Tryz.func77, Tryz.ntmps77
 go_upto_region 0 with fail
 refine wp_region_lit ?_
 try simp only [gelS]
 (refine wpList_boxB (t := 34) rfl _ rfl _ rfl ?_; intro b_b1 wn hle hge ht hbn hzn; have hsz := B.size; replace B := B.trans (hbn.mono (by omega)); have hln := Nat.lt_of_lt_of_eq (Nat.lt_succ_self _) hzn.symm; clear hzn; (try have hlt := rs.lt); (try replace rs := rs.below (hbn.mono hle)); have b1 := ht; clear ht; simp only [putS])
 (refine wpList_allocBk (t := 34) rfl _ (run_alloc_R _ _ rfl) ?_; intro b_r2 wn hle hge ht hbn hzn; have hsz := B.size; replace B := B.trans (hbn.mono (by omega)); have hln := Nat.lt_of_lt_of_eq (Nat.lt_succ_self _) hzn.symm; clear hzn; (try have hlt := b1.lt); (try replace b1 := b1.below (hbn.mono hle)); (try have hlt := rs.lt); (try replace rs := rs.below (hbn.mono hle)); have r2 := ht; clear ht; simp only [putS])
 refine wpList_nil ?_
 go_upto_region 1 with fail
 refine wp_region_lit ?_
 try simp only [gelS]
 refine wpList_chunk 1 (by kernel_rfl) ?_
 simp only [takS, Nat.reduceAdd]
 repeat (first | go_big_quiet_skip | (go_big_quiet_want; first | (refine quiet_loadAny (t := 34) rfl _ _ _ rfl (fun w hw => run_load_B (ov_B b1 w hw) Tryz.isAgg34 (by kernel_rfl)) (by rfl) ?_; simp only [putS]; go_big_quiet_on) | (go_big_quiet_op; go_big_quiet_on)))
 refine wpQuiet_nil ?_
 refine wpList_callF (by first | rfl | simp [Region.wanted, yielded]) rfl (enters_of Tryz.func56 (by kernel_rfl) rfl) (by simp only [Act.eval, evlS]; rfl) ?_
 refine (P_ValidB _ ls true _ rs tk hn hv).mono ?_
 rintro e wn ⟨rfl, hbn⟩
 have hsz := B.size
 have hzn := hbn.size
 replace B := B.trans (hbn.mono B.size)
 (try replace b1 := b1.below hbn)
 (try replace r2 := r2.below hbn)
 refine ⟨_, rfl, ?_⟩
 simp only [putS]
 refine wpList_chunk 1 (by kernel_rfl) ?_
 simp only [takS, Nat.reduceAdd]
 repeat (first | go_big_quiet_skip | (go_big_quiet_want; go_big_quiet_op; go_big_quiet_on))
 refine wpQuiet_nil ?_
 refine wpList_nil ?_
 go_upto_region 3 with fail
 refine wp_region_lit ?_
 try simp only [gelS]
 refine wpList_chunk 1 (by kernel_rfl) ?_
 simp only [takS, Nat.reduceAdd]
 repeat (first | go_big_quiet_skip | (go_big_quiet_want; first | (refine quiet_loadAny (t := 34) rfl _ _ _ rfl (fun w hw => run_load_B (ov_B b1 w hw) Tryz.isAgg34 (by kernel_rfl)) (by rfl) ?_; simp only [putS]; go_big_quiet_on) | (go_big_quiet_op; go_big_quiet_on)))
 refine wpQuiet_nil ?_
 (refine wpList_storeB (t := 34) rfl _ _ rfl _ rfl _ rfl r2 (by kernel_rfl) rfl (by simp [Value.oneCell']) ?_; have r2o := r2; clear r2; intro wn ht hcn hzn; have hsz := B.size; replace hzn := Nat.le_of_eq hzn.symm; replace B := Chg.below B hcn (by omega) B.size; have r2 := ht; clear ht; simp only [putS])
 refine wpList_nil ?_
 first | (refine bodyPost_ret (results_B (t := 34) rfl _ _ (b_r2) rfl r2 Tryz.isAgg34 (by kernel_rfl)) rfl ?_) | (go_step; refine bodyPost_ret (results_B (t := 34) rfl _ _ (b_r2) rfl r2 Tryz.isAgg34 (by kernel_rfl)) rfl ?_) | (go_step; go_step; refine bodyPost_ret (results_B (t := 34) rfl _ _ (b_r2) rfl r2 Tryz.isAgg34 (by kernel_rfl)) rfl ?_) | (go_step; go_step; go_step; refine bodyPost_ret (results_B (t := 34) rfl _ _ (b_r2) rfl r2 Tryz.isAgg34 (by kernel_rfl)) rfl ?_) | (go_step; go_step; go_step; go_step; refine bodyPost_ret (results_B (t := 34) rfl _ _ (b_r2) rfl r2 Tryz.isAgg34 (by kernel_rfl)) rfl ?_) | (go_step; go_step; go_step; go_step; go_step; refine bodyPost_ret (results_B (t := 34) rfl _ _ (b_r2) rfl r2 Tryz.isAgg34 (by kernel_rfl)) rfl ?_)
 exact ⟨rfl, B⟩
/-! ### Inverse -/
def invR (r : Rc) (ls : List TA) : List TA := if fitsE r = 0 then invL r ls else []
def smR (a b c d : Int) : Rc := ⟨a % 40 - 20, b % 40 - 20, a % 40 - 20 + c % 40, b % 40 - 20 + d % 40⟩
/- The reference's Inverse. -/
def setsI (r : Rc) (ls : List TA) (k : Nat) : List TA := setsK r (invF ls) (fun x y => decide (0 < 255 - (getL ls x y).a)) k
def invS (r : Rc) (ls : List TA) : List TA := if fitsE r = 0 then setsI r ls (areaN r) else []
/- The reference's combine, Combine. -/
def opF (k : Int) : Int → Int → Int := if k = 0 then uOp else if k = 1 then cOp else mOp
theorem alphaT {w : World} {b : Nat} {f : Nat → Px} (h : TileAt w b f) {i : Nat} (hi : i < 64) : w.cell? ⟨b, i * 4 + 3, none⟩ = some (.int .u8 (f i).a) := (h.cells hi).2.2.2
/-- An alpha stored. -/
theorem wpList_storeAl {ops : Array Oper} {rest : List Oper} {o : Oper} {a : Act} {w : World} {Q : Exit → Act → World → Prop} (hg : o.guard = none) (x y : Operand) (ho : o.op = .store 5 x y) (b j : Nat) (hx : a.eval x = .pointer (some ⟨b, j, none⟩)) (n : Int) (hy : a.eval y = .int .u8 n) {f : Nat → Px} (ht : TileAt w b f) (i : Nat) (hi : i < 64) (hj : j = i * 4 + 3)
  (h : ∀ w', TileAt w' b (upd f i ⟨(f i).r, (f i).g, (f i).b, n⟩) → Chg b w w' → w'.heap.size = w.heap.size → wpList Tryz.prog ops Q rest (a.put o.dst undef) w') : wpList Tryz.prog ops Q (o :: rest) a w := by
 subst hj
 have c0 : w.cell? ⟨b, i * 4 + 3, none⟩ = some (.int .u8 (f i).a) := alphaT ht hi
 have f0 := (cells_of_block ht).2 (i * 4 + 3)
 have e : TileAt (w.setCell ⟨b, i * 4 + 3, none⟩ (.int .u8 n)) b (upd f i ⟨(f i).r, (f i).g, (f i).b, n⟩) := by
  unfold TileAt
  have e1 : (tileC f).setIfInBounds (i * 4 + 3) (.int .u8 n) = tileC (upd f i ⟨(f i).r, (f i).g, (f i).b, n⟩) := by
   rw [← set_tileC f i ⟨(f i).r, (f i).g, (f i).b, n⟩ hi]
   have k0 : (tileC f).setIfInBounds (i * 4) (.int .u8 (f i).r) = tileC f := set_self (tileC_at f i 0 hi (by omega))
   have k1 : (tileC f).setIfInBounds (i * 4 + 1) (.int .u8 (f i).g) = tileC f := set_self (tileC_at f i 1 hi (by omega))
   have k2 : (tileC f).setIfInBounds (i * 4 + 2) (.int .u8 (f i).b) = tileC f := set_self (tileC_at f i 2 hi (by omega))
   simp only [k0, k1, k2]
  rw [← e1]
  exact heap_setCell_same _ _ _ _ _ _ ht
 refine wpList_storeAny hg x y ho _ ?_ (h _ e ((Chg.refl b w).setCell _) (by simp only [World.size_setCell]))
 rw [hx, hy]
 simp [go_sem, c0, f0]
/-- The tile so far. -/
def uK (op : Int → Int → Int) (la lb : List TA) (p : Psn) (j i : Nat) : Px := if i < j then uT op la lb p i else Px.zero
theorem uK_step (op : Int → Int → Int) (la lb : List TA) (p : Psn) {j : Nat} (hj : j < 64) {r : Int} (hr : op (tileL la p.1 p.2 j).a (tileL lb p.1 p.2 j).a = r) : upd (uK op la lb p j) j ⟨(uK op la lb p j j).r, (uK op la lb p j j).g, (uK op la lb p j j).b, r⟩ = uK op la lb p (j + 1) := by
 funext i
 have h0 : uK op la lb p j j = Px.zero := if_neg (by omega)
 unfold upd
 by_cases hi : i = j
 ·rw [if_pos hi, h0, hi]
  unfold uK uT
  rw [if_pos (by omega), if_pos hj, hr]
  rfl
 ·rw [if_neg hi]
  unfold uK
  by_cases h1 : i < j
  ·rw [if_pos h1, if_pos (by omega)]
  ·rw [if_neg h1, if_neg (by omega)]
theorem uK_all (op : Int → Int → Int) (la lb : List TA) (p : Psn) : uK op la lb p 64 = uT op la lb p := by
 funext i
 unfold uK
 by_cases h : i < 64
 ·rw [if_pos h]
 ·rw [if_neg h]
  unfold uT
  rw [if_neg h]
theorem eqT_zT {op : Int → Int → Int} {la lb : List TA} {p : Psn} : eqT (uT op la lb p) zT = zeroB (uT op la lb p) := by
 rw [Bool.eq_iff_iff, zeroB_iff]
 unfold eqT
 rw [decide_eq_true_iff]
 constructor
 ·intro h i hi
  rw [h i (List.mem_range.2 hi)]
  rfl
 ·intro h i hi
  have hi := List.mem_range.1 hi
  have h := h i hi
  unfold uT at h ⊢
  rw [if_pos hi] at h ⊢
  simp only at h
  rw [h]
  rfl
theorem alphaE {w : World} {b : Nat} {f : Nat → Px} (h : TileAt w b f) {i : Nat} (hi : i < 64) {x : Int} (hx : (f i).a = x) : w.cell? ⟨b, i * 4 + 3, none⟩ = some (.int .u8 x) := hx ▸ alphaT h hi
def mB (l : List TA) (p : Psn) (i : Nat) : Bool := decide (i < l.length ∧ pT (aT l i) = p)
theorem uK_zero (op : Int → Int → Int) (la lb : List TA) (p : Psn) : uK op la lb p 0 = fun _ => Px.zero := by
 funext i
 unfold uK
 rw [if_neg (by omega)]
def okB (op : Int → Int → Int) (la lb M : List TA) (p : Psn) : Bool := !zeroB (uT op la lb p) && decide (M.length < 1024)
theorem combS_okB (op : Int → Int → Int) (la lb M : List TA) (p : Psn) : combS op la lb M p = if okB op la lb M p = true then M ++ [⟨p.1, p.2, uT op la lb p⟩] else M := by
 unfold combS okB
 by_cases h : zeroB (uT op la lb p) = false ∧ M.length < 1024
 ·rw [if_pos h, h.1, decide_eq_true h.2]
  rfl
 ·rw [if_neg h, if_neg]
  intro k
  rw [Bool.and_eq_true, Bool.not_eq_true', decide_eq_true_iff] at k
  exact h k
section
variable {ops : Array Oper} {rest : List Oper} {o : Oper} {a : Act} {w : World} {Q : Exit → Act → World → Prop}
/-- A tile appended to a row of the call's own: all other blocks stand. -/
theorem wpList_appendTG (hg : o.guard = none) (s x : Operand) (ho : o.op = .call { callee := .builtin .append, args := #[s, x], argTypes := #[32, 32] }) (v : Value) (hs : a.eval s = v) (b : Nat) (hx : a.eval x = .slice (some ⟨b, 0, none⟩) 1 1) {B : Nat} {ls : List TA} {e : TA} (hown : OwnT B v ls w) (hu : AtB 72 w b (taC e)) (hlen : ls.length + 1 ≤ 100000) (hB : B ≤ w.heap.size)
  (h : ∀ v' w', OwnT B v' (ls ++ [e]) w' → Below B w w' → (∀ k, k < w.heap.size → v.ownBlock ≠ some k → w'.heap[k]? = w.heap[k]?) → wpList Tryz.prog ops Q rest (a.put o.dst v') w') : wpList Tryz.prog ops Q (o :: rest) a w := by
 obtain ⟨i, hi⟩ : ∃ i, Tryz.prog.info? 72 = some i := by
  cases h : Tryz.prog.info? 72 with
  | some i => exact ⟨i, rfl⟩
  | none => have e := ta_info; rw [h] at e; cases e
 have e1 := ta_info
 rw [hi] at e1
 have e1' : i.size = 258 ∧ i.bytes = 272 := by simpa using e1
 have hz := ta_zero
 rw [hi] at hz
 have hu' := RS.one hu
 obtain ⟨g, of, ha, sc⟩ := hu'.at (by simp)
 injection ha with ha
 injection ha with h1 h2
 subst h1
 subst h2
 refine wpList_append_own (P := Tryz.prog) w hg s x 32 ho B 72 i _ 258 272 Tryz.underlying32 hi hz e1'.1 e1'.2 (by simp [Value.cells]) (by omega) v ls.length (rowC ls) hs hown ⟨b, 0, none⟩ 1 1 (rowC [e]) hx (by rw [rowC_length]; rfl) ?_ (rowC_oneCell [e]) (by unfold maxLen; omega) (by omega) hB ?_
 ·intro j u hu
  have ea : (⟨b, 0, none⟩ : Addr).add j = ⟨b, 0 + j, none⟩ := by unfold Addr.add; split <;> simp_all
  rw [ea]
  exact sc.row j u hu
 ·intro v' w' h1 h2 h3
  have hlt := World.ownsRow.lt hown
  refine h v' w' ?_ ⟨h2.os, h2.tape, h2.output, h2.size, fun k hk => h2.block k (by omega) (fun e => by have := hlt k e.symm; omega)⟩ fun k hk hn => h2.block k hk (fun e => hn e.symm)
  unfold OwnT
  rw [rowC_append, List.length_append]
  exact h1
end
theorem neq_z {op : Int → Int → Int} {la lb : List TA} {p : Psn} {b : Bool} (h : zeroB (uT op la lb p) = b) (w : World) : (binOp .neq 70 (Tile.v (uT op la lb p)) (Tile.v fun _ => Px.zero)).run Tryz.prog w = .ok (.bool (!b)) w := by
 rw [neq_tile, ← h, ← eqT_zT]
 rfl
/- The program's ways of combining; tiles of two rasters put together. -/
theorem P_Uclo (x y : Int) (w : World) (hx : 0 ≤ x ∧ x ≤ 255) (hy : 0 ≤ y ∧ y ≤ 255) : Calls Tryz.prog 42 #[.int .i64 x, .int .i64 y] w fun e w' => e = .returned (.int .i64 (uOp x y)) ∧ Below w.heap.size w w' := by
 have B := Below.refl w.heap.size w
 go_enter Tryz.func42, Tryz.ntmps42
 go_upto_region 1 with fail
 refine wp_region_lit ?_
 try simp only [gelS]
 refine wpList_chunk 2 (by kernel_rfl) ?_
 simp only [takS, Nat.reduceAdd]
 repeat (first | go_big_quiet_skip | (go_big_quiet_want; go_big_quiet_op; go_big_quiet_on))
 refine wpQuiet_nil ?_
 refine wpList_maxI (by first | rfl | simp [Region.wanted, yielded]) rfl rfl Tryz.underlying3 rfl rfl ?_
 simp only [putS]
 refine wpList_chunk 1 (by kernel_rfl) ?_
 simp only [takS, Nat.reduceAdd]
 repeat (first | go_big_quiet_skip | (go_big_quiet_want; go_big_quiet_op; go_big_quiet_on))
 refine wpQuiet_nil ?_
 refine wpList_nil ?_
 go_wp2
 go_ret
 exact ⟨rfl, B⟩
theorem P_Cclo (x y : Int) (w : World) (hx : 0 ≤ x ∧ x ≤ 255) (hy : 0 ≤ y ∧ y ≤ 255) : Calls Tryz.prog 45 #[.int .i64 x, .int .i64 y] w fun e w' => e = .returned (.int .i64 (cOp x y)) ∧ Below w.heap.size w w' := by
 have B := Below.refl w.heap.size w
 go_enter Tryz.func45, Tryz.ntmps45
 go_upto_region 1 with fail
 refine wp_region_lit ?_
 try simp only [gelS]
 refine wpList_chunk 2 (by kernel_rfl) ?_
 simp only [takS, Nat.reduceAdd]
 repeat (first | go_big_quiet_skip | (go_big_quiet_want; go_big_quiet_op; go_big_quiet_on))
 refine wpQuiet_nil ?_
 refine wpList_minI (by first | rfl | simp [Region.wanted, yielded]) rfl rfl Tryz.underlying3 rfl rfl ?_
 simp only [putS]
 refine wpList_chunk 1 (by kernel_rfl) ?_
 simp only [takS, Nat.reduceAdd]
 repeat (first | go_big_quiet_skip | (go_big_quiet_want; go_big_quiet_op; go_big_quiet_on))
 refine wpQuiet_nil ?_
 refine wpList_nil ?_
 go_wp2
 go_ret
 exact ⟨rfl, B⟩
theorem P_MulB (x y r : Int) (w : World) (e : mulI x y = r) : Calls Tryz.prog 47 #[.int .i64 x, .int .i64 y] w fun e w' => e = .returned (.int .i64 r) ∧ Below w.heap.size w w' := (P_Mul x y w).mono fun _ _ ⟨he, hw⟩ => ⟨by rw [he, e], hw ▸ Below.refl _ _⟩
theorem P_Mclo (x y : Int) (w : World) (hx : 0 ≤ x ∧ x ≤ 255) (hy : 0 ≤ y ∧ y ≤ 255) : Calls Tryz.prog 46 #[.int .i64 x, .int .i64 y] w fun e w' => e = .returned (.int .i64 (mOp x y)) ∧ Below w.heap.size w w' := by
 have B := Below.refl w.heap.size w
 obtain ⟨r, hr⟩ : ∃ r, mulI x (255 - y) = r := ⟨_, rfl⟩
 have HR := Lib.hid hr
 have hm : mOp x y = r := hr
 rw [hm]
 clear hm hr
 go_enter Tryz.func46, Tryz.ntmps46
 go_upto_region 1 with fail
 refine wp_region_lit ?_
 try simp only [gelS]
 refine wpList_chunk 3 (by kernel_rfl) ?_
 simp only [takS, Nat.reduceAdd]
 repeat (first | go_big_quiet_skip | (go_big_quiet_want; go_big_quiet_op; go_big_quiet_on))
 refine wpQuiet_nil ?_
 refine wpList_callF (by first | rfl | simp [Region.wanted, yielded]) rfl (enters_of Tryz.func47 (by kernel_rfl) rfl) (by simp only [Act.eval, evlS]; rfl) ?_
 refine (P_MulB x (255 - y) r _ HR.out).mono ?_
 rintro e wn ⟨rfl, hbn⟩
 have hsz := B.size
 have hzn := hbn.size
 replace B := B.trans (hbn.mono B.size)
 refine ⟨_, rfl, ?_⟩
 simp only [putS]
 refine wpList_chunk 1 (by kernel_rfl) ?_
 simp only [takS, Nat.reduceAdd]
 repeat (first | go_big_quiet_skip | (go_big_quiet_want; go_big_quiet_op; go_big_quiet_on))
 refine wpQuiet_nil ?_
 refine wpList_nil ?_
 go_wp2
 go_ret
 exact ⟨rfl, B⟩
/-! ### Concat -/
theorem wpList_zerosT {ops : Array Oper} {rest : List Oper} {o : Oper} {a : Act} {w : World} {Q : Exit → Act → World → Prop} (hg : o.guard = none) (s x : Operand) (ho : o.op = .call { callee := .builtin .append, args := #[s, x], argTypes := #[32, 3] }) (hs : a.eval s = .slice none 0 0) (n : Nat) (hx : a.eval x = .int .i64 (n : Int)) (h0 : 0 < n) (hn : n ≤ 100000)
  (h : ∀ b c w', n ≤ c → OwnT w.heap.size (.slice (some ⟨b, 0, none⟩) 0 c) [] w' → Below w.heap.size w w' → wpList Tryz.prog ops Q rest (a.put o.dst (.slice (some ⟨b, 0, none⟩) n c)) w') : wpList Tryz.prog ops Q (o :: rest) a w := by
 obtain ⟨i, hi⟩ : ∃ i, Tryz.prog.info? 72 = some i := by
  cases h : Tryz.prog.info? 72 with
  | some i => exact ⟨i, rfl⟩
  | none => have e := ta_info; rw [h] at e; cases e
 have e1 := ta_info
 rw [hi] at e1
 have e1' : i.size = 258 ∧ i.bytes = 272 := by simpa using e1
 have hz := ta_zero
 rw [hi] at hz
 obtain ⟨z, hz', hzs⟩ : ∃ z, i.zero = some z ∧ z.cells.size = 258 := ⟨_, by simpa using hz, by simp [Value.cells]⟩
 have hr := Lib.run_append_nil_zeros (P := Tryz.prog) w 32 3 o.type 72 i z .i64 .i64 Tryz.underlying32 Tryz.underlying3 hi hz' n h0 (by omega) (by omega) (by rw [e1'.2]; omega)
 have hcap : n ≤ grownCap w n 0 72 := grownCap_ge w n 0 _
 have hmax : grownCap w n 0 72 ≤ maxLen := grownCap_le_maxLen w n 0 _ (by unfold maxLen; omega)
 refine Lib.wpList_append_run w hg s x _ _ ho _ _ hs hx _ _ hr (h _ _ _ hcap ?_ ?_)
 ·refine World.ownsRow_made (w := w.drew) (e := 72) _ _ (Nat.le_refl _) hmax ?_
  rw [Array.size_append, size_zeroCells, size_zeroCells, hzs, ← Nat.add_mul, Nat.add_sub_cancel' hcap]
 ·exact ((Below.refl _ _).drew).alloc (Nat.le_refl _) _
set_option maxHeartbeats 2000000 in
theorem P_Grow0T (n : Nat) (w : World) (hn : n ≤ 100000) : Calls Tryz.prog 122 #[.slice none 0 0, .int .i64 (n : Int)] w fun e w' => ∃ a c, e = .returned (.slice a 0 c) ∧ OwnT w.heap.size (.slice a 0 c) [] w' ∧ Below w.heap.size w w' := by
 have B := Below.refl w.heap.size w
 by_cases h0 : 0 < n
 ·have q1 : decide ((n : Int) < 0) = false := decide_eq_false (by omega)
  have q2 : decide ((0 : Int) < (n : Int)) = true := decide_eq_true (by omega)
  have q3 : decide (0 < n) = true := decide_eq_true h0
  go_enter Tryz.func122, Tryz.ntmps122
  go_wp2_with (first | (at_builtin; refine wpList_zerosT rfl _ _ rfl rfl n rfl h0 hn ?_; intro bz cz wn hcz od hbn; have hsz := B.size; replace B := B.trans (hbn.mono B.size); simp only [putS]) | fail)
  go_ret
  exact ⟨_, _, rfl, od, B⟩
 ·obtain rfl : n = 0 := by omega
  go_enter Tryz.func122, Tryz.ntmps122
  go_wp2
  go_ret
  exact ⟨_, _, rfl, OwnT.nil _ _, B⟩
theorem run_bs2T (w : World) (o : Oper) (x y : Operand) (ho : o.op = .buildSlice 141 2 #[(0, x), (1, y)]) (ev : Operand → Value) (a1 a2 : Option Addr) (n1 c1 n2 c2 : Nat) (hx : ev x = .slice a1 n1 c1) (hy : ev y = .slice a2 n2 c2) : (execOp ev o).run Tryz.prog w = .ok (.value (.slice (some ⟨w.heap.size, 0, none⟩) 2 2)) (w.alloc (.cells #[.slice a1 n1 c1, .slice a2 n2 c2] 32)) := by
 obtain ⟨d, p, t, ps, af, gd⟩ := o
 simp only at ho
 subst ho
 unfold execOp
 simp only [List.map_toArray, List.map_cons, List.map_nil, hx, hy]
 kernel_rfl
theorem wpList_bs2T {ops : Array Oper} {rest : List Oper} {o : Oper} {a : Act} {w : World} {Q : Exit → Act → World → Prop} (hg : o.guard = none) (x y : Operand) (ho : o.op = .buildSlice 141 2 #[(0, x), (1, y)]) (a1 a2 : Option Addr) (n1 c1 n2 c2 : Nat) (hx : a.eval x = .slice a1 n1 c1) (hy : a.eval y = .slice a2 n2 c2)
  (h : ∀ b w', w.heap.size ≤ b → b ≤ w.heap.size → AtB 32 w' b #[.slice a1 n1 c1, .slice a2 n2 c2] → Below b w w' → w'.heap.size = b + 1 → wpList Tryz.prog ops Q rest (a.put o.dst (.slice (some ⟨b, 0, none⟩) 2 2)) w') : wpList Tryz.prog ops Q (o :: rest) a w :=
 wpList_plain hg fun K hK => by
  unfold Oper.wp
  rw [run_bs2T w o x y ho _ a1 a2 n1 c1 n2 c2 hx hy]
  exact hK _ _ (h _ _ (Nat.le_refl _) (Nat.le_refl _) (by unfold AtB; rw [heap_get_alloc, if_pos rfl]) ((Below.refl _ _).alloc (Nat.le_refl _) _) (World.size_alloc _ _))
set_option maxHeartbeats 4000000 in
theorem P_ConcatT (b : Nat) (a1 a2 : Option Addr) (c1 c2 : Nat) (la lb : List TA) (w : World) (bs : AtB 32 w b #[.slice a1 la.length c1, .slice a2 lb.length c2]) (ra : RS (.slice a1 la.length c1) la w) (rb : RS (.slice a2 lb.length c2) lb w) (hna : la.length ≤ 1024) (hnb : lb.length ≤ 1024) : Calls Tryz.prog 78 #[.slice (some ⟨b, 0, none⟩) 2 2] w fun e w' => ∃ a c, e = .returned (.slice a (la ++ lb).length c) ∧ RS (.slice a (la ++ lb).length c) (la ++ lb) w' ∧ Below w.heap.size w w' := by
 have B := Below.refl w.heap.size w
 have HA := Lib.hid ra
 have HB := Lib.hid rb
 have HBS := Lib.hid bs
 clear ra rb bs
 go_enter Tryz.func78, Tryz.ntmps78
 go_upto_region 1 with fail
 refine wp_region_lit ?_
 try simp only [gelS]
 refine wpList_chunk 1 (by kernel_rfl) ?_
 simp only [takS, Nat.reduceAdd]
 repeat (first | go_big_quiet_skip | (go_big_quiet_want; go_big_quiet_op; go_big_quiet_on))
 refine wpQuiet_nil ?_
 refine wpList_nil ?_
 go_upto_region 2 with fail
 refine wp_region_lit ?_
 try simp only [gelS]
 refine wpList_chunk 1 (by kernel_rfl) ?_
 simp only [takS, Nat.reduceAdd]
 repeat (first | go_big_quiet_skip | (go_big_quiet_want; go_big_quiet_op; go_big_quiet_on))
 refine wpQuiet_nil ?_
 refine wpList_lenS (by first | rfl | simp [Region.wanted, yielded]) rfl Tryz.underlying141 rfl ?_
 simp only [putS]
 refine wpList_chunk 1 (by kernel_rfl) ?_
 simp only [takS, Nat.reduceAdd]
 repeat (first | go_big_quiet_skip | (go_big_quiet_want; go_big_quiet_op; go_big_quiet_on))
 refine wpQuiet_nil ?_
 refine wpList_nil ?_
 go_wp2
 go_loopw [3, 5, 11] (fun sv _ iv wr => ∃ (k n : Nat), k ≤ 2 ∧ iv = .int .i64 (k : Int) ∧ sv = .int .i64 (n : Int) ∧ Hid (n = if k = 0 then 0 else if k = 1 then la.length else la.length + lb.length) ∧ Below w.heap.size w wr) (fun _ _ iv _ => (2 - intOf iv).toNat)
 case atStart => exact ⟨0, 0, by omega, rfl, rfl, Lib.hid rfl, B⟩
 case round =>
  clear B
  obtain ⟨k, n, hk, rfl, rfl, HN, B⟩ := hrel
  have hn : n ≤ 4096 := by
   rw [HN.out]
   split
   ·omega
   ·split <;> omega
  have hk3 : k = 0 ∨ k = 1 ∨ k = 2 := by omega
  rcases hk3 with rfl | rfl | rfl
  ·have q1 : decide (((0 : Nat) : Int) < 2) = true := by decide
   have bs := HBS.out.of_eq (B.block _ HBS.out.lt)
   have q3 : decide ((n : Int) + (la.length : Int) < 0) = false := decide_eq_false (by omega)
   have HN2 := Lib.hid (show n + la.length = la.length from by have := HN.out; simp at this; omega)
   go_upto_region 3 with fail
   refine wp_region_lit ?_
   try simp only [gelS]
   refine wpList_chunk 1 (by kernel_rfl) ?_
   simp only [takS, Nat.reduceAdd]
   repeat (first | go_big_quiet_skip | (go_big_quiet_want; go_big_quiet_op; go_big_quiet_on))
   refine wpQuiet_nil ?_
   refine wpList_nil ?_
   go_upto_region 4 with fail
   refine wp_region_lit ?_
   try simp only [gelS]
   refine wpList_chunk 3 (by kernel_rfl) ?_
   simp only [takS, Nat.reduceAdd]
   repeat (first | go_big_quiet_skip | (go_big_quiet_want; first | (refine quiet_loadAny (t := 32) rfl _ _ _ rfl (fun w hw => run_load_sl ((ov_B bs w hw).cell 0 rfl)) (by first | rfl | omega) ?_; simp only [putS]; go_big_quiet_on) | (go_big_quiet_op; go_big_quiet_on)))
   refine wpQuiet_nil ?_
   refine wpList_nil ?_
   go_upto_region 5 with fail
   refine wp_region_lit ?_
   try simp only [gelS]
   refine wpList_chunk 2 (by kernel_rfl) ?_
   simp only [takS, Nat.reduceAdd]
   repeat (first | go_big_quiet_skip | (go_big_quiet_want; go_big_quiet_op; go_big_quiet_on))
   refine wpQuiet_nil ?_
   refine wpList_lenS (by first | rfl | simp [Region.wanted, yielded]) rfl Tryz.underlying32 rfl ?_
   simp only [putS]
   refine wpList_chunk 2 (by kernel_rfl) ?_
   simp only [takS, Nat.reduceAdd]
   repeat (first | go_big_quiet_skip | (go_big_quiet_want; go_big_quiet_op; go_big_quiet_on))
   refine wpQuiet_nil ?_
   refine wpList_nil ?_
   go_upto_region 6 with fail
   refine wp_region_lit ?_
   try simp only [gelS]
   refine wpList_chunk 2 (by kernel_rfl) ?_
   simp only [takS, Nat.reduceAdd]
   repeat (first | go_big_quiet_skip | (go_big_quiet_want; go_big_quiet_op; go_big_quiet_on))
   refine wpQuiet_nil ?_
   refine wpList_nil ?_
   go_upto_region 8 with fail
   refine wp_region_lit ?_
   try simp only [gelS]
   refine wpList_chunk 2 (by kernel_rfl) ?_
   simp only [takS, Nat.reduceAdd]
   repeat (first | go_big_quiet_skip | (go_big_quiet_want; go_big_quiet_op; go_big_quiet_on))
   refine wpQuiet_nil ?_
   refine wpList_nil ?_
   go_wp2
   go_roundw
   case rel => exact ⟨0 + 1, n + la.length, by omega, by go_num, by go_num, Lib.hid (by rw [HN2.out]; rfl), B⟩
   case measure => simp [intOf]
  ·have q1 : decide (((1 : Nat) : Int) < 2) = true := by decide
   have bs := HBS.out.of_eq (B.block _ HBS.out.lt)
   have q3 : decide ((n : Int) + (lb.length : Int) < 0) = false := decide_eq_false (by omega)
   have HN2 := Lib.hid (show n + lb.length = la.length + lb.length from by have := HN.out; simp at this; omega)
   go_upto_region 3 with fail
   refine wp_region_lit ?_
   try simp only [gelS]
   refine wpList_chunk 1 (by kernel_rfl) ?_
   simp only [takS, Nat.reduceAdd]
   repeat (first | go_big_quiet_skip | (go_big_quiet_want; go_big_quiet_op; go_big_quiet_on))
   refine wpQuiet_nil ?_
   refine wpList_nil ?_
   go_upto_region 4 with fail
   refine wp_region_lit ?_
   try simp only [gelS]
   refine wpList_chunk 3 (by kernel_rfl) ?_
   simp only [takS, Nat.reduceAdd]
   repeat (first | go_big_quiet_skip | (go_big_quiet_want; first | (refine quiet_loadAny (t := 32) rfl _ _ _ rfl (fun w hw => run_load_sl ((ov_B bs w hw).cell 1 rfl)) (by first | rfl | omega) ?_; simp only [putS]; go_big_quiet_on) | (go_big_quiet_op; go_big_quiet_on)))
   refine wpQuiet_nil ?_
   refine wpList_nil ?_
   go_upto_region 5 with fail
   refine wp_region_lit ?_
   try simp only [gelS]
   refine wpList_chunk 2 (by kernel_rfl) ?_
   simp only [takS, Nat.reduceAdd]
   repeat (first | go_big_quiet_skip | (go_big_quiet_want; go_big_quiet_op; go_big_quiet_on))
   refine wpQuiet_nil ?_
   refine wpList_lenS (by first | rfl | simp [Region.wanted, yielded]) rfl Tryz.underlying32 rfl ?_
   simp only [putS]
   refine wpList_chunk 2 (by kernel_rfl) ?_
   simp only [takS, Nat.reduceAdd]
   repeat (first | go_big_quiet_skip | (go_big_quiet_want; go_big_quiet_op; go_big_quiet_on))
   refine wpQuiet_nil ?_
   refine wpList_nil ?_
   go_upto_region 6 with fail
   refine wp_region_lit ?_
   try simp only [gelS]
   refine wpList_chunk 2 (by kernel_rfl) ?_
   simp only [takS, Nat.reduceAdd]
   repeat (first | go_big_quiet_skip | (go_big_quiet_want; go_big_quiet_op; go_big_quiet_on))
   refine wpQuiet_nil ?_
   refine wpList_nil ?_
   go_upto_region 8 with fail
   refine wp_region_lit ?_
   try simp only [gelS]
   refine wpList_chunk 2 (by kernel_rfl) ?_
   simp only [takS, Nat.reduceAdd]
   repeat (first | go_big_quiet_skip | (go_big_quiet_want; go_big_quiet_op; go_big_quiet_on))
   refine wpQuiet_nil ?_
   refine wpList_nil ?_
   go_wp2
   go_roundw
   case rel => exact ⟨1 + 1, n + lb.length, by omega, by go_num, by go_num, Lib.hid (by rw [HN2.out]; rfl), B⟩
   case measure => simp [intOf]
  ·have q1 : decide (((2 : Nat) : Int) < 2) = false := by decide
   go_upto_region 3 with fail
   refine wp_region_lit ?_
   try simp only [gelS]
   refine wpList_chunk 1 (by kernel_rfl) ?_
   simp only [takS, Nat.reduceAdd]
   repeat (first | go_big_quiet_skip | (go_big_quiet_want; go_big_quiet_op; go_big_quiet_on))
   refine wpQuiet_nil ?_
   refine wpList_nil ?_
   go_upto_region 9 with fail
   refine wp_region_lit ?_
   try simp only [gelS]
   refine wpList_chunk 1 (by kernel_rfl) ?_
   simp only [takS, Nat.reduceAdd]
   repeat (first | go_big_quiet_skip | (go_big_quiet_want; go_big_quiet_op; go_big_quiet_on))
   refine wpQuiet_nil ?_
   refine wpList_callF (by first | rfl | simp [Region.wanted, yielded]) rfl (enters_of Tryz.func122 (by kernel_rfl) rfl) (by simp only [Act.eval, evlS]; rfl) ?_
   refine (P_Grow0T n _ (by omega)).mono ?_
   rintro e wn ⟨ag, cg, rfl, od0, hbn⟩
   have hsz := B.size
   have hzn := hbn.size
   replace B := B.trans (hbn.mono B.size)
   refine ⟨_, rfl, ?_⟩
   simp only [putS]
   refine wpList_chunk 1 (by kernel_rfl) ?_
   simp only [takS, Nat.reduceAdd]
   repeat (first | go_big_quiet_skip | (go_big_quiet_want; go_big_quiet_op; go_big_quiet_on))
   refine wpQuiet_nil ?_
   refine wpList_nil ?_
   have od := od0.mono (show w.heap.size ≤ _ from by have := hsz; omega)
   clear od0
   go_upto_region 10 with fail
   refine wp_region_lit ?_
   try simp only [gelS]
   refine wpList_chunk 1 (by kernel_rfl) ?_
   simp only [takS, Nat.reduceAdd]
   repeat (first | go_big_quiet_skip | (go_big_quiet_want; go_big_quiet_op; go_big_quiet_on))
   refine wpQuiet_nil ?_
   refine wpList_lenS (by first | rfl | simp [Region.wanted, yielded]) rfl Tryz.underlying141 rfl ?_
   simp only [putS]
   refine wpList_chunk 1 (by kernel_rfl) ?_
   simp only [takS, Nat.reduceAdd]
   repeat (first | go_big_quiet_skip | (go_big_quiet_want; go_big_quiet_op; go_big_quiet_on))
   refine wpQuiet_nil ?_
   refine wpList_nil ?_
   go_wp2
   go_loopw [6, 8, 27] (fun nv _ iv wr => ∃ (k : Nat) (ao : Option Addr) (co : Nat) (L : List TA), k ≤ 2 ∧ iv = .int .i64 (k : Int) ∧ nv = .slice ao L.length co ∧ Hid (L = if k = 0 then [] else if k = 1 then la else la ++ lb) ∧ Below w.heap.size w wr ∧ OwnT w.heap.size (.slice ao L.length co) L wr) (fun _ _ iv _ => (2 - intOf iv).toNat)
   case atStart => exact ⟨0, ag, cg, [], by omega, rfl, rfl, Lib.hid rfl, B, od⟩
   case round =>
    clear B od
    obtain ⟨k, ao, co, L, hk, rfl, rfl, HL, B, od⟩ := hrel
    have hL : L.length ≤ 4096 := by
     rw [HL.out]
     split
     ·simp
     ·split
      ·omega
      ·rw [List.length_append]; omega
    have hk3 : k = 0 ∨ k = 1 ∨ k = 2 := by omega
    rcases hk3 with rfl | rfl | rfl
    ·have q1 : decide (((0 : Nat) : Int) < 2) = true := by decide
     have bs := HBS.out.of_eq (B.block _ HBS.out.lt)
     have HN2 := Lib.hid (show L ++ la = la from by have := HL.out; simp at this; rw [this]; try rfl)
     go_upto_region 11 with fail
     refine wp_region_lit ?_
     try simp only [gelS]
     refine wpList_chunk 1 (by kernel_rfl) ?_
     simp only [takS, Nat.reduceAdd]
     repeat (first | go_big_quiet_skip | (go_big_quiet_want; go_big_quiet_op; go_big_quiet_on))
     refine wpQuiet_nil ?_
     refine wpList_nil ?_
     go_upto_region 12 with fail
     refine wp_region_lit ?_
     try simp only [gelS]
     refine wpList_chunk 3 (by kernel_rfl) ?_
     simp only [takS, Nat.reduceAdd]
     repeat (first | go_big_quiet_skip | (go_big_quiet_want; first | (refine quiet_loadAny (t := 32) rfl _ _ _ rfl (fun w hw => run_load_sl ((ov_B bs w hw).cell 0 rfl)) (by first | rfl | omega) ?_; simp only [putS]; go_big_quiet_on) | (go_big_quiet_op; go_big_quiet_on)))
     refine wpQuiet_nil ?_
     refine wpList_nil ?_
     have hBs := B.size
     clear bs
     go_upto_region 13 with fail
     refine wp_region_lit ?_
     try simp only [gelS]
     refine wpList_chunk 2 (by kernel_rfl) ?_
     simp only [takS, Nat.reduceAdd]
     repeat (first | go_big_quiet_skip | (go_big_quiet_want; go_big_quiet_op; go_big_quiet_on))
     refine wpQuiet_nil ?_
     (at_builtin; refine wpList_appendT rfl _ _ rfl _ _ rfl rfl od ((HA.out.below B)) (by omega) (by omega) ?_; intro v_od wn ht hbn; have hsz := B.size; have hzn := hbn.size; replace B := B.trans (hbn.mono (by omega)); clear od; have od := ht; clear ht; simp only [putS])
     refine wpList_chunk 1 (by kernel_rfl) ?_
     simp only [takS, Nat.reduceAdd]
     repeat (first | go_big_quiet_skip | (go_big_quiet_want; go_big_quiet_op; go_big_quiet_on))
     refine wpQuiet_nil ?_
     refine wpList_nil ?_
     go_upto_region 14 with fail
     refine wp_region_lit ?_
     try simp only [gelS]
     refine wpList_chunk 2 (by kernel_rfl) ?_
     simp only [takS, Nat.reduceAdd]
     repeat (first | go_big_quiet_skip | (go_big_quiet_want; go_big_quiet_op; go_big_quiet_on))
     refine wpQuiet_nil ?_
     refine wpList_nil ?_
     obtain ⟨ax, cx, rfl, _⟩ := od.len
     go_wp2
     go_roundw
     case rel => exact ⟨0 + 1, _, _, L ++ la, by omega, by go_num, rfl, Lib.hid (by rw [HN2.out]; rfl), B, od⟩
     case measure => simp [intOf]
    ·have q1 : decide (((1 : Nat) : Int) < 2) = true := by decide
     have bs := HBS.out.of_eq (B.block _ HBS.out.lt)
     have HN2 := Lib.hid (show L ++ lb = la ++ lb from by have := HL.out; simp at this; rw [this]; try rfl)
     go_upto_region 11 with fail
     refine wp_region_lit ?_
     try simp only [gelS]
     refine wpList_chunk 1 (by kernel_rfl) ?_
     simp only [takS, Nat.reduceAdd]
     repeat (first | go_big_quiet_skip | (go_big_quiet_want; go_big_quiet_op; go_big_quiet_on))
     refine wpQuiet_nil ?_
     refine wpList_nil ?_
     go_upto_region 12 with fail
     refine wp_region_lit ?_
     try simp only [gelS]
     refine wpList_chunk 3 (by kernel_rfl) ?_
     simp only [takS, Nat.reduceAdd]
     repeat (first | go_big_quiet_skip | (go_big_quiet_want; first | (refine quiet_loadAny (t := 32) rfl _ _ _ rfl (fun w hw => run_load_sl ((ov_B bs w hw).cell 1 rfl)) (by first | rfl | omega) ?_; simp only [putS]; go_big_quiet_on) | (go_big_quiet_op; go_big_quiet_on)))
     refine wpQuiet_nil ?_
     refine wpList_nil ?_
     have hBs := B.size
     clear bs
     go_upto_region 13 with fail
     refine wp_region_lit ?_
     try simp only [gelS]
     refine wpList_chunk 2 (by kernel_rfl) ?_
     simp only [takS, Nat.reduceAdd]
     repeat (first | go_big_quiet_skip | (go_big_quiet_want; go_big_quiet_op; go_big_quiet_on))
     refine wpQuiet_nil ?_
     (at_builtin; refine wpList_appendT rfl _ _ rfl _ _ rfl rfl od ((HB.out.below B)) (by omega) (by omega) ?_; intro v_od wn ht hbn; have hsz := B.size; have hzn := hbn.size; replace B := B.trans (hbn.mono (by omega)); clear od; have od := ht; clear ht; simp only [putS])
     refine wpList_chunk 1 (by kernel_rfl) ?_
     simp only [takS, Nat.reduceAdd]
     repeat (first | go_big_quiet_skip | (go_big_quiet_want; go_big_quiet_op; go_big_quiet_on))
     refine wpQuiet_nil ?_
     refine wpList_nil ?_
     go_upto_region 14 with fail
     refine wp_region_lit ?_
     try simp only [gelS]
     refine wpList_chunk 2 (by kernel_rfl) ?_
     simp only [takS, Nat.reduceAdd]
     repeat (first | go_big_quiet_skip | (go_big_quiet_want; go_big_quiet_op; go_big_quiet_on))
     refine wpQuiet_nil ?_
     refine wpList_nil ?_
     obtain ⟨ax, cx, rfl, _⟩ := od.len
     go_wp2
     go_roundw
     case rel => exact ⟨1 + 1, _, _, L ++ lb, by omega, by go_num, rfl, Lib.hid (by rw [HN2.out]; rfl), B, od⟩
     case measure => simp [intOf]
    ·have q1 : decide (((2 : Nat) : Int) < 2) = false := by decide
     have HE := Lib.hid (show la ++ lb = L from by have := HL.out; simp at this; exact this.symm)
     go_upto_region 11 with fail
     refine wp_region_lit ?_
     try simp only [gelS]
     refine wpList_chunk 1 (by kernel_rfl) ?_
     simp only [takS, Nat.reduceAdd]
     repeat (first | go_big_quiet_skip | (go_big_quiet_want; go_big_quiet_op; go_big_quiet_on))
     refine wpQuiet_nil ?_
     refine wpList_nil ?_
     go_upto_region 15 with fail
     refine wp_region_lit ?_
     try simp only [gelS]
     refine wpList_chunk 2 (by kernel_rfl) ?_
     simp only [takS, Nat.reduceAdd]
     repeat (first | go_big_quiet_skip | (go_big_quiet_want; go_big_quiet_op; go_big_quiet_on))
     refine wpQuiet_nil ?_
     refine wpList_nil ?_
     go_wp2
     go_ret
     rw [HE.out]
     exact ⟨_, _, rfl, od.rs, B⟩
/- Positions: equal neighbours left out (plain); a row of positions that is written in place. -/
/-- The first m of q, equal neighbours left out. -/
def ddK (q : Nat → Psn) : Nat → List Psn
 | 0 => []
 | m + 1 => if m = 0 ∨ q m ≠ q (m - 1) then ddK q m ++ [q m] else ddK q m
theorem ddK_len (q : Nat → Psn) : ∀ m, (ddK q m).length ≤ m
 | 0 => Nat.le_refl _
 | m + 1 => by
  have := ddK_len q m
  unfold ddK
  split
  ·rw [List.length_append]; simp; omega
  ·omega
theorem ddK_mem (q : Nat → Psn) : ∀ m p, p ∈ ddK q m ↔ ∃ j, j < m ∧ q j = p
 | 0, p => ⟨fun h => (by cases h), fun ⟨j, hj, _⟩ => (by omega)⟩
 | m + 1, p => by
  have ih := ddK_mem q m p
  unfold ddK
  by_cases h : m = 0 ∨ q m ≠ q (m - 1)
  ·rw [if_pos h, List.mem_append, List.mem_singleton, ih]
   constructor
   ·rintro (⟨j, hj, e⟩ | e)
    ·exact ⟨j, by omega, e⟩
    ·exact ⟨m, by omega, e.symm⟩
   ·rintro ⟨j, hj, e⟩
    by_cases hjm : j = m
    ·exact .inr (by rw [← e, hjm])
    ·exact .inl ⟨j, by omega, e⟩
  ·rw [if_neg h, ih]
   constructor
   ·rintro ⟨j, hj, e⟩
    exact ⟨j, by omega, e⟩
   ·rintro ⟨j, hj, e⟩
    by_cases hjm : j = m
    ·refine ⟨m - 1, by omega, ?_⟩
     rw [← e, hjm]
     exact (Classical.not_not.1 (fun k => h (.inr k))).symm
    ·exact ⟨j, by omega, e⟩
/-- In a row in order, what is left is in order, each once; and nothing lies behind the last one. -/
theorem ddK_srt (q : Nat → Psn) (n : Nat) (h : ∀ i j, i < j → j < n → ltQ (q j) (q i) = false) : ∀ m, m ≤ n → SrtQ (ddK q m) ∧ ∀ p ∈ ddK q m, p = q (m - 1) ∨ ltQ p (q (m - 1)) = true
 | 0, _ => ⟨List.Pairwise.nil, fun p hp => (by cases hp)⟩
 | m + 1, hm => by
  obtain ⟨h1, h2⟩ := ddK_srt q n h m (by omega)
  rw [Nat.add_sub_cancel]
  unfold ddK
  by_cases hc : m = 0 ∨ q m ≠ q (m - 1)
  ·rw [if_pos hc]
   have hall : ∀ p ∈ ddK q m, ltQ p (q m) = true := fun p hp => by
    by_cases h0 : m = 0
    ·subst h0; cases hp
    ·have hne : q m ≠ q (m - 1) := by
      rcases hc with k | k
      ·exact absurd k h0
      ·exact k
     have hlt : ltQ (q (m - 1)) (q m) = true := by
      rcases ltQ_tri (q (m - 1)) (q m) with k | k | k
      ·exact k
      ·exact absurd k.symm hne
      ·rw [h (m - 1) m (by omega) (by omega)] at k; cases k
     rcases h2 p hp with e | e
     ·rw [e]; exact hlt
     ·exact ltQ_trans e hlt
   refine ⟨List.pairwise_append.2 ⟨h1, List.pairwise_cons.2 ⟨fun _ k => (by cases k), List.Pairwise.nil⟩, fun p hp r hr => by rw [List.mem_singleton.1 hr]; exact hall p hp⟩, fun p hp => ?_⟩
   rcases List.mem_append.1 hp with k | k
   ·exact .inr (hall p k)
   ·exact .inl (List.mem_singleton.1 k)
  ·rw [if_neg hc]
   have he : q m = q (m - 1) := Classical.not_not.1 (fun k => hc (.inr k))
   rw [he]
   exact ⟨h1, h2⟩
def updP (f : Nat → Psn) (i : Nat) (p : Psn) : Nat → Psn := fun j => if j = i then p else f j
/-! ### A row of positions -/
def PRow (w : World) (g n : Nat) (f : Nat → Psn) : Prop := ∃ cur, AtB 68 w g cur ∧ ∀ j, j < n → cur[j * 2]? = some (.int .i64 (f j).1) ∧ cur[j * 2 + 1]? = some (.int .i64 (f j).2)
theorem PRow.lt {w : World} {g n : Nat} {f : Nat → Psn} (h : PRow w g n f) : g < w.heap.size := by
 obtain ⟨c, h, _⟩ := h
 exact h.lt
theorem PRow.of_eq {w w' : World} {g n : Nat} {f : Nat → Psn} (h : PRow w g n f) (e : w'.heap[g]? = w.heap[g]?) : PRow w' g n f := by
 obtain ⟨c, h, k⟩ := h
 exact ⟨c, h.of_eq e, k⟩
theorem PRow.below {w w' : World} {g n : Nat} {f : Nat → Psn} (h : PRow w g n f) (e : Below w.heap.size w w') : PRow w' g n f := h.of_eq (e.block _ h.lt)
theorem PRow.cell {w : World} {g n : Nat} {f : Nat → Psn} (h : PRow w g n f) {i : Nat} (hi : i < n) : w.cell? ⟨g, i * 2, none⟩ = some (.int .i64 (f i).1) ∧ w.cell? ⟨g, i * 2 + 1, none⟩ = some (.int .i64 (f i).2) := by
 obtain ⟨c, h, k⟩ := h
 exact ⟨((cells_of_block h).1 _).trans (k i hi).1, ((cells_of_block h).1 _).trans (k i hi).2⟩
theorem PRow.frozen {w : World} {g n : Nat} {f : Nat → Psn} (h : PRow w g n f) (j : Nat) : w.frozen? ⟨g, j, none⟩ = false := by
 obtain ⟨c, h, k⟩ := h
 exact (cells_of_block h).2 j
theorem ov_prow {w : World} {g n : Nat} {f : Nat → Psn} (h : PRow w g n f) : ∀ w', (∃ u, w' = ov w u) → PRow w' g n f := by
 rintro w' ⟨u, rfl⟩
 exact h.below (ov_below w u)
theorem PRow.rce {w : World} {g n : Nat} {f : Nat → Psn} (h : PRow w g n f) (ls : List Psn) (hn : ls.length ≤ n) (hl : ∀ i x, ls[i]? = some x → f i = x) : RCellsE psE g 0 ls w := by
 refine ⟨h.lt, fun i x hi j hj => ?_⟩
 have hin : i < n := Nat.lt_of_lt_of_le (List.getElem?_eq_some_iff.1 hi).1 hn
 obtain ⟨h1, h2⟩ := h.cell hin
 rw [hl i x hi] at h1 h2
 rw [Nat.zero_add]
 have hj2 : j = 0 ∨ j = 1 := by omega
 rcases hj2 with rfl | rfl
 ·exact h1
 ·exact h2
theorem prow_load {w : World} {g n : Nat} {f : Nat → Psn} (h : PRow w g n f) {i : Nat} (hi : i < n) {p : Psn} (hp : f i = p) : (Instr.loadAt 68 (.pointer (some ⟨g, i * 2, none⟩))).run Tryz.prog w = .ok (.agg #[.int .i64 p.1, .int .i64 p.2]) w := by
 have hr := h.rce ((List.range n).map f) (by simp) (fun i x hi => by
  rw [List.getElem?_map] at hi
  obtain ⟨y, hy, rfl⟩ := Option.map_eq_some_iff.1 hi
  obtain ⟨h1, h2⟩ := List.getElem?_eq_some_iff.1 hy
  rw [List.getElem_range] at h2
  rw [h2])
 have := hr.load (T := 68) Tryz.isAgg68 (i := i) (x := p) (by rw [List.getElem?_map, List.getElem?_range hi]; exact congrArg some hp)
 rw [Nat.zero_add] at this
 exact this
theorem PRow.own {B g n c : Nat} {ls : List Psn} {w : World} (h : OwnE psE B (.slice (some ⟨g, 0, none⟩) n c) ls w) (hl : n = ls.length) : PRow w g ls.length (fun j => ls.getD j (0, 0)) := by
 have hr := h.rs
 obtain ⟨h1, h2⟩ := h
 rcases h2 with ⟨e, h0⟩ | ⟨g', cap, cur, e, hb, hg, hn, hm, hs, ht⟩
 ·cases e
 ·injection e with e1 e2 e3
  injection e1 with e1
  injection e1 with e1 e4
  subst e1
  refine ⟨cur, hg, fun j hj => ?_⟩
  have hx : ls[j]? = some (ls.getD j (0, 0)) := by rw [List.getD_eq_getElem?_getD, List.getElem?_eq_getElem hj]; rfl
  obtain ⟨x, hxx⟩ : ∃ x, ls.getD j (0, 0) = x := ⟨_, rfl⟩
  rw [hxx] at hx
  have a0 := rowE_at psE ls j x hx 0 (by omega)
  have a1 := rowE_at psE ls j x hx 1 (by omega)
  rw [← ht, List.getElem?_take_of_lt (by omega), Array.getElem?_toList] at a0 a1
  show cur[j * 2]? = some (.int .i64 (ls.getD j (0, 0)).1) ∧ cur[j * 2 + 1]? = some (.int .i64 (ls.getD j (0, 0)).2)
  rw [hxx]
  exact ⟨a0, a1⟩
section
variable {ops : Array Oper} {rest : List Oper} {o : Oper} {a : Act} {w : World} {Q : Exit → Act → World → Prop}
theorem PRow.there {g n : Nat} {f : Nat → Psn} (h : PRow w g n f) {i m : Nat} (hi : i + m ≤ n) : w.there g (i * 2) (m * 2) := fun j hj => by
 refine ⟨?_, h.frozen _⟩
 have hq : i + j / 2 < n := by omega
 obtain ⟨h1, h2⟩ := h.cell hq
 have hj2 : j % 2 = 0 ∨ j % 2 = 1 := by omega
 rcases hj2 with e | e
 ·rw [show i * 2 + j = (i + j / 2) * 2 by omega, h1]; rfl
 ·rw [show i * 2 + j = (i + j / 2) * 2 + 1 by omega, h2]; rfl
theorem atb_setCells {t : TypeId} {g : Nat} : ∀ (vs : List Value) (o : Nat) (w : World) (cur : Array Value), AtB t w g cur → ∃ cur', AtB t (w.setCells g o vs) g cur' ∧ ∀ j, j < o → cur'[j]? = cur[j]?
 | [], _, w, cur, h => ⟨cur, h, fun _ _ => rfl⟩
 | v :: r, o, w, cur, h => by
  obtain ⟨c', h1, h2⟩ := atb_setCells r (o + 1) _ _ (heap_setCell_same w g o cur _ v h)
  refine ⟨c', h1, fun j hj => ?_⟩
  rw [h2 j (by omega), Array.getElem?_setIfInBounds, if_neg (by omega)]
theorem wpList_storePs (hg : o.guard = none) (x y : Operand) (ho : o.op = .store 68 x y) (g j : Nat) (hx : a.eval x = .pointer (some ⟨g, j, none⟩)) (p : Psn) (hy : a.eval y = .agg #[.int .i64 p.1, .int .i64 p.2]) {n : Nat} {f : Nat → Psn} (ht : PRow w g n f) (i : Nat) (hi : i < n) (hj : j = i * 2)
  (h : ∀ w', PRow w' g n (updP f i p) → Chg g w w' → w'.heap.size = w.heap.size → wpList Tryz.prog ops Q rest (a.put o.dst undef) w') : wpList Tryz.prog ops Q (o :: rest) a w := by
 subst hj
 refine wpList_store_mid hg 68 x y ho g _ _ hx hy (ht.there (i := i) (m := 1) (by omega)) (by kernel_rfl) (by simp [Value.oneCell']) ?_
 refine h _ ?_ (setCells_chg _ _ _ _) (sz_setCells _ _ _ _)
 obtain ⟨cur, h1, h2⟩ := ht
 refine ⟨_, heap_setCell_same _ _ _ _ _ _ (heap_setCell_same _ _ _ _ _ _ h1), fun j hj => ?_⟩
 obtain ⟨k1, k2⟩ := h2 j hj
 have b1 : j * 2 < cur.size := (Array.getElem?_eq_some_iff.1 k1).1
 have b2 : j * 2 + 1 < cur.size := (Array.getElem?_eq_some_iff.1 k2).1
 unfold updP
 by_cases e : j = i
 ·subst e
  rw [if_pos rfl]
  constructor
  ·rw [Array.getElem?_setIfInBounds, if_neg (by omega), Array.getElem?_setIfInBounds, if_pos rfl, if_pos b1]
  ·rw [Array.getElem?_setIfInBounds, if_pos rfl, if_pos (by rw [Array.size_setIfInBounds]; exact b2)]
 ·rw [if_neg e]
  constructor
  ·rw [Array.getElem?_setIfInBounds, if_neg (by omega), Array.getElem?_setIfInBounds, if_neg (by omega)]
   exact k1
  ·rw [Array.getElem?_setIfInBounds, if_neg (by omega), Array.getElem?_setIfInBounds, if_neg (by omega)]
   exact k2
/-- The cells from position i on are cleared. -/
theorem wpList_clearPs (hg : o.guard = none) (x : Operand) (ho : o.op = .call { callee := .builtin .clear, args := #[x], argTypes := #[106] }) (g j m c : Nat) (hx : a.eval x = .slice (some ⟨g, j, none⟩) m c) {n : Nat} {f : Nat → Psn} (ht : PRow w g n f) (i : Nat) (hj : j = i * 2) (hn : i + m = n) (hm : 0 < m)
  (h : ∀ w', PRow w' g i f → Chg g w w' → w'.heap.size = w.heap.size → wpList Tryz.prog ops Q rest (a.put o.dst (.tuple #[])) w') : wpList Tryz.prog ops Q (o :: rest) a w := by
 subst hj
 refine wpList_plain hg fun K hK => ?_
 obtain ⟨z, hz, hzc⟩ : ∃ z, (∀ w, (zeroValue 68).run Tryz.prog w = .ok z w) ∧ z.cells = #[.int .i64 0, .int .i64 0] := ⟨_, Tryz.zeroValue68, rfl⟩
 have hth := ht.there (i := i) (m := m) (by omega)
 have hzs : (Builtin.zeroCells z.cells m).toList.length = m * 2 := by rw [Array.length_toList, size_zeroCells, hzc]; rfl
 have hone : ∀ v ∈ (Builtin.zeroCells z.cells m).toList, v.oneCell' = true := fun v hv => by
  rw [hzc] at hv
  unfold Builtin.zeroCells at hv
  simp at hv
  obtain ⟨k, hk, rfl⟩ := hv
  have hk2 : k % 2 = 0 ∨ k % 2 = 1 := by omega
  rcases hk2 with e | e <;> simp [e] <;> rfl
 have hst := run_storeCells_cells (P := Tryz.prog) g (i * 2) (Builtin.zeroCells z.cells m).toList 0 w (fun k hk => by rw [Nat.add_zero]; exact (hth k (by omega)).1) (fun k hk => by rw [Nat.add_zero]; exact (hth k (by omega)).2) hone
 simp only [Nat.add_zero] at hst
 obtain ⟨m', rfl⟩ : ∃ m', m = m' + 1 := ⟨m - 1, by omega⟩
 obtain ⟨dst, op, ty, pos, after, guard⟩ := o
 simp only at ho
 subst ho
 unfold Oper.wp
 have key : ∀ ρ : Operand → Value, ρ x = .slice (some ⟨g, i * 2, none⟩) (m' + 1) c → (execOp ρ { dst, op := .call { callee := .builtin .clear, args := #[x], argTypes := #[106] }, type := ty, pos, after, guard : Oper }).run Tryz.prog w = .ok (.value (.tuple #[])) (w.setCells g (i * 2) (Builtin.zeroCells z.cells (m' + 1)).toList) := fun ρ hρ => by
  have hl : (Builtin.clear_ #[106] ty #[.slice (some ⟨g, i * 2, none⟩) (m' + 1) c]).run Tryz.prog w = .ok (.tuple #[]) (w.setCells g (i * 2) (Builtin.zeroCells z.cells (m' + 1)).toList) := by
   simp [Builtin.clear_, run_underlying Tryz.underlying106, hz, hst]
  simp [go_sem, hρ, hl]
 rw [key a.eval hx]
 refine hK _ _ (h _ ?_ (setCells_chg _ _ _ _) (sz_setCells _ _ _ _))
 obtain ⟨cur, h1, h2⟩ := ht
 obtain ⟨c', k1, k2⟩ := atb_setCells (Builtin.zeroCells z.cells (m' + 1)).toList (i * 2) w cur h1
 refine ⟨c', k1, fun j hj => ?_⟩
 rw [k2 _ (by omega), k2 _ (by omega)]
 exact h2 j (by omega)
end
end Go.Proofs.YtamgpfblhlfhaaaGreat
