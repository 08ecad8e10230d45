/- Plain: laws of rasters: what put keeps, what is found behind it. -/
import Derived.Test.YtppccnjckiedlaaRa
namespace Go.Proofs.Ytppccnjckiedlaa
open Go.RowKit Pl
set_option linter.unusedVariables false
set_option linter.unusedSimpArgs false
set_option maxRecDepth 20000

theorem putL_mem {ls : List TA} {x y : Int} {t : Nat → Px} {e : TA} (h : e ∈ putL ls x y t) : e ∈ ls ∨ (e = ⟨x, y, t⟩ ∧ zeroB t = false) := by
  have hn : ∀ {e : TA}, e ∈ newA x y t → e = ⟨x, y, t⟩ ∧ zeroB t = false := fun {e} he => by
    unfold newA at he
    split at he
    · cases he
    · rename_i hz
      exact ⟨List.mem_singleton.1 he, by simpa using hz⟩
  induction ls with
  | nil => exact .inr (hn h)
  | cons f r ih =>
    unfold putL at h
    split at h
    · rcases List.mem_cons.1 h with rfl | h
      · exact .inl (List.mem_cons_self ..)
      · rcases ih h with h | h
        · exact .inl (List.mem_cons_of_mem _ h)
        · exact .inr h
    · split at h
      · rcases List.mem_append.1 h with h | h
        · exact .inr (hn h)
        · exact .inl (List.mem_cons_of_mem _ h)
      · rcases List.mem_append.1 h with h | h
        · exact .inr (hn h)
        · exact .inl h
theorem newA_srt {x y : Int} {t : Nat → Px} {ls : List TA} (h : Srt ls) (k : ∀ e ∈ ls, lessB x y e.x e.y = true) : Srt (newA x y t ++ ls) := by
  unfold newA
  split
  · exact h
  · exact List.Pairwise.cons k h
theorem putL_srt {ls : List TA} {x y : Int} {t : Nat → Px} (h : Srt ls) : Srt (putL ls x y t) := by
  induction ls with
  | nil =>
    have := newA_srt (x := x) (y := y) (t := t) (ls := []) List.Pairwise.nil (fun e he => by cases he)
    rw [List.append_nil] at this
    exact this
  | cons f r ih =>
    obtain ⟨h1, h2⟩ := List.pairwise_cons.1 h
    unfold putL
    split
    · rename_i hl
      refine List.Pairwise.cons (fun e he => ?_) (ih h2)
      rcases putL_mem he with he | ⟨rfl, _⟩
      · exact h1 e he
      · exact hl
    · rename_i hl
      have l' := of_decide_eq_false (show lessB f.x f.y x y = false by simpa using hl)
      split
      · rename_i hq
        have e' := of_decide_eq_true hq
        exact newA_srt h2 fun e he => by
          have := of_decide_eq_true (h1 e he)
          exact decide_eq_true (by omega)
      · rename_i hq
        have e' := of_decide_eq_false (show eqB f.x f.y x y = false by simpa using hq)
        refine newA_srt h fun e he => ?_
        rcases List.mem_cons.1 he with rfl | he
        · exact decide_eq_true (by omega)
        · have := of_decide_eq_true (h1 e he)
          exact decide_eq_true (by omega)
theorem putL_good {ls : List TA} {x y : Int} {t : Nat → Px} (h : ∀ e ∈ ls, goodA e = true) (hw : withinB x y = true) (hc : eqT (cleanT t) t = true) : ∀ e ∈ putL ls x y t, goodA e = true := fun e he => by
  rcases putL_mem he with he | ⟨rfl, hz⟩
  · exact h e he
  · unfold goodA
    rw [hw, hz, hc]; rfl
theorem clean_clean (t : Nat → Px) : eqT (cleanT (cleanT t)) (cleanT t) = true := eqT_true fun j hj => by
  unfold cleanT cleanP
  split
  · split <;> rfl
  · rfl
/-- Behind put the raster is valid, unless it has become too large. -/
theorem putL_valid {ls : List TA} {x y : Int} {t : Nat → Px} (h : validL ls = true) (hw : withinB x y = true) (hl : (putL ls x y (cleanT t)).length ≤ 1024) : validL (putL ls x y (cleanT t)) = true :=
  validL_mk hl (putL_good (validL_good h) hw (clean_clean t)) (putL_srt (validL_srt h))
theorem putR_valid (ls : List TA) (x y : Int) (t : Nat → Px) : validL (putR ls x y t) = true := by
  unfold putR
  split
  · rename_i hw
    unfold manyL
    split
    · rename_i hl
      exact putL_valid (fineL_valid ls) hw hl
    · exact validL_nil
  · exact validL_nil
theorem putR_tok {ls : List TA} {x y : Int} {t : Nat → Px} (h : TokL ls) (ht : Tok t) : TokL (putR ls x y t) := by
  have hc : Tok (cleanT t) := fun i hi => cleanP_ok (ht i hi)
  unfold putR manyL
  split
  · split
    · exact putL_tok (fineL_tok h) hc
    · exact TokL.nil
  · exact TokL.nil
theorem putR_length (ls : List TA) (x y : Int) (t : Nat → Px) : (putR ls x y t).length ≤ 1024 := (validL_iff.1 (putR_valid ls x y t)).1
theorem setT_tok {t : Nat → Px} {x y : Int} {p : Px} (h : Tok t) (hp : p.ok) : Tok (setT t x y p) := by
  unfold setT
  split
  · intro i hi
    unfold upd
    split
    · exact hp
    · exact h i hi
  · exact h
theorem setS_tok {ls : List TA} {x y : Int} {p : Px} (h : TokL ls) (hp : p.ok) : Tok (setS ls x y p) := setT_tok (tileL_tok (fineL_tok h) _ _) hp
theorem setR_tok {ls : List TA} {x y : Int} {p : Px} (h : TokL ls) (hp : p.ok) : TokL (setR ls x y p) := putR_tok h (setS_tok h hp)

/-! ### What is found behind put -/
theorem tileL_none {ls : List TA} {x y : Int} (h : ∀ e ∈ ls, eqB e.x e.y x y = false) : tileL ls x y = zT := by
  induction ls with
  | nil => rfl
  | cons e r ih =>
    unfold tileL
    rw [h e (List.mem_cons_self ..)]
    exact ih fun e he => h e (List.mem_cons_of_mem _ he)
theorem tileL_append (a b : List TA) (x y : Int) (h : ∀ e ∈ a, eqB e.x e.y x y = false) : tileL (a ++ b) x y = tileL b x y := by
  induction a with
  | nil => rfl
  | cons e r ih =>
    rw [List.cons_append]
    show (if _ then _ else _) = _
    rw [h e (List.mem_cons_self ..)]
    exact ih fun e he => h e (List.mem_cons_of_mem _ he)
theorem newA_other {x y x' y' : Int} {t : Nat → Px} (h : eqB x y x' y' = false) : ∀ e ∈ newA x y t, eqB e.x e.y x' y' = false := fun e he => by
  unfold newA at he
  split at he
  · cases he
  · rw [List.mem_singleton.1 he]; exact h
theorem tileL_put_other (ls : List TA) (x y : Int) (t : Nat → Px) {x' y' : Int} (h : eqB x y x' y' = false) : tileL (putL ls x y t) x' y' = tileL ls x' y' := by
  have h' := of_decide_eq_false h
  induction ls with
  | nil => exact tileL_none (newA_other h)
  | cons e r ih =>
    unfold putL
    split
    · show (if _ then _ else _) = (if _ then _ else _)
      rw [ih]
    · split
      · rename_i hq
        have q := of_decide_eq_true hq
        rw [tileL_append _ _ _ _ (newA_other h)]
        show _ = if _ then _ else _
        rw [show eqB e.x e.y x' y' = false from decide_eq_false (by omega)]
        rfl
      · rw [tileL_append _ _ _ _ (newA_other h)]
theorem tileL_put_same {ls : List TA} (hs : Srt ls) (x y : Int) (t : Nat → Px) : tileL (putL ls x y t) x y = if zeroB t = true then zT else t := by
  have hself : eqB x y x y = true := decide_eq_true ⟨rfl, rfl⟩
  have hnew : ∀ r : List TA, (∀ e ∈ r, eqB e.x e.y x y = false) → tileL (newA x y t ++ r) x y = if zeroB t = true then zT else t := fun r hr => by
    unfold newA
    split
    · exact tileL_none hr
    · show (if _ then _ else _) = _
      rw [if_pos hself]
  induction ls with
  | nil =>
    have := hnew [] (fun e he => by cases he)
    rw [List.append_nil] at this
    exact this
  | cons e r ih =>
    obtain ⟨h1, h2⟩ := List.pairwise_cons.1 hs
    unfold putL
    split
    · rename_i hl
      have l := of_decide_eq_true hl
      show (if _ then _ else _) = _
      rw [show eqB e.x e.y x y = false from decide_eq_false (by omega)]
      exact ih h2
    · rename_i hl
      have l := of_decide_eq_false (show lessB e.x e.y x y = false by simpa using hl)
      split
      · rename_i hq
        have q := of_decide_eq_true hq
        exact hnew r fun f hf => by
          have := of_decide_eq_true (h1 f hf)
          exact decide_eq_false (by omega)
      · rename_i hq
        have q := of_decide_eq_false (show eqB e.x e.y x y = false by simpa using hq)
        refine hnew (e :: r) fun f hf => ?_
        rcases List.mem_cons.1 hf with rfl | hf
        · exact decide_eq_false q
        · have := of_decide_eq_true (h1 f hf)
          exact decide_eq_false (by omega)
/-- Sorted lists with the same tile at every position are equal in length and place by place. -/
theorem tileL_mem {ls : List TA} (hs : Srt ls) {e : TA} (he : e ∈ ls) : tileL ls e.x e.y = e.t := by
  induction ls with
  | nil => cases he
  | cons f r ih =>
    obtain ⟨h1, h2⟩ := List.pairwise_cons.1 hs
    show (if _ then _ else _) = _
    rcases List.mem_cons.1 he with rfl | he
    · rw [show eqB e.x e.y e.x e.y = true from decide_eq_true ⟨rfl, rfl⟩]; rfl
    · have := of_decide_eq_true (h1 e he)
      rw [show eqB f.x f.y e.x e.y = false from decide_eq_false (by omega)]
      exact ih h2 he
theorem idxL_le (ls : List TA) (x y : Int) : idxL ls x y ≤ ls.length := by
  induction ls with
  | nil => exact Nat.le_refl _
  | cons e r ih => unfold idxL; split <;> simp; omega
theorem tileL_idx (ls : List TA) (x y : Int) : tileL ls x y = if idxL ls x y < ls.length then (aT ls (idxL ls x y)).t else zT := by
  induction ls with
  | nil => rfl
  | cons e r ih =>
    unfold tileL idxL
    split
    · rw [if_pos (by simp)]; rfl
    · rw [ih, List.length_cons, aT_cons]
      by_cases h : idxL r x y < r.length
      · rw [if_pos h, if_pos (by omega)]
      · rw [if_neg h, if_neg (by omega)]
theorem idxL_lt {ls : List TA} {x y : Int} : ∀ {j : Nat}, j < idxL ls x y → eqB (aT ls j).x (aT ls j).y x y = false := by
  induction ls with
  | nil => intro j h; exact absurd h (Nat.not_lt_zero _)
  | cons e r ih =>
    intro j h
    unfold idxL at h
    split at h
    · exact absurd h (Nat.not_lt_zero _)
    · rename_i hl
      cases j with
      | zero => show eqB e.x e.y x y = false; simpa using hl
      | succ j => exact ih (by omega)
theorem idxL_at {ls : List TA} {x y : Int} (h : idxL ls x y < ls.length) : eqB (aT ls (idxL ls x y)).x (aT ls (idxL ls x y)).y x y = true := by
  induction ls with
  | nil => exact absurd h (Nat.not_lt_zero _)
  | cons e r ih =>
    by_cases hl : eqB e.x e.y x y = true
    · have hc : idxL (e :: r) x y = 0 := by show (if _ then _ else _) = _; rw [if_pos hl]
      rw [hc]; exact hl
    · have hc : idxL (e :: r) x y = idxL r x y + 1 := by show (if _ then _ else _) = _; rw [if_neg hl]
      rw [hc] at h ⊢
      exact ih (by simpa using h)
end Go.Proofs.Ytppccnjckiedlaa
