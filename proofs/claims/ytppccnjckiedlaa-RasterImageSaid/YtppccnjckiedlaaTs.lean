/- 'rearrange', Flip and Turn of package tile. -/
import Derived.Test.YtppccnjckiedlaaTr
import Derived.Test.YtppccnjckiedlaaTw
namespace Go.Proofs.Ytppccnjckiedlaa
open Go.RowKit Pl
attribute [local go_sem] Oper.semAt_some
set_option linter.unusedVariables false
set_option linter.unusedSimpArgs false
set_option maxRecDepth 20000

/-- A tile filled position by position. -/
def part (g : Fin 64 → Px) (pre : List (Fin 64)) : Nat → Px := pre.foldl (fun f i => upd f i.val (g i)) (fun _ => Px.zero)
theorem part_snoc (g : Fin 64 → Px) (pre : List (Fin 64)) (i : Fin 64) : part g (pre ++ [i]) = upd (part g pre) i.val (g i) := by
  unfold part; rw [List.foldl_append]; rfl
theorem part_upto (g : Fin 64 → Px) : ∀ k, k ≤ 64 → ∀ j (hj : j < 64), part g (upto k) j = if j < k then g ⟨j, hj⟩ else Px.zero
  | 0, _, j, _ => by rw [if_neg (by omega)]; rfl
  | k + 1, hk, j, hj => by
    rw [upto_succ k (by omega), part_snoc]
    unfold upd
    by_cases h : j = k
    · subst h; rw [if_pos rfl, if_pos (by omega)]
    · rw [if_neg h, part_upto g k (by omega) j hj]
      by_cases h2 : j < k
      · rw [if_pos h2, if_pos (by omega)]
      · rw [if_neg h2, if_neg (by omega)]
theorem part_all (g : Fin 64 → Px) (f : Nat → Px) (h : ∀ i : Fin 64, f i.val = g i) : tileC (part g (upto 64)) = tileC f :=
  tileC_congr fun i hi => by rw [part_upto g 64 (by omega) i hi, if_pos hi]; exact (h ⟨i, hi⟩).symm

theorem tileAt_own {W W' : World} {b : Nat} {f : Nat → Px} {row : Option Nat} (h : TileAt W b f) (hg : W.grownBy W' row) (hr : ∀ r, row = some r → ∃ o : Obj, W.heap[r]? = some o ∧ o.isCells = false) : TileAt W' b f :=
  (hg.block b h.lt (fun e => by
    obtain ⟨o, ho, hc⟩ := hr b e.symm
    rw [h] at ho
    cases ho
    cases hc)).trans h

end Go.Proofs.Ytppccnjckiedlaa
