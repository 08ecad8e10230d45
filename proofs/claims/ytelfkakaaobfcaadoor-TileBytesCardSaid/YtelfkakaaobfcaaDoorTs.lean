/- 'rearrange', Flip and Turn of package tile. -/
import Derived.Test.YtelfkakaaobfcaaDoorTr
import Derived.Test.YtelfkakaaobfcaaDoorTw
namespace Go.Proofs.YtelfkakaaobfcaaDoor
open Go.RowKit Pl
attribute [local go_sem] Oper.semAt_some
set_option linter.unusedVariables false
set_option linter.unusedSimpArgs false
set_option maxRecDepth 20000

theorem P_positions (w : World) : Calls Tryd.prog 26 #[] w fun e w' => e = .returned (.func (.func 43) #[] #[]) ∧ w = w' := by
  go_enter Tryd.func26, Tryd.ntmps26
  go_wp2
  go_ret
  exact ⟨rfl, rfl⟩

/-- A tile filled position by position. -/
def part (g : Fin 64 → Px) (pre : List (Fin 64)) : Nat → Px := pre.foldl (fun f i => upd f i.val (g i)) (fun _ => Px.zero)
theorem part_snoc (g : Fin 64 → Px) (pre : List (Fin 64)) (i : Fin 64) : part g (pre ++ [i]) = upd (part g pre) i.val (g i) := by
  unfold part; rw [List.foldl_append]; rfl
theorem part_upto (g : Fin 64 → Px) : ∀ k, k ≤ 64 → ∀ j (hj : j < 64), part g (upto k) j = if j < k then g ⟨j, hj⟩ else Px.zero
  | 0, _, j, _ => by rw [if_neg (by omega)]; rfl
  | k + 1, hk, j, hj => by
    rw [upto_succ k (by omega), part_snoc]
    unfold upd
    by_cases h : j = k
    · subst h; rw [if_pos rfl, if_pos (by omega)]
    · rw [if_neg h, part_upto g k (by omega) j hj]
      by_cases h2 : j < k
      · rw [if_pos h2, if_pos (by omega)]
      · rw [if_neg h2, if_neg (by omega)]
theorem part_all (g : Fin 64 → Px) (f : Nat → Px) (h : ∀ i : Fin 64, f i.val = g i) : tileC (part g (upto 64)) = tileC f :=
  tileC_congr fun i hi => by rw [part_upto g 64 (by omega) i hi, if_pos hi]; exact (h ⟨i, hi⟩).symm

theorem tileAt_own {W W' : World} {b : Nat} {f : Nat → Px} {row : Option Nat} (h : TileAt W b f) (hg : W.grownBy W' row) (hr : ∀ r, row = some r → ∃ o : Obj, W.heap[r]? = some o ∧ o.isCells = false) : TileAt W' b f :=
  (hg.block b h.lt (fun e => by
    obtain ⟨o, ho, hc⟩ := hr b e.symm
    rw [h] at ho
    cases ho
    cases hc)).trans h

set_option maxHeartbeats 2000000 in
theorem P_rearr (t : Nat → Px) (Fn : Nat) (ux vx : Fin 64 → Int) (src : Fin 64 → Nat) (w : World)
    (hcf : ∀ (args : Array Value) (wx : World), (callFunc Fn args).run Tryd.prog wx = .ok (.enter Fn args) wx)
    (hF : ∀ (i : Fin 64) wx, Calls Tryd.prog Fn (posV i) wx fun e w' => e = .returned (.tuple #[.int .i64 (ux i), .int .i64 (vx i)]) ∧ wx = w')
    (hb : ∀ i, (0 ≤ ux i ∧ ux i < 8) ∧ 0 ≤ vx i ∧ vx i < 8) (hs : ∀ i, 8 * vx i + ux i = (src i : Int)) :
    Calls Tryd.prog 29 #[Tile.v t, .func (.func Fn) #[] #[]] w fun e w' => e = .returned (Tile.v (part (fun i => t (src i)) (upto 64))) ∧ Below w.heap.size w w' := by
  refine (callsIn_wide (n := 3)).1 ?_
  refine callsIn_of_wp_marks Tryd.func29 rfl trivial ?_ rfl
  simp only [Tryd.ntmps29, List.size_toArray, List.length_cons, List.length_nil, Nat.reduceAdd, Nat.reduceSub, Array.replicate_succ, Array.replicate_zero, List.push_toArray, List.append_toArray, List.nil_append, List.cons_append]
  have HF := Lib.hid hF
  have Hb := Lib.hid hb
  have Hs := Lib.hid hs
  have Hcf := Lib.hid hcf
  clear hF hb hs hcf
  gi_wp2_with (first | (refine wpListIn_boxT rfl _ rfl _ rfl ?_; intro w1 ht1 hb1 hz1; simp only [Act.put, List.setIfInBounds_toArray, List.set_cons_zero, List.set_cons_succ]) | (refine wpListIn_allocT rfl rfl ?_; intro w2 ht2 hb2 hz2; simp only [Act.put, List.setIfInBounds_toArray, List.set_cons_zero, List.set_cons_succ]) | (refine ⟨trivial, ?_⟩; gi_at_call 26; refine (callsIn_wide.2 (P_positions _)).mono ?_; rintro e w' ⟨rfl, rfl⟩))
  try simp only [World.size_alloc, hz1] at ht2
  try simp only [World.size_alloc, hz1] at hz2
  try simp only [World.size_alloc, hz1] at hb2
  try simp only [World.size_alloc, hz1]
  have hc1 : w2.cell? ⟨w.heap.size + 1, 0, none⟩ = some (.func (.func Fn) #[] #[]) := by
    rw [World.cell?_of_block (w := w1.alloc (Obj.cells #[Value.func (Go.Fn.func Fn) #[] #[]] 70)) (hb2.block (w.heap.size + 1) (by omega))]
    rw [← hz1]; simp [go_sem]
  have ht1' : TileAt w2 w.heap.size t := (hb2.block w.heap.size (by omega)).trans (alloc_blk ht1)
  have hB2 : Below w.heap.size w w2 := (hb1.alloc (by omega) _).trans (hb2.mono (by omega))
  refine wpIn_rangeFunc_ownF (F := Fence.wide) rfl (by omega) (gf := 43) (lb := #[]) rfl trivial (enters_of Tryd.func43 (by kernel_rfl) rfl) (pos_stops Fence.wide _ trivial rfl (by omega) _) walksK_t walksK_b (Below.refl _ _) (fun _ => rfl)
    (fun pre W => (TileAt W w.heap.size t ∧ W.cell? ⟨w.heap.size + 1, 0, none⟩ = some (.func (.func Fn) #[] #[]) ∧ TileAt W (w.heap.size + 1 + 1) (part (fun i => t (src i)) pre)) ∧ Below w.heap.size w W)
    (fun _ _ _ => False)
    (OwnFrom.and (Own.from (fun s A B row hs hg hr => ⟨tileAt_own hs.1 hg hr, cell_kept hs.2.1 hg hr, tileAt_own hs.2.2 hg hr⟩) _) (ownFrom_below (Nat.le_refl _) hB2.size))
    (fun _ _ _ _ _ hs _ _ => hs)
    ⟨⟨ht1', hc1, ht2⟩, hB2⟩
    (fun x => { tmps := #[Tile.v t, .func (.func Fn) #[] #[], .pointer (some ⟨w.heap.size, 0, none⟩), .pointer (some ⟨w.heap.size + 1, 0, none⟩), .pointer (some ⟨w.heap.size + 1 + 1, 0, none⟩), .int .i64 ((x.val : Int) % 8), .int .i64 ((x.val : Int) / 8), undef, undef, .func (.func 43) #[] #[], .int .i64 ((x.val : Int) % 8), .int .i64 ((x.val : Int) / 8), undef, undef, undef, undef, undef, undef, undef, undef, undef, undef, undef, undef, undef, undef, undef, undef, undef, undef, undef], defers := [] }) ?assign ?body ?done ?stop
  case assign =>
    intro l x W K hK
    gi_wp2
    exact hK
  case body =>
    rintro l pre x W ⟨⟨hT, hC, hO⟩, hB⟩ _
    have hx := x.isLt
    have e1 := (Hb.out x).1
    have e2 := (Hb.out x).2
    have hlt : src x < 64 := by have := Hs.out x; omega
    have hs := Hs.out x
    have hxy : 8 * ((x.val : Int) / 8) + (x.val : Int) % 8 = (x.val : Int) := by omega
    obtain ⟨c0, c1, c2, c3⟩ := hT.cells hlt
    obtain ⟨o0, o1, o2, o3⟩ := hO.cells hx
    have of := hO.frozen
    have hcf := Hcf.out
    have n1 : (1 : Nat) ≤ 3 - 1 - 1 := by omega
    gi_wp2_with (first | (refine ⟨trivial, ?_⟩; refine (CallsIn.inRound l (callsIn_wide.2 (HF.out x _))).mono ?_; rintro e w' ⟨rfl, rfl⟩))
    refine ⟨(((KeepsOthers.setCell _ _ _).trans (KeepsOthers.setCell _ _ _)).trans (KeepsOthers.setCell _ _ _)).trans (KeepsOthers.setCell _ _ _), (((KeepsWalks.setCell _ _ _).trans (KeepsWalks.setCell _ _ _)).trans (KeepsWalks.setCell _ _ _)).trans (KeepsWalks.setCell _ _ _), ⟨?_, ?_, ?_⟩, ?_⟩
    · exact hT.of_eq (set4_other _ _ _ _ (by omega))
    · exact (World.cell?_of_block (w := W) (a := ⟨w.heap.size + 1, 0, none⟩) (set4_other _ _ _ _ (by simp))).trans hC
    · rw [part_snoc]; exact hO.set hx _
    · exact hB.trans (set4_below _ _ _ _ (by omega))
  case done =>
    rintro D ys W hD rfl ⟨⟨hT, hC, hO⟩, hB⟩ hK
    have hne : D ≠ w.heap.size + 1 + 1 := fun e => by
      rw [e] at hK
      rw [hO] at hK
      cases hK
    gi_wp2_with (first | (refine wpListIn_loadT rfl _ rfl _ rfl hO ?_; simp only [Act.put, List.setIfInBounds_toArray, List.set_cons_zero, List.set_cons_succ]) | (refine wpListIn_storeT rfl _ _ rfl _ rfl _ rfl hO ?_; intro w4 ht4 hc4 hz4; simp only [Act.put, List.setIfInBounds_toArray, List.set_cons_zero, List.set_cons_succ]))
    have hK4 := (hc4.block D (Array.getElem?_eq_some_iff.1 hK).1 hne).trans hK
    refine ⟨by simp, .inl ⟨_, _, rfl, run_takeDeferred hK4, ?_⟩⟩
    refine ⟨_, results_tile rfl _ _ (w.heap.size + 1 + 1) rfl ((World.putObj_heap_other (fun e => hne e.symm)).trans ht4), rfl, ?_⟩
    exact (Chg.below hB hc4 (by omega) hB.size).trans (belowK_b (w := w) (Nat.le_refl _) w4 D _ _ (by have := hB2.size; omega) hK4 rfl rfl)
  case stop =>
    rintro D c pre W _ _ h _
    exact h.elim

end Go.Proofs.YtelfkakaaobfcaaDoor
