/- Halve of package tile. -/
import Derived.Test.YtelfkakaaobfcaaDoorTg
namespace Go.Proofs.YtelfkakaaobfcaaDoor
open Go.RowKit Pl
attribute [local go_sem] Oper.semAt_some
set_option linter.unusedVariables false
set_option linter.unusedSimpArgs false
set_option maxRecDepth 20000

/-- The pixel number i of the four that make pixel j of the half. -/
def hpx (q : Nat → Nat → Px) (j i : Nat) : Px := q (2 * ((2 * (j / 8) + i / 2) / 8) + (2 * (j % 8) + i % 2) / 8) (8 * ((2 * (j / 8) + i / 2) % 8) + (2 * (j % 8) + i % 2) % 8)
def hacc (q : Nat → Nat → Px) (j : Nat) : Nat → Acc
  | 0 => Acc.zero
  | k + 1 => addAcc (hacc q j k) (hpx q j k) 1
def halveT (q : Nat → Nat → Px) : Nat → Px := fun j => meanP (hacc q j 4)
theorem hpx_ok {q : Nat → Nat → Px} (hq : ∀ s, s < 4 → Tok (q s)) {j i : Nat} (hj : j < 64) (hi : i < 4) : (hpx q j i).ok := by
  unfold hpx
  have hv : 2 * (j / 8) + i / 2 < 16 := by omega
  have hu : 2 * (j % 8) + i % 2 < 16 := by omega
  generalize 2 * (j / 8) + i / 2 = v at *
  generalize 2 * (j % 8) + i % 2 = u at *
  exact hq _ (by omega) _ (by omega)
theorem hacc_ok {q : Nat → Nat → Px} (hq : ∀ s, s < 4 → Tok (q s)) {j : Nat} (hj : j < 64) : ∀ k, k ≤ 4 → (hacc q j k).ok (65536 * k)
  | 0, _ => by simpa [hacc] using Acc.zero_ok
  | k + 1, hk => by
    have h1 := addAcc_ok (n := 1) (hacc_ok hq hj k (by omega)) (hpx_ok hq hj (i := k) (by omega))
    have e : (65536 * ((k + 1 : Nat) : Int)) = 65536 * (k : Int) + 65536 := by omega
    rw [e]
    exact h1
theorem KO_below {W W' : World} (h : Below W.heap.size W W') : KeepsOthers W W' := ⟨h.size, fun k o hk _ => (h.block k (Array.getElem?_eq_some_iff.1 hk).1).trans hk⟩
theorem KO_chg {b : Nat} {W W' : World} {cs : Array Value} {t : TypeId} (h : Chg b W W') (hb : W.heap[b]? = some (.cells cs t (0, 0))) : KeepsOthers W W' :=
  ⟨h.size, fun k o hk ho => by
    by_cases e : k = b
    · subst e
      rw [hb] at hk
      cases hk
      cases ho
    · exact (h.block k (Array.getElem?_eq_some_iff.1 hk).1 e).trans hk⟩
theorem PMean.of_eq {w w' : World} {b : Nat} {s : Acc} (h : PMean w b s) (e : w'.heap[b]? = w.heap[b]?) : PMean w' b s := e.trans h
theorem PMean.lt {w : World} {b : Nat} {s : Acc} (h : PMean w b s) : b < w.heap.size := (Array.getElem?_eq_some_iff.1 h).1
theorem getT_in {t : Nat → Px} {x y : Int} {i : Nat} (hx : 0 ≤ x ∧ x < 8) (hy : 0 ≤ y ∧ y < 8) (hi : (i : Int) = 8 * y + x) : getT t x y = t i := by
  have h : insB x y = true := by unfold insB; exact decide_eq_true (by omega)
  unfold getT
  rw [if_pos h]
  exact congrArg t (by unfold posI; omega)

theorem quad_own {W W' : World} {b : Nat} {q : Nat → Nat → Px} {row : Option Nat} (h : QuadAt W b q) (hg : W.grownBy W' row) (hr : ∀ r, row = some r → ∃ o : Obj, W.heap[r]? = some o ∧ o.isCells = false) : QuadAt W' b q :=
  (hg.block b h.lt (fun e => by
    obtain ⟨o, ho, hc⟩ := hr b e.symm
    rw [h] at ho
    cases ho
    cases hc)).trans h
set_option maxHeartbeats 4000000 in
set_option maxRecDepth 20000 in
theorem P_Halve (a b c d : Nat → Px) (w : World) (hq : ∀ s, s < 4 → Tok (four a b c d s)) :
    Calls Tryd.prog 15 #[Tile.v a, Tile.v b, Tile.v c, Tile.v d] w fun e w' => e = .returned (Tile.v (halveT (four a b c d))) ∧ Below w.heap.size w w' := by
  have hall : Tile.v (part (fun i : Fin 64 => halveT (four a b c d) i.val) (upto 64)) = Tile.v (halveT (four a b c d)) := congrArg Value.agg (part_all (fun i : Fin 64 => halveT (four a b c d) i.val) (halveT (four a b c d)) (fun i => rfl))
  rw [← hall]
  clear hall
  refine (callsIn_wide (n := 3)).1 ?_
  refine callsIn_of_wp_marks Tryd.func15 rfl trivial ?_ rfl
  simp only [Tryd.ntmps15, List.size_toArray, List.length_cons, List.length_nil, Nat.reduceAdd, Nat.reduceSub, Array.replicate_succ, Array.replicate_zero, List.push_toArray, List.append_toArray, List.nil_append, List.cons_append]
  have Hq := Lib.hid hq
  clear hq
  gi_wp2_with (first | (refine wpListIn_storeQ rfl _ _ rfl _ rfl _ rfl t6 ?_; clear t6; intro w7 t6 hc7 hz7; replace hz7 := Nat.le_of_eq hz7.symm; replace t1 := t1.of_eq (hc7.block _ t1.lt (by omega)); replace t2 := t2.of_eq (hc7.block _ t2.lt (by omega)); replace t3 := t3.of_eq (hc7.block _ t3.lt (by omega)); replace t4 := t4.of_eq (hc7.block _ t4.lt (by omega)); replace t5 := t5.of_eq (hc7.block _ t5.lt (by omega)); simp only [Act.put, List.setIfInBounds_toArray, List.set_cons_zero, List.set_cons_succ]) | (refine wpListIn_allocQ rfl rfl ?_; intro w6 t6 hb6 hz6; have l6 := Nat.lt_of_lt_of_eq (Nat.lt_succ_self _) hz6.symm; clear hz6; replace t1 := t1.of_eq (hb6.block _ t1.lt); replace t2 := t2.of_eq (hb6.block _ t2.lt); replace t3 := t3.of_eq (hb6.block _ t3.lt); replace t4 := t4.of_eq (hb6.block _ t4.lt); replace t5 := t5.of_eq (hb6.block _ t5.lt); simp only [Act.put, List.setIfInBounds_toArray, List.set_cons_zero, List.set_cons_succ]) | (refine wpListIn_buildQ rfl _ _ rfl _ _ _ _ rfl rfl ?_; simp only [Act.put, List.setIfInBounds_toArray, List.set_cons_zero, List.set_cons_succ]) | (refine wpListIn_buildH rfl _ _ rfl _ _ rfl rfl ?_; simp only [Act.put, List.setIfInBounds_toArray, List.set_cons_zero, List.set_cons_succ]) | (refine wpListIn_loadT rfl _ rfl _ rfl t4 ?_; simp only [Act.put, List.setIfInBounds_toArray, List.set_cons_zero, List.set_cons_succ]) | (refine wpListIn_loadT rfl _ rfl _ rfl t3 ?_; simp only [Act.put, List.setIfInBounds_toArray, List.set_cons_zero, List.set_cons_succ]) | (refine wpListIn_loadT rfl _ rfl _ rfl t2 ?_; simp only [Act.put, List.setIfInBounds_toArray, List.set_cons_zero, List.set_cons_succ]) | (refine wpListIn_loadT rfl _ rfl _ rfl t1 ?_; simp only [Act.put, List.setIfInBounds_toArray, List.set_cons_zero, List.set_cons_succ]) | (refine wpListIn_allocT rfl rfl ?_; intro w5 t5 hb5 hz5; have l5 := Nat.lt_of_lt_of_eq (Nat.lt_succ_self _) hz5.symm; clear hz5; replace t1 := t1.of_eq (hb5.block _ t1.lt); replace t2 := t2.of_eq (hb5.block _ t2.lt); replace t3 := t3.of_eq (hb5.block _ t3.lt); replace t4 := t4.of_eq (hb5.block _ t4.lt); simp only [Act.put, List.setIfInBounds_toArray, List.set_cons_zero, List.set_cons_succ]) | (refine wpListIn_boxT rfl _ rfl _ rfl ?_; intro w4 t4 hb4 hz4; have l4 := Nat.lt_of_lt_of_eq (Nat.lt_succ_self _) hz4.symm; clear hz4; replace t1 := t1.of_eq (hb4.block _ t1.lt); replace t2 := t2.of_eq (hb4.block _ t2.lt); replace t3 := t3.of_eq (hb4.block _ t3.lt); simp only [Act.put, List.setIfInBounds_toArray, List.set_cons_zero, List.set_cons_succ]) | (refine wpListIn_boxT rfl _ rfl _ rfl ?_; intro w3 t3 hb3 hz3; have l3 := Nat.lt_of_lt_of_eq (Nat.lt_succ_self _) hz3.symm; clear hz3; replace t1 := t1.of_eq (hb3.block _ t1.lt); replace t2 := t2.of_eq (hb3.block _ t2.lt); simp only [Act.put, List.setIfInBounds_toArray, List.set_cons_zero, List.set_cons_succ]) | (refine wpListIn_boxT rfl _ rfl _ rfl ?_; intro w2 t2 hb2 hz2; have l2 := Nat.lt_of_lt_of_eq (Nat.lt_succ_self _) hz2.symm; clear hz2; replace t1 := t1.of_eq (hb2.block _ t1.lt); simp only [Act.put, List.setIfInBounds_toArray, List.set_cons_zero, List.set_cons_succ]) | (refine wpListIn_boxT rfl _ rfl _ rfl ?_; intro w1 t1 hb1 hz1; have l1 := Nat.lt_of_lt_of_eq (Nat.lt_succ_self _) hz1.symm; clear hz1; simp only [Act.put, List.setIfInBounds_toArray, List.set_cons_zero, List.set_cons_succ]) | (refine ⟨trivial, ?_⟩; gi_at_call 26; refine (callsIn_wide.2 ((P_positions _))).mono ?_; rintro e w' ⟨rfl, rfl⟩))
  have hB7 : Below w.heap.size w w7 := by
    repeat' (first | (with_reducible exact Below.refl _ _) | (with_reducible assumption) | (with_reducible refine Below.trans ?_ (hb1.mono (by omega))) | (with_reducible refine Below.trans ?_ (hb2.mono (by omega))) | (with_reducible refine Below.trans ?_ (hb3.mono (by omega))) | (with_reducible refine Below.trans ?_ (hb4.mono (by omega))) | (with_reducible refine Below.trans ?_ (hb5.mono (by omega))) | (with_reducible refine Below.trans ?_ (hb6.mono (by omega))) | (with_reducible refine Chg.below ?_ hc7 (by omega) (by omega)))
  clear t1 t2 t3 t4 hb1 hb2 hb3 hb4 hb5 hb6 hc7
  refine wpIn_rangeFunc_ownF (F := Fence.wide) rfl (by omega) (gf := 43) (lb := #[]) rfl trivial (enters_of Tryd.func43 (by kernel_rfl) rfl) (pos_stops Fence.wide _ trivial rfl (by omega) _) walksK_t walksK_b (Below.refl _ _) (fun _ => rfl)
    (fun pre W => (QuadAt W w5.heap.size (four a b c d) ∧ TileAt W w4.heap.size (part (fun i : Fin 64 => halveT (four a b c d) i.val) pre)) ∧ Below w.heap.size w W)
    (fun _ _ _ => False)
    (OwnFrom.and (Own.from (fun s A B row hs hg hr => ⟨quad_own hs.1 hg hr, tileAt_own hs.2 hg hr⟩) _) (ownFrom_below (Nat.le_refl _) hB7.size))
    (fun _ _ _ _ _ hs _ _ => hs)
    ⟨⟨t6, t5⟩, hB7⟩
    (fun x => { tmps := #[Tile.v a, Tile.v b, Tile.v c, Tile.v d, .pointer (some ⟨w.heap.size, 0, none⟩), .pointer (some ⟨w1.heap.size, 0, none⟩), .pointer (some ⟨w2.heap.size, 0, none⟩), .pointer (some ⟨w3.heap.size, 0, none⟩), .pointer (some ⟨w4.heap.size, 0, none⟩), .pointer (some ⟨w5.heap.size, 0, none⟩), .int .i64 ((x.val : Int) % 8), .int .i64 ((x.val : Int) / 8), undef, undef, undef, undef, Tile.v a, Tile.v b, Half.v a b, Tile.v c, Tile.v d, Half.v c d, Quad.v (four a b c d), .func (.func 43) #[] #[], .int .i64 ((x.val : Int) % 8), .int .i64 ((x.val : Int) / 8), undef, undef, undef, undef, undef, undef, undef, undef, undef, undef, undef, undef, undef, undef, undef, undef, undef, undef, undef, undef, undef, undef, undef, undef, undef, undef, undef, undef, undef, undef, undef, undef, undef, undef], defers := [] }) ?assign ?body ?done ?stop
  case assign =>
    intro l x W K hK
    gi_wp2
    exact hK
  case body =>
    rintro l pre x W ⟨⟨hQ, hO⟩, hB⟩ _
    have hx := x.isLt
    clear t5 t6 hB7
    have n1 : (1 : Nat) ≤ 3 - 1 - 1 := by omega
    have hql := hQ.lt
    have hol := hO.lt
    gi_wp2_with (first | (refine wpListIn_allocM rfl rfl ?_; intro w8 m1 hb8 hz8; have l8 := Nat.lt_of_lt_of_eq (Nat.lt_succ_self _) hz8.symm; clear hz8; replace hQ := hQ.of_eq (hb8.block _ hQ.lt); replace hO := hO.of_eq (hb8.block _ hO.lt); simp only [Act.put, List.setIfInBounds_toArray, List.set_cons_zero, List.set_cons_succ]))
    have B8 : Below w.heap.size w w8 := by
      repeat' (first | (with_reducible exact Below.refl _ _) | (with_reducible assumption) | (with_reducible refine Below.trans ?_ (hb8.mono (by omega))))
    have K8 := KO_below hb8
    gi_loopw [13, 14, 15, 26] (fun _ _ _ i wr => ∃ k : Nat, k ≤ 4 ∧ i = .int .i64 k ∧ Below w.heap.size w wr ∧ w8.heap.size ≤ wr.heap.size ∧ KeepsOthers W wr ∧ QuadAt wr w5.heap.size (four a b c d) ∧ TileAt wr w4.heap.size (part (fun i : Fin 64 => halveT (four a b c d) i.val) pre) ∧ PMean wr W.heap.size (hacc (four a b c d) x.val k)) (fun _ _ _ i _ => (4 - intOf i).toNat)
    case atStart => exact ⟨0, by omega, rfl, B8, Nat.le_refl _, K8, hQ, hO, m1⟩
    case round =>
      obtain ⟨k, hk, rfl, Br, hr, Kr, hQ, hO, m1⟩ := hrel
      by_cases hlt : k < 4
      · have hok := hacc_ok Hq.out hx k hk
        have hM : (65536 : Int) * k ≤ 1000000000 := by omega
        obtain ⟨v, hv⟩ : ∃ v : Nat, v = 2 * (x.val / 8) + k / 2 := ⟨_, rfl⟩
        obtain ⟨u, hu⟩ : ∃ u : Nat, u = 2 * (x.val % 8) + k % 2 := ⟨_, rfl⟩
        have ev : 2 * ((x.val : Int) / 8) + (k : Int) / 2 = (v : Int) := by omega
        have eu : 2 * ((x.val : Int) % 8) + (k : Int) % 2 = (u : Int) := by omega
        have v16 : v < 16 := by omega
        have u16 : u < 16 := by omega
        have hs4 : 2 * (v / 8) + u / 8 < 4 := by omega
        have hg : Hid (getT (four a b c d (2 * (v / 8) + u / 8)) ((u : Int) % 8) ((v : Int) % 8) = hpx (four a b c d) x.val k) := Lib.hid ((getT_in (i := 8 * (v % 8) + u % 8) (by omega) (by omega) (by omega)).trans (by unfold hpx; rw [hv, hu]))
        have hpo := hpx_ok Hq.out hx hlt
        have hpo' := hg.out ▸ hpo
        clear hv hu
        gi_wp2_with (first | (refine ⟨trivial, ?_⟩; gi_at_call 27; refine (CallsIn.inRound l (callsIn_wide.2 (P_Add _ _ _ 1 _ _ hok hM hpo' m1))).mono ?_; rintro e w10 ⟨rfl, m2, hc10⟩; have hz10 := hc10.size; have hk10 := KO_chg hc10 m1; clear m1; have m1 := m2; clear m2; replace hQ := hQ.of_eq (hc10.block _ hQ.lt (by omega)); replace hO := hO.of_eq (hc10.block _ hO.lt (by omega))) | (refine ⟨trivial, ?_⟩; gi_at_call 16; refine (CallsIn.inRound l (callsIn_wide.2 (P_Get _ _ _ _))).mono ?_; rintro e w9 ⟨rfl, hb9⟩; have hz9 := hb9.size; replace hQ := hQ.of_eq (hb9.block _ hQ.lt); replace hO := hO.of_eq (hb9.block _ hO.lt); replace m1 := m1.of_eq (hb9.block _ m1.lt)) | (refine wpListIn_loadQ rfl _ rfl _ _ rfl hQ (2 * (v / 8) + u / 8) hs4 (by first | rfl | omega) ?_; simp only [Act.put, List.setIfInBounds_toArray, List.set_cons_zero, List.set_cons_succ]))
        go_roundw
        case rel => exact ⟨k + 1, by omega, by go_num, by repeat' (first | (with_reducible exact Below.refl _ _) | (with_reducible assumption) | (with_reducible refine Below.trans ?_ (hb9.mono (by omega))) | (with_reducible refine Chg.below ?_ hc10 (by omega) (by omega))), by omega, Kr.trans ((KO_below hb9).trans hk10), hQ, hO, by rw [hg.out] at m1; exact m1⟩
        case measure => simp [intOf]; omega
      · obtain rfl : k = 4 := by omega
        have hok := hacc_ok Hq.out hx 4 (by omega)
        have hxy : 8 * ((x.val : Int) / 8) + (x.val : Int) % 8 = (x.val : Int) := by omega
        gi_wp2_with (first | (refine wpListIn_storeTp rfl _ _ rfl _ _ rfl _ rfl hO x.val hx (by first | rfl | omega) ?_; intro w10 hO2 hc10 hz10; replace hz10 := Nat.le_of_eq hz10.symm; have hk10 := KO_chg hc10 hO; clear hO; have hO := hO2; clear hO2; replace hQ := hQ.of_eq (hc10.block _ hQ.lt (by omega)); simp only [Act.put, List.setIfInBounds_toArray, List.set_cons_zero, List.set_cons_succ]) | (refine ⟨trivial, ?_⟩; gi_at_call 28; refine (CallsIn.inRound l (callsIn_wide.2 (P_MPixel _ _ _ _ hok (by omega) m1))).mono ?_; rintro e w9 ⟨rfl, hb9⟩; have hz9 := hb9.size; replace hQ := hQ.of_eq (hb9.block _ hQ.lt); replace hO := hO.of_eq (hb9.block _ hO.lt); replace m1 := m1.of_eq (hb9.block _ m1.lt)))
        refine ⟨Kr.trans ((KO_below hb9).trans hk10), (Kr.trans ((KO_below hb9).trans hk10)).walks, ⟨hQ, ?_⟩, ?_⟩
        · rw [part_snoc]; exact hO
        · repeat' (first | (with_reducible exact Below.refl _ _) | (with_reducible assumption) | (with_reducible refine Below.trans ?_ (hb9.mono (by omega))) | (with_reducible refine Chg.below ?_ hc10 (by omega) (by omega)))
  case done =>
    rintro D ys W hD rfl ⟨⟨hQ, hO⟩, hB⟩ hK
    have hne : D ≠ w4.heap.size := fun e => by
      rw [e] at hK
      rw [hO] at hK
      cases hK
    gi_wp2_with (first | (refine wpListIn_loadT rfl _ rfl _ rfl hO ?_; simp only [Act.put, List.setIfInBounds_toArray, List.set_cons_zero, List.set_cons_succ]) | (refine wpListIn_storeT rfl _ _ rfl _ rfl _ rfl hO ?_; intro w9 ht4 hc4 hz4; simp only [Act.put, List.setIfInBounds_toArray, List.set_cons_zero, List.set_cons_succ]))
    have hK4 := (hc4.block D (Array.getElem?_eq_some_iff.1 hK).1 hne).trans hK
    refine ⟨by simp, .inl ⟨_, _, rfl, run_takeDeferred hK4, ?_⟩⟩
    refine ⟨_, results_tile rfl _ _ (w4.heap.size) rfl ((World.putObj_heap_other (fun e => hne e.symm)).trans ht4), rfl, ?_⟩
    exact (Chg.below hB hc4 (by omega) hB.size).trans (belowK_b (w := w) (Nat.le_refl _) w9 D _ _ (by have := hB7.size; omega) hK4 rfl rfl)
  case stop =>
    rintro D c pre W _ _ h _
    exact h.elim
end Go.Proofs.YtelfkakaaobfcaaDoor
