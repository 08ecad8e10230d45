/- TileAccess: for every tile and all coordinates, Get, Set, Fill, Zero, Solid and Clean return what the reference returns: the law returns true for every input, and its arguments read as they did. No condition. -/
import Derived.Test.YtelfkakaaobfcaaTj
namespace Go.Proofs.Ytelfkakaaobfcaa
open Go.RowKit Pl
set_option linter.unusedVariables false
set_option linter.unusedSimpArgs false

theorem tri_ok {t : Nat → Px} {p : Px} (ht : Tok t) (hp : p.ok) (k : Nat) : Tok (tri t (fillT p) (fun _ => Px.zero) k) := fun i hi => by
  unfold tri
  split
  · exact ht i hi
  · split
    · exact hp
    · exact Px.zero_ok

set_option maxHeartbeats 8000000 in
set_option maxRecDepth 20000 in
theorem walk_TileAccess (t : Nat → Px) (p : Px) (x y : Int) (ht : Tok t) (hp : p.ok) (w : World) : Calls Try.prog 6 #[Tile.v t, Px.v p, .agg #[.int .i64 x, .int .i64 y]] w fun e w' => e = .returned (.bool true) ∧ Below w.heap.size w w' := by
  have htri := Lib.hid (fun k => tri_ok (p := p) ht hp k)
  clear ht hp
  have B := Below.refl w.heap.size w
  go_enter Try.func6, Try.ntmps6
  go_upto_region 2 with (first | (go_at_call 9; refine (sanity _).mono ?_; rintro e wn ⟨rfl, hbn⟩; have hsz := B.size; have hzn := hbn.size; replace B := B.trans (hbn.mono B.size); (try replace t1 := t1.of_eq (hbn.block _ t1.lt)); (try replace p1 := p1.of_eq (hbn.block _ p1.lt)); (try replace a1 := a1.of_eq (hbn.block _ a1.lt)); (try replace q1 := q1.of_eq (hbn.block _ q1.lt)); (try replace u1 := u1.of_eq (hbn.block _ u1.lt)); (try replace s1 := s1.of_eq (hbn.block _ s1.lt)); (try replace s2 := s2.of_eq (hbn.block _ s2.lt)); (try replace n1 := n1.of_eq (hbn.block _ n1.lt))) | (have _ := p1; refine wpList_boxI2' rfl _ rfl _ _ rfl ?_; intro b_a1 wn hle hge ht hbn hzn; have hsz := B.size; replace B := B.trans (hbn.mono (by omega)); have hln := Nat.lt_of_lt_of_eq (Nat.lt_succ_self _) hzn.symm; clear hzn; (try (have hlt := t1.lt; replace t1 := t1.of_eq (hbn.block _ (by omega)))); (try (have hlt := p1.lt; replace p1 := p1.of_eq (hbn.block _ (by omega)))); (try (have hlt := a1.lt; replace a1 := a1.of_eq (hbn.block _ (by omega)))); (try (have hlt := q1.lt; replace q1 := q1.of_eq (hbn.block _ (by omega)))); (try (have hlt := u1.lt; replace u1 := u1.of_eq (hbn.block _ (by omega)))); (try (have hlt := s1.lt; replace s1 := s1.of_eq (hbn.block _ (by omega)))); (try (have hlt := s2.lt; replace s2 := s2.of_eq (hbn.block _ (by omega)))); (try (have hlt := n1.lt; replace n1 := n1.of_eq (hbn.block _ (by omega)))); have a1 := ht; clear ht; simp only [Act.put, List.setIfInBounds_toArray, List.set_cons_zero, List.set_cons_succ]) | (have _ := t1; refine wpList_boxPx' rfl _ rfl _ rfl ?_; intro b_p1 wn hle hge ht hbn hzn; have hsz := B.size; replace B := B.trans (hbn.mono (by omega)); have hln := Nat.lt_of_lt_of_eq (Nat.lt_succ_self _) hzn.symm; clear hzn; (try (have hlt := t1.lt; replace t1 := t1.of_eq (hbn.block _ (by omega)))); (try (have hlt := p1.lt; replace p1 := p1.of_eq (hbn.block _ (by omega)))); (try (have hlt := a1.lt; replace a1 := a1.of_eq (hbn.block _ (by omega)))); (try (have hlt := q1.lt; replace q1 := q1.of_eq (hbn.block _ (by omega)))); (try (have hlt := u1.lt; replace u1 := u1.of_eq (hbn.block _ (by omega)))); (try (have hlt := s1.lt; replace s1 := s1.of_eq (hbn.block _ (by omega)))); (try (have hlt := s2.lt; replace s2 := s2.of_eq (hbn.block _ (by omega)))); (try (have hlt := n1.lt; replace n1 := n1.of_eq (hbn.block _ (by omega)))); have p1 := ht; clear ht; simp only [Act.put, List.setIfInBounds_toArray, List.set_cons_zero, List.set_cons_succ]) | (refine wpList_boxT' rfl _ rfl _ rfl ?_; intro b_t1 wn hle hge ht hbn hzn; have hsz := B.size; replace B := B.trans (hbn.mono (by omega)); have hln := Nat.lt_of_lt_of_eq (Nat.lt_succ_self _) hzn.symm; clear hzn; (try (have hlt := t1.lt; replace t1 := t1.of_eq (hbn.block _ (by omega)))); (try (have hlt := p1.lt; replace p1 := p1.of_eq (hbn.block _ (by omega)))); (try (have hlt := a1.lt; replace a1 := a1.of_eq (hbn.block _ (by omega)))); (try (have hlt := q1.lt; replace q1 := q1.of_eq (hbn.block _ (by omega)))); (try (have hlt := u1.lt; replace u1 := u1.of_eq (hbn.block _ (by omega)))); (try (have hlt := s1.lt; replace s1 := s1.of_eq (hbn.block _ (by omega)))); (try (have hlt := s2.lt; replace s2 := s2.of_eq (hbn.block _ (by omega)))); (try (have hlt := n1.lt; replace n1 := n1.of_eq (hbn.block _ (by omega)))); have t1 := ht; clear ht; simp only [Act.put, List.setIfInBounds_toArray, List.set_cons_zero, List.set_cons_succ]))
  go_cut [8] from 17 to 21 (fun s wx => ∃ b, s = .pointer (some ⟨b, 0, none⟩) ∧ TriAt wx b (tri t (fillT p) (fun _ => Px.zero)) ∧ Below w.heap.size w wx ∧ w.heap.size ≤ wx.heap.size ∧ TileAt wx b_t1 t ∧ PixAt wx b_p1 p ∧ PairAt wx b_a1 x y)
  case first =>
    refine wp_region_any (by kernel_rfl) ?_
    change wpAny _ _ _ _ _ _ _ (World.drew _)
    replace B := B.drew
    replace t1 := t1.drew
    replace p1 := p1.drew
    replace a1 := a1.drew
    generalize wn.drew = w7 at *
    have hsz7 := B.size
    have lt1 := t1.lt
    have lp1 := p1.lt
    have la1 := a1.lt
    clear hsz hzn hbn
    refine wpAny_ready (rs := [0, 1, 3, 5]) (by kernel_rfl) (by simp) ?_
    refine AllReady.cons rfl (fun K hK => ite_of rfl ?_) ?_
    · simp only [List.getElem_toArray, List.getElem_cons_zero, List.getElem_cons_succ]
      refine owp_loadT _ _ rfl rfl t1 ?_
      refine hK _ _ ?_
      simp only [Act.put, List.setIfInBounds_toArray, List.set_cons_zero, List.set_cons_succ]
      clear hK K
      refine wpAny_ready (rs := [1, 3, 5]) (by kernel_rfl) (by simp) ?_
      refine AllReady.cons rfl (fun K hK => ite_of rfl ?_) ?_
      · simp only [List.getElem_toArray, List.getElem_cons_zero, List.getElem_cons_succ]
        refine owp_loadPx _ _ rfl rfl p1 ?_
        refine hK _ _ ?_
        simp only [Act.put, List.setIfInBounds_toArray, List.set_cons_zero, List.set_cons_succ]
        clear hK K
        refine wpAny_ready (rs := [2, 3, 5]) (by kernel_rfl) (by simp) ?_
        refine AllReady.cons rfl (fun K hK => ite_of rfl ?_) ?_
        · simp only [List.getElem_toArray, List.getElem_cons_zero, List.getElem_cons_succ]
          go_simp
          go_at_call 18
          refine (R_Fill _ _).mono ?_
          rintro e w8 ⟨rfl, hb8⟩
          have hz8 := hb8.size
          replace t1 := t1.of_eq (hb8.block _ t1.lt)
          replace p1 := p1.of_eq (hb8.block _ p1.lt)
          replace a1 := a1.of_eq (hb8.block _ a1.lt)
          refine hK _ _ ?_
          clear hK K
          refine wpAny_ready (rs := [3, 5]) (by kernel_rfl) (by simp) ?_
          refine AllReady.cons rfl (fun K hK => ite_of rfl ?_) ?_
          · simp only [List.getElem_toArray, List.getElem_cons_zero, List.getElem_cons_succ]
            refine owp_buildT rfl ?_
            refine hK _ _ ?_
            simp only [Act.put, List.setIfInBounds_toArray, List.set_cons_zero, List.set_cons_succ]
            clear hK K
            refine wpAny_ready (rs := [4, 5]) (by kernel_rfl) (by simp) ?_
            refine AllReady.cons rfl (fun K hK => ite_of rfl ?_) ?_
            · simp only [List.getElem_toArray, List.getElem_cons_zero, List.getElem_cons_succ]
              refine owp_buildTri _ _ _ rfl _ _ _ rfl rfl rfl ?_
              refine hK _ _ ?_
              simp only [Act.put, List.setIfInBounds_toArray, List.set_cons_zero, List.set_cons_succ]
              clear hK K
              refine wpAny_ready (rs := [5]) (by kernel_rfl) (by simp) ?_
              refine AllReady.cons rfl (fun K hK => ite_of rfl ?_) ?_
              · simp only [List.getElem_toArray, List.getElem_cons_zero, List.getElem_cons_succ]
                refine owp_allocTri rfl ?_
                intro w9 q1 hb9 hz9
                have l9 := Nat.lt_of_lt_of_eq (Nat.lt_succ_self _) hz9.symm
                clear hz9
                replace t1 := t1.of_eq (hb9.block _ t1.lt)
                replace p1 := p1.of_eq (hb9.block _ p1.lt)
                replace a1 := a1.of_eq (hb9.block _ a1.lt)
                refine hK _ _ ?_
                simp only [Act.put, List.setIfInBounds_toArray, List.set_cons_zero, List.set_cons_succ]
                clear hK K
                refine wpAny_ready (rs := [6]) (by kernel_rfl) (by simp) ?_
                refine AllReady.cons rfl (fun K hK => ite_of rfl ?_) ?_
                · simp only [List.getElem_toArray, List.getElem_cons_zero, List.getElem_cons_succ]
                  refine owp_storeTri _ _ _ _ rfl rfl rfl q1 ?_
                  clear q1
                  intro w10 q1 hc10 hz10
                  replace hz10 := Nat.le_of_eq hz10.symm
                  replace t1 := t1.of_eq (hc10.block _ t1.lt (by omega))
                  replace p1 := p1.of_eq (hc10.block _ p1.lt (by omega))
                  replace a1 := a1.of_eq (hc10.block _ a1.lt (by omega))
                  refine hK _ _ ?_
                  simp only [Act.put, List.setIfInBounds_toArray, List.set_cons_zero, List.set_cons_succ]
                  clear hK K
                  refine wpAny_done (by kernel_rfl) ?_ _
                  go_wp2_with fail
                  go_meet
                  exact ⟨_, rfl, q1, by repeat' (first | (with_reducible exact Below.refl _ _) | (with_reducible assumption) | (with_reducible refine Below.trans ?_ (hb8.mono (by omega))) | (with_reducible refine Below.trans ?_ (hb9.mono (by omega))) | (with_reducible refine Chg.below ?_ hc10 (by omega) (by omega))), by omega, t1, p1, a1⟩
                exact AllReady.nil
              exact AllReady.nil
            refine AllReady.cons rfl (fun K hK => ite_of rfl ?_) ?_
            · simp only [List.getElem_toArray, List.getElem_cons_zero, List.getElem_cons_succ]
              refine owp_allocTri rfl ?_
              intro w9 q1 hb9 hz9
              have l9 := Nat.lt_of_lt_of_eq (Nat.lt_succ_self _) hz9.symm
              clear hz9
              replace t1 := t1.of_eq (hb9.block _ t1.lt)
              replace p1 := p1.of_eq (hb9.block _ p1.lt)
              replace a1 := a1.of_eq (hb9.block _ a1.lt)
              refine hK _ _ ?_
              simp only [Act.put, List.setIfInBounds_toArray, List.set_cons_zero, List.set_cons_succ]
              clear hK K
              refine wpAny_ready (rs := [4]) (by kernel_rfl) (by simp) ?_
              refine AllReady.cons rfl (fun K hK => ite_of rfl ?_) ?_
              · simp only [List.getElem_toArray, List.getElem_cons_zero, List.getElem_cons_succ]
                refine owp_buildTri _ _ _ rfl _ _ _ rfl rfl rfl ?_
                refine hK _ _ ?_
                simp only [Act.put, List.setIfInBounds_toArray, List.set_cons_zero, List.set_cons_succ]
                clear hK K
                refine wpAny_ready (rs := [6]) (by kernel_rfl) (by simp) ?_
                refine AllReady.cons rfl (fun K hK => ite_of rfl ?_) ?_
                · simp only [List.getElem_toArray, List.getElem_cons_zero, List.getElem_cons_succ]
                  refine owp_storeTri _ _ _ _ rfl rfl rfl q1 ?_
                  clear q1
                  intro w10 q1 hc10 hz10
                  replace hz10 := Nat.le_of_eq hz10.symm
                  replace t1 := t1.of_eq (hc10.block _ t1.lt (by omega))
                  replace p1 := p1.of_eq (hc10.block _ p1.lt (by omega))
                  replace a1 := a1.of_eq (hc10.block _ a1.lt (by omega))
                  refine hK _ _ ?_
                  simp only [Act.put, List.setIfInBounds_toArray, List.set_cons_zero, List.set_cons_succ]
                  clear hK K
                  refine wpAny_done (by kernel_rfl) ?_ _
                  go_wp2_with fail
                  go_meet
                  exact ⟨_, rfl, q1, by repeat' (first | (with_reducible exact Below.refl _ _) | (with_reducible assumption) | (with_reducible refine Below.trans ?_ (hb8.mono (by omega))) | (with_reducible refine Below.trans ?_ (hb9.mono (by omega))) | (with_reducible refine Chg.below ?_ hc10 (by omega) (by omega))), by omega, t1, p1, a1⟩
                exact AllReady.nil
              exact AllReady.nil
            exact AllReady.nil
          refine AllReady.cons rfl (fun K hK => ite_of rfl ?_) ?_
          · simp only [List.getElem_toArray, List.getElem_cons_zero, List.getElem_cons_succ]
            refine owp_allocTri rfl ?_
            intro w9 q1 hb9 hz9
            have l9 := Nat.lt_of_lt_of_eq (Nat.lt_succ_self _) hz9.symm
            clear hz9
            replace t1 := t1.of_eq (hb9.block _ t1.lt)
            replace p1 := p1.of_eq (hb9.block _ p1.lt)
            replace a1 := a1.of_eq (hb9.block _ a1.lt)
            refine hK _ _ ?_
            simp only [Act.put, List.setIfInBounds_toArray, List.set_cons_zero, List.set_cons_succ]
            clear hK K
            refine wpAny_ready (rs := [3]) (by kernel_rfl) (by simp) ?_
            refine AllReady.cons rfl (fun K hK => ite_of rfl ?_) ?_
            · simp only [List.getElem_toArray, List.getElem_cons_zero, List.getElem_cons_succ]
              refine owp_buildT rfl ?_
              refine hK _ _ ?_
              simp only [Act.put, List.setIfInBounds_toArray, List.set_cons_zero, List.set_cons_succ]
              clear hK K
              refine wpAny_ready (rs := [4]) (by kernel_rfl) (by simp) ?_
              refine AllReady.cons rfl (fun K hK => ite_of rfl ?_) ?_
              · simp only [List.getElem_toArray, List.getElem_cons_zero, List.getElem_cons_succ]
                refine owp_buildTri _ _ _ rfl _ _ _ rfl rfl rfl ?_
                refine hK _ _ ?_
                simp only [Act.put, List.setIfInBounds_toArray, List.set_cons_zero, List.set_cons_succ]
                clear hK K
                refine wpAny_ready (rs := [6]) (by kernel_rfl) (by simp) ?_
                refine AllReady.cons rfl (fun K hK => ite_of rfl ?_) ?_
                · simp only [List.getElem_toArray, List.getElem_cons_zero, List.getElem_cons_succ]
                  refine owp_storeTri _ _ _ _ rfl rfl rfl q1 ?_
                  clear q1
                  intro w10 q1 hc10 hz10
                  replace hz10 := Nat.le_of_eq hz10.symm
                  replace t1 := t1.of_eq (hc10.block _ t1.lt (by omega))
                  replace p1 := p1.of_eq (hc10.block _ p1.lt (by omega))
                  replace a1 := a1.of_eq (hc10.block _ a1.lt (by omega))
                  refine hK _ _ ?_
                  simp only [Act.put, List.setIfInBounds_toArray, List.set_cons_zero, List.set_cons_succ]
                  clear hK K
                  refine wpAny_done (by kernel_rfl) ?_ _
                  go_wp2_with fail
                  go_meet
                  exact ⟨_, rfl, q1, by repeat' (first | (with_reducible exact Below.refl _ _) | (with_reducible assumption) | (with_reducible refine Below.trans ?_ (hb8.mono (by omega))) | (with_reducible refine Below.trans ?_ (hb9.mono (by omega))) | (with_reducible refine Chg.below ?_ hc10 (by omega) (by omega))), by omega, t1, p1, a1⟩
                exact AllReady.nil
              exact AllReady.nil
            exact AllReady.nil
          exact AllReady.nil
        refine AllReady.cons rfl (fun K hK => ite_of rfl ?_) ?_
        · simp only [List.getElem_toArray, List.getElem_cons_zero, List.getElem_cons_succ]
          refine owp_buildT rfl ?_
          refine hK _ _ ?_
          simp only [Act.put, List.setIfInBounds_toArray, List.set_cons_zero, List.set_cons_succ]
          clear hK K
          refine wpAny_ready (rs := [2, 5]) (by kernel_rfl) (by simp) ?_
          refine AllReady.cons rfl (fun K hK => ite_of rfl ?_) ?_
          · simp only [List.getElem_toArray, List.getElem_cons_zero, List.getElem_cons_succ]
            go_simp
            go_at_call 18
            refine (R_Fill _ _).mono ?_
            rintro e w8 ⟨rfl, hb8⟩
            have hz8 := hb8.size
            replace t1 := t1.of_eq (hb8.block _ t1.lt)
            replace p1 := p1.of_eq (hb8.block _ p1.lt)
            replace a1 := a1.of_eq (hb8.block _ a1.lt)
            refine hK _ _ ?_
            clear hK K
            refine wpAny_ready (rs := [4, 5]) (by kernel_rfl) (by simp) ?_
            refine AllReady.cons rfl (fun K hK => ite_of rfl ?_) ?_
            · simp only [List.getElem_toArray, List.getElem_cons_zero, List.getElem_cons_succ]
              refine owp_buildTri _ _ _ rfl _ _ _ rfl rfl rfl ?_
              refine hK _ _ ?_
              simp only [Act.put, List.setIfInBounds_toArray, List.set_cons_zero, List.set_cons_succ]
              clear hK K
              refine wpAny_ready (rs := [5]) (by kernel_rfl) (by simp) ?_
              refine AllReady.cons rfl (fun K hK => ite_of rfl ?_) ?_
              · simp only [List.getElem_toArray, List.getElem_cons_zero, List.getElem_cons_succ]
                refine owp_allocTri rfl ?_
                intro w9 q1 hb9 hz9
                have l9 := Nat.lt_of_lt_of_eq (Nat.lt_succ_self _) hz9.symm
                clear hz9
                replace t1 := t1.of_eq (hb9.block _ t1.lt)
                replace p1 := p1.of_eq (hb9.block _ p1.lt)
                replace a1 := a1.of_eq (hb9.block _ a1.lt)
                refine hK _ _ ?_
                simp only [Act.put, List.setIfInBounds_toArray, List.set_cons_zero, List.set_cons_succ]
                clear hK K
                refine wpAny_ready (rs := [6]) (by kernel_rfl) (by simp) ?_
                refine AllReady.cons rfl (fun K hK => ite_of rfl ?_) ?_
                · simp only [List.getElem_toArray, List.getElem_cons_zero, List.getElem_cons_succ]
                  refine owp_storeTri _ _ _ _ rfl rfl rfl q1 ?_
                  clear q1
                  intro w10 q1 hc10 hz10
                  replace hz10 := Nat.le_of_eq hz10.symm
                  replace t1 := t1.of_eq (hc10.block _ t1.lt (by omega))
                  replace p1 := p1.of_eq (hc10.block _ p1.lt (by omega))
                  replace a1 := a1.of_eq (hc10.block _ a1.lt (by omega))
                  refine hK _ _ ?_
                  simp only [Act.put, List.setIfInBounds_toArray, List.set_cons_zero, List.set_cons_succ]
                  clear hK K
                  refine wpAny_done (by kernel_rfl) ?_ _
                  go_wp2_with fail
                  go_meet
                  exact ⟨_, rfl, q1, by repeat' (first | (with_reducible exact Below.refl _ _) | (with_reducible assumption) | (with_reducible refine Below.trans ?_ (hb8.mono (by omega))) | (with_reducible refine Below.trans ?_ (hb9.mono (by omega))) | (with_reducible refine Chg.below ?_ hc10 (by omega) (by omega))), by omega, t1, p1, a1⟩
                exact AllReady.nil
              exact AllReady.nil
            refine AllReady.cons rfl (fun K hK => ite_of rfl ?_) ?_
            · simp only [List.getElem_toArray, List.getElem_cons_zero, List.getElem_cons_succ]
              refine owp_allocTri rfl ?_
              intro w9 q1 hb9 hz9
              have l9 := Nat.lt_of_lt_of_eq (Nat.lt_succ_self _) hz9.symm
              clear hz9
              replace t1 := t1.of_eq (hb9.block _ t1.lt)
              replace p1 := p1.of_eq (hb9.block _ p1.lt)
              replace a1 := a1.of_eq (hb9.block _ a1.lt)
              refine hK _ _ ?_
              simp only [Act.put, List.setIfInBounds_toArray, List.set_cons_zero, List.set_cons_succ]
              clear hK K
              refine wpAny_ready (rs := [4]) (by kernel_rfl) (by simp) ?_
              refine AllReady.cons rfl (fun K hK => ite_of rfl ?_) ?_
              · simp only [List.getElem_toArray, List.getElem_cons_zero, List.getElem_cons_succ]
                refine owp_buildTri _ _ _ rfl _ _ _ rfl rfl rfl ?_
                refine hK _ _ ?_
                simp only [Act.put, List.setIfInBounds_toArray, List.set_cons_zero, List.set_cons_succ]
                clear hK K
                refine wpAny_ready (rs := [6]) (by kernel_rfl) (by simp) ?_
                refine AllReady.cons rfl (fun K hK => ite_of rfl ?_) ?_
                · simp only [List.getElem_toArray, List.getElem_cons_zero, List.getElem_cons_succ]
                  refine owp_storeTri _ _ _ _ rfl rfl rfl q1 ?_
                  clear q1
                  intro w10 q1 hc10 hz10
                  replace hz10 := Nat.le_of_eq hz10.symm
                  replace t1 := t1.of_eq (hc10.block _ t1.lt (by omega))
                  replace p1 := p1.of_eq (hc10.block _ p1.lt (by omega))
                  replace a1 := a1.of_eq (hc10.block _ a1.lt (by omega))
                  refine hK _ _ ?_
                  simp only [Act.put, List.setIfInBounds_toArray, List.set_cons_zero, List.set_cons_succ]
                  clear hK K
                  refine wpAny_done (by kernel_rfl) ?_ _
                  go_wp2_with fail
                  go_meet
                  exact ⟨_, rfl, q1, by repeat' (first | (with_reducible exact Below.refl _ _) | (with_reducible assumption) | (with_reducible refine Below.trans ?_ (hb8.mono (by omega))) | (with_reducible refine Below.trans ?_ (hb9.mono (by omega))) | (with_reducible refine Chg.below ?_ hc10 (by omega) (by omega))), by omega, t1, p1, a1⟩
                exact AllReady.nil
              exact AllReady.nil
            exact AllReady.nil
          refine AllReady.cons rfl (fun K hK => ite_of rfl ?_) ?_
          · simp only [List.getElem_toArray, List.getElem_cons_zero, List.getElem_cons_succ]
            refine owp_allocTri rfl ?_
            intro w8 q1 hb8 hz8
            have l8 := Nat.lt_of_lt_of_eq (Nat.lt_succ_self _) hz8.symm
            clear hz8
            replace t1 := t1.of_eq (hb8.block _ t1.lt)
            replace p1 := p1.of_eq (hb8.block _ p1.lt)
            replace a1 := a1.of_eq (hb8.block _ a1.lt)
            refine hK _ _ ?_
            simp only [Act.put, List.setIfInBounds_toArray, List.set_cons_zero, List.set_cons_succ]
            clear hK K
            refine wpAny_ready (rs := [2]) (by kernel_rfl) (by simp) ?_
            refine AllReady.cons rfl (fun K hK => ite_of rfl ?_) ?_
            · simp only [List.getElem_toArray, List.getElem_cons_zero, List.getElem_cons_succ]
              go_simp
              go_at_call 18
              refine (R_Fill _ _).mono ?_
              rintro e w9 ⟨rfl, hb9⟩
              have hz9 := hb9.size
              replace t1 := t1.of_eq (hb9.block _ t1.lt)
              replace p1 := p1.of_eq (hb9.block _ p1.lt)
              replace a1 := a1.of_eq (hb9.block _ a1.lt)
              replace q1 := q1.of_eq (hb9.block _ q1.lt)
              refine hK _ _ ?_
              clear hK K
              refine wpAny_ready (rs := [4]) (by kernel_rfl) (by simp) ?_
              refine AllReady.cons rfl (fun K hK => ite_of rfl ?_) ?_
              · simp only [List.getElem_toArray, List.getElem_cons_zero, List.getElem_cons_succ]
                refine owp_buildTri _ _ _ rfl _ _ _ rfl rfl rfl ?_
                refine hK _ _ ?_
                simp only [Act.put, List.setIfInBounds_toArray, List.set_cons_zero, List.set_cons_succ]
                clear hK K
                refine wpAny_ready (rs := [6]) (by kernel_rfl) (by simp) ?_
                refine AllReady.cons rfl (fun K hK => ite_of rfl ?_) ?_
                · simp only [List.getElem_toArray, List.getElem_cons_zero, List.getElem_cons_succ]
                  refine owp_storeTri _ _ _ _ rfl rfl rfl q1 ?_
                  clear q1
                  intro w10 q1 hc10 hz10
                  replace hz10 := Nat.le_of_eq hz10.symm
                  replace t1 := t1.of_eq (hc10.block _ t1.lt (by omega))
                  replace p1 := p1.of_eq (hc10.block _ p1.lt (by omega))
                  replace a1 := a1.of_eq (hc10.block _ a1.lt (by omega))
                  refine hK _ _ ?_
                  simp only [Act.put, List.setIfInBounds_toArray, List.set_cons_zero, List.set_cons_succ]
                  clear hK K
                  refine wpAny_done (by kernel_rfl) ?_ _
                  go_wp2_with fail
                  go_meet
                  exact ⟨_, rfl, q1, by repeat' (first | (with_reducible exact Below.refl _ _) | (with_reducible assumption) | (with_reducible refine Below.trans ?_ (hb8.mono (by omega))) | (with_reducible refine Below.trans ?_ (hb9.mono (by omega))) | (with_reducible refine Chg.below ?_ hc10 (by omega) (by omega))), by omega, t1, p1, a1⟩
                exact AllReady.nil
              exact AllReady.nil
            exact AllReady.nil
          exact AllReady.nil
        refine AllReady.cons rfl (fun K hK => ite_of rfl ?_) ?_
        · simp only [List.getElem_toArray, List.getElem_cons_zero, List.getElem_cons_succ]
          refine owp_allocTri rfl ?_
          intro w8 q1 hb8 hz8
          have l8 := Nat.lt_of_lt_of_eq (Nat.lt_succ_self _) hz8.symm
          clear hz8
          replace t1 := t1.of_eq (hb8.block _ t1.lt)
          replace p1 := p1.of_eq (hb8.block _ p1.lt)
          replace a1 := a1.of_eq (hb8.block _ a1.lt)
          refine hK _ _ ?_
          simp only [Act.put, List.setIfInBounds_toArray, List.set_cons_zero, List.set_cons_succ]
          clear hK K
          refine wpAny_ready (rs := [2, 3]) (by kernel_rfl) (by simp) ?_
          refine AllReady.cons rfl (fun K hK => ite_of rfl ?_) ?_
          · simp only [List.getElem_toArray, List.getElem_cons_zero, List.getElem_cons_succ]
            go_simp
            go_at_call 18
            refine (R_Fill _ _).mono ?_
            rintro e w9 ⟨rfl, hb9⟩
            have hz9 := hb9.size
            replace t1 := t1.of_eq (hb9.block _ t1.lt)
            replace p1 := p1.of_eq (hb9.block _ p1.lt)
            replace a1 := a1.of_eq (hb9.block _ a1.lt)
            replace q1 := q1.of_eq (hb9.block _ q1.lt)
            refine hK _ _ ?_
            clear hK K
            refine wpAny_ready (rs := [3]) (by kernel_rfl) (by simp) ?_
            refine AllReady.cons rfl (fun K hK => ite_of rfl ?_) ?_
            · simp only [List.getElem_toArray, List.getElem_cons_zero, List.getElem_cons_succ]
              refine owp_buildT rfl ?_
              refine hK _ _ ?_
              simp only [Act.put, List.setIfInBounds_toArray, List.set_cons_zero, List.set_cons_succ]
              clear hK K
              refine wpAny_ready (rs := [4]) (by kernel_rfl) (by simp) ?_
              refine AllReady.cons rfl (fun K hK => ite_of rfl ?_) ?_
              · simp only [List.getElem_toArray, List.getElem_cons_zero, List.getElem_cons_succ]
                refine owp_buildTri _ _ _ rfl _ _ _ rfl rfl rfl ?_
                refine hK _ _ ?_
                simp only [Act.put, List.setIfInBounds_toArray, List.set_cons_zero, List.set_cons_succ]
                clear hK K
                refine wpAny_ready (rs := [6]) (by kernel_rfl) (by simp) ?_
                refine AllReady.cons rfl (fun K hK => ite_of rfl ?_) ?_
                · simp only [List.getElem_toArray, List.getElem_cons_zero, List.getElem_cons_succ]
                  refine owp_storeTri _ _ _ _ rfl rfl rfl q1 ?_
                  clear q1
                  intro w10 q1 hc10 hz10
                  replace hz10 := Nat.le_of_eq hz10.symm
                  replace t1 := t1.of_eq (hc10.block _ t1.lt (by omega))
                  replace p1 := p1.of_eq (hc10.block _ p1.lt (by omega))
                  replace a1 := a1.of_eq (hc10.block _ a1.lt (by omega))
                  refine hK _ _ ?_
                  simp only [Act.put, List.setIfInBounds_toArray, List.set_cons_zero, List.set_cons_succ]
                  clear hK K
                  refine wpAny_done (by kernel_rfl) ?_ _
                  go_wp2_with fail
                  go_meet
                  exact ⟨_, rfl, q1, by repeat' (first | (with_reducible exact Below.refl _ _) | (with_reducible assumption) | (with_reducible refine Below.trans ?_ (hb8.mono (by omega))) | (with_reducible refine Below.trans ?_ (hb9.mono (by omega))) | (with_reducible refine Chg.below ?_ hc10 (by omega) (by omega))), by omega, t1, p1, a1⟩
                exact AllReady.nil
              exact AllReady.nil
            exact AllReady.nil
          refine AllReady.cons rfl (fun K hK => ite_of rfl ?_) ?_
          · simp only [List.getElem_toArray, List.getElem_cons_zero, List.getElem_cons_succ]
            refine owp_buildT rfl ?_
            refine hK _ _ ?_
            simp only [Act.put, List.setIfInBounds_toArray, List.set_cons_zero, List.set_cons_succ]
            clear hK K
            refine wpAny_ready (rs := [2]) (by kernel_rfl) (by simp) ?_
            refine AllReady.cons rfl (fun K hK => ite_of rfl ?_) ?_
            · simp only [List.getElem_toArray, List.getElem_cons_zero, List.getElem_cons_succ]
              go_simp
              go_at_call 18
              refine (R_Fill _ _).mono ?_
              rintro e w9 ⟨rfl, hb9⟩
              have hz9 := hb9.size
              replace t1 := t1.of_eq (hb9.block _ t1.lt)
              replace p1 := p1.of_eq (hb9.block _ p1.lt)
              replace a1 := a1.of_eq (hb9.block _ a1.lt)
              replace q1 := q1.of_eq (hb9.block _ q1.lt)
              refine hK _ _ ?_
              clear hK K
              refine wpAny_ready (rs := [4]) (by kernel_rfl) (by simp) ?_
              refine AllReady.cons rfl (fun K hK => ite_of rfl ?_) ?_
              · simp only [List.getElem_toArray, List.getElem_cons_zero, List.getElem_cons_succ]
                refine owp_buildTri _ _ _ rfl _ _ _ rfl rfl rfl ?_
                refine hK _ _ ?_
                simp only [Act.put, List.setIfInBounds_toArray, List.set_cons_zero, List.set_cons_succ]
                clear hK K
                refine wpAny_ready (rs := [6]) (by kernel_rfl) (by simp) ?_
                refine AllReady.cons rfl (fun K hK => ite_of rfl ?_) ?_
                · simp only [List.getElem_toArray, List.getElem_cons_zero, List.getElem_cons_succ]
                  refine owp_storeTri _ _ _ _ rfl rfl rfl q1 ?_
                  clear q1
                  intro w10 q1 hc10 hz10
                  replace hz10 := Nat.le_of_eq hz10.symm
                  replace t1 := t1.of_eq (hc10.block _ t1.lt (by omega))
                  replace p1 := p1.of_eq (hc10.block _ p1.lt (by omega))
                  replace a1 := a1.of_eq (hc10.block _ a1.lt (by omega))
                  refine hK _ _ ?_
                  simp only [Act.put, List.setIfInBounds_toArray, List.set_cons_zero, List.set_cons_succ]
                  clear hK K
                  refine wpAny_done (by kernel_rfl) ?_ _
                  go_wp2_with fail
                  go_meet
                  exact ⟨_, rfl, q1, by repeat' (first | (with_reducible exact Below.refl _ _) | (with_reducible assumption) | (with_reducible refine Below.trans ?_ (hb8.mono (by omega))) | (with_reducible refine Below.trans ?_ (hb9.mono (by omega))) | (with_reducible refine Chg.below ?_ hc10 (by omega) (by omega))), by omega, t1, p1, a1⟩
                exact AllReady.nil
              exact AllReady.nil
            exact AllReady.nil
          exact AllReady.nil
        exact AllReady.nil
      refine AllReady.cons rfl (fun K hK => ite_of rfl ?_) ?_
      · simp only [List.getElem_toArray, List.getElem_cons_zero, List.getElem_cons_succ]
        refine owp_buildT rfl ?_
        refine hK _ _ ?_
        simp only [Act.put, List.setIfInBounds_toArray, List.set_cons_zero, List.set_cons_succ]
        clear hK K
        refine wpAny_ready (rs := [1, 5]) (by kernel_rfl) (by simp) ?_
        refine AllReady.cons rfl (fun K hK => ite_of rfl ?_) ?_
        · simp only [List.getElem_toArray, List.getElem_cons_zero, List.getElem_cons_succ]
          refine owp_loadPx _ _ rfl rfl p1 ?_
          refine hK _ _ ?_
          simp only [Act.put, List.setIfInBounds_toArray, List.set_cons_zero, List.set_cons_succ]
          clear hK K
          refine wpAny_ready (rs := [2, 5]) (by kernel_rfl) (by simp) ?_
          refine AllReady.cons rfl (fun K hK => ite_of rfl ?_) ?_
          · simp only [List.getElem_toArray, List.getElem_cons_zero, List.getElem_cons_succ]
            go_simp
            go_at_call 18
            refine (R_Fill _ _).mono ?_
            rintro e w8 ⟨rfl, hb8⟩
            have hz8 := hb8.size
            replace t1 := t1.of_eq (hb8.block _ t1.lt)
            replace p1 := p1.of_eq (hb8.block _ p1.lt)
            replace a1 := a1.of_eq (hb8.block _ a1.lt)
            refine hK _ _ ?_
            clear hK K
            refine wpAny_ready (rs := [4, 5]) (by kernel_rfl) (by simp) ?_
            refine AllReady.cons rfl (fun K hK => ite_of rfl ?_) ?_
            · simp only [List.getElem_toArray, List.getElem_cons_zero, List.getElem_cons_succ]
              refine owp_buildTri _ _ _ rfl _ _ _ rfl rfl rfl ?_
              refine hK _ _ ?_
              simp only [Act.put, List.setIfInBounds_toArray, List.set_cons_zero, List.set_cons_succ]
              clear hK K
              refine wpAny_ready (rs := [5]) (by kernel_rfl) (by simp) ?_
              refine AllReady.cons rfl (fun K hK => ite_of rfl ?_) ?_
              · simp only [List.getElem_toArray, List.getElem_cons_zero, List.getElem_cons_succ]
                refine owp_allocTri rfl ?_
                intro w9 q1 hb9 hz9
                have l9 := Nat.lt_of_lt_of_eq (Nat.lt_succ_self _) hz9.symm
                clear hz9
                replace t1 := t1.of_eq (hb9.block _ t1.lt)
                replace p1 := p1.of_eq (hb9.block _ p1.lt)
                replace a1 := a1.of_eq (hb9.block _ a1.lt)
                refine hK _ _ ?_
                simp only [Act.put, List.setIfInBounds_toArray, List.set_cons_zero, List.set_cons_succ]
                clear hK K
                refine wpAny_ready (rs := [6]) (by kernel_rfl) (by simp) ?_
                refine AllReady.cons rfl (fun K hK => ite_of rfl ?_) ?_
                · simp only [List.getElem_toArray, List.getElem_cons_zero, List.getElem_cons_succ]
                  refine owp_storeTri _ _ _ _ rfl rfl rfl q1 ?_
                  clear q1
                  intro w10 q1 hc10 hz10
                  replace hz10 := Nat.le_of_eq hz10.symm
                  replace t1 := t1.of_eq (hc10.block _ t1.lt (by omega))
                  replace p1 := p1.of_eq (hc10.block _ p1.lt (by omega))
                  replace a1 := a1.of_eq (hc10.block _ a1.lt (by omega))
                  refine hK _ _ ?_
                  simp only [Act.put, List.setIfInBounds_toArray, List.set_cons_zero, List.set_cons_succ]
                  clear hK K
                  refine wpAny_done (by kernel_rfl) ?_ _
                  go_wp2_with fail
                  go_meet
                  exact ⟨_, rfl, q1, by repeat' (first | (with_reducible exact Below.refl _ _) | (with_reducible assumption) | (with_reducible refine Below.trans ?_ (hb8.mono (by omega))) | (with_reducible refine Below.trans ?_ (hb9.mono (by omega))) | (with_reducible refine Chg.below ?_ hc10 (by omega) (by omega))), by omega, t1, p1, a1⟩
                exact AllReady.nil
              exact AllReady.nil
            refine AllReady.cons rfl (fun K hK => ite_of rfl ?_) ?_
            · simp only [List.getElem_toArray, List.getElem_cons_zero, List.getElem_cons_succ]
              refine owp_allocTri rfl ?_
              intro w9 q1 hb9 hz9
              have l9 := Nat.lt_of_lt_of_eq (Nat.lt_succ_self _) hz9.symm
              clear hz9
              replace t1 := t1.of_eq (hb9.block _ t1.lt)
              replace p1 := p1.of_eq (hb9.block _ p1.lt)
              replace a1 := a1.of_eq (hb9.block _ a1.lt)
              refine hK _ _ ?_
              simp only [Act.put, List.setIfInBounds_toArray, List.set_cons_zero, List.set_cons_succ]
              clear hK K
              refine wpAny_ready (rs := [4]) (by kernel_rfl) (by simp) ?_
              refine AllReady.cons rfl (fun K hK => ite_of rfl ?_) ?_
              · simp only [List.getElem_toArray, List.getElem_cons_zero, List.getElem_cons_succ]
                refine owp_buildTri _ _ _ rfl _ _ _ rfl rfl rfl ?_
                refine hK _ _ ?_
                simp only [Act.put, List.setIfInBounds_toArray, List.set_cons_zero, List.set_cons_succ]
                clear hK K
                refine wpAny_ready (rs := [6]) (by kernel_rfl) (by simp) ?_
                refine AllReady.cons rfl (fun K hK => ite_of rfl ?_) ?_
                · simp only [List.getElem_toArray, List.getElem_cons_zero, List.getElem_cons_succ]
                  refine owp_storeTri _ _ _ _ rfl rfl rfl q1 ?_
                  clear q1
                  intro w10 q1 hc10 hz10
                  replace hz10 := Nat.le_of_eq hz10.symm
                  replace t1 := t1.of_eq (hc10.block _ t1.lt (by omega))
                  replace p1 := p1.of_eq (hc10.block _ p1.lt (by omega))
                  replace a1 := a1.of_eq (hc10.block _ a1.lt (by omega))
                  refine hK _ _ ?_
                  simp only [Act.put, List.setIfInBounds_toArray, List.set_cons_zero, List.set_cons_succ]
                  clear hK K
                  refine wpAny_done (by kernel_rfl) ?_ _
                  go_wp2_with fail
                  go_meet
                  exact ⟨_, rfl, q1, by repeat' (first | (with_reducible exact Below.refl _ _) | (with_reducible assumption) | (with_reducible refine Below.trans ?_ (hb8.mono (by omega))) | (with_reducible refine Below.trans ?_ (hb9.mono (by omega))) | (with_reducible refine Chg.below ?_ hc10 (by omega) (by omega))), by omega, t1, p1, a1⟩
                exact AllReady.nil
              exact AllReady.nil
            exact AllReady.nil
          refine AllReady.cons rfl (fun K hK => ite_of rfl ?_) ?_
          · simp only [List.getElem_toArray, List.getElem_cons_zero, List.getElem_cons_succ]
            refine owp_allocTri rfl ?_
            intro w8 q1 hb8 hz8
            have l8 := Nat.lt_of_lt_of_eq (Nat.lt_succ_self _) hz8.symm
            clear hz8
            replace t1 := t1.of_eq (hb8.block _ t1.lt)
            replace p1 := p1.of_eq (hb8.block _ p1.lt)
            replace a1 := a1.of_eq (hb8.block _ a1.lt)
            refine hK _ _ ?_
            simp only [Act.put, List.setIfInBounds_toArray, List.set_cons_zero, List.set_cons_succ]
            clear hK K
            refine wpAny_ready (rs := [2]) (by kernel_rfl) (by simp) ?_
            refine AllReady.cons rfl (fun K hK => ite_of rfl ?_) ?_
            · simp only [List.getElem_toArray, List.getElem_cons_zero, List.getElem_cons_succ]
              go_simp
              go_at_call 18
              refine (R_Fill _ _).mono ?_
              rintro e w9 ⟨rfl, hb9⟩
              have hz9 := hb9.size
              replace t1 := t1.of_eq (hb9.block _ t1.lt)
              replace p1 := p1.of_eq (hb9.block _ p1.lt)
              replace a1 := a1.of_eq (hb9.block _ a1.lt)
              replace q1 := q1.of_eq (hb9.block _ q1.lt)
              refine hK _ _ ?_
              clear hK K
              refine wpAny_ready (rs := [4]) (by kernel_rfl) (by simp) ?_
              refine AllReady.cons rfl (fun K hK => ite_of rfl ?_) ?_
              · simp only [List.getElem_toArray, List.getElem_cons_zero, List.getElem_cons_succ]
                refine owp_buildTri _ _ _ rfl _ _ _ rfl rfl rfl ?_
                refine hK _ _ ?_
                simp only [Act.put, List.setIfInBounds_toArray, List.set_cons_zero, List.set_cons_succ]
                clear hK K
                refine wpAny_ready (rs := [6]) (by kernel_rfl) (by simp) ?_
                refine AllReady.cons rfl (fun K hK => ite_of rfl ?_) ?_
                · simp only [List.getElem_toArray, List.getElem_cons_zero, List.getElem_cons_succ]
                  refine owp_storeTri _ _ _ _ rfl rfl rfl q1 ?_
                  clear q1
                  intro w10 q1 hc10 hz10
                  replace hz10 := Nat.le_of_eq hz10.symm
                  replace t1 := t1.of_eq (hc10.block _ t1.lt (by omega))
                  replace p1 := p1.of_eq (hc10.block _ p1.lt (by omega))
                  replace a1 := a1.of_eq (hc10.block _ a1.lt (by omega))
                  refine hK _ _ ?_
                  simp only [Act.put, List.setIfInBounds_toArray, List.set_cons_zero, List.set_cons_succ]
                  clear hK K
                  refine wpAny_done (by kernel_rfl) ?_ _
                  go_wp2_with fail
                  go_meet
                  exact ⟨_, rfl, q1, by repeat' (first | (with_reducible exact Below.refl _ _) | (with_reducible assumption) | (with_reducible refine Below.trans ?_ (hb8.mono (by omega))) | (with_reducible refine Below.trans ?_ (hb9.mono (by omega))) | (with_reducible refine Chg.below ?_ hc10 (by omega) (by omega))), by omega, t1, p1, a1⟩
                exact AllReady.nil
              exact AllReady.nil
            exact AllReady.nil
          exact AllReady.nil
        refine AllReady.cons rfl (fun K hK => ite_of rfl ?_) ?_
        · simp only [List.getElem_toArray, List.getElem_cons_zero, List.getElem_cons_succ]
          refine owp_allocTri rfl ?_
          intro w8 q1 hb8 hz8
          have l8 := Nat.lt_of_lt_of_eq (Nat.lt_succ_self _) hz8.symm
          clear hz8
          replace t1 := t1.of_eq (hb8.block _ t1.lt)
          replace p1 := p1.of_eq (hb8.block _ p1.lt)
          replace a1 := a1.of_eq (hb8.block _ a1.lt)
          refine hK _ _ ?_
          simp only [Act.put, List.setIfInBounds_toArray, List.set_cons_zero, List.set_cons_succ]
          clear hK K
          refine wpAny_ready (rs := [1]) (by kernel_rfl) (by simp) ?_
          refine AllReady.cons rfl (fun K hK => ite_of rfl ?_) ?_
          · simp only [List.getElem_toArray, List.getElem_cons_zero, List.getElem_cons_succ]
            refine owp_loadPx _ _ rfl rfl p1 ?_
            refine hK _ _ ?_
            simp only [Act.put, List.setIfInBounds_toArray, List.set_cons_zero, List.set_cons_succ]
            clear hK K
            refine wpAny_ready (rs := [2]) (by kernel_rfl) (by simp) ?_
            refine AllReady.cons rfl (fun K hK => ite_of rfl ?_) ?_
            · simp only [List.getElem_toArray, List.getElem_cons_zero, List.getElem_cons_succ]
              go_simp
              go_at_call 18
              refine (R_Fill _ _).mono ?_
              rintro e w9 ⟨rfl, hb9⟩
              have hz9 := hb9.size
              replace t1 := t1.of_eq (hb9.block _ t1.lt)
              replace p1 := p1.of_eq (hb9.block _ p1.lt)
              replace a1 := a1.of_eq (hb9.block _ a1.lt)
              replace q1 := q1.of_eq (hb9.block _ q1.lt)
              refine hK _ _ ?_
              clear hK K
              refine wpAny_ready (rs := [4]) (by kernel_rfl) (by simp) ?_
              refine AllReady.cons rfl (fun K hK => ite_of rfl ?_) ?_
              · simp only [List.getElem_toArray, List.getElem_cons_zero, List.getElem_cons_succ]
                refine owp_buildTri _ _ _ rfl _ _ _ rfl rfl rfl ?_
                refine hK _ _ ?_
                simp only [Act.put, List.setIfInBounds_toArray, List.set_cons_zero, List.set_cons_succ]
                clear hK K
                refine wpAny_ready (rs := [6]) (by kernel_rfl) (by simp) ?_
                refine AllReady.cons rfl (fun K hK => ite_of rfl ?_) ?_
                · simp only [List.getElem_toArray, List.getElem_cons_zero, List.getElem_cons_succ]
                  refine owp_storeTri _ _ _ _ rfl rfl rfl q1 ?_
                  clear q1
                  intro w10 q1 hc10 hz10
                  replace hz10 := Nat.le_of_eq hz10.symm
                  replace t1 := t1.of_eq (hc10.block _ t1.lt (by omega))
                  replace p1 := p1.of_eq (hc10.block _ p1.lt (by omega))
                  replace a1 := a1.of_eq (hc10.block _ a1.lt (by omega))
                  refine hK _ _ ?_
                  simp only [Act.put, List.setIfInBounds_toArray, List.set_cons_zero, List.set_cons_succ]
                  clear hK K
                  refine wpAny_done (by kernel_rfl) ?_ _
                  go_wp2_with fail
                  go_meet
                  exact ⟨_, rfl, q1, by repeat' (first | (with_reducible exact Below.refl _ _) | (with_reducible assumption) | (with_reducible refine Below.trans ?_ (hb8.mono (by omega))) | (with_reducible refine Below.trans ?_ (hb9.mono (by omega))) | (with_reducible refine Chg.below ?_ hc10 (by omega) (by omega))), by omega, t1, p1, a1⟩
                exact AllReady.nil
              exact AllReady.nil
            exact AllReady.nil
          exact AllReady.nil
        exact AllReady.nil
      refine AllReady.cons rfl (fun K hK => ite_of rfl ?_) ?_
      · simp only [List.getElem_toArray, List.getElem_cons_zero, List.getElem_cons_succ]
        refine owp_allocTri rfl ?_
        intro w8 q1 hb8 hz8
        have l8 := Nat.lt_of_lt_of_eq (Nat.lt_succ_self _) hz8.symm
        clear hz8
        replace t1 := t1.of_eq (hb8.block _ t1.lt)
        replace p1 := p1.of_eq (hb8.block _ p1.lt)
        replace a1 := a1.of_eq (hb8.block _ a1.lt)
        refine hK _ _ ?_
        simp only [Act.put, List.setIfInBounds_toArray, List.set_cons_zero, List.set_cons_succ]
        clear hK K
        refine wpAny_ready (rs := [1, 3]) (by kernel_rfl) (by simp) ?_
        refine AllReady.cons rfl (fun K hK => ite_of rfl ?_) ?_
        · simp only [List.getElem_toArray, List.getElem_cons_zero, List.getElem_cons_succ]
          refine owp_loadPx _ _ rfl rfl p1 ?_
          refine hK _ _ ?_
          simp only [Act.put, List.setIfInBounds_toArray, List.set_cons_zero, List.set_cons_succ]
          clear hK K
          refine wpAny_ready (rs := [2, 3]) (by kernel_rfl) (by simp) ?_
          refine AllReady.cons rfl (fun K hK => ite_of rfl ?_) ?_
          · simp only [List.getElem_toArray, List.getElem_cons_zero, List.getElem_cons_succ]
            go_simp
            go_at_call 18
            refine (R_Fill _ _).mono ?_
            rintro e w9 ⟨rfl, hb9⟩
            have hz9 := hb9.size
            replace t1 := t1.of_eq (hb9.block _ t1.lt)
            replace p1 := p1.of_eq (hb9.block _ p1.lt)
            replace a1 := a1.of_eq (hb9.block _ a1.lt)
            replace q1 := q1.of_eq (hb9.block _ q1.lt)
            refine hK _ _ ?_
            clear hK K
            refine wpAny_ready (rs := [3]) (by kernel_rfl) (by simp) ?_
            refine AllReady.cons rfl (fun K hK => ite_of rfl ?_) ?_
            · simp only [List.getElem_toArray, List.getElem_cons_zero, List.getElem_cons_succ]
              refine owp_buildT rfl ?_
              refine hK _ _ ?_
              simp only [Act.put, List.setIfInBounds_toArray, List.set_cons_zero, List.set_cons_succ]
              clear hK K
              refine wpAny_ready (rs := [4]) (by kernel_rfl) (by simp) ?_
              refine AllReady.cons rfl (fun K hK => ite_of rfl ?_) ?_
              · simp only [List.getElem_toArray, List.getElem_cons_zero, List.getElem_cons_succ]
                refine owp_buildTri _ _ _ rfl _ _ _ rfl rfl rfl ?_
                refine hK _ _ ?_
                simp only [Act.put, List.setIfInBounds_toArray, List.set_cons_zero, List.set_cons_succ]
                clear hK K
                refine wpAny_ready (rs := [6]) (by kernel_rfl) (by simp) ?_
                refine AllReady.cons rfl (fun K hK => ite_of rfl ?_) ?_
                · simp only [List.getElem_toArray, List.getElem_cons_zero, List.getElem_cons_succ]
                  refine owp_storeTri _ _ _ _ rfl rfl rfl q1 ?_
                  clear q1
                  intro w10 q1 hc10 hz10
                  replace hz10 := Nat.le_of_eq hz10.symm
                  replace t1 := t1.of_eq (hc10.block _ t1.lt (by omega))
                  replace p1 := p1.of_eq (hc10.block _ p1.lt (by omega))
                  replace a1 := a1.of_eq (hc10.block _ a1.lt (by omega))
                  refine hK _ _ ?_
                  simp only [Act.put, List.setIfInBounds_toArray, List.set_cons_zero, List.set_cons_succ]
                  clear hK K
                  refine wpAny_done (by kernel_rfl) ?_ _
                  go_wp2_with fail
                  go_meet
                  exact ⟨_, rfl, q1, by repeat' (first | (with_reducible exact Below.refl _ _) | (with_reducible assumption) | (with_reducible refine Below.trans ?_ (hb8.mono (by omega))) | (with_reducible refine Below.trans ?_ (hb9.mono (by omega))) | (with_reducible refine Chg.below ?_ hc10 (by omega) (by omega))), by omega, t1, p1, a1⟩
                exact AllReady.nil
              exact AllReady.nil
            exact AllReady.nil
          refine AllReady.cons rfl (fun K hK => ite_of rfl ?_) ?_
          · simp only [List.getElem_toArray, List.getElem_cons_zero, List.getElem_cons_succ]
            refine owp_buildT rfl ?_
            refine hK _ _ ?_
            simp only [Act.put, List.setIfInBounds_toArray, List.set_cons_zero, List.set_cons_succ]
            clear hK K
            refine wpAny_ready (rs := [2]) (by kernel_rfl) (by simp) ?_
            refine AllReady.cons rfl (fun K hK => ite_of rfl ?_) ?_
            · simp only [List.getElem_toArray, List.getElem_cons_zero, List.getElem_cons_succ]
              go_simp
              go_at_call 18
              refine (R_Fill _ _).mono ?_
              rintro e w9 ⟨rfl, hb9⟩
              have hz9 := hb9.size
              replace t1 := t1.of_eq (hb9.block _ t1.lt)
              replace p1 := p1.of_eq (hb9.block _ p1.lt)
              replace a1 := a1.of_eq (hb9.block _ a1.lt)
              replace q1 := q1.of_eq (hb9.block _ q1.lt)
              refine hK _ _ ?_
              clear hK K
              refine wpAny_ready (rs := [4]) (by kernel_rfl) (by simp) ?_
              refine AllReady.cons rfl (fun K hK => ite_of rfl ?_) ?_
              · simp only [List.getElem_toArray, List.getElem_cons_zero, List.getElem_cons_succ]
                refine owp_buildTri _ _ _ rfl _ _ _ rfl rfl rfl ?_
                refine hK _ _ ?_
                simp only [Act.put, List.setIfInBounds_toArray, List.set_cons_zero, List.set_cons_succ]
                clear hK K
                refine wpAny_ready (rs := [6]) (by kernel_rfl) (by simp) ?_
                refine AllReady.cons rfl (fun K hK => ite_of rfl ?_) ?_
                · simp only [List.getElem_toArray, List.getElem_cons_zero, List.getElem_cons_succ]
                  refine owp_storeTri _ _ _ _ rfl rfl rfl q1 ?_
                  clear q1
                  intro w10 q1 hc10 hz10
                  replace hz10 := Nat.le_of_eq hz10.symm
                  replace t1 := t1.of_eq (hc10.block _ t1.lt (by omega))
                  replace p1 := p1.of_eq (hc10.block _ p1.lt (by omega))
                  replace a1 := a1.of_eq (hc10.block _ a1.lt (by omega))
                  refine hK _ _ ?_
                  simp only [Act.put, List.setIfInBounds_toArray, List.set_cons_zero, List.set_cons_succ]
                  clear hK K
                  refine wpAny_done (by kernel_rfl) ?_ _
                  go_wp2_with fail
                  go_meet
                  exact ⟨_, rfl, q1, by repeat' (first | (with_reducible exact Below.refl _ _) | (with_reducible assumption) | (with_reducible refine Below.trans ?_ (hb8.mono (by omega))) | (with_reducible refine Below.trans ?_ (hb9.mono (by omega))) | (with_reducible refine Chg.below ?_ hc10 (by omega) (by omega))), by omega, t1, p1, a1⟩
                exact AllReady.nil
              exact AllReady.nil
            exact AllReady.nil
          exact AllReady.nil
        refine AllReady.cons rfl (fun K hK => ite_of rfl ?_) ?_
        · simp only [List.getElem_toArray, List.getElem_cons_zero, List.getElem_cons_succ]
          refine owp_buildT rfl ?_
          refine hK _ _ ?_
          simp only [Act.put, List.setIfInBounds_toArray, List.set_cons_zero, List.set_cons_succ]
          clear hK K
          refine wpAny_ready (rs := [1]) (by kernel_rfl) (by simp) ?_
          refine AllReady.cons rfl (fun K hK => ite_of rfl ?_) ?_
          · simp only [List.getElem_toArray, List.getElem_cons_zero, List.getElem_cons_succ]
            refine owp_loadPx _ _ rfl rfl p1 ?_
            refine hK _ _ ?_
            simp only [Act.put, List.setIfInBounds_toArray, List.set_cons_zero, List.set_cons_succ]
            clear hK K
            refine wpAny_ready (rs := [2]) (by kernel_rfl) (by simp) ?_
            refine AllReady.cons rfl (fun K hK => ite_of rfl ?_) ?_
            · simp only [List.getElem_toArray, List.getElem_cons_zero, List.getElem_cons_succ]
              go_simp
              go_at_call 18
              refine (R_Fill _ _).mono ?_
              rintro e w9 ⟨rfl, hb9⟩
              have hz9 := hb9.size
              replace t1 := t1.of_eq (hb9.block _ t1.lt)
              replace p1 := p1.of_eq (hb9.block _ p1.lt)
              replace a1 := a1.of_eq (hb9.block _ a1.lt)
              replace q1 := q1.of_eq (hb9.block _ q1.lt)
              refine hK _ _ ?_
              clear hK K
              refine wpAny_ready (rs := [4]) (by kernel_rfl) (by simp) ?_
              refine AllReady.cons rfl (fun K hK => ite_of rfl ?_) ?_
              · simp only [List.getElem_toArray, List.getElem_cons_zero, List.getElem_cons_succ]
                refine owp_buildTri _ _ _ rfl _ _ _ rfl rfl rfl ?_
                refine hK _ _ ?_
                simp only [Act.put, List.setIfInBounds_toArray, List.set_cons_zero, List.set_cons_succ]
                clear hK K
                refine wpAny_ready (rs := [6]) (by kernel_rfl) (by simp) ?_
                refine AllReady.cons rfl (fun K hK => ite_of rfl ?_) ?_
                · simp only [List.getElem_toArray, List.getElem_cons_zero, List.getElem_cons_succ]
                  refine owp_storeTri _ _ _ _ rfl rfl rfl q1 ?_
                  clear q1
                  intro w10 q1 hc10 hz10
                  replace hz10 := Nat.le_of_eq hz10.symm
                  replace t1 := t1.of_eq (hc10.block _ t1.lt (by omega))
                  replace p1 := p1.of_eq (hc10.block _ p1.lt (by omega))
                  replace a1 := a1.of_eq (hc10.block _ a1.lt (by omega))
                  refine hK _ _ ?_
                  simp only [Act.put, List.setIfInBounds_toArray, List.set_cons_zero, List.set_cons_succ]
                  clear hK K
                  refine wpAny_done (by kernel_rfl) ?_ _
                  go_wp2_with fail
                  go_meet
                  exact ⟨_, rfl, q1, by repeat' (first | (with_reducible exact Below.refl _ _) | (with_reducible assumption) | (with_reducible refine Below.trans ?_ (hb8.mono (by omega))) | (with_reducible refine Below.trans ?_ (hb9.mono (by omega))) | (with_reducible refine Chg.below ?_ hc10 (by omega) (by omega))), by omega, t1, p1, a1⟩
                exact AllReady.nil
              exact AllReady.nil
            exact AllReady.nil
          exact AllReady.nil
        exact AllReady.nil
      exact AllReady.nil
    refine AllReady.cons rfl (fun K hK => ite_of rfl ?_) ?_
    · simp only [List.getElem_toArray, List.getElem_cons_zero, List.getElem_cons_succ]
      refine owp_loadPx _ _ rfl rfl p1 ?_
      refine hK _ _ ?_
      simp only [Act.put, List.setIfInBounds_toArray, List.set_cons_zero, List.set_cons_succ]
      clear hK K
      refine wpAny_ready (rs := [0, 2, 3, 5]) (by kernel_rfl) (by simp) ?_
      refine AllReady.cons rfl (fun K hK => ite_of rfl ?_) ?_
      · simp only [List.getElem_toArray, List.getElem_cons_zero, List.getElem_cons_succ]
        refine owp_loadT _ _ rfl rfl t1 ?_
        refine hK _ _ ?_
        simp only [Act.put, List.setIfInBounds_toArray, List.set_cons_zero, List.set_cons_succ]
        clear hK K
        refine wpAny_ready (rs := [2, 3, 5]) (by kernel_rfl) (by simp) ?_
        refine AllReady.cons rfl (fun K hK => ite_of rfl ?_) ?_
        · simp only [List.getElem_toArray, List.getElem_cons_zero, List.getElem_cons_succ]
          go_simp
          go_at_call 18
          refine (R_Fill _ _).mono ?_
          rintro e w8 ⟨rfl, hb8⟩
          have hz8 := hb8.size
          replace t1 := t1.of_eq (hb8.block _ t1.lt)
          replace p1 := p1.of_eq (hb8.block _ p1.lt)
          replace a1 := a1.of_eq (hb8.block _ a1.lt)
          refine hK _ _ ?_
          clear hK K
          refine wpAny_ready (rs := [3, 5]) (by kernel_rfl) (by simp) ?_
          refine AllReady.cons rfl (fun K hK => ite_of rfl ?_) ?_
          · simp only [List.getElem_toArray, List.getElem_cons_zero, List.getElem_cons_succ]
            refine owp_buildT rfl ?_
            refine hK _ _ ?_
            simp only [Act.put, List.setIfInBounds_toArray, List.set_cons_zero, List.set_cons_succ]
            clear hK K
            refine wpAny_ready (rs := [4, 5]) (by kernel_rfl) (by simp) ?_
            refine AllReady.cons rfl (fun K hK => ite_of rfl ?_) ?_
            · simp only [List.getElem_toArray, List.getElem_cons_zero, List.getElem_cons_succ]
              refine owp_buildTri _ _ _ rfl _ _ _ rfl rfl rfl ?_
              refine hK _ _ ?_
              simp only [Act.put, List.setIfInBounds_toArray, List.set_cons_zero, List.set_cons_succ]
              clear hK K
              refine wpAny_ready (rs := [5]) (by kernel_rfl) (by simp) ?_
              refine AllReady.cons rfl (fun K hK => ite_of rfl ?_) ?_
              · simp only [List.getElem_toArray, List.getElem_cons_zero, List.getElem_cons_succ]
                refine owp_allocTri rfl ?_
                intro w9 q1 hb9 hz9
                have l9 := Nat.lt_of_lt_of_eq (Nat.lt_succ_self _) hz9.symm
                clear hz9
                replace t1 := t1.of_eq (hb9.block _ t1.lt)
                replace p1 := p1.of_eq (hb9.block _ p1.lt)
                replace a1 := a1.of_eq (hb9.block _ a1.lt)
                refine hK _ _ ?_
                simp only [Act.put, List.setIfInBounds_toArray, List.set_cons_zero, List.set_cons_succ]
                clear hK K
                refine wpAny_ready (rs := [6]) (by kernel_rfl) (by simp) ?_
                refine AllReady.cons rfl (fun K hK => ite_of rfl ?_) ?_
                · simp only [List.getElem_toArray, List.getElem_cons_zero, List.getElem_cons_succ]
                  refine owp_storeTri _ _ _ _ rfl rfl rfl q1 ?_
                  clear q1
                  intro w10 q1 hc10 hz10
                  replace hz10 := Nat.le_of_eq hz10.symm
                  replace t1 := t1.of_eq (hc10.block _ t1.lt (by omega))
                  replace p1 := p1.of_eq (hc10.block _ p1.lt (by omega))
                  replace a1 := a1.of_eq (hc10.block _ a1.lt (by omega))
                  refine hK _ _ ?_
                  simp only [Act.put, List.setIfInBounds_toArray, List.set_cons_zero, List.set_cons_succ]
                  clear hK K
                  refine wpAny_done (by kernel_rfl) ?_ _
                  go_wp2_with fail
                  go_meet
                  exact ⟨_, rfl, q1, by repeat' (first | (with_reducible exact Below.refl _ _) | (with_reducible assumption) | (with_reducible refine Below.trans ?_ (hb8.mono (by omega))) | (with_reducible refine Below.trans ?_ (hb9.mono (by omega))) | (with_reducible refine Chg.below ?_ hc10 (by omega) (by omega))), by omega, t1, p1, a1⟩
                exact AllReady.nil
              exact AllReady.nil
            refine AllReady.cons rfl (fun K hK => ite_of rfl ?_) ?_
            · simp only [List.getElem_toArray, List.getElem_cons_zero, List.getElem_cons_succ]
              refine owp_allocTri rfl ?_
              intro w9 q1 hb9 hz9
              have l9 := Nat.lt_of_lt_of_eq (Nat.lt_succ_self _) hz9.symm
              clear hz9
              replace t1 := t1.of_eq (hb9.block _ t1.lt)
              replace p1 := p1.of_eq (hb9.block _ p1.lt)
              replace a1 := a1.of_eq (hb9.block _ a1.lt)
              refine hK _ _ ?_
              simp only [Act.put, List.setIfInBounds_toArray, List.set_cons_zero, List.set_cons_succ]
              clear hK K
              refine wpAny_ready (rs := [4]) (by kernel_rfl) (by simp) ?_
              refine AllReady.cons rfl (fun K hK => ite_of rfl ?_) ?_
              · simp only [List.getElem_toArray, List.getElem_cons_zero, List.getElem_cons_succ]
                refine owp_buildTri _ _ _ rfl _ _ _ rfl rfl rfl ?_
                refine hK _ _ ?_
                simp only [Act.put, List.setIfInBounds_toArray, List.set_cons_zero, List.set_cons_succ]
                clear hK K
                refine wpAny_ready (rs := [6]) (by kernel_rfl) (by simp) ?_
                refine AllReady.cons rfl (fun K hK => ite_of rfl ?_) ?_
                · simp only [List.getElem_toArray, List.getElem_cons_zero, List.getElem_cons_succ]
                  refine owp_storeTri _ _ _ _ rfl rfl rfl q1 ?_
                  clear q1
                  intro w10 q1 hc10 hz10
                  replace hz10 := Nat.le_of_eq hz10.symm
                  replace t1 := t1.of_eq (hc10.block _ t1.lt (by omega))
                  replace p1 := p1.of_eq (hc10.block _ p1.lt (by omega))
                  replace a1 := a1.of_eq (hc10.block _ a1.lt (by omega))
                  refine hK _ _ ?_
                  simp only [Act.put, List.setIfInBounds_toArray, List.set_cons_zero, List.set_cons_succ]
                  clear hK K
                  refine wpAny_done (by kernel_rfl) ?_ _
                  go_wp2_with fail
                  go_meet
                  exact ⟨_, rfl, q1, by repeat' (first | (with_reducible exact Below.refl _ _) | (with_reducible assumption) | (with_reducible refine Below.trans ?_ (hb8.mono (by omega))) | (with_reducible refine Below.trans ?_ (hb9.mono (by omega))) | (with_reducible refine Chg.below ?_ hc10 (by omega) (by omega))), by omega, t1, p1, a1⟩
                exact AllReady.nil
              exact AllReady.nil
            exact AllReady.nil
          refine AllReady.cons rfl (fun K hK => ite_of rfl ?_) ?_
          · simp only [List.getElem_toArray, List.getElem_cons_zero, List.getElem_cons_succ]
            refine owp_allocTri rfl ?_
            intro w9 q1 hb9 hz9
            have l9 := Nat.lt_of_lt_of_eq (Nat.lt_succ_self _) hz9.symm
            clear hz9
            replace t1 := t1.of_eq (hb9.block _ t1.lt)
            replace p1 := p1.of_eq (hb9.block _ p1.lt)
            replace a1 := a1.of_eq (hb9.block _ a1.lt)
            refine hK _ _ ?_
            simp only [Act.put, List.setIfInBounds_toArray, List.set_cons_zero, List.set_cons_succ]
            clear hK K
            refine wpAny_ready (rs := [3]) (by kernel_rfl) (by simp) ?_
            refine AllReady.cons rfl (fun K hK => ite_of rfl ?_) ?_
            · simp only [List.getElem_toArray, List.getElem_cons_zero, List.getElem_cons_succ]
              refine owp_buildT rfl ?_
              refine hK _ _ ?_
              simp only [Act.put, List.setIfInBounds_toArray, List.set_cons_zero, List.set_cons_succ]
              clear hK K
              refine wpAny_ready (rs := [4]) (by kernel_rfl) (by simp) ?_
              refine AllReady.cons rfl (fun K hK => ite_of rfl ?_) ?_
              · simp only [List.getElem_toArray, List.getElem_cons_zero, List.getElem_cons_succ]
                refine owp_buildTri _ _ _ rfl _ _ _ rfl rfl rfl ?_
                refine hK _ _ ?_
                simp only [Act.put, List.setIfInBounds_toArray, List.set_cons_zero, List.set_cons_succ]
                clear hK K
                refine wpAny_ready (rs := [6]) (by kernel_rfl) (by simp) ?_
                refine AllReady.cons rfl (fun K hK => ite_of rfl ?_) ?_
                · simp only [List.getElem_toArray, List.getElem_cons_zero, List.getElem_cons_succ]
                  refine owp_storeTri _ _ _ _ rfl rfl rfl q1 ?_
                  clear q1
                  intro w10 q1 hc10 hz10
                  replace hz10 := Nat.le_of_eq hz10.symm
                  replace t1 := t1.of_eq (hc10.block _ t1.lt (by omega))
                  replace p1 := p1.of_eq (hc10.block _ p1.lt (by omega))
                  replace a1 := a1.of_eq (hc10.block _ a1.lt (by omega))
                  refine hK _ _ ?_
                  simp only [Act.put, List.setIfInBounds_toArray, List.set_cons_zero, List.set_cons_succ]
                  clear hK K
                  refine wpAny_done (by kernel_rfl) ?_ _
                  go_wp2_with fail
                  go_meet
                  exact ⟨_, rfl, q1, by repeat' (first | (with_reducible exact Below.refl _ _) | (with_reducible assumption) | (with_reducible refine Below.trans ?_ (hb8.mono (by omega))) | (with_reducible refine Below.trans ?_ (hb9.mono (by omega))) | (with_reducible refine Chg.below ?_ hc10 (by omega) (by omega))), by omega, t1, p1, a1⟩
                exact AllReady.nil
              exact AllReady.nil
            exact AllReady.nil
          exact AllReady.nil
        refine AllReady.cons rfl (fun K hK => ite_of rfl ?_) ?_
        · simp only [List.getElem_toArray, List.getElem_cons_zero, List.getElem_cons_succ]
          refine owp_buildT rfl ?_
          refine hK _ _ ?_
          simp only [Act.put, List.setIfInBounds_toArray, List.set_cons_zero, List.set_cons_succ]
          clear hK K
          refine wpAny_ready (rs := [2, 5]) (by kernel_rfl) (by simp) ?_
          refine AllReady.cons rfl (fun K hK => ite_of rfl ?_) ?_
          · simp only [List.getElem_toArray, List.getElem_cons_zero, List.getElem_cons_succ]
            go_simp
            go_at_call 18
            refine (R_Fill _ _).mono ?_
            rintro e w8 ⟨rfl, hb8⟩
            have hz8 := hb8.size
            replace t1 := t1.of_eq (hb8.block _ t1.lt)
            replace p1 := p1.of_eq (hb8.block _ p1.lt)
            replace a1 := a1.of_eq (hb8.block _ a1.lt)
            refine hK _ _ ?_
            clear hK K
            refine wpAny_ready (rs := [4, 5]) (by kernel_rfl) (by simp) ?_
            refine AllReady.cons rfl (fun K hK => ite_of rfl ?_) ?_
            · simp only [List.getElem_toArray, List.getElem_cons_zero, List.getElem_cons_succ]
              refine owp_buildTri _ _ _ rfl _ _ _ rfl rfl rfl ?_
              refine hK _ _ ?_
              simp only [Act.put, List.setIfInBounds_toArray, List.set_cons_zero, List.set_cons_succ]
              clear hK K
              refine wpAny_ready (rs := [5]) (by kernel_rfl) (by simp) ?_
              refine AllReady.cons rfl (fun K hK => ite_of rfl ?_) ?_
              · simp only [List.getElem_toArray, List.getElem_cons_zero, List.getElem_cons_succ]
                refine owp_allocTri rfl ?_
                intro w9 q1 hb9 hz9
                have l9 := Nat.lt_of_lt_of_eq (Nat.lt_succ_self _) hz9.symm
                clear hz9
                replace t1 := t1.of_eq (hb9.block _ t1.lt)
                replace p1 := p1.of_eq (hb9.block _ p1.lt)
                replace a1 := a1.of_eq (hb9.block _ a1.lt)
                refine hK _ _ ?_
                simp only [Act.put, List.setIfInBounds_toArray, List.set_cons_zero, List.set_cons_succ]
                clear hK K
                refine wpAny_ready (rs := [6]) (by kernel_rfl) (by simp) ?_
                refine AllReady.cons rfl (fun K hK => ite_of rfl ?_) ?_
                · simp only [List.getElem_toArray, List.getElem_cons_zero, List.getElem_cons_succ]
                  refine owp_storeTri _ _ _ _ rfl rfl rfl q1 ?_
                  clear q1
                  intro w10 q1 hc10 hz10
                  replace hz10 := Nat.le_of_eq hz10.symm
                  replace t1 := t1.of_eq (hc10.block _ t1.lt (by omega))
                  replace p1 := p1.of_eq (hc10.block _ p1.lt (by omega))
                  replace a1 := a1.of_eq (hc10.block _ a1.lt (by omega))
                  refine hK _ _ ?_
                  simp only [Act.put, List.setIfInBounds_toArray, List.set_cons_zero, List.set_cons_succ]
                  clear hK K
                  refine wpAny_done (by kernel_rfl) ?_ _
                  go_wp2_with fail
                  go_meet
                  exact ⟨_, rfl, q1, by repeat' (first | (with_reducible exact Below.refl _ _) | (with_reducible assumption) | (with_reducible refine Below.trans ?_ (hb8.mono (by omega))) | (with_reducible refine Below.trans ?_ (hb9.mono (by omega))) | (with_reducible refine Chg.below ?_ hc10 (by omega) (by omega))), by omega, t1, p1, a1⟩
                exact AllReady.nil
              exact AllReady.nil
            refine AllReady.cons rfl (fun K hK => ite_of rfl ?_) ?_
            · simp only [List.getElem_toArray, List.getElem_cons_zero, List.getElem_cons_succ]
              refine owp_allocTri rfl ?_
              intro w9 q1 hb9 hz9
              have l9 := Nat.lt_of_lt_of_eq (Nat.lt_succ_self _) hz9.symm
              clear hz9
              replace t1 := t1.of_eq (hb9.block _ t1.lt)
              replace p1 := p1.of_eq (hb9.block _ p1.lt)
              replace a1 := a1.of_eq (hb9.block _ a1.lt)
              refine hK _ _ ?_
              simp only [Act.put, List.setIfInBounds_toArray, List.set_cons_zero, List.set_cons_succ]
              clear hK K
              refine wpAny_ready (rs := [4]) (by kernel_rfl) (by simp) ?_
              refine AllReady.cons rfl (fun K hK => ite_of rfl ?_) ?_
              · simp only [List.getElem_toArray, List.getElem_cons_zero, List.getElem_cons_succ]
                refine owp_buildTri _ _ _ rfl _ _ _ rfl rfl rfl ?_
                refine hK _ _ ?_
                simp only [Act.put, List.setIfInBounds_toArray, List.set_cons_zero, List.set_cons_succ]
                clear hK K
                refine wpAny_ready (rs := [6]) (by kernel_rfl) (by simp) ?_
                refine AllReady.cons rfl (fun K hK => ite_of rfl ?_) ?_
                · simp only [List.getElem_toArray, List.getElem_cons_zero, List.getElem_cons_succ]
                  refine owp_storeTri _ _ _ _ rfl rfl rfl q1 ?_
                  clear q1
                  intro w10 q1 hc10 hz10
                  replace hz10 := Nat.le_of_eq hz10.symm
                  replace t1 := t1.of_eq (hc10.block _ t1.lt (by omega))
                  replace p1 := p1.of_eq (hc10.block _ p1.lt (by omega))
                  replace a1 := a1.of_eq (hc10.block _ a1.lt (by omega))
                  refine hK _ _ ?_
                  simp only [Act.put, List.setIfInBounds_toArray, List.set_cons_zero, List.set_cons_succ]
                  clear hK K
                  refine wpAny_done (by kernel_rfl) ?_ _
                  go_wp2_with fail
                  go_meet
                  exact ⟨_, rfl, q1, by repeat' (first | (with_reducible exact Below.refl _ _) | (with_reducible assumption) | (with_reducible refine Below.trans ?_ (hb8.mono (by omega))) | (with_reducible refine Below.trans ?_ (hb9.mono (by omega))) | (with_reducible refine Chg.below ?_ hc10 (by omega) (by omega))), by omega, t1, p1, a1⟩
                exact AllReady.nil
              exact AllReady.nil
            exact AllReady.nil
          refine AllReady.cons rfl (fun K hK => ite_of rfl ?_) ?_
          · simp only [List.getElem_toArray, List.getElem_cons_zero, List.getElem_cons_succ]
            refine owp_allocTri rfl ?_
            intro w8 q1 hb8 hz8
            have l8 := Nat.lt_of_lt_of_eq (Nat.lt_succ_self _) hz8.symm
            clear hz8
            replace t1 := t1.of_eq (hb8.block _ t1.lt)
            replace p1 := p1.of_eq (hb8.block _ p1.lt)
            replace a1 := a1.of_eq (hb8.block _ a1.lt)
            refine hK _ _ ?_
            simp only [Act.put, List.setIfInBounds_toArray, List.set_cons_zero, List.set_cons_succ]
            clear hK K
            refine wpAny_ready (rs := [2]) (by kernel_rfl) (by simp) ?_
            refine AllReady.cons rfl (fun K hK => ite_of rfl ?_) ?_
            · simp only [List.getElem_toArray, List.getElem_cons_zero, List.getElem_cons_succ]
              go_simp
              go_at_call 18
              refine (R_Fill _ _).mono ?_
              rintro e w9 ⟨rfl, hb9⟩
              have hz9 := hb9.size
              replace t1 := t1.of_eq (hb9.block _ t1.lt)
              replace p1 := p1.of_eq (hb9.block _ p1.lt)
              replace a1 := a1.of_eq (hb9.block _ a1.lt)
              replace q1 := q1.of_eq (hb9.block _ q1.lt)
              refine hK _ _ ?_
              clear hK K
              refine wpAny_ready (rs := [4]) (by kernel_rfl) (by simp) ?_
              refine AllReady.cons rfl (fun K hK => ite_of rfl ?_) ?_
              · simp only [List.getElem_toArray, List.getElem_cons_zero, List.getElem_cons_succ]
                refine owp_buildTri _ _ _ rfl _ _ _ rfl rfl rfl ?_
                refine hK _ _ ?_
                simp only [Act.put, List.setIfInBounds_toArray, List.set_cons_zero, List.set_cons_succ]
                clear hK K
                refine wpAny_ready (rs := [6]) (by kernel_rfl) (by simp) ?_
                refine AllReady.cons rfl (fun K hK => ite_of rfl ?_) ?_
                · simp only [List.getElem_toArray, List.getElem_cons_zero, List.getElem_cons_succ]
                  refine owp_storeTri _ _ _ _ rfl rfl rfl q1 ?_
                  clear q1
                  intro w10 q1 hc10 hz10
                  replace hz10 := Nat.le_of_eq hz10.symm
                  replace t1 := t1.of_eq (hc10.block _ t1.lt (by omega))
                  replace p1 := p1.of_eq (hc10.block _ p1.lt (by omega))
                  replace a1 := a1.of_eq (hc10.block _ a1.lt (by omega))
                  refine hK _ _ ?_
                  simp only [Act.put, List.setIfInBounds_toArray, List.set_cons_zero, List.set_cons_succ]
                  clear hK K
                  refine wpAny_done (by kernel_rfl) ?_ _
                  go_wp2_with fail
                  go_meet
                  exact ⟨_, rfl, q1, by repeat' (first | (with_reducible exact Below.refl _ _) | (with_reducible assumption) | (with_reducible refine Below.trans ?_ (hb8.mono (by omega))) | (with_reducible refine Below.trans ?_ (hb9.mono (by omega))) | (with_reducible refine Chg.below ?_ hc10 (by omega) (by omega))), by omega, t1, p1, a1⟩
                exact AllReady.nil
              exact AllReady.nil
            exact AllReady.nil
          exact AllReady.nil
        refine AllReady.cons rfl (fun K hK => ite_of rfl ?_) ?_
        · simp only [List.getElem_toArray, List.getElem_cons_zero, List.getElem_cons_succ]
          refine owp_allocTri rfl ?_
          intro w8 q1 hb8 hz8
          have l8 := Nat.lt_of_lt_of_eq (Nat.lt_succ_self _) hz8.symm
          clear hz8
          replace t1 := t1.of_eq (hb8.block _ t1.lt)
          replace p1 := p1.of_eq (hb8.block _ p1.lt)
          replace a1 := a1.of_eq (hb8.block _ a1.lt)
          refine hK _ _ ?_
          simp only [Act.put, List.setIfInBounds_toArray, List.set_cons_zero, List.set_cons_succ]
          clear hK K
          refine wpAny_ready (rs := [2, 3]) (by kernel_rfl) (by simp) ?_
          refine AllReady.cons rfl (fun K hK => ite_of rfl ?_) ?_
          · simp only [List.getElem_toArray, List.getElem_cons_zero, List.getElem_cons_succ]
            go_simp
            go_at_call 18
            refine (R_Fill _ _).mono ?_
            rintro e w9 ⟨rfl, hb9⟩
            have hz9 := hb9.size
            replace t1 := t1.of_eq (hb9.block _ t1.lt)
            replace p1 := p1.of_eq (hb9.block _ p1.lt)
            replace a1 := a1.of_eq (hb9.block _ a1.lt)
            replace q1 := q1.of_eq (hb9.block _ q1.lt)
            refine hK _ _ ?_
            clear hK K
            refine wpAny_ready (rs := [3]) (by kernel_rfl) (by simp) ?_
            refine AllReady.cons rfl (fun K hK => ite_of rfl ?_) ?_
            · simp only [List.getElem_toArray, List.getElem_cons_zero, List.getElem_cons_succ]
              refine owp_buildT rfl ?_
              refine hK _ _ ?_
              simp only [Act.put, List.setIfInBounds_toArray, List.set_cons_zero, List.set_cons_succ]
              clear hK K
              refine wpAny_ready (rs := [4]) (by kernel_rfl) (by simp) ?_
              refine AllReady.cons rfl (fun K hK => ite_of rfl ?_) ?_
              · simp only [List.getElem_toArray, List.getElem_cons_zero, List.getElem_cons_succ]
                refine owp_buildTri _ _ _ rfl _ _ _ rfl rfl rfl ?_
                refine hK _ _ ?_
                simp only [Act.put, List.setIfInBounds_toArray, List.set_cons_zero, List.set_cons_succ]
                clear hK K
                refine wpAny_ready (rs := [6]) (by kernel_rfl) (by simp) ?_
                refine AllReady.cons rfl (fun K hK => ite_of rfl ?_) ?_
                · simp only [List.getElem_toArray, List.getElem_cons_zero, List.getElem_cons_succ]
                  refine owp_storeTri _ _ _ _ rfl rfl rfl q1 ?_
                  clear q1
                  intro w10 q1 hc10 hz10
                  replace hz10 := Nat.le_of_eq hz10.symm
                  replace t1 := t1.of_eq (hc10.block _ t1.lt (by omega))
                  replace p1 := p1.of_eq (hc10.block _ p1.lt (by omega))
                  replace a1 := a1.of_eq (hc10.block _ a1.lt (by omega))
                  refine hK _ _ ?_
                  simp only [Act.put, List.setIfInBounds_toArray, List.set_cons_zero, List.set_cons_succ]
                  clear hK K
                  refine wpAny_done (by kernel_rfl) ?_ _
                  go_wp2_with fail
                  go_meet
                  exact ⟨_, rfl, q1, by repeat' (first | (with_reducible exact Below.refl _ _) | (with_reducible assumption) | (with_reducible refine Below.trans ?_ (hb8.mono (by omega))) | (with_reducible refine Below.trans ?_ (hb9.mono (by omega))) | (with_reducible refine Chg.below ?_ hc10 (by omega) (by omega))), by omega, t1, p1, a1⟩
                exact AllReady.nil
              exact AllReady.nil
            exact AllReady.nil
          refine AllReady.cons rfl (fun K hK => ite_of rfl ?_) ?_
          · simp only [List.getElem_toArray, List.getElem_cons_zero, List.getElem_cons_succ]
            refine owp_buildT rfl ?_
            refine hK _ _ ?_
            simp only [Act.put, List.setIfInBounds_toArray, List.set_cons_zero, List.set_cons_succ]
            clear hK K
            refine wpAny_ready (rs := [2]) (by kernel_rfl) (by simp) ?_
            refine AllReady.cons rfl (fun K hK => ite_of rfl ?_) ?_
            · simp only [List.getElem_toArray, List.getElem_cons_zero, List.getElem_cons_succ]
              go_simp
              go_at_call 18
              refine (R_Fill _ _).mono ?_
              rintro e w9 ⟨rfl, hb9⟩
              have hz9 := hb9.size
              replace t1 := t1.of_eq (hb9.block _ t1.lt)
              replace p1 := p1.of_eq (hb9.block _ p1.lt)
              replace a1 := a1.of_eq (hb9.block _ a1.lt)
              replace q1 := q1.of_eq (hb9.block _ q1.lt)
              refine hK _ _ ?_
              clear hK K
              refine wpAny_ready (rs := [4]) (by kernel_rfl) (by simp) ?_
              refine AllReady.cons rfl (fun K hK => ite_of rfl ?_) ?_
              · simp only [List.getElem_toArray, List.getElem_cons_zero, List.getElem_cons_succ]
                refine owp_buildTri _ _ _ rfl _ _ _ rfl rfl rfl ?_
                refine hK _ _ ?_
                simp only [Act.put, List.setIfInBounds_toArray, List.set_cons_zero, List.set_cons_succ]
                clear hK K
                refine wpAny_ready (rs := [6]) (by kernel_rfl) (by simp) ?_
                refine AllReady.cons rfl (fun K hK => ite_of rfl ?_) ?_
                · simp only [List.getElem_toArray, List.getElem_cons_zero, List.getElem_cons_succ]
                  refine owp_storeTri _ _ _ _ rfl rfl rfl q1 ?_
                  clear q1
                  intro w10 q1 hc10 hz10
                  replace hz10 := Nat.le_of_eq hz10.symm
                  replace t1 := t1.of_eq (hc10.block _ t1.lt (by omega))
                  replace p1 := p1.of_eq (hc10.block _ p1.lt (by omega))
                  replace a1 := a1.of_eq (hc10.block _ a1.lt (by omega))
                  refine hK _ _ ?_
                  simp only [Act.put, List.setIfInBounds_toArray, List.set_cons_zero, List.set_cons_succ]
                  clear hK K
                  refine wpAny_done (by kernel_rfl) ?_ _
                  go_wp2_with fail
                  go_meet
                  exact ⟨_, rfl, q1, by repeat' (first | (with_reducible exact Below.refl _ _) | (with_reducible assumption) | (with_reducible refine Below.trans ?_ (hb8.mono (by omega))) | (with_reducible refine Below.trans ?_ (hb9.mono (by omega))) | (with_reducible refine Chg.below ?_ hc10 (by omega) (by omega))), by omega, t1, p1, a1⟩
                exact AllReady.nil
              exact AllReady.nil
            exact AllReady.nil
          exact AllReady.nil
        exact AllReady.nil
      refine AllReady.cons rfl (fun K hK => ite_of rfl ?_) ?_
      · simp only [List.getElem_toArray, List.getElem_cons_zero, List.getElem_cons_succ]
        go_simp
        go_at_call 18
        refine (R_Fill _ _).mono ?_
        rintro e w8 ⟨rfl, hb8⟩
        have hz8 := hb8.size
        replace t1 := t1.of_eq (hb8.block _ t1.lt)
        replace p1 := p1.of_eq (hb8.block _ p1.lt)
        replace a1 := a1.of_eq (hb8.block _ a1.lt)
        refine hK _ _ ?_
        clear hK K
        refine wpAny_ready (rs := [0, 3, 5]) (by kernel_rfl) (by simp) ?_
        refine AllReady.cons rfl (fun K hK => ite_of rfl ?_) ?_
        · simp only [List.getElem_toArray, List.getElem_cons_zero, List.getElem_cons_succ]
          refine owp_loadT _ _ rfl rfl t1 ?_
          refine hK _ _ ?_
          simp only [Act.put, List.setIfInBounds_toArray, List.set_cons_zero, List.set_cons_succ]
          clear hK K
          refine wpAny_ready (rs := [3, 5]) (by kernel_rfl) (by simp) ?_
          refine AllReady.cons rfl (fun K hK => ite_of rfl ?_) ?_
          · simp only [List.getElem_toArray, List.getElem_cons_zero, List.getElem_cons_succ]
            refine owp_buildT rfl ?_
            refine hK _ _ ?_
            simp only [Act.put, List.setIfInBounds_toArray, List.set_cons_zero, List.set_cons_succ]
            clear hK K
            refine wpAny_ready (rs := [4, 5]) (by kernel_rfl) (by simp) ?_
            refine AllReady.cons rfl (fun K hK => ite_of rfl ?_) ?_
            · simp only [List.getElem_toArray, List.getElem_cons_zero, List.getElem_cons_succ]
              refine owp_buildTri _ _ _ rfl _ _ _ rfl rfl rfl ?_
              refine hK _ _ ?_
              simp only [Act.put, List.setIfInBounds_toArray, List.set_cons_zero, List.set_cons_succ]
              clear hK K
              refine wpAny_ready (rs := [5]) (by kernel_rfl) (by simp) ?_
              refine AllReady.cons rfl (fun K hK => ite_of rfl ?_) ?_
              · simp only [List.getElem_toArray, List.getElem_cons_zero, List.getElem_cons_succ]
                refine owp_allocTri rfl ?_
                intro w9 q1 hb9 hz9
                have l9 := Nat.lt_of_lt_of_eq (Nat.lt_succ_self _) hz9.symm
                clear hz9
                replace t1 := t1.of_eq (hb9.block _ t1.lt)
                replace p1 := p1.of_eq (hb9.block _ p1.lt)
                replace a1 := a1.of_eq (hb9.block _ a1.lt)
                refine hK _ _ ?_
                simp only [Act.put, List.setIfInBounds_toArray, List.set_cons_zero, List.set_cons_succ]
                clear hK K
                refine wpAny_ready (rs := [6]) (by kernel_rfl) (by simp) ?_
                refine AllReady.cons rfl (fun K hK => ite_of rfl ?_) ?_
                · simp only [List.getElem_toArray, List.getElem_cons_zero, List.getElem_cons_succ]
                  refine owp_storeTri _ _ _ _ rfl rfl rfl q1 ?_
                  clear q1
                  intro w10 q1 hc10 hz10
                  replace hz10 := Nat.le_of_eq hz10.symm
                  replace t1 := t1.of_eq (hc10.block _ t1.lt (by omega))
                  replace p1 := p1.of_eq (hc10.block _ p1.lt (by omega))
                  replace a1 := a1.of_eq (hc10.block _ a1.lt (by omega))
                  refine hK _ _ ?_
                  simp only [Act.put, List.setIfInBounds_toArray, List.set_cons_zero, List.set_cons_succ]
                  clear hK K
                  refine wpAny_done (by kernel_rfl) ?_ _
                  go_wp2_with fail
                  go_meet
                  exact ⟨_, rfl, q1, by repeat' (first | (with_reducible exact Below.refl _ _) | (with_reducible assumption) | (with_reducible refine Below.trans ?_ (hb8.mono (by omega))) | (with_reducible refine Below.trans ?_ (hb9.mono (by omega))) | (with_reducible refine Chg.below ?_ hc10 (by omega) (by omega))), by omega, t1, p1, a1⟩
                exact AllReady.nil
              exact AllReady.nil
            refine AllReady.cons rfl (fun K hK => ite_of rfl ?_) ?_
            · simp only [List.getElem_toArray, List.getElem_cons_zero, List.getElem_cons_succ]
              refine owp_allocTri rfl ?_
              intro w9 q1 hb9 hz9
              have l9 := Nat.lt_of_lt_of_eq (Nat.lt_succ_self _) hz9.symm
              clear hz9
              replace t1 := t1.of_eq (hb9.block _ t1.lt)
              replace p1 := p1.of_eq (hb9.block _ p1.lt)
              replace a1 := a1.of_eq (hb9.block _ a1.lt)
              refine hK _ _ ?_
              simp only [Act.put, List.setIfInBounds_toArray, List.set_cons_zero, List.set_cons_succ]
              clear hK K
              refine wpAny_ready (rs := [4]) (by kernel_rfl) (by simp) ?_
              refine AllReady.cons rfl (fun K hK => ite_of rfl ?_) ?_
              · simp only [List.getElem_toArray, List.getElem_cons_zero, List.getElem_cons_succ]
                refine owp_buildTri _ _ _ rfl _ _ _ rfl rfl rfl ?_
                refine hK _ _ ?_
                simp only [Act.put, List.setIfInBounds_toArray, List.set_cons_zero, List.set_cons_succ]
                clear hK K
                refine wpAny_ready (rs := [6]) (by kernel_rfl) (by simp) ?_
                refine AllReady.cons rfl (fun K hK => ite_of rfl ?_) ?_
                · simp only [List.getElem_toArray, List.getElem_cons_zero, List.getElem_cons_succ]
                  refine owp_storeTri _ _ _ _ rfl rfl rfl q1 ?_
                  clear q1
                  intro w10 q1 hc10 hz10
                  replace hz10 := Nat.le_of_eq hz10.symm
                  replace t1 := t1.of_eq (hc10.block _ t1.lt (by omega))
                  replace p1 := p1.of_eq (hc10.block _ p1.lt (by omega))
                  replace a1 := a1.of_eq (hc10.block _ a1.lt (by omega))
                  refine hK _ _ ?_
                  simp only [Act.put, List.setIfInBounds_toArray, List.set_cons_zero, List.set_cons_succ]
                  clear hK K
                  refine wpAny_done (by kernel_rfl) ?_ _
                  go_wp2_with fail
                  go_meet
                  exact ⟨_, rfl, q1, by repeat' (first | (with_reducible exact Below.refl _ _) | (with_reducible assumption) | (with_reducible refine Below.trans ?_ (hb8.mono (by omega))) | (with_reducible refine Below.trans ?_ (hb9.mono (by omega))) | (with_reducible refine Chg.below ?_ hc10 (by omega) (by omega))), by omega, t1, p1, a1⟩
                exact AllReady.nil
              exact AllReady.nil
            exact AllReady.nil
          refine AllReady.cons rfl (fun K hK => ite_of rfl ?_) ?_
          · simp only [List.getElem_toArray, List.getElem_cons_zero, List.getElem_cons_succ]
            refine owp_allocTri rfl ?_
            intro w9 q1 hb9 hz9
            have l9 := Nat.lt_of_lt_of_eq (Nat.lt_succ_self _) hz9.symm
            clear hz9
            replace t1 := t1.of_eq (hb9.block _ t1.lt)
            replace p1 := p1.of_eq (hb9.block _ p1.lt)
            replace a1 := a1.of_eq (hb9.block _ a1.lt)
            refine hK _ _ ?_
            simp only [Act.put, List.setIfInBounds_toArray, List.set_cons_zero, List.set_cons_succ]
            clear hK K
            refine wpAny_ready (rs := [3]) (by kernel_rfl) (by simp) ?_
            refine AllReady.cons rfl (fun K hK => ite_of rfl ?_) ?_
            · simp only [List.getElem_toArray, List.getElem_cons_zero, List.getElem_cons_succ]
              refine owp_buildT rfl ?_
              refine hK _ _ ?_
              simp only [Act.put, List.setIfInBounds_toArray, List.set_cons_zero, List.set_cons_succ]
              clear hK K
              refine wpAny_ready (rs := [4]) (by kernel_rfl) (by simp) ?_
              refine AllReady.cons rfl (fun K hK => ite_of rfl ?_) ?_
              · simp only [List.getElem_toArray, List.getElem_cons_zero, List.getElem_cons_succ]
                refine owp_buildTri _ _ _ rfl _ _ _ rfl rfl rfl ?_
                refine hK _ _ ?_
                simp only [Act.put, List.setIfInBounds_toArray, List.set_cons_zero, List.set_cons_succ]
                clear hK K
                refine wpAny_ready (rs := [6]) (by kernel_rfl) (by simp) ?_
                refine AllReady.cons rfl (fun K hK => ite_of rfl ?_) ?_
                · simp only [List.getElem_toArray, List.getElem_cons_zero, List.getElem_cons_succ]
                  refine owp_storeTri _ _ _ _ rfl rfl rfl q1 ?_
                  clear q1
                  intro w10 q1 hc10 hz10
                  replace hz10 := Nat.le_of_eq hz10.symm
                  replace t1 := t1.of_eq (hc10.block _ t1.lt (by omega))
                  replace p1 := p1.of_eq (hc10.block _ p1.lt (by omega))
                  replace a1 := a1.of_eq (hc10.block _ a1.lt (by omega))
                  refine hK _ _ ?_
                  simp only [Act.put, List.setIfInBounds_toArray, List.set_cons_zero, List.set_cons_succ]
                  clear hK K
                  refine wpAny_done (by kernel_rfl) ?_ _
                  go_wp2_with fail
                  go_meet
                  exact ⟨_, rfl, q1, by repeat' (first | (with_reducible exact Below.refl _ _) | (with_reducible assumption) | (with_reducible refine Below.trans ?_ (hb8.mono (by omega))) | (with_reducible refine Below.trans ?_ (hb9.mono (by omega))) | (with_reducible refine Chg.below ?_ hc10 (by omega) (by omega))), by omega, t1, p1, a1⟩
                exact AllReady.nil
              exact AllReady.nil
            exact AllReady.nil
          exact AllReady.nil
        refine AllReady.cons rfl (fun K hK => ite_of rfl ?_) ?_
        · simp only [List.getElem_toArray, List.getElem_cons_zero, List.getElem_cons_succ]
          refine owp_buildT rfl ?_
          refine hK _ _ ?_
          simp only [Act.put, List.setIfInBounds_toArray, List.set_cons_zero, List.set_cons_succ]
          clear hK K
          refine wpAny_ready (rs := [0, 5]) (by kernel_rfl) (by simp) ?_
          refine AllReady.cons rfl (fun K hK => ite_of rfl ?_) ?_
          · simp only [List.getElem_toArray, List.getElem_cons_zero, List.getElem_cons_succ]
            refine owp_loadT _ _ rfl rfl t1 ?_
            refine hK _ _ ?_
            simp only [Act.put, List.setIfInBounds_toArray, List.set_cons_zero, List.set_cons_succ]
            clear hK K
            refine wpAny_ready (rs := [4, 5]) (by kernel_rfl) (by simp) ?_
            refine AllReady.cons rfl (fun K hK => ite_of rfl ?_) ?_
            · simp only [List.getElem_toArray, List.getElem_cons_zero, List.getElem_cons_succ]
              refine owp_buildTri _ _ _ rfl _ _ _ rfl rfl rfl ?_
              refine hK _ _ ?_
              simp only [Act.put, List.setIfInBounds_toArray, List.set_cons_zero, List.set_cons_succ]
              clear hK K
              refine wpAny_ready (rs := [5]) (by kernel_rfl) (by simp) ?_
              refine AllReady.cons rfl (fun K hK => ite_of rfl ?_) ?_
              · simp only [List.getElem_toArray, List.getElem_cons_zero, List.getElem_cons_succ]
                refine owp_allocTri rfl ?_
                intro w9 q1 hb9 hz9
                have l9 := Nat.lt_of_lt_of_eq (Nat.lt_succ_self _) hz9.symm
                clear hz9
                replace t1 := t1.of_eq (hb9.block _ t1.lt)
                replace p1 := p1.of_eq (hb9.block _ p1.lt)
                replace a1 := a1.of_eq (hb9.block _ a1.lt)
                refine hK _ _ ?_
                simp only [Act.put, List.setIfInBounds_toArray, List.set_cons_zero, List.set_cons_succ]
                clear hK K
                refine wpAny_ready (rs := [6]) (by kernel_rfl) (by simp) ?_
                refine AllReady.cons rfl (fun K hK => ite_of rfl ?_) ?_
                · simp only [List.getElem_toArray, List.getElem_cons_zero, List.getElem_cons_succ]
                  refine owp_storeTri _ _ _ _ rfl rfl rfl q1 ?_
                  clear q1
                  intro w10 q1 hc10 hz10
                  replace hz10 := Nat.le_of_eq hz10.symm
                  replace t1 := t1.of_eq (hc10.block _ t1.lt (by omega))
                  replace p1 := p1.of_eq (hc10.block _ p1.lt (by omega))
                  replace a1 := a1.of_eq (hc10.block _ a1.lt (by omega))
                  refine hK _ _ ?_
                  simp only [Act.put, List.setIfInBounds_toArray, List.set_cons_zero, List.set_cons_succ]
                  clear hK K
                  refine wpAny_done (by kernel_rfl) ?_ _
                  go_wp2_with fail
                  go_meet
                  exact ⟨_, rfl, q1, by repeat' (first | (with_reducible exact Below.refl _ _) | (with_reducible assumption) | (with_reducible refine Below.trans ?_ (hb8.mono (by omega))) | (with_reducible refine Below.trans ?_ (hb9.mono (by omega))) | (with_reducible refine Chg.below ?_ hc10 (by omega) (by omega))), by omega, t1, p1, a1⟩
                exact AllReady.nil
              exact AllReady.nil
            refine AllReady.cons rfl (fun K hK => ite_of rfl ?_) ?_
            · simp only [List.getElem_toArray, List.getElem_cons_zero, List.getElem_cons_succ]
              refine owp_allocTri rfl ?_
              intro w9 q1 hb9 hz9
              have l9 := Nat.lt_of_lt_of_eq (Nat.lt_succ_self _) hz9.symm
              clear hz9
              replace t1 := t1.of_eq (hb9.block _ t1.lt)
              replace p1 := p1.of_eq (hb9.block _ p1.lt)
              replace a1 := a1.of_eq (hb9.block _ a1.lt)
              refine hK _ _ ?_
              simp only [Act.put, List.setIfInBounds_toArray, List.set_cons_zero, List.set_cons_succ]
              clear hK K
              refine wpAny_ready (rs := [4]) (by kernel_rfl) (by simp) ?_
              refine AllReady.cons rfl (fun K hK => ite_of rfl ?_) ?_
              · simp only [List.getElem_toArray, List.getElem_cons_zero, List.getElem_cons_succ]
                refine owp_buildTri _ _ _ rfl _ _ _ rfl rfl rfl ?_
                refine hK _ _ ?_
                simp only [Act.put, List.setIfInBounds_toArray, List.set_cons_zero, List.set_cons_succ]
                clear hK K
                refine wpAny_ready (rs := [6]) (by kernel_rfl) (by simp) ?_
                refine AllReady.cons rfl (fun K hK => ite_of rfl ?_) ?_
                · simp only [List.getElem_toArray, List.getElem_cons_zero, List.getElem_cons_succ]
                  refine owp_storeTri _ _ _ _ rfl rfl rfl q1 ?_
                  clear q1
                  intro w10 q1 hc10 hz10
                  replace hz10 := Nat.le_of_eq hz10.symm
                  replace t1 := t1.of_eq (hc10.block _ t1.lt (by omega))
                  replace p1 := p1.of_eq (hc10.block _ p1.lt (by omega))
                  replace a1 := a1.of_eq (hc10.block _ a1.lt (by omega))
                  refine hK _ _ ?_
                  simp only [Act.put, List.setIfInBounds_toArray, List.set_cons_zero, List.set_cons_succ]
                  clear hK K
                  refine wpAny_done (by kernel_rfl) ?_ _
                  go_wp2_with fail
                  go_meet
                  exact ⟨_, rfl, q1, by repeat' (first | (with_reducible exact Below.refl _ _) | (with_reducible assumption) | (with_reducible refine Below.trans ?_ (hb8.mono (by omega))) | (with_reducible refine Below.trans ?_ (hb9.mono (by omega))) | (with_reducible refine Chg.below ?_ hc10 (by omega) (by omega))), by omega, t1, p1, a1⟩
                exact AllReady.nil
              exact AllReady.nil
            exact AllReady.nil
          refine AllReady.cons rfl (fun K hK => ite_of rfl ?_) ?_
          · simp only [List.getElem_toArray, List.getElem_cons_zero, List.getElem_cons_succ]
            refine owp_allocTri rfl ?_
            intro w9 q1 hb9 hz9
            have l9 := Nat.lt_of_lt_of_eq (Nat.lt_succ_self _) hz9.symm
            clear hz9
            replace t1 := t1.of_eq (hb9.block _ t1.lt)
            replace p1 := p1.of_eq (hb9.block _ p1.lt)
            replace a1 := a1.of_eq (hb9.block _ a1.lt)
            refine hK _ _ ?_
            simp only [Act.put, List.setIfInBounds_toArray, List.set_cons_zero, List.set_cons_succ]
            clear hK K
            refine wpAny_ready (rs := [0]) (by kernel_rfl) (by simp) ?_
            refine AllReady.cons rfl (fun K hK => ite_of rfl ?_) ?_
            · simp only [List.getElem_toArray, List.getElem_cons_zero, List.getElem_cons_succ]
              refine owp_loadT _ _ rfl rfl t1 ?_
              refine hK _ _ ?_
              simp only [Act.put, List.setIfInBounds_toArray, List.set_cons_zero, List.set_cons_succ]
              clear hK K
              refine wpAny_ready (rs := [4]) (by kernel_rfl) (by simp) ?_
              refine AllReady.cons rfl (fun K hK => ite_of rfl ?_) ?_
              · simp only [List.getElem_toArray, List.getElem_cons_zero, List.getElem_cons_succ]
                refine owp_buildTri _ _ _ rfl _ _ _ rfl rfl rfl ?_
                refine hK _ _ ?_
                simp only [Act.put, List.setIfInBounds_toArray, List.set_cons_zero, List.set_cons_succ]
                clear hK K
                refine wpAny_ready (rs := [6]) (by kernel_rfl) (by simp) ?_
                refine AllReady.cons rfl (fun K hK => ite_of rfl ?_) ?_
                · simp only [List.getElem_toArray, List.getElem_cons_zero, List.getElem_cons_succ]
                  refine owp_storeTri _ _ _ _ rfl rfl rfl q1 ?_
                  clear q1
                  intro w10 q1 hc10 hz10
                  replace hz10 := Nat.le_of_eq hz10.symm
                  replace t1 := t1.of_eq (hc10.block _ t1.lt (by omega))
                  replace p1 := p1.of_eq (hc10.block _ p1.lt (by omega))
                  replace a1 := a1.of_eq (hc10.block _ a1.lt (by omega))
                  refine hK _ _ ?_
                  simp only [Act.put, List.setIfInBounds_toArray, List.set_cons_zero, List.set_cons_succ]
                  clear hK K
                  refine wpAny_done (by kernel_rfl) ?_ _
                  go_wp2_with fail
                  go_meet
                  exact ⟨_, rfl, q1, by repeat' (first | (with_reducible exact Below.refl _ _) | (with_reducible assumption) | (with_reducible refine Below.trans ?_ (hb8.mono (by omega))) | (with_reducible refine Below.trans ?_ (hb9.mono (by omega))) | (with_reducible refine Chg.below ?_ hc10 (by omega) (by omega))), by omega, t1, p1, a1⟩
                exact AllReady.nil
              exact AllReady.nil
            exact AllReady.nil
          exact AllReady.nil
        refine AllReady.cons rfl (fun K hK => ite_of rfl ?_) ?_
        · simp only [List.getElem_toArray, List.getElem_cons_zero, List.getElem_cons_succ]
          refine owp_allocTri rfl ?_
          intro w9 q1 hb9 hz9
          have l9 := Nat.lt_of_lt_of_eq (Nat.lt_succ_self _) hz9.symm
          clear hz9
          replace t1 := t1.of_eq (hb9.block _ t1.lt)
          replace p1 := p1.of_eq (hb9.block _ p1.lt)
          replace a1 := a1.of_eq (hb9.block _ a1.lt)
          refine hK _ _ ?_
          simp only [Act.put, List.setIfInBounds_toArray, List.set_cons_zero, List.set_cons_succ]
          clear hK K
          refine wpAny_ready (rs := [0, 3]) (by kernel_rfl) (by simp) ?_
          refine AllReady.cons rfl (fun K hK => ite_of rfl ?_) ?_
          · simp only [List.getElem_toArray, List.getElem_cons_zero, List.getElem_cons_succ]
            refine owp_loadT _ _ rfl rfl t1 ?_
            refine hK _ _ ?_
            simp only [Act.put, List.setIfInBounds_toArray, List.set_cons_zero, List.set_cons_succ]
            clear hK K
            refine wpAny_ready (rs := [3]) (by kernel_rfl) (by simp) ?_
            refine AllReady.cons rfl (fun K hK => ite_of rfl ?_) ?_
            · simp only [List.getElem_toArray, List.getElem_cons_zero, List.getElem_cons_succ]
              refine owp_buildT rfl ?_
              refine hK _ _ ?_
              simp only [Act.put, List.setIfInBounds_toArray, List.set_cons_zero, List.set_cons_succ]
              clear hK K
              refine wpAny_ready (rs := [4]) (by kernel_rfl) (by simp) ?_
              refine AllReady.cons rfl (fun K hK => ite_of rfl ?_) ?_
              · simp only [List.getElem_toArray, List.getElem_cons_zero, List.getElem_cons_succ]
                refine owp_buildTri _ _ _ rfl _ _ _ rfl rfl rfl ?_
                refine hK _ _ ?_
                simp only [Act.put, List.setIfInBounds_toArray, List.set_cons_zero, List.set_cons_succ]
                clear hK K
                refine wpAny_ready (rs := [6]) (by kernel_rfl) (by simp) ?_
                refine AllReady.cons rfl (fun K hK => ite_of rfl ?_) ?_
                · simp only [List.getElem_toArray, List.getElem_cons_zero, List.getElem_cons_succ]
                  refine owp_storeTri _ _ _ _ rfl rfl rfl q1 ?_
                  clear q1
                  intro w10 q1 hc10 hz10
                  replace hz10 := Nat.le_of_eq hz10.symm
                  replace t1 := t1.of_eq (hc10.block _ t1.lt (by omega))
                  replace p1 := p1.of_eq (hc10.block _ p1.lt (by omega))
                  replace a1 := a1.of_eq (hc10.block _ a1.lt (by omega))
                  refine hK _ _ ?_
                  simp only [Act.put, List.setIfInBounds_toArray, List.set_cons_zero, List.set_cons_succ]
                  clear hK K
                  refine wpAny_done (by kernel_rfl) ?_ _
                  go_wp2_with fail
                  go_meet
                  exact ⟨_, rfl, q1, by repeat' (first | (with_reducible exact Below.refl _ _) | (with_reducible assumption) | (with_reducible refine Below.trans ?_ (hb8.mono (by omega))) | (with_reducible refine Below.trans ?_ (hb9.mono (by omega))) | (with_reducible refine Chg.below ?_ hc10 (by omega) (by omega))), by omega, t1, p1, a1⟩
                exact AllReady.nil
              exact AllReady.nil
            exact AllReady.nil
          refine AllReady.cons rfl (fun K hK => ite_of rfl ?_) ?_
          · simp only [List.getElem_toArray, List.getElem_cons_zero, List.getElem_cons_succ]
            refine owp_buildT rfl ?_
            refine hK _ _ ?_
            simp only [Act.put, List.setIfInBounds_toArray, List.set_cons_zero, List.set_cons_succ]
            clear hK K
            refine wpAny_ready (rs := [0]) (by kernel_rfl) (by simp) ?_
            refine AllReady.cons rfl (fun K hK => ite_of rfl ?_) ?_
            · simp only [List.getElem_toArray, List.getElem_cons_zero, List.getElem_cons_succ]
              refine owp_loadT _ _ rfl rfl t1 ?_
              refine hK _ _ ?_
              simp only [Act.put, List.setIfInBounds_toArray, List.set_cons_zero, List.set_cons_succ]
              clear hK K
              refine wpAny_ready (rs := [4]) (by kernel_rfl) (by simp) ?_
              refine AllReady.cons rfl (fun K hK => ite_of rfl ?_) ?_
              · simp only [List.getElem_toArray, List.getElem_cons_zero, List.getElem_cons_succ]
                refine owp_buildTri _ _ _ rfl _ _ _ rfl rfl rfl ?_
                refine hK _ _ ?_
                simp only [Act.put, List.setIfInBounds_toArray, List.set_cons_zero, List.set_cons_succ]
                clear hK K
                refine wpAny_ready (rs := [6]) (by kernel_rfl) (by simp) ?_
                refine AllReady.cons rfl (fun K hK => ite_of rfl ?_) ?_
                · simp only [List.getElem_toArray, List.getElem_cons_zero, List.getElem_cons_succ]
                  refine owp_storeTri _ _ _ _ rfl rfl rfl q1 ?_
                  clear q1
                  intro w10 q1 hc10 hz10
                  replace hz10 := Nat.le_of_eq hz10.symm
                  replace t1 := t1.of_eq (hc10.block _ t1.lt (by omega))
                  replace p1 := p1.of_eq (hc10.block _ p1.lt (by omega))
                  replace a1 := a1.of_eq (hc10.block _ a1.lt (by omega))
                  refine hK _ _ ?_
                  simp only [Act.put, List.setIfInBounds_toArray, List.set_cons_zero, List.set_cons_succ]
                  clear hK K
                  refine wpAny_done (by kernel_rfl) ?_ _
                  go_wp2_with fail
                  go_meet
                  exact ⟨_, rfl, q1, by repeat' (first | (with_reducible exact Below.refl _ _) | (with_reducible assumption) | (with_reducible refine Below.trans ?_ (hb8.mono (by omega))) | (with_reducible refine Below.trans ?_ (hb9.mono (by omega))) | (with_reducible refine Chg.below ?_ hc10 (by omega) (by omega))), by omega, t1, p1, a1⟩
                exact AllReady.nil
              exact AllReady.nil
            exact AllReady.nil
          exact AllReady.nil
        exact AllReady.nil
      refine AllReady.cons rfl (fun K hK => ite_of rfl ?_) ?_
      · simp only [List.getElem_toArray, List.getElem_cons_zero, List.getElem_cons_succ]
        refine owp_buildT rfl ?_
        refine hK _ _ ?_
        simp only [Act.put, List.setIfInBounds_toArray, List.set_cons_zero, List.set_cons_succ]
        clear hK K
        refine wpAny_ready (rs := [0, 2, 5]) (by kernel_rfl) (by simp) ?_
        refine AllReady.cons rfl (fun K hK => ite_of rfl ?_) ?_
        · simp only [List.getElem_toArray, List.getElem_cons_zero, List.getElem_cons_succ]
          refine owp_loadT _ _ rfl rfl t1 ?_
          refine hK _ _ ?_
          simp only [Act.put, List.setIfInBounds_toArray, List.set_cons_zero, List.set_cons_succ]
          clear hK K
          refine wpAny_ready (rs := [2, 5]) (by kernel_rfl) (by simp) ?_
          refine AllReady.cons rfl (fun K hK => ite_of rfl ?_) ?_
          · simp only [List.getElem_toArray, List.getElem_cons_zero, List.getElem_cons_succ]
            go_simp
            go_at_call 18
            refine (R_Fill _ _).mono ?_
            rintro e w8 ⟨rfl, hb8⟩
            have hz8 := hb8.size
            replace t1 := t1.of_eq (hb8.block _ t1.lt)
            replace p1 := p1.of_eq (hb8.block _ p1.lt)
            replace a1 := a1.of_eq (hb8.block _ a1.lt)
            refine hK _ _ ?_
            clear hK K
            refine wpAny_ready (rs := [4, 5]) (by kernel_rfl) (by simp) ?_
            refine AllReady.cons rfl (fun K hK => ite_of rfl ?_) ?_
            · simp only [List.getElem_toArray, List.getElem_cons_zero, List.getElem_cons_succ]
              refine owp_buildTri _ _ _ rfl _ _ _ rfl rfl rfl ?_
              refine hK _ _ ?_
              simp only [Act.put, List.setIfInBounds_toArray, List.set_cons_zero, List.set_cons_succ]
              clear hK K
              refine wpAny_ready (rs := [5]) (by kernel_rfl) (by simp) ?_
              refine AllReady.cons rfl (fun K hK => ite_of rfl ?_) ?_
              · simp only [List.getElem_toArray, List.getElem_cons_zero, List.getElem_cons_succ]
                refine owp_allocTri rfl ?_
                intro w9 q1 hb9 hz9
                have l9 := Nat.lt_of_lt_of_eq (Nat.lt_succ_self _) hz9.symm
                clear hz9
                replace t1 := t1.of_eq (hb9.block _ t1.lt)
                replace p1 := p1.of_eq (hb9.block _ p1.lt)
                replace a1 := a1.of_eq (hb9.block _ a1.lt)
                refine hK _ _ ?_
                simp only [Act.put, List.setIfInBounds_toArray, List.set_cons_zero, List.set_cons_succ]
                clear hK K
                refine wpAny_ready (rs := [6]) (by kernel_rfl) (by simp) ?_
                refine AllReady.cons rfl (fun K hK => ite_of rfl ?_) ?_
                · simp only [List.getElem_toArray, List.getElem_cons_zero, List.getElem_cons_succ]
                  refine owp_storeTri _ _ _ _ rfl rfl rfl q1 ?_
                  clear q1
                  intro w10 q1 hc10 hz10
                  replace hz10 := Nat.le_of_eq hz10.symm
                  replace t1 := t1.of_eq (hc10.block _ t1.lt (by omega))
                  replace p1 := p1.of_eq (hc10.block _ p1.lt (by omega))
                  replace a1 := a1.of_eq (hc10.block _ a1.lt (by omega))
                  refine hK _ _ ?_
                  simp only [Act.put, List.setIfInBounds_toArray, List.set_cons_zero, List.set_cons_succ]
                  clear hK K
                  refine wpAny_done (by kernel_rfl) ?_ _
                  go_wp2_with fail
                  go_meet
                  exact ⟨_, rfl, q1, by repeat' (first | (with_reducible exact Below.refl _ _) | (with_reducible assumption) | (with_reducible refine Below.trans ?_ (hb8.mono (by omega))) | (with_reducible refine Below.trans ?_ (hb9.mono (by omega))) | (with_reducible refine Chg.below ?_ hc10 (by omega) (by omega))), by omega, t1, p1, a1⟩
                exact AllReady.nil
              exact AllReady.nil
            refine AllReady.cons rfl (fun K hK => ite_of rfl ?_) ?_
            · simp only [List.getElem_toArray, List.getElem_cons_zero, List.getElem_cons_succ]
              refine owp_allocTri rfl ?_
              intro w9 q1 hb9 hz9
              have l9 := Nat.lt_of_lt_of_eq (Nat.lt_succ_self _) hz9.symm
              clear hz9
              replace t1 := t1.of_eq (hb9.block _ t1.lt)
              replace p1 := p1.of_eq (hb9.block _ p1.lt)
              replace a1 := a1.of_eq (hb9.block _ a1.lt)
              refine hK _ _ ?_
              simp only [Act.put, List.setIfInBounds_toArray, List.set_cons_zero, List.set_cons_succ]
              clear hK K
              refine wpAny_ready (rs := [4]) (by kernel_rfl) (by simp) ?_
              refine AllReady.cons rfl (fun K hK => ite_of rfl ?_) ?_
              · simp only [List.getElem_toArray, List.getElem_cons_zero, List.getElem_cons_succ]
                refine owp_buildTri _ _ _ rfl _ _ _ rfl rfl rfl ?_
                refine hK _ _ ?_
                simp only [Act.put, List.setIfInBounds_toArray, List.set_cons_zero, List.set_cons_succ]
                clear hK K
                refine wpAny_ready (rs := [6]) (by kernel_rfl) (by simp) ?_
                refine AllReady.cons rfl (fun K hK => ite_of rfl ?_) ?_
                · simp only [List.getElem_toArray, List.getElem_cons_zero, List.getElem_cons_succ]
                  refine owp_storeTri _ _ _ _ rfl rfl rfl q1 ?_
                  clear q1
                  intro w10 q1 hc10 hz10
                  replace hz10 := Nat.le_of_eq hz10.symm
                  replace t1 := t1.of_eq (hc10.block _ t1.lt (by omega))
                  replace p1 := p1.of_eq (hc10.block _ p1.lt (by omega))
                  replace a1 := a1.of_eq (hc10.block _ a1.lt (by omega))
                  refine hK _ _ ?_
                  simp only [Act.put, List.setIfInBounds_toArray, List.set_cons_zero, List.set_cons_succ]
                  clear hK K
                  refine wpAny_done (by kernel_rfl) ?_ _
                  go_wp2_with fail
                  go_meet
                  exact ⟨_, rfl, q1, by repeat' (first | (with_reducible exact Below.refl _ _) | (with_reducible assumption) | (with_reducible refine Below.trans ?_ (hb8.mono (by omega))) | (with_reducible refine Below.trans ?_ (hb9.mono (by omega))) | (with_reducible refine Chg.below ?_ hc10 (by omega) (by omega))), by omega, t1, p1, a1⟩
                exact AllReady.nil
              exact AllReady.nil
            exact AllReady.nil
          refine AllReady.cons rfl (fun K hK => ite_of rfl ?_) ?_
          · simp only [List.getElem_toArray, List.getElem_cons_zero, List.getElem_cons_succ]
            refine owp_allocTri rfl ?_
            intro w8 q1 hb8 hz8
            have l8 := Nat.lt_of_lt_of_eq (Nat.lt_succ_self _) hz8.symm
            clear hz8
            replace t1 := t1.of_eq (hb8.block _ t1.lt)
            replace p1 := p1.of_eq (hb8.block _ p1.lt)
            replace a1 := a1.of_eq (hb8.block _ a1.lt)
            refine hK _ _ ?_
            simp only [Act.put, List.setIfInBounds_toArray, List.set_cons_zero, List.set_cons_succ]
            clear hK K
            refine wpAny_ready (rs := [2]) (by kernel_rfl) (by simp) ?_
            refine AllReady.cons rfl (fun K hK => ite_of rfl ?_) ?_
            · simp only [List.getElem_toArray, List.getElem_cons_zero, List.getElem_cons_succ]
              go_simp
              go_at_call 18
              refine (R_Fill _ _).mono ?_
              rintro e w9 ⟨rfl, hb9⟩
              have hz9 := hb9.size
              replace t1 := t1.of_eq (hb9.block _ t1.lt)
              replace p1 := p1.of_eq (hb9.block _ p1.lt)
              replace a1 := a1.of_eq (hb9.block _ a1.lt)
              replace q1 := q1.of_eq (hb9.block _ q1.lt)
              refine hK _ _ ?_
              clear hK K
              refine wpAny_ready (rs := [4]) (by kernel_rfl) (by simp) ?_
              refine AllReady.cons rfl (fun K hK => ite_of rfl ?_) ?_
              · simp only [List.getElem_toArray, List.getElem_cons_zero, List.getElem_cons_succ]
                refine owp_buildTri _ _ _ rfl _ _ _ rfl rfl rfl ?_
                refine hK _ _ ?_
                simp only [Act.put, List.setIfInBounds_toArray, List.set_cons_zero, List.set_cons_succ]
                clear hK K
                refine wpAny_ready (rs := [6]) (by kernel_rfl) (by simp) ?_
                refine AllReady.cons rfl (fun K hK => ite_of rfl ?_) ?_
                · simp only [List.getElem_toArray, List.getElem_cons_zero, List.getElem_cons_succ]
                  refine owp_storeTri _ _ _ _ rfl rfl rfl q1 ?_
                  clear q1
                  intro w10 q1 hc10 hz10
                  replace hz10 := Nat.le_of_eq hz10.symm
                  replace t1 := t1.of_eq (hc10.block _ t1.lt (by omega))
                  replace p1 := p1.of_eq (hc10.block _ p1.lt (by omega))
                  replace a1 := a1.of_eq (hc10.block _ a1.lt (by omega))
                  refine hK _ _ ?_
                  simp only [Act.put, List.setIfInBounds_toArray, List.set_cons_zero, List.set_cons_succ]
                  clear hK K
                  refine wpAny_done (by kernel_rfl) ?_ _
                  go_wp2_with fail
                  go_meet
                  exact ⟨_, rfl, q1, by repeat' (first | (with_reducible exact Below.refl _ _) | (with_reducible assumption) | (with_reducible refine Below.trans ?_ (hb8.mono (by omega))) | (with_reducible refine Below.trans ?_ (hb9.mono (by omega))) | (with_reducible refine Chg.below ?_ hc10 (by omega) (by omega))), by omega, t1, p1, a1⟩
                exact AllReady.nil
              exact AllReady.nil
            exact AllReady.nil
          exact AllReady.nil
        refine AllReady.cons rfl (fun K hK => ite_of rfl ?_) ?_
        · simp only [List.getElem_toArray, List.getElem_cons_zero, List.getElem_cons_succ]
          go_simp
          go_at_call 18
          refine (R_Fill _ _).mono ?_
          rintro e w8 ⟨rfl, hb8⟩
          have hz8 := hb8.size
          replace t1 := t1.of_eq (hb8.block _ t1.lt)
          replace p1 := p1.of_eq (hb8.block _ p1.lt)
          replace a1 := a1.of_eq (hb8.block _ a1.lt)
          refine hK _ _ ?_
          clear hK K
          refine wpAny_ready (rs := [0, 5]) (by kernel_rfl) (by simp) ?_
          refine AllReady.cons rfl (fun K hK => ite_of rfl ?_) ?_
          · simp only [List.getElem_toArray, List.getElem_cons_zero, List.getElem_cons_succ]
            refine owp_loadT _ _ rfl rfl t1 ?_
            refine hK _ _ ?_
            simp only [Act.put, List.setIfInBounds_toArray, List.set_cons_zero, List.set_cons_succ]
            clear hK K
            refine wpAny_ready (rs := [4, 5]) (by kernel_rfl) (by simp) ?_
            refine AllReady.cons rfl (fun K hK => ite_of rfl ?_) ?_
            · simp only [List.getElem_toArray, List.getElem_cons_zero, List.getElem_cons_succ]
              refine owp_buildTri _ _ _ rfl _ _ _ rfl rfl rfl ?_
              refine hK _ _ ?_
              simp only [Act.put, List.setIfInBounds_toArray, List.set_cons_zero, List.set_cons_succ]
              clear hK K
              refine wpAny_ready (rs := [5]) (by kernel_rfl) (by simp) ?_
              refine AllReady.cons rfl (fun K hK => ite_of rfl ?_) ?_
              · simp only [List.getElem_toArray, List.getElem_cons_zero, List.getElem_cons_succ]
                refine owp_allocTri rfl ?_
                intro w9 q1 hb9 hz9
                have l9 := Nat.lt_of_lt_of_eq (Nat.lt_succ_self _) hz9.symm
                clear hz9
                replace t1 := t1.of_eq (hb9.block _ t1.lt)
                replace p1 := p1.of_eq (hb9.block _ p1.lt)
                replace a1 := a1.of_eq (hb9.block _ a1.lt)
                refine hK _ _ ?_
                simp only [Act.put, List.setIfInBounds_toArray, List.set_cons_zero, List.set_cons_succ]
                clear hK K
                refine wpAny_ready (rs := [6]) (by kernel_rfl) (by simp) ?_
                refine AllReady.cons rfl (fun K hK => ite_of rfl ?_) ?_
                · simp only [List.getElem_toArray, List.getElem_cons_zero, List.getElem_cons_succ]
                  refine owp_storeTri _ _ _ _ rfl rfl rfl q1 ?_
                  clear q1
                  intro w10 q1 hc10 hz10
                  replace hz10 := Nat.le_of_eq hz10.symm
                  replace t1 := t1.of_eq (hc10.block _ t1.lt (by omega))
                  replace p1 := p1.of_eq (hc10.block _ p1.lt (by omega))
                  replace a1 := a1.of_eq (hc10.block _ a1.lt (by omega))
                  refine hK _ _ ?_
                  simp only [Act.put, List.setIfInBounds_toArray, List.set_cons_zero, List.set_cons_succ]
                  clear hK K
                  refine wpAny_done (by kernel_rfl) ?_ _
                  go_wp2_with fail
                  go_meet
                  exact ⟨_, rfl, q1, by repeat' (first | (with_reducible exact Below.refl _ _) | (with_reducible assumption) | (with_reducible refine Below.trans ?_ (hb8.mono (by omega))) | (with_reducible refine Below.trans ?_ (hb9.mono (by omega))) | (with_reducible refine Chg.below ?_ hc10 (by omega) (by omega))), by omega, t1, p1, a1⟩
                exact AllReady.nil
              exact AllReady.nil
            refine AllReady.cons rfl (fun K hK => ite_of rfl ?_) ?_
            · simp only [List.getElem_toArray, List.getElem_cons_zero, List.getElem_cons_succ]
              refine owp_allocTri rfl ?_
              intro w9 q1 hb9 hz9
              have l9 := Nat.lt_of_lt_of_eq (Nat.lt_succ_self _) hz9.symm
              clear hz9
              replace t1 := t1.of_eq (hb9.block _ t1.lt)
              replace p1 := p1.of_eq (hb9.block _ p1.lt)
              replace a1 := a1.of_eq (hb9.block _ a1.lt)
              refine hK _ _ ?_
              simp only [Act.put, List.setIfInBounds_toArray, List.set_cons_zero, List.set_cons_succ]
              clear hK K
              refine wpAny_ready (rs := [4]) (by kernel_rfl) (by simp) ?_
              refine AllReady.cons rfl (fun K hK => ite_of rfl ?_) ?_
              · simp only [List.getElem_toArray, List.getElem_cons_zero, List.getElem_cons_succ]
                refine owp_buildTri _ _ _ rfl _ _ _ rfl rfl rfl ?_
                refine hK _ _ ?_
                simp only [Act.put, List.setIfInBounds_toArray, List.set_cons_zero, List.set_cons_succ]
                clear hK K
                refine wpAny_ready (rs := [6]) (by kernel_rfl) (by simp) ?_
                refine AllReady.cons rfl (fun K hK => ite_of rfl ?_) ?_
                · simp only [List.getElem_toArray, List.getElem_cons_zero, List.getElem_cons_succ]
                  refine owp_storeTri _ _ _ _ rfl rfl rfl q1 ?_
                  clear q1
                  intro w10 q1 hc10 hz10
                  replace hz10 := Nat.le_of_eq hz10.symm
                  replace t1 := t1.of_eq (hc10.block _ t1.lt (by omega))
                  replace p1 := p1.of_eq (hc10.block _ p1.lt (by omega))
                  replace a1 := a1.of_eq (hc10.block _ a1.lt (by omega))
                  refine hK _ _ ?_
                  simp only [Act.put, List.setIfInBounds_toArray, List.set_cons_zero, List.set_cons_succ]
                  clear hK K
                  refine wpAny_done (by kernel_rfl) ?_ _
                  go_wp2_with fail
                  go_meet
                  exact ⟨_, rfl, q1, by repeat' (first | (with_reducible exact Below.refl _ _) | (with_reducible assumption) | (with_reducible refine Below.trans ?_ (hb8.mono (by omega))) | (with_reducible refine Below.trans ?_ (hb9.mono (by omega))) | (with_reducible refine Chg.below ?_ hc10 (by omega) (by omega))), by omega, t1, p1, a1⟩
                exact AllReady.nil
              exact AllReady.nil
            exact AllReady.nil
          refine AllReady.cons rfl (fun K hK => ite_of rfl ?_) ?_
          · simp only [List.getElem_toArray, List.getElem_cons_zero, List.getElem_cons_succ]
            refine owp_allocTri rfl ?_
            intro w9 q1 hb9 hz9
            have l9 := Nat.lt_of_lt_of_eq (Nat.lt_succ_self _) hz9.symm
            clear hz9
            replace t1 := t1.of_eq (hb9.block _ t1.lt)
            replace p1 := p1.of_eq (hb9.block _ p1.lt)
            replace a1 := a1.of_eq (hb9.block _ a1.lt)
            refine hK _ _ ?_
            simp only [Act.put, List.setIfInBounds_toArray, List.set_cons_zero, List.set_cons_succ]
            clear hK K
            refine wpAny_ready (rs := [0]) (by kernel_rfl) (by simp) ?_
            refine AllReady.cons rfl (fun K hK => ite_of rfl ?_) ?_
            · simp only [List.getElem_toArray, List.getElem_cons_zero, List.getElem_cons_succ]
              refine owp_loadT _ _ rfl rfl t1 ?_
              refine hK _ _ ?_
              simp only [Act.put, List.setIfInBounds_toArray, List.set_cons_zero, List.set_cons_succ]
              clear hK K
              refine wpAny_ready (rs := [4]) (by kernel_rfl) (by simp) ?_
              refine AllReady.cons rfl (fun K hK => ite_of rfl ?_) ?_
              · simp only [List.getElem_toArray, List.getElem_cons_zero, List.getElem_cons_succ]
                refine owp_buildTri _ _ _ rfl _ _ _ rfl rfl rfl ?_
                refine hK _ _ ?_
                simp only [Act.put, List.setIfInBounds_toArray, List.set_cons_zero, List.set_cons_succ]
                clear hK K
                refine wpAny_ready (rs := [6]) (by kernel_rfl) (by simp) ?_
                refine AllReady.cons rfl (fun K hK => ite_of rfl ?_) ?_
                · simp only [List.getElem_toArray, List.getElem_cons_zero, List.getElem_cons_succ]
                  refine owp_storeTri _ _ _ _ rfl rfl rfl q1 ?_
                  clear q1
                  intro w10 q1 hc10 hz10
                  replace hz10 := Nat.le_of_eq hz10.symm
                  replace t1 := t1.of_eq (hc10.block _ t1.lt (by omega))
                  replace p1 := p1.of_eq (hc10.block _ p1.lt (by omega))
                  replace a1 := a1.of_eq (hc10.block _ a1.lt (by omega))
                  refine hK _ _ ?_
                  simp only [Act.put, List.setIfInBounds_toArray, List.set_cons_zero, List.set_cons_succ]
                  clear hK K
                  refine wpAny_done (by kernel_rfl) ?_ _
                  go_wp2_with fail
                  go_meet
                  exact ⟨_, rfl, q1, by repeat' (first | (with_reducible exact Below.refl _ _) | (with_reducible assumption) | (with_reducible refine Below.trans ?_ (hb8.mono (by omega))) | (with_reducible refine Below.trans ?_ (hb9.mono (by omega))) | (with_reducible refine Chg.below ?_ hc10 (by omega) (by omega))), by omega, t1, p1, a1⟩
                exact AllReady.nil
              exact AllReady.nil
            exact AllReady.nil
          exact AllReady.nil
        refine AllReady.cons rfl (fun K hK => ite_of rfl ?_) ?_
        · simp only [List.getElem_toArray, List.getElem_cons_zero, List.getElem_cons_succ]
          refine owp_allocTri rfl ?_
          intro w8 q1 hb8 hz8
          have l8 := Nat.lt_of_lt_of_eq (Nat.lt_succ_self _) hz8.symm
          clear hz8
          replace t1 := t1.of_eq (hb8.block _ t1.lt)
          replace p1 := p1.of_eq (hb8.block _ p1.lt)
          replace a1 := a1.of_eq (hb8.block _ a1.lt)
          refine hK _ _ ?_
          simp only [Act.put, List.setIfInBounds_toArray, List.set_cons_zero, List.set_cons_succ]
          clear hK K
          refine wpAny_ready (rs := [0, 2]) (by kernel_rfl) (by simp) ?_
          refine AllReady.cons rfl (fun K hK => ite_of rfl ?_) ?_
          · simp only [List.getElem_toArray, List.getElem_cons_zero, List.getElem_cons_succ]
            refine owp_loadT _ _ rfl rfl t1 ?_
            refine hK _ _ ?_
            simp only [Act.put, List.setIfInBounds_toArray, List.set_cons_zero, List.set_cons_succ]
            clear hK K
            refine wpAny_ready (rs := [2]) (by kernel_rfl) (by simp) ?_
            refine AllReady.cons rfl (fun K hK => ite_of rfl ?_) ?_
            · simp only [List.getElem_toArray, List.getElem_cons_zero, List.getElem_cons_succ]
              go_simp
              go_at_call 18
              refine (R_Fill _ _).mono ?_
              rintro e w9 ⟨rfl, hb9⟩
              have hz9 := hb9.size
              replace t1 := t1.of_eq (hb9.block _ t1.lt)
              replace p1 := p1.of_eq (hb9.block _ p1.lt)
              replace a1 := a1.of_eq (hb9.block _ a1.lt)
              replace q1 := q1.of_eq (hb9.block _ q1.lt)
              refine hK _ _ ?_
              clear hK K
              refine wpAny_ready (rs := [4]) (by kernel_rfl) (by simp) ?_
              refine AllReady.cons rfl (fun K hK => ite_of rfl ?_) ?_
              · simp only [List.getElem_toArray, List.getElem_cons_zero, List.getElem_cons_succ]
                refine owp_buildTri _ _ _ rfl _ _ _ rfl rfl rfl ?_
                refine hK _ _ ?_
                simp only [Act.put, List.setIfInBounds_toArray, List.set_cons_zero, List.set_cons_succ]
                clear hK K
                refine wpAny_ready (rs := [6]) (by kernel_rfl) (by simp) ?_
                refine AllReady.cons rfl (fun K hK => ite_of rfl ?_) ?_
                · simp only [List.getElem_toArray, List.getElem_cons_zero, List.getElem_cons_succ]
                  refine owp_storeTri _ _ _ _ rfl rfl rfl q1 ?_
                  clear q1
                  intro w10 q1 hc10 hz10
                  replace hz10 := Nat.le_of_eq hz10.symm
                  replace t1 := t1.of_eq (hc10.block _ t1.lt (by omega))
                  replace p1 := p1.of_eq (hc10.block _ p1.lt (by omega))
                  replace a1 := a1.of_eq (hc10.block _ a1.lt (by omega))
                  refine hK _ _ ?_
                  simp only [Act.put, List.setIfInBounds_toArray, List.set_cons_zero, List.set_cons_succ]
                  clear hK K
                  refine wpAny_done (by kernel_rfl) ?_ _
                  go_wp2_with fail
                  go_meet
                  exact ⟨_, rfl, q1, by repeat' (first | (with_reducible exact Below.refl _ _) | (with_reducible assumption) | (with_reducible refine Below.trans ?_ (hb8.mono (by omega))) | (with_reducible refine Below.trans ?_ (hb9.mono (by omega))) | (with_reducible refine Chg.below ?_ hc10 (by omega) (by omega))), by omega, t1, p1, a1⟩
                exact AllReady.nil
              exact AllReady.nil
            exact AllReady.nil
          refine AllReady.cons rfl (fun K hK => ite_of rfl ?_) ?_
          · simp only [List.getElem_toArray, List.getElem_cons_zero, List.getElem_cons_succ]
            go_simp
            go_at_call 18
            refine (R_Fill _ _).mono ?_
            rintro e w9 ⟨rfl, hb9⟩
            have hz9 := hb9.size
            replace t1 := t1.of_eq (hb9.block _ t1.lt)
            replace p1 := p1.of_eq (hb9.block _ p1.lt)
            replace a1 := a1.of_eq (hb9.block _ a1.lt)
            replace q1 := q1.of_eq (hb9.block _ q1.lt)
            refine hK _ _ ?_
            clear hK K
            refine wpAny_ready (rs := [0]) (by kernel_rfl) (by simp) ?_
            refine AllReady.cons rfl (fun K hK => ite_of rfl ?_) ?_
            · simp only [List.getElem_toArray, List.getElem_cons_zero, List.getElem_cons_succ]
              refine owp_loadT _ _ rfl rfl t1 ?_
              refine hK _ _ ?_
              simp only [Act.put, List.setIfInBounds_toArray, List.set_cons_zero, List.set_cons_succ]
              clear hK K
              refine wpAny_ready (rs := [4]) (by kernel_rfl) (by simp) ?_
              refine AllReady.cons rfl (fun K hK => ite_of rfl ?_) ?_
              · simp only [List.getElem_toArray, List.getElem_cons_zero, List.getElem_cons_succ]
                refine owp_buildTri _ _ _ rfl _ _ _ rfl rfl rfl ?_
                refine hK _ _ ?_
                simp only [Act.put, List.setIfInBounds_toArray, List.set_cons_zero, List.set_cons_succ]
                clear hK K
                refine wpAny_ready (rs := [6]) (by kernel_rfl) (by simp) ?_
                refine AllReady.cons rfl (fun K hK => ite_of rfl ?_) ?_
                · simp only [List.getElem_toArray, List.getElem_cons_zero, List.getElem_cons_succ]
                  refine owp_storeTri _ _ _ _ rfl rfl rfl q1 ?_
                  clear q1
                  intro w10 q1 hc10 hz10
                  replace hz10 := Nat.le_of_eq hz10.symm
                  replace t1 := t1.of_eq (hc10.block _ t1.lt (by omega))
                  replace p1 := p1.of_eq (hc10.block _ p1.lt (by omega))
                  replace a1 := a1.of_eq (hc10.block _ a1.lt (by omega))
                  refine hK _ _ ?_
                  simp only [Act.put, List.setIfInBounds_toArray, List.set_cons_zero, List.set_cons_succ]
                  clear hK K
                  refine wpAny_done (by kernel_rfl) ?_ _
                  go_wp2_with fail
                  go_meet
                  exact ⟨_, rfl, q1, by repeat' (first | (with_reducible exact Below.refl _ _) | (with_reducible assumption) | (with_reducible refine Below.trans ?_ (hb8.mono (by omega))) | (with_reducible refine Below.trans ?_ (hb9.mono (by omega))) | (with_reducible refine Chg.below ?_ hc10 (by omega) (by omega))), by omega, t1, p1, a1⟩
                exact AllReady.nil
              exact AllReady.nil
            exact AllReady.nil
          exact AllReady.nil
        exact AllReady.nil
      refine AllReady.cons rfl (fun K hK => ite_of rfl ?_) ?_
      · simp only [List.getElem_toArray, List.getElem_cons_zero, List.getElem_cons_succ]
        refine owp_allocTri rfl ?_
        intro w8 q1 hb8 hz8
        have l8 := Nat.lt_of_lt_of_eq (Nat.lt_succ_self _) hz8.symm
        clear hz8
        replace t1 := t1.of_eq (hb8.block _ t1.lt)
        replace p1 := p1.of_eq (hb8.block _ p1.lt)
        replace a1 := a1.of_eq (hb8.block _ a1.lt)
        refine hK _ _ ?_
        simp only [Act.put, List.setIfInBounds_toArray, List.set_cons_zero, List.set_cons_succ]
        clear hK K
        refine wpAny_ready (rs := [0, 2, 3]) (by kernel_rfl) (by simp) ?_
        refine AllReady.cons rfl (fun K hK => ite_of rfl ?_) ?_
        · simp only [List.getElem_toArray, List.getElem_cons_zero, List.getElem_cons_succ]
          refine owp_loadT _ _ rfl rfl t1 ?_
          refine hK _ _ ?_
          simp only [Act.put, List.setIfInBounds_toArray, List.set_cons_zero, List.set_cons_succ]
          clear hK K
          refine wpAny_ready (rs := [2, 3]) (by kernel_rfl) (by simp) ?_
          refine AllReady.cons rfl (fun K hK => ite_of rfl ?_) ?_
          · simp only [List.getElem_toArray, List.getElem_cons_zero, List.getElem_cons_succ]
            go_simp
            go_at_call 18
            refine (R_Fill _ _).mono ?_
            rintro e w9 ⟨rfl, hb9⟩
            have hz9 := hb9.size
            replace t1 := t1.of_eq (hb9.block _ t1.lt)
            replace p1 := p1.of_eq (hb9.block _ p1.lt)
            replace a1 := a1.of_eq (hb9.block _ a1.lt)
            replace q1 := q1.of_eq (hb9.block _ q1.lt)
            refine hK _ _ ?_
            clear hK K
            refine wpAny_ready (rs := [3]) (by kernel_rfl) (by simp) ?_
            refine AllReady.cons rfl (fun K hK => ite_of rfl ?_) ?_
            · simp only [List.getElem_toArray, List.getElem_cons_zero, List.getElem_cons_succ]
              refine owp_buildT rfl ?_
              refine hK _ _ ?_
              simp only [Act.put, List.setIfInBounds_toArray, List.set_cons_zero, List.set_cons_succ]
              clear hK K
              refine wpAny_ready (rs := [4]) (by kernel_rfl) (by simp) ?_
              refine AllReady.cons rfl (fun K hK => ite_of rfl ?_) ?_
              · simp only [List.getElem_toArray, List.getElem_cons_zero, List.getElem_cons_succ]
                refine owp_buildTri _ _ _ rfl _ _ _ rfl rfl rfl ?_
                refine hK _ _ ?_
                simp only [Act.put, List.setIfInBounds_toArray, List.set_cons_zero, List.set_cons_succ]
                clear hK K
                refine wpAny_ready (rs := [6]) (by kernel_rfl) (by simp) ?_
                refine AllReady.cons rfl (fun K hK => ite_of rfl ?_) ?_
                · simp only [List.getElem_toArray, List.getElem_cons_zero, List.getElem_cons_succ]
                  refine owp_storeTri _ _ _ _ rfl rfl rfl q1 ?_
                  clear q1
                  intro w10 q1 hc10 hz10
                  replace hz10 := Nat.le_of_eq hz10.symm
                  replace t1 := t1.of_eq (hc10.block _ t1.lt (by omega))
                  replace p1 := p1.of_eq (hc10.block _ p1.lt (by omega))
                  replace a1 := a1.of_eq (hc10.block _ a1.lt (by omega))
                  refine hK _ _ ?_
                  simp only [Act.put, List.setIfInBounds_toArray, List.set_cons_zero, List.set_cons_succ]
                  clear hK K
                  refine wpAny_done (by kernel_rfl) ?_ _
                  go_wp2_with fail
                  go_meet
                  exact ⟨_, rfl, q1, by repeat' (first | (with_reducible exact Below.refl _ _) | (with_reducible assumption) | (with_reducible refine Below.trans ?_ (hb8.mono (by omega))) | (with_reducible refine Below.trans ?_ (hb9.mono (by omega))) | (with_reducible refine Chg.below ?_ hc10 (by omega) (by omega))), by omega, t1, p1, a1⟩
                exact AllReady.nil
              exact AllReady.nil
            exact AllReady.nil
          refine AllReady.cons rfl (fun K hK => ite_of rfl ?_) ?_
          · simp only [List.getElem_toArray, List.getElem_cons_zero, List.getElem_cons_succ]
            refine owp_buildT rfl ?_
            refine hK _ _ ?_
            simp only [Act.put, List.setIfInBounds_toArray, List.set_cons_zero, List.set_cons_succ]
            clear hK K
            refine wpAny_ready (rs := [2]) (by kernel_rfl) (by simp) ?_
            refine AllReady.cons rfl (fun K hK => ite_of rfl ?_) ?_
            · simp only [List.getElem_toArray, List.getElem_cons_zero, List.getElem_cons_succ]
              go_simp
              go_at_call 18
              refine (R_Fill _ _).mono ?_
              rintro e w9 ⟨rfl, hb9⟩
              have hz9 := hb9.size
              replace t1 := t1.of_eq (hb9.block _ t1.lt)
              replace p1 := p1.of_eq (hb9.block _ p1.lt)
              replace a1 := a1.of_eq (hb9.block _ a1.lt)
              replace q1 := q1.of_eq (hb9.block _ q1.lt)
              refine hK _ _ ?_
              clear hK K
              refine wpAny_ready (rs := [4]) (by kernel_rfl) (by simp) ?_
              refine AllReady.cons rfl (fun K hK => ite_of rfl ?_) ?_
              · simp only [List.getElem_toArray, List.getElem_cons_zero, List.getElem_cons_succ]
                refine owp_buildTri _ _ _ rfl _ _ _ rfl rfl rfl ?_
                refine hK _ _ ?_
                simp only [Act.put, List.setIfInBounds_toArray, List.set_cons_zero, List.set_cons_succ]
                clear hK K
                refine wpAny_ready (rs := [6]) (by kernel_rfl) (by simp) ?_
                refine AllReady.cons rfl (fun K hK => ite_of rfl ?_) ?_
                · simp only [List.getElem_toArray, List.getElem_cons_zero, List.getElem_cons_succ]
                  refine owp_storeTri _ _ _ _ rfl rfl rfl q1 ?_
                  clear q1
                  intro w10 q1 hc10 hz10
                  replace hz10 := Nat.le_of_eq hz10.symm
                  replace t1 := t1.of_eq (hc10.block _ t1.lt (by omega))
                  replace p1 := p1.of_eq (hc10.block _ p1.lt (by omega))
                  replace a1 := a1.of_eq (hc10.block _ a1.lt (by omega))
                  refine hK _ _ ?_
                  simp only [Act.put, List.setIfInBounds_toArray, List.set_cons_zero, List.set_cons_succ]
                  clear hK K
                  refine wpAny_done (by kernel_rfl) ?_ _
                  go_wp2_with fail
                  go_meet
                  exact ⟨_, rfl, q1, by repeat' (first | (with_reducible exact Below.refl _ _) | (with_reducible assumption) | (with_reducible refine Below.trans ?_ (hb8.mono (by omega))) | (with_reducible refine Below.trans ?_ (hb9.mono (by omega))) | (with_reducible refine Chg.below ?_ hc10 (by omega) (by omega))), by omega, t1, p1, a1⟩
                exact AllReady.nil
              exact AllReady.nil
            exact AllReady.nil
          exact AllReady.nil
        refine AllReady.cons rfl (fun K hK => ite_of rfl ?_) ?_
        · simp only [List.getElem_toArray, List.getElem_cons_zero, List.getElem_cons_succ]
          go_simp
          go_at_call 18
          refine (R_Fill _ _).mono ?_
          rintro e w9 ⟨rfl, hb9⟩
          have hz9 := hb9.size
          replace t1 := t1.of_eq (hb9.block _ t1.lt)
          replace p1 := p1.of_eq (hb9.block _ p1.lt)
          replace a1 := a1.of_eq (hb9.block _ a1.lt)
          replace q1 := q1.of_eq (hb9.block _ q1.lt)
          refine hK _ _ ?_
          clear hK K
          refine wpAny_ready (rs := [0, 3]) (by kernel_rfl) (by simp) ?_
          refine AllReady.cons rfl (fun K hK => ite_of rfl ?_) ?_
          · simp only [List.getElem_toArray, List.getElem_cons_zero, List.getElem_cons_succ]
            refine owp_loadT _ _ rfl rfl t1 ?_
            refine hK _ _ ?_
            simp only [Act.put, List.setIfInBounds_toArray, List.set_cons_zero, List.set_cons_succ]
            clear hK K
            refine wpAny_ready (rs := [3]) (by kernel_rfl) (by simp) ?_
            refine AllReady.cons rfl (fun K hK => ite_of rfl ?_) ?_
            · simp only [List.getElem_toArray, List.getElem_cons_zero, List.getElem_cons_succ]
              refine owp_buildT rfl ?_
              refine hK _ _ ?_
              simp only [Act.put, List.setIfInBounds_toArray, List.set_cons_zero, List.set_cons_succ]
              clear hK K
              refine wpAny_ready (rs := [4]) (by kernel_rfl) (by simp) ?_
              refine AllReady.cons rfl (fun K hK => ite_of rfl ?_) ?_
              · simp only [List.getElem_toArray, List.getElem_cons_zero, List.getElem_cons_succ]
                refine owp_buildTri _ _ _ rfl _ _ _ rfl rfl rfl ?_
                refine hK _ _ ?_
                simp only [Act.put, List.setIfInBounds_toArray, List.set_cons_zero, List.set_cons_succ]
                clear hK K
                refine wpAny_ready (rs := [6]) (by kernel_rfl) (by simp) ?_
                refine AllReady.cons rfl (fun K hK => ite_of rfl ?_) ?_
                · simp only [List.getElem_toArray, List.getElem_cons_zero, List.getElem_cons_succ]
                  refine owp_storeTri _ _ _ _ rfl rfl rfl q1 ?_
                  clear q1
                  intro w10 q1 hc10 hz10
                  replace hz10 := Nat.le_of_eq hz10.symm
                  replace t1 := t1.of_eq (hc10.block _ t1.lt (by omega))
                  replace p1 := p1.of_eq (hc10.block _ p1.lt (by omega))
                  replace a1 := a1.of_eq (hc10.block _ a1.lt (by omega))
                  refine hK _ _ ?_
                  simp only [Act.put, List.setIfInBounds_toArray, List.set_cons_zero, List.set_cons_succ]
                  clear hK K
                  refine wpAny_done (by kernel_rfl) ?_ _
                  go_wp2_with fail
                  go_meet
                  exact ⟨_, rfl, q1, by repeat' (first | (with_reducible exact Below.refl _ _) | (with_reducible assumption) | (with_reducible refine Below.trans ?_ (hb8.mono (by omega))) | (with_reducible refine Below.trans ?_ (hb9.mono (by omega))) | (with_reducible refine Chg.below ?_ hc10 (by omega) (by omega))), by omega, t1, p1, a1⟩
                exact AllReady.nil
              exact AllReady.nil
            exact AllReady.nil
          refine AllReady.cons rfl (fun K hK => ite_of rfl ?_) ?_
          · simp only [List.getElem_toArray, List.getElem_cons_zero, List.getElem_cons_succ]
            refine owp_buildT rfl ?_
            refine hK _ _ ?_
            simp only [Act.put, List.setIfInBounds_toArray, List.set_cons_zero, List.set_cons_succ]
            clear hK K
            refine wpAny_ready (rs := [0]) (by kernel_rfl) (by simp) ?_
            refine AllReady.cons rfl (fun K hK => ite_of rfl ?_) ?_
            · simp only [List.getElem_toArray, List.getElem_cons_zero, List.getElem_cons_succ]
              refine owp_loadT _ _ rfl rfl t1 ?_
              refine hK _ _ ?_
              simp only [Act.put, List.setIfInBounds_toArray, List.set_cons_zero, List.set_cons_succ]
              clear hK K
              refine wpAny_ready (rs := [4]) (by kernel_rfl) (by simp) ?_
              refine AllReady.cons rfl (fun K hK => ite_of rfl ?_) ?_
              · simp only [List.getElem_toArray, List.getElem_cons_zero, List.getElem_cons_succ]
                refine owp_buildTri _ _ _ rfl _ _ _ rfl rfl rfl ?_
                refine hK _ _ ?_
                simp only [Act.put, List.setIfInBounds_toArray, List.set_cons_zero, List.set_cons_succ]
                clear hK K
                refine wpAny_ready (rs := [6]) (by kernel_rfl) (by simp) ?_
                refine AllReady.cons rfl (fun K hK => ite_of rfl ?_) ?_
                · simp only [List.getElem_toArray, List.getElem_cons_zero, List.getElem_cons_succ]
                  refine owp_storeTri _ _ _ _ rfl rfl rfl q1 ?_
                  clear q1
                  intro w10 q1 hc10 hz10
                  replace hz10 := Nat.le_of_eq hz10.symm
                  replace t1 := t1.of_eq (hc10.block _ t1.lt (by omega))
                  replace p1 := p1.of_eq (hc10.block _ p1.lt (by omega))
                  replace a1 := a1.of_eq (hc10.block _ a1.lt (by omega))
                  refine hK _ _ ?_
                  simp only [Act.put, List.setIfInBounds_toArray, List.set_cons_zero, List.set_cons_succ]
                  clear hK K
                  refine wpAny_done (by kernel_rfl) ?_ _
                  go_wp2_with fail
                  go_meet
                  exact ⟨_, rfl, q1, by repeat' (first | (with_reducible exact Below.refl _ _) | (with_reducible assumption) | (with_reducible refine Below.trans ?_ (hb8.mono (by omega))) | (with_reducible refine Below.trans ?_ (hb9.mono (by omega))) | (with_reducible refine Chg.below ?_ hc10 (by omega) (by omega))), by omega, t1, p1, a1⟩
                exact AllReady.nil
              exact AllReady.nil
            exact AllReady.nil
          exact AllReady.nil
        refine AllReady.cons rfl (fun K hK => ite_of rfl ?_) ?_
        · simp only [List.getElem_toArray, List.getElem_cons_zero, List.getElem_cons_succ]
          refine owp_buildT rfl ?_
          refine hK _ _ ?_
          simp only [Act.put, List.setIfInBounds_toArray, List.set_cons_zero, List.set_cons_succ]
          clear hK K
          refine wpAny_ready (rs := [0, 2]) (by kernel_rfl) (by simp) ?_
          refine AllReady.cons rfl (fun K hK => ite_of rfl ?_) ?_
          · simp only [List.getElem_toArray, List.getElem_cons_zero, List.getElem_cons_succ]
            refine owp_loadT _ _ rfl rfl t1 ?_
            refine hK _ _ ?_
            simp only [Act.put, List.setIfInBounds_toArray, List.set_cons_zero, List.set_cons_succ]
            clear hK K
            refine wpAny_ready (rs := [2]) (by kernel_rfl) (by simp) ?_
            refine AllReady.cons rfl (fun K hK => ite_of rfl ?_) ?_
            · simp only [List.getElem_toArray, List.getElem_cons_zero, List.getElem_cons_succ]
              go_simp
              go_at_call 18
              refine (R_Fill _ _).mono ?_
              rintro e w9 ⟨rfl, hb9⟩
              have hz9 := hb9.size
              replace t1 := t1.of_eq (hb9.block _ t1.lt)
              replace p1 := p1.of_eq (hb9.block _ p1.lt)
              replace a1 := a1.of_eq (hb9.block _ a1.lt)
              replace q1 := q1.of_eq (hb9.block _ q1.lt)
              refine hK _ _ ?_
              clear hK K
              refine wpAny_ready (rs := [4]) (by kernel_rfl) (by simp) ?_
              refine AllReady.cons rfl (fun K hK => ite_of rfl ?_) ?_
              · simp only [List.getElem_toArray, List.getElem_cons_zero, List.getElem_cons_succ]
                refine owp_buildTri _ _ _ rfl _ _ _ rfl rfl rfl ?_
                refine hK _ _ ?_
                simp only [Act.put, List.setIfInBounds_toArray, List.set_cons_zero, List.set_cons_succ]
                clear hK K
                refine wpAny_ready (rs := [6]) (by kernel_rfl) (by simp) ?_
                refine AllReady.cons rfl (fun K hK => ite_of rfl ?_) ?_
                · simp only [List.getElem_toArray, List.getElem_cons_zero, List.getElem_cons_succ]
                  refine owp_storeTri _ _ _ _ rfl rfl rfl q1 ?_
                  clear q1
                  intro w10 q1 hc10 hz10
                  replace hz10 := Nat.le_of_eq hz10.symm
                  replace t1 := t1.of_eq (hc10.block _ t1.lt (by omega))
                  replace p1 := p1.of_eq (hc10.block _ p1.lt (by omega))
                  replace a1 := a1.of_eq (hc10.block _ a1.lt (by omega))
                  refine hK _ _ ?_
                  simp only [Act.put, List.setIfInBounds_toArray, List.set_cons_zero, List.set_cons_succ]
                  clear hK K
                  refine wpAny_done (by kernel_rfl) ?_ _
                  go_wp2_with fail
                  go_meet
                  exact ⟨_, rfl, q1, by repeat' (first | (with_reducible exact Below.refl _ _) | (with_reducible assumption) | (with_reducible refine Below.trans ?_ (hb8.mono (by omega))) | (with_reducible refine Below.trans ?_ (hb9.mono (by omega))) | (with_reducible refine Chg.below ?_ hc10 (by omega) (by omega))), by omega, t1, p1, a1⟩
                exact AllReady.nil
              exact AllReady.nil
            exact AllReady.nil
          refine AllReady.cons rfl (fun K hK => ite_of rfl ?_) ?_
          · simp only [List.getElem_toArray, List.getElem_cons_zero, List.getElem_cons_succ]
            go_simp
            go_at_call 18
            refine (R_Fill _ _).mono ?_
            rintro e w9 ⟨rfl, hb9⟩
            have hz9 := hb9.size
            replace t1 := t1.of_eq (hb9.block _ t1.lt)
            replace p1 := p1.of_eq (hb9.block _ p1.lt)
            replace a1 := a1.of_eq (hb9.block _ a1.lt)
            replace q1 := q1.of_eq (hb9.block _ q1.lt)
            refine hK _ _ ?_
            clear hK K
            refine wpAny_ready (rs := [0]) (by kernel_rfl) (by simp) ?_
            refine AllReady.cons rfl (fun K hK => ite_of rfl ?_) ?_
            · simp only [List.getElem_toArray, List.getElem_cons_zero, List.getElem_cons_succ]
              refine owp_loadT _ _ rfl rfl t1 ?_
              refine hK _ _ ?_
              simp only [Act.put, List.setIfInBounds_toArray, List.set_cons_zero, List.set_cons_succ]
              clear hK K
              refine wpAny_ready (rs := [4]) (by kernel_rfl) (by simp) ?_
              refine AllReady.cons rfl (fun K hK => ite_of rfl ?_) ?_
              · simp only [List.getElem_toArray, List.getElem_cons_zero, List.getElem_cons_succ]
                refine owp_buildTri _ _ _ rfl _ _ _ rfl rfl rfl ?_
                refine hK _ _ ?_
                simp only [Act.put, List.setIfInBounds_toArray, List.set_cons_zero, List.set_cons_succ]
                clear hK K
                refine wpAny_ready (rs := [6]) (by kernel_rfl) (by simp) ?_
                refine AllReady.cons rfl (fun K hK => ite_of rfl ?_) ?_
                · simp only [List.getElem_toArray, List.getElem_cons_zero, List.getElem_cons_succ]
                  refine owp_storeTri _ _ _ _ rfl rfl rfl q1 ?_
                  clear q1
                  intro w10 q1 hc10 hz10
                  replace hz10 := Nat.le_of_eq hz10.symm
                  replace t1 := t1.of_eq (hc10.block _ t1.lt (by omega))
                  replace p1 := p1.of_eq (hc10.block _ p1.lt (by omega))
                  replace a1 := a1.of_eq (hc10.block _ a1.lt (by omega))
                  refine hK _ _ ?_
                  simp only [Act.put, List.setIfInBounds_toArray, List.set_cons_zero, List.set_cons_succ]
                  clear hK K
                  refine wpAny_done (by kernel_rfl) ?_ _
                  go_wp2_with fail
                  go_meet
                  exact ⟨_, rfl, q1, by repeat' (first | (with_reducible exact Below.refl _ _) | (with_reducible assumption) | (with_reducible refine Below.trans ?_ (hb8.mono (by omega))) | (with_reducible refine Below.trans ?_ (hb9.mono (by omega))) | (with_reducible refine Chg.below ?_ hc10 (by omega) (by omega))), by omega, t1, p1, a1⟩
                exact AllReady.nil
              exact AllReady.nil
            exact AllReady.nil
          exact AllReady.nil
        exact AllReady.nil
      exact AllReady.nil
    refine AllReady.cons rfl (fun K hK => ite_of rfl ?_) ?_
    · simp only [List.getElem_toArray, List.getElem_cons_zero, List.getElem_cons_succ]
      refine owp_buildT rfl ?_
      refine hK _ _ ?_
      simp only [Act.put, List.setIfInBounds_toArray, List.set_cons_zero, List.set_cons_succ]
      clear hK K
      refine wpAny_ready (rs := [0, 1, 5]) (by kernel_rfl) (by simp) ?_
      refine AllReady.cons rfl (fun K hK => ite_of rfl ?_) ?_
      · simp only [List.getElem_toArray, List.getElem_cons_zero, List.getElem_cons_succ]
        refine owp_loadT _ _ rfl rfl t1 ?_
        refine hK _ _ ?_
        simp only [Act.put, List.setIfInBounds_toArray, List.set_cons_zero, List.set_cons_succ]
        clear hK K
        refine wpAny_ready (rs := [1, 5]) (by kernel_rfl) (by simp) ?_
        refine AllReady.cons rfl (fun K hK => ite_of rfl ?_) ?_
        · simp only [List.getElem_toArray, List.getElem_cons_zero, List.getElem_cons_succ]
          refine owp_loadPx _ _ rfl rfl p1 ?_
          refine hK _ _ ?_
          simp only [Act.put, List.setIfInBounds_toArray, List.set_cons_zero, List.set_cons_succ]
          clear hK K
          refine wpAny_ready (rs := [2, 5]) (by kernel_rfl) (by simp) ?_
          refine AllReady.cons rfl (fun K hK => ite_of rfl ?_) ?_
          · simp only [List.getElem_toArray, List.getElem_cons_zero, List.getElem_cons_succ]
            go_simp
            go_at_call 18
            refine (R_Fill _ _).mono ?_
            rintro e w8 ⟨rfl, hb8⟩
            have hz8 := hb8.size
            replace t1 := t1.of_eq (hb8.block _ t1.lt)
            replace p1 := p1.of_eq (hb8.block _ p1.lt)
            replace a1 := a1.of_eq (hb8.block _ a1.lt)
            refine hK _ _ ?_
            clear hK K
            refine wpAny_ready (rs := [4, 5]) (by kernel_rfl) (by simp) ?_
            refine AllReady.cons rfl (fun K hK => ite_of rfl ?_) ?_
            · simp only [List.getElem_toArray, List.getElem_cons_zero, List.getElem_cons_succ]
              refine owp_buildTri _ _ _ rfl _ _ _ rfl rfl rfl ?_
              refine hK _ _ ?_
              simp only [Act.put, List.setIfInBounds_toArray, List.set_cons_zero, List.set_cons_succ]
              clear hK K
              refine wpAny_ready (rs := [5]) (by kernel_rfl) (by simp) ?_
              refine AllReady.cons rfl (fun K hK => ite_of rfl ?_) ?_
              · simp only [List.getElem_toArray, List.getElem_cons_zero, List.getElem_cons_succ]
                refine owp_allocTri rfl ?_
                intro w9 q1 hb9 hz9
                have l9 := Nat.lt_of_lt_of_eq (Nat.lt_succ_self _) hz9.symm
                clear hz9
                replace t1 := t1.of_eq (hb9.block _ t1.lt)
                replace p1 := p1.of_eq (hb9.block _ p1.lt)
                replace a1 := a1.of_eq (hb9.block _ a1.lt)
                refine hK _ _ ?_
                simp only [Act.put, List.setIfInBounds_toArray, List.set_cons_zero, List.set_cons_succ]
                clear hK K
                refine wpAny_ready (rs := [6]) (by kernel_rfl) (by simp) ?_
                refine AllReady.cons rfl (fun K hK => ite_of rfl ?_) ?_
                · simp only [List.getElem_toArray, List.getElem_cons_zero, List.getElem_cons_succ]
                  refine owp_storeTri _ _ _ _ rfl rfl rfl q1 ?_
                  clear q1
                  intro w10 q1 hc10 hz10
                  replace hz10 := Nat.le_of_eq hz10.symm
                  replace t1 := t1.of_eq (hc10.block _ t1.lt (by omega))
                  replace p1 := p1.of_eq (hc10.block _ p1.lt (by omega))
                  replace a1 := a1.of_eq (hc10.block _ a1.lt (by omega))
                  refine hK _ _ ?_
                  simp only [Act.put, List.setIfInBounds_toArray, List.set_cons_zero, List.set_cons_succ]
                  clear hK K
                  refine wpAny_done (by kernel_rfl) ?_ _
                  go_wp2_with fail
                  go_meet
                  exact ⟨_, rfl, q1, by repeat' (first | (with_reducible exact Below.refl _ _) | (with_reducible assumption) | (with_reducible refine Below.trans ?_ (hb8.mono (by omega))) | (with_reducible refine Below.trans ?_ (hb9.mono (by omega))) | (with_reducible refine Chg.below ?_ hc10 (by omega) (by omega))), by omega, t1, p1, a1⟩
                exact AllReady.nil
              exact AllReady.nil
            refine AllReady.cons rfl (fun K hK => ite_of rfl ?_) ?_
            · simp only [List.getElem_toArray, List.getElem_cons_zero, List.getElem_cons_succ]
              refine owp_allocTri rfl ?_
              intro w9 q1 hb9 hz9
              have l9 := Nat.lt_of_lt_of_eq (Nat.lt_succ_self _) hz9.symm
              clear hz9
              replace t1 := t1.of_eq (hb9.block _ t1.lt)
              replace p1 := p1.of_eq (hb9.block _ p1.lt)
              replace a1 := a1.of_eq (hb9.block _ a1.lt)
              refine hK _ _ ?_
              simp only [Act.put, List.setIfInBounds_toArray, List.set_cons_zero, List.set_cons_succ]
              clear hK K
              refine wpAny_ready (rs := [4]) (by kernel_rfl) (by simp) ?_
              refine AllReady.cons rfl (fun K hK => ite_of rfl ?_) ?_
              · simp only [List.getElem_toArray, List.getElem_cons_zero, List.getElem_cons_succ]
                refine owp_buildTri _ _ _ rfl _ _ _ rfl rfl rfl ?_
                refine hK _ _ ?_
                simp only [Act.put, List.setIfInBounds_toArray, List.set_cons_zero, List.set_cons_succ]
                clear hK K
                refine wpAny_ready (rs := [6]) (by kernel_rfl) (by simp) ?_
                refine AllReady.cons rfl (fun K hK => ite_of rfl ?_) ?_
                · simp only [List.getElem_toArray, List.getElem_cons_zero, List.getElem_cons_succ]
                  refine owp_storeTri _ _ _ _ rfl rfl rfl q1 ?_
                  clear q1
                  intro w10 q1 hc10 hz10
                  replace hz10 := Nat.le_of_eq hz10.symm
                  replace t1 := t1.of_eq (hc10.block _ t1.lt (by omega))
                  replace p1 := p1.of_eq (hc10.block _ p1.lt (by omega))
                  replace a1 := a1.of_eq (hc10.block _ a1.lt (by omega))
                  refine hK _ _ ?_
                  simp only [Act.put, List.setIfInBounds_toArray, List.set_cons_zero, List.set_cons_succ]
                  clear hK K
                  refine wpAny_done (by kernel_rfl) ?_ _
                  go_wp2_with fail
                  go_meet
                  exact ⟨_, rfl, q1, by repeat' (first | (with_reducible exact Below.refl _ _) | (with_reducible assumption) | (with_reducible refine Below.trans ?_ (hb8.mono (by omega))) | (with_reducible refine Below.trans ?_ (hb9.mono (by omega))) | (with_reducible refine Chg.below ?_ hc10 (by omega) (by omega))), by omega, t1, p1, a1⟩
                exact AllReady.nil
              exact AllReady.nil
            exact AllReady.nil
          refine AllReady.cons rfl (fun K hK => ite_of rfl ?_) ?_
          · simp only [List.getElem_toArray, List.getElem_cons_zero, List.getElem_cons_succ]
            refine owp_allocTri rfl ?_
            intro w8 q1 hb8 hz8
            have l8 := Nat.lt_of_lt_of_eq (Nat.lt_succ_self _) hz8.symm
            clear hz8
            replace t1 := t1.of_eq (hb8.block _ t1.lt)
            replace p1 := p1.of_eq (hb8.block _ p1.lt)
            replace a1 := a1.of_eq (hb8.block _ a1.lt)
            refine hK _ _ ?_
            simp only [Act.put, List.setIfInBounds_toArray, List.set_cons_zero, List.set_cons_succ]
            clear hK K
            refine wpAny_ready (rs := [2]) (by kernel_rfl) (by simp) ?_
            refine AllReady.cons rfl (fun K hK => ite_of rfl ?_) ?_
            · simp only [List.getElem_toArray, List.getElem_cons_zero, List.getElem_cons_succ]
              go_simp
              go_at_call 18
              refine (R_Fill _ _).mono ?_
              rintro e w9 ⟨rfl, hb9⟩
              have hz9 := hb9.size
              replace t1 := t1.of_eq (hb9.block _ t1.lt)
              replace p1 := p1.of_eq (hb9.block _ p1.lt)
              replace a1 := a1.of_eq (hb9.block _ a1.lt)
              replace q1 := q1.of_eq (hb9.block _ q1.lt)
              refine hK _ _ ?_
              clear hK K
              refine wpAny_ready (rs := [4]) (by kernel_rfl) (by simp) ?_
              refine AllReady.cons rfl (fun K hK => ite_of rfl ?_) ?_
              · simp only [List.getElem_toArray, List.getElem_cons_zero, List.getElem_cons_succ]
                refine owp_buildTri _ _ _ rfl _ _ _ rfl rfl rfl ?_
                refine hK _ _ ?_
                simp only [Act.put, List.setIfInBounds_toArray, List.set_cons_zero, List.set_cons_succ]
                clear hK K
                refine wpAny_ready (rs := [6]) (by kernel_rfl) (by simp) ?_
                refine AllReady.cons rfl (fun K hK => ite_of rfl ?_) ?_
                · simp only [List.getElem_toArray, List.getElem_cons_zero, List.getElem_cons_succ]
                  refine owp_storeTri _ _ _ _ rfl rfl rfl q1 ?_
                  clear q1
                  intro w10 q1 hc10 hz10
                  replace hz10 := Nat.le_of_eq hz10.symm
                  replace t1 := t1.of_eq (hc10.block _ t1.lt (by omega))
                  replace p1 := p1.of_eq (hc10.block _ p1.lt (by omega))
                  replace a1 := a1.of_eq (hc10.block _ a1.lt (by omega))
                  refine hK _ _ ?_
                  simp only [Act.put, List.setIfInBounds_toArray, List.set_cons_zero, List.set_cons_succ]
                  clear hK K
                  refine wpAny_done (by kernel_rfl) ?_ _
                  go_wp2_with fail
                  go_meet
                  exact ⟨_, rfl, q1, by repeat' (first | (with_reducible exact Below.refl _ _) | (with_reducible assumption) | (with_reducible refine Below.trans ?_ (hb8.mono (by omega))) | (with_reducible refine Below.trans ?_ (hb9.mono (by omega))) | (with_reducible refine Chg.below ?_ hc10 (by omega) (by omega))), by omega, t1, p1, a1⟩
                exact AllReady.nil
              exact AllReady.nil
            exact AllReady.nil
          exact AllReady.nil
        refine AllReady.cons rfl (fun K hK => ite_of rfl ?_) ?_
        · simp only [List.getElem_toArray, List.getElem_cons_zero, List.getElem_cons_succ]
          refine owp_allocTri rfl ?_
          intro w8 q1 hb8 hz8
          have l8 := Nat.lt_of_lt_of_eq (Nat.lt_succ_self _) hz8.symm
          clear hz8
          replace t1 := t1.of_eq (hb8.block _ t1.lt)
          replace p1 := p1.of_eq (hb8.block _ p1.lt)
          replace a1 := a1.of_eq (hb8.block _ a1.lt)
          refine hK _ _ ?_
          simp only [Act.put, List.setIfInBounds_toArray, List.set_cons_zero, List.set_cons_succ]
          clear hK K
          refine wpAny_ready (rs := [1]) (by kernel_rfl) (by simp) ?_
          refine AllReady.cons rfl (fun K hK => ite_of rfl ?_) ?_
          · simp only [List.getElem_toArray, List.getElem_cons_zero, List.getElem_cons_succ]
            refine owp_loadPx _ _ rfl rfl p1 ?_
            refine hK _ _ ?_
            simp only [Act.put, List.setIfInBounds_toArray, List.set_cons_zero, List.set_cons_succ]
            clear hK K
            refine wpAny_ready (rs := [2]) (by kernel_rfl) (by simp) ?_
            refine AllReady.cons rfl (fun K hK => ite_of rfl ?_) ?_
            · simp only [List.getElem_toArray, List.getElem_cons_zero, List.getElem_cons_succ]
              go_simp
              go_at_call 18
              refine (R_Fill _ _).mono ?_
              rintro e w9 ⟨rfl, hb9⟩
              have hz9 := hb9.size
              replace t1 := t1.of_eq (hb9.block _ t1.lt)
              replace p1 := p1.of_eq (hb9.block _ p1.lt)
              replace a1 := a1.of_eq (hb9.block _ a1.lt)
              replace q1 := q1.of_eq (hb9.block _ q1.lt)
              refine hK _ _ ?_
              clear hK K
              refine wpAny_ready (rs := [4]) (by kernel_rfl) (by simp) ?_
              refine AllReady.cons rfl (fun K hK => ite_of rfl ?_) ?_
              · simp only [List.getElem_toArray, List.getElem_cons_zero, List.getElem_cons_succ]
                refine owp_buildTri _ _ _ rfl _ _ _ rfl rfl rfl ?_
                refine hK _ _ ?_
                simp only [Act.put, List.setIfInBounds_toArray, List.set_cons_zero, List.set_cons_succ]
                clear hK K
                refine wpAny_ready (rs := [6]) (by kernel_rfl) (by simp) ?_
                refine AllReady.cons rfl (fun K hK => ite_of rfl ?_) ?_
                · simp only [List.getElem_toArray, List.getElem_cons_zero, List.getElem_cons_succ]
                  refine owp_storeTri _ _ _ _ rfl rfl rfl q1 ?_
                  clear q1
                  intro w10 q1 hc10 hz10
                  replace hz10 := Nat.le_of_eq hz10.symm
                  replace t1 := t1.of_eq (hc10.block _ t1.lt (by omega))
                  replace p1 := p1.of_eq (hc10.block _ p1.lt (by omega))
                  replace a1 := a1.of_eq (hc10.block _ a1.lt (by omega))
                  refine hK _ _ ?_
                  simp only [Act.put, List.setIfInBounds_toArray, List.set_cons_zero, List.set_cons_succ]
                  clear hK K
                  refine wpAny_done (by kernel_rfl) ?_ _
                  go_wp2_with fail
                  go_meet
                  exact ⟨_, rfl, q1, by repeat' (first | (with_reducible exact Below.refl _ _) | (with_reducible assumption) | (with_reducible refine Below.trans ?_ (hb8.mono (by omega))) | (with_reducible refine Below.trans ?_ (hb9.mono (by omega))) | (with_reducible refine Chg.below ?_ hc10 (by omega) (by omega))), by omega, t1, p1, a1⟩
                exact AllReady.nil
              exact AllReady.nil
            exact AllReady.nil
          exact AllReady.nil
        exact AllReady.nil
      refine AllReady.cons rfl (fun K hK => ite_of rfl ?_) ?_
      · simp only [List.getElem_toArray, List.getElem_cons_zero, List.getElem_cons_succ]
        refine owp_loadPx _ _ rfl rfl p1 ?_
        refine hK _ _ ?_
        simp only [Act.put, List.setIfInBounds_toArray, List.set_cons_zero, List.set_cons_succ]
        clear hK K
        refine wpAny_ready (rs := [0, 2, 5]) (by kernel_rfl) (by simp) ?_
        refine AllReady.cons rfl (fun K hK => ite_of rfl ?_) ?_
        · simp only [List.getElem_toArray, List.getElem_cons_zero, List.getElem_cons_succ]
          refine owp_loadT _ _ rfl rfl t1 ?_
          refine hK _ _ ?_
          simp only [Act.put, List.setIfInBounds_toArray, List.set_cons_zero, List.set_cons_succ]
          clear hK K
          refine wpAny_ready (rs := [2, 5]) (by kernel_rfl) (by simp) ?_
          refine AllReady.cons rfl (fun K hK => ite_of rfl ?_) ?_
          · simp only [List.getElem_toArray, List.getElem_cons_zero, List.getElem_cons_succ]
            go_simp
            go_at_call 18
            refine (R_Fill _ _).mono ?_
            rintro e w8 ⟨rfl, hb8⟩
            have hz8 := hb8.size
            replace t1 := t1.of_eq (hb8.block _ t1.lt)
            replace p1 := p1.of_eq (hb8.block _ p1.lt)
            replace a1 := a1.of_eq (hb8.block _ a1.lt)
            refine hK _ _ ?_
            clear hK K
            refine wpAny_ready (rs := [4, 5]) (by kernel_rfl) (by simp) ?_
            refine AllReady.cons rfl (fun K hK => ite_of rfl ?_) ?_
            · simp only [List.getElem_toArray, List.getElem_cons_zero, List.getElem_cons_succ]
              refine owp_buildTri _ _ _ rfl _ _ _ rfl rfl rfl ?_
              refine hK _ _ ?_
              simp only [Act.put, List.setIfInBounds_toArray, List.set_cons_zero, List.set_cons_succ]
              clear hK K
              refine wpAny_ready (rs := [5]) (by kernel_rfl) (by simp) ?_
              refine AllReady.cons rfl (fun K hK => ite_of rfl ?_) ?_
              · simp only [List.getElem_toArray, List.getElem_cons_zero, List.getElem_cons_succ]
                refine owp_allocTri rfl ?_
                intro w9 q1 hb9 hz9
                have l9 := Nat.lt_of_lt_of_eq (Nat.lt_succ_self _) hz9.symm
                clear hz9
                replace t1 := t1.of_eq (hb9.block _ t1.lt)
                replace p1 := p1.of_eq (hb9.block _ p1.lt)
                replace a1 := a1.of_eq (hb9.block _ a1.lt)
                refine hK _ _ ?_
                simp only [Act.put, List.setIfInBounds_toArray, List.set_cons_zero, List.set_cons_succ]
                clear hK K
                refine wpAny_ready (rs := [6]) (by kernel_rfl) (by simp) ?_
                refine AllReady.cons rfl (fun K hK => ite_of rfl ?_) ?_
                · simp only [List.getElem_toArray, List.getElem_cons_zero, List.getElem_cons_succ]
                  refine owp_storeTri _ _ _ _ rfl rfl rfl q1 ?_
                  clear q1
                  intro w10 q1 hc10 hz10
                  replace hz10 := Nat.le_of_eq hz10.symm
                  replace t1 := t1.of_eq (hc10.block _ t1.lt (by omega))
                  replace p1 := p1.of_eq (hc10.block _ p1.lt (by omega))
                  replace a1 := a1.of_eq (hc10.block _ a1.lt (by omega))
                  refine hK _ _ ?_
                  simp only [Act.put, List.setIfInBounds_toArray, List.set_cons_zero, List.set_cons_succ]
                  clear hK K
                  refine wpAny_done (by kernel_rfl) ?_ _
                  go_wp2_with fail
                  go_meet
                  exact ⟨_, rfl, q1, by repeat' (first | (with_reducible exact Below.refl _ _) | (with_reducible assumption) | (with_reducible refine Below.trans ?_ (hb8.mono (by omega))) | (with_reducible refine Below.trans ?_ (hb9.mono (by omega))) | (with_reducible refine Chg.below ?_ hc10 (by omega) (by omega))), by omega, t1, p1, a1⟩
                exact AllReady.nil
              exact AllReady.nil
            refine AllReady.cons rfl (fun K hK => ite_of rfl ?_) ?_
            · simp only [List.getElem_toArray, List.getElem_cons_zero, List.getElem_cons_succ]
              refine owp_allocTri rfl ?_
              intro w9 q1 hb9 hz9
              have l9 := Nat.lt_of_lt_of_eq (Nat.lt_succ_self _) hz9.symm
              clear hz9
              replace t1 := t1.of_eq (hb9.block _ t1.lt)
              replace p1 := p1.of_eq (hb9.block _ p1.lt)
              replace a1 := a1.of_eq (hb9.block _ a1.lt)
              refine hK _ _ ?_
              simp only [Act.put, List.setIfInBounds_toArray, List.set_cons_zero, List.set_cons_succ]
              clear hK K
              refine wpAny_ready (rs := [4]) (by kernel_rfl) (by simp) ?_
              refine AllReady.cons rfl (fun K hK => ite_of rfl ?_) ?_
              · simp only [List.getElem_toArray, List.getElem_cons_zero, List.getElem_cons_succ]
                refine owp_buildTri _ _ _ rfl _ _ _ rfl rfl rfl ?_
                refine hK _ _ ?_
                simp only [Act.put, List.setIfInBounds_toArray, List.set_cons_zero, List.set_cons_succ]
                clear hK K
                refine wpAny_ready (rs := [6]) (by kernel_rfl) (by simp) ?_
                refine AllReady.cons rfl (fun K hK => ite_of rfl ?_) ?_
                · simp only [List.getElem_toArray, List.getElem_cons_zero, List.getElem_cons_succ]
                  refine owp_storeTri _ _ _ _ rfl rfl rfl q1 ?_
                  clear q1
                  intro w10 q1 hc10 hz10
                  replace hz10 := Nat.le_of_eq hz10.symm
                  replace t1 := t1.of_eq (hc10.block _ t1.lt (by omega))
                  replace p1 := p1.of_eq (hc10.block _ p1.lt (by omega))
                  replace a1 := a1.of_eq (hc10.block _ a1.lt (by omega))
                  refine hK _ _ ?_
                  simp only [Act.put, List.setIfInBounds_toArray, List.set_cons_zero, List.set_cons_succ]
                  clear hK K
                  refine wpAny_done (by kernel_rfl) ?_ _
                  go_wp2_with fail
                  go_meet
                  exact ⟨_, rfl, q1, by repeat' (first | (with_reducible exact Below.refl _ _) | (with_reducible assumption) | (with_reducible refine Below.trans ?_ (hb8.mono (by omega))) | (with_reducible refine Below.trans ?_ (hb9.mono (by omega))) | (with_reducible refine Chg.below ?_ hc10 (by omega) (by omega))), by omega, t1, p1, a1⟩
                exact AllReady.nil
              exact AllReady.nil
            exact AllReady.nil
          refine AllReady.cons rfl (fun K hK => ite_of rfl ?_) ?_
          · simp only [List.getElem_toArray, List.getElem_cons_zero, List.getElem_cons_succ]
            refine owp_allocTri rfl ?_
            intro w8 q1 hb8 hz8
            have l8 := Nat.lt_of_lt_of_eq (Nat.lt_succ_self _) hz8.symm
            clear hz8
            replace t1 := t1.of_eq (hb8.block _ t1.lt)
            replace p1 := p1.of_eq (hb8.block _ p1.lt)
            replace a1 := a1.of_eq (hb8.block _ a1.lt)
            refine hK _ _ ?_
            simp only [Act.put, List.setIfInBounds_toArray, List.set_cons_zero, List.set_cons_succ]
            clear hK K
            refine wpAny_ready (rs := [2]) (by kernel_rfl) (by simp) ?_
            refine AllReady.cons rfl (fun K hK => ite_of rfl ?_) ?_
            · simp only [List.getElem_toArray, List.getElem_cons_zero, List.getElem_cons_succ]
              go_simp
              go_at_call 18
              refine (R_Fill _ _).mono ?_
              rintro e w9 ⟨rfl, hb9⟩
              have hz9 := hb9.size
              replace t1 := t1.of_eq (hb9.block _ t1.lt)
              replace p1 := p1.of_eq (hb9.block _ p1.lt)
              replace a1 := a1.of_eq (hb9.block _ a1.lt)
              replace q1 := q1.of_eq (hb9.block _ q1.lt)
              refine hK _ _ ?_
              clear hK K
              refine wpAny_ready (rs := [4]) (by kernel_rfl) (by simp) ?_
              refine AllReady.cons rfl (fun K hK => ite_of rfl ?_) ?_
              · simp only [List.getElem_toArray, List.getElem_cons_zero, List.getElem_cons_succ]
                refine owp_buildTri _ _ _ rfl _ _ _ rfl rfl rfl ?_
                refine hK _ _ ?_
                simp only [Act.put, List.setIfInBounds_toArray, List.set_cons_zero, List.set_cons_succ]
                clear hK K
                refine wpAny_ready (rs := [6]) (by kernel_rfl) (by simp) ?_
                refine AllReady.cons rfl (fun K hK => ite_of rfl ?_) ?_
                · simp only [List.getElem_toArray, List.getElem_cons_zero, List.getElem_cons_succ]
                  refine owp_storeTri _ _ _ _ rfl rfl rfl q1 ?_
                  clear q1
                  intro w10 q1 hc10 hz10
                  replace hz10 := Nat.le_of_eq hz10.symm
                  replace t1 := t1.of_eq (hc10.block _ t1.lt (by omega))
                  replace p1 := p1.of_eq (hc10.block _ p1.lt (by omega))
                  replace a1 := a1.of_eq (hc10.block _ a1.lt (by omega))
                  refine hK _ _ ?_
                  simp only [Act.put, List.setIfInBounds_toArray, List.set_cons_zero, List.set_cons_succ]
                  clear hK K
                  refine wpAny_done (by kernel_rfl) ?_ _
                  go_wp2_with fail
                  go_meet
                  exact ⟨_, rfl, q1, by repeat' (first | (with_reducible exact Below.refl _ _) | (with_reducible assumption) | (with_reducible refine Below.trans ?_ (hb8.mono (by omega))) | (with_reducible refine Below.trans ?_ (hb9.mono (by omega))) | (with_reducible refine Chg.below ?_ hc10 (by omega) (by omega))), by omega, t1, p1, a1⟩
                exact AllReady.nil
              exact AllReady.nil
            exact AllReady.nil
          exact AllReady.nil
        refine AllReady.cons rfl (fun K hK => ite_of rfl ?_) ?_
        · simp only [List.getElem_toArray, List.getElem_cons_zero, List.getElem_cons_succ]
          go_simp
          go_at_call 18
          refine (R_Fill _ _).mono ?_
          rintro e w8 ⟨rfl, hb8⟩
          have hz8 := hb8.size
          replace t1 := t1.of_eq (hb8.block _ t1.lt)
          replace p1 := p1.of_eq (hb8.block _ p1.lt)
          replace a1 := a1.of_eq (hb8.block _ a1.lt)
          refine hK _ _ ?_
          clear hK K
          refine wpAny_ready (rs := [0, 5]) (by kernel_rfl) (by simp) ?_
          refine AllReady.cons rfl (fun K hK => ite_of rfl ?_) ?_
          · simp only [List.getElem_toArray, List.getElem_cons_zero, List.getElem_cons_succ]
            refine owp_loadT _ _ rfl rfl t1 ?_
            refine hK _ _ ?_
            simp only [Act.put, List.setIfInBounds_toArray, List.set_cons_zero, List.set_cons_succ]
            clear hK K
            refine wpAny_ready (rs := [4, 5]) (by kernel_rfl) (by simp) ?_
            refine AllReady.cons rfl (fun K hK => ite_of rfl ?_) ?_
            · simp only [List.getElem_toArray, List.getElem_cons_zero, List.getElem_cons_succ]
              refine owp_buildTri _ _ _ rfl _ _ _ rfl rfl rfl ?_
              refine hK _ _ ?_
              simp only [Act.put, List.setIfInBounds_toArray, List.set_cons_zero, List.set_cons_succ]
              clear hK K
              refine wpAny_ready (rs := [5]) (by kernel_rfl) (by simp) ?_
              refine AllReady.cons rfl (fun K hK => ite_of rfl ?_) ?_
              · simp only [List.getElem_toArray, List.getElem_cons_zero, List.getElem_cons_succ]
                refine owp_allocTri rfl ?_
                intro w9 q1 hb9 hz9
                have l9 := Nat.lt_of_lt_of_eq (Nat.lt_succ_self _) hz9.symm
                clear hz9
                replace t1 := t1.of_eq (hb9.block _ t1.lt)
                replace p1 := p1.of_eq (hb9.block _ p1.lt)
                replace a1 := a1.of_eq (hb9.block _ a1.lt)
                refine hK _ _ ?_
                simp only [Act.put, List.setIfInBounds_toArray, List.set_cons_zero, List.set_cons_succ]
                clear hK K
                refine wpAny_ready (rs := [6]) (by kernel_rfl) (by simp) ?_
                refine AllReady.cons rfl (fun K hK => ite_of rfl ?_) ?_
                · simp only [List.getElem_toArray, List.getElem_cons_zero, List.getElem_cons_succ]
                  refine owp_storeTri _ _ _ _ rfl rfl rfl q1 ?_
                  clear q1
                  intro w10 q1 hc10 hz10
                  replace hz10 := Nat.le_of_eq hz10.symm
                  replace t1 := t1.of_eq (hc10.block _ t1.lt (by omega))
                  replace p1 := p1.of_eq (hc10.block _ p1.lt (by omega))
                  replace a1 := a1.of_eq (hc10.block _ a1.lt (by omega))
                  refine hK _ _ ?_
                  simp only [Act.put, List.setIfInBounds_toArray, List.set_cons_zero, List.set_cons_succ]
                  clear hK K
                  refine wpAny_done (by kernel_rfl) ?_ _
                  go_wp2_with fail
                  go_meet
                  exact ⟨_, rfl, q1, by repeat' (first | (with_reducible exact Below.refl _ _) | (with_reducible assumption) | (with_reducible refine Below.trans ?_ (hb8.mono (by omega))) | (with_reducible refine Below.trans ?_ (hb9.mono (by omega))) | (with_reducible refine Chg.below ?_ hc10 (by omega) (by omega))), by omega, t1, p1, a1⟩
                exact AllReady.nil
              exact AllReady.nil
            refine AllReady.cons rfl (fun K hK => ite_of rfl ?_) ?_
            · simp only [List.getElem_toArray, List.getElem_cons_zero, List.getElem_cons_succ]
              refine owp_allocTri rfl ?_
              intro w9 q1 hb9 hz9
              have l9 := Nat.lt_of_lt_of_eq (Nat.lt_succ_self _) hz9.symm
              clear hz9
              replace t1 := t1.of_eq (hb9.block _ t1.lt)
              replace p1 := p1.of_eq (hb9.block _ p1.lt)
              replace a1 := a1.of_eq (hb9.block _ a1.lt)
              refine hK _ _ ?_
              simp only [Act.put, List.setIfInBounds_toArray, List.set_cons_zero, List.set_cons_succ]
              clear hK K
              refine wpAny_ready (rs := [4]) (by kernel_rfl) (by simp) ?_
              refine AllReady.cons rfl (fun K hK => ite_of rfl ?_) ?_
              · simp only [List.getElem_toArray, List.getElem_cons_zero, List.getElem_cons_succ]
                refine owp_buildTri _ _ _ rfl _ _ _ rfl rfl rfl ?_
                refine hK _ _ ?_
                simp only [Act.put, List.setIfInBounds_toArray, List.set_cons_zero, List.set_cons_succ]
                clear hK K
                refine wpAny_ready (rs := [6]) (by kernel_rfl) (by simp) ?_
                refine AllReady.cons rfl (fun K hK => ite_of rfl ?_) ?_
                · simp only [List.getElem_toArray, List.getElem_cons_zero, List.getElem_cons_succ]
                  refine owp_storeTri _ _ _ _ rfl rfl rfl q1 ?_
                  clear q1
                  intro w10 q1 hc10 hz10
                  replace hz10 := Nat.le_of_eq hz10.symm
                  replace t1 := t1.of_eq (hc10.block _ t1.lt (by omega))
                  replace p1 := p1.of_eq (hc10.block _ p1.lt (by omega))
                  replace a1 := a1.of_eq (hc10.block _ a1.lt (by omega))
                  refine hK _ _ ?_
                  simp only [Act.put, List.setIfInBounds_toArray, List.set_cons_zero, List.set_cons_succ]
                  clear hK K
                  refine wpAny_done (by kernel_rfl) ?_ _
                  go_wp2_with fail
                  go_meet
                  exact ⟨_, rfl, q1, by repeat' (first | (with_reducible exact Below.refl _ _) | (with_reducible assumption) | (with_reducible refine Below.trans ?_ (hb8.mono (by omega))) | (with_reducible refine Below.trans ?_ (hb9.mono (by omega))) | (with_reducible refine Chg.below ?_ hc10 (by omega) (by omega))), by omega, t1, p1, a1⟩
                exact AllReady.nil
              exact AllReady.nil
            exact AllReady.nil
          refine AllReady.cons rfl (fun K hK => ite_of rfl ?_) ?_
          · simp only [List.getElem_toArray, List.getElem_cons_zero, List.getElem_cons_succ]
            refine owp_allocTri rfl ?_
            intro w9 q1 hb9 hz9
            have l9 := Nat.lt_of_lt_of_eq (Nat.lt_succ_self _) hz9.symm
            clear hz9
            replace t1 := t1.of_eq (hb9.block _ t1.lt)
            replace p1 := p1.of_eq (hb9.block _ p1.lt)
            replace a1 := a1.of_eq (hb9.block _ a1.lt)
            refine hK _ _ ?_
            simp only [Act.put, List.setIfInBounds_toArray, List.set_cons_zero, List.set_cons_succ]
            clear hK K
            refine wpAny_ready (rs := [0]) (by kernel_rfl) (by simp) ?_
            refine AllReady.cons rfl (fun K hK => ite_of rfl ?_) ?_
            · simp only [List.getElem_toArray, List.getElem_cons_zero, List.getElem_cons_succ]
              refine owp_loadT _ _ rfl rfl t1 ?_
              refine hK _ _ ?_
              simp only [Act.put, List.setIfInBounds_toArray, List.set_cons_zero, List.set_cons_succ]
              clear hK K
              refine wpAny_ready (rs := [4]) (by kernel_rfl) (by simp) ?_
              refine AllReady.cons rfl (fun K hK => ite_of rfl ?_) ?_
              · simp only [List.getElem_toArray, List.getElem_cons_zero, List.getElem_cons_succ]
                refine owp_buildTri _ _ _ rfl _ _ _ rfl rfl rfl ?_
                refine hK _ _ ?_
                simp only [Act.put, List.setIfInBounds_toArray, List.set_cons_zero, List.set_cons_succ]
                clear hK K
                refine wpAny_ready (rs := [6]) (by kernel_rfl) (by simp) ?_
                refine AllReady.cons rfl (fun K hK => ite_of rfl ?_) ?_
                · simp only [List.getElem_toArray, List.getElem_cons_zero, List.getElem_cons_succ]
                  refine owp_storeTri _ _ _ _ rfl rfl rfl q1 ?_
                  clear q1
                  intro w10 q1 hc10 hz10
                  replace hz10 := Nat.le_of_eq hz10.symm
                  replace t1 := t1.of_eq (hc10.block _ t1.lt (by omega))
                  replace p1 := p1.of_eq (hc10.block _ p1.lt (by omega))
                  replace a1 := a1.of_eq (hc10.block _ a1.lt (by omega))
                  refine hK _ _ ?_
                  simp only [Act.put, List.setIfInBounds_toArray, List.set_cons_zero, List.set_cons_succ]
                  clear hK K
                  refine wpAny_done (by kernel_rfl) ?_ _
                  go_wp2_with fail
                  go_meet
                  exact ⟨_, rfl, q1, by repeat' (first | (with_reducible exact Below.refl _ _) | (with_reducible assumption) | (with_reducible refine Below.trans ?_ (hb8.mono (by omega))) | (with_reducible refine Below.trans ?_ (hb9.mono (by omega))) | (with_reducible refine Chg.below ?_ hc10 (by omega) (by omega))), by omega, t1, p1, a1⟩
                exact AllReady.nil
              exact AllReady.nil
            exact AllReady.nil
          exact AllReady.nil
        refine AllReady.cons rfl (fun K hK => ite_of rfl ?_) ?_
        · simp only [List.getElem_toArray, List.getElem_cons_zero, List.getElem_cons_succ]
          refine owp_allocTri rfl ?_
          intro w8 q1 hb8 hz8
          have l8 := Nat.lt_of_lt_of_eq (Nat.lt_succ_self _) hz8.symm
          clear hz8
          replace t1 := t1.of_eq (hb8.block _ t1.lt)
          replace p1 := p1.of_eq (hb8.block _ p1.lt)
          replace a1 := a1.of_eq (hb8.block _ a1.lt)
          refine hK _ _ ?_
          simp only [Act.put, List.setIfInBounds_toArray, List.set_cons_zero, List.set_cons_succ]
          clear hK K
          refine wpAny_ready (rs := [0, 2]) (by kernel_rfl) (by simp) ?_
          refine AllReady.cons rfl (fun K hK => ite_of rfl ?_) ?_
          · simp only [List.getElem_toArray, List.getElem_cons_zero, List.getElem_cons_succ]
            refine owp_loadT _ _ rfl rfl t1 ?_
            refine hK _ _ ?_
            simp only [Act.put, List.setIfInBounds_toArray, List.set_cons_zero, List.set_cons_succ]
            clear hK K
            refine wpAny_ready (rs := [2]) (by kernel_rfl) (by simp) ?_
            refine AllReady.cons rfl (fun K hK => ite_of rfl ?_) ?_
            · simp only [List.getElem_toArray, List.getElem_cons_zero, List.getElem_cons_succ]
              go_simp
              go_at_call 18
              refine (R_Fill _ _).mono ?_
              rintro e w9 ⟨rfl, hb9⟩
              have hz9 := hb9.size
              replace t1 := t1.of_eq (hb9.block _ t1.lt)
              replace p1 := p1.of_eq (hb9.block _ p1.lt)
              replace a1 := a1.of_eq (hb9.block _ a1.lt)
              replace q1 := q1.of_eq (hb9.block _ q1.lt)
              refine hK _ _ ?_
              clear hK K
              refine wpAny_ready (rs := [4]) (by kernel_rfl) (by simp) ?_
              refine AllReady.cons rfl (fun K hK => ite_of rfl ?_) ?_
              · simp only [List.getElem_toArray, List.getElem_cons_zero, List.getElem_cons_succ]
                refine owp_buildTri _ _ _ rfl _ _ _ rfl rfl rfl ?_
                refine hK _ _ ?_
                simp only [Act.put, List.setIfInBounds_toArray, List.set_cons_zero, List.set_cons_succ]
                clear hK K
                refine wpAny_ready (rs := [6]) (by kernel_rfl) (by simp) ?_
                refine AllReady.cons rfl (fun K hK => ite_of rfl ?_) ?_
                · simp only [List.getElem_toArray, List.getElem_cons_zero, List.getElem_cons_succ]
                  refine owp_storeTri _ _ _ _ rfl rfl rfl q1 ?_
                  clear q1
                  intro w10 q1 hc10 hz10
                  replace hz10 := Nat.le_of_eq hz10.symm
                  replace t1 := t1.of_eq (hc10.block _ t1.lt (by omega))
                  replace p1 := p1.of_eq (hc10.block _ p1.lt (by omega))
                  replace a1 := a1.of_eq (hc10.block _ a1.lt (by omega))
                  refine hK _ _ ?_
                  simp only [Act.put, List.setIfInBounds_toArray, List.set_cons_zero, List.set_cons_succ]
                  clear hK K
                  refine wpAny_done (by kernel_rfl) ?_ _
                  go_wp2_with fail
                  go_meet
                  exact ⟨_, rfl, q1, by repeat' (first | (with_reducible exact Below.refl _ _) | (with_reducible assumption) | (with_reducible refine Below.trans ?_ (hb8.mono (by omega))) | (with_reducible refine Below.trans ?_ (hb9.mono (by omega))) | (with_reducible refine Chg.below ?_ hc10 (by omega) (by omega))), by omega, t1, p1, a1⟩
                exact AllReady.nil
              exact AllReady.nil
            exact AllReady.nil
          refine AllReady.cons rfl (fun K hK => ite_of rfl ?_) ?_
          · simp only [List.getElem_toArray, List.getElem_cons_zero, List.getElem_cons_succ]
            go_simp
            go_at_call 18
            refine (R_Fill _ _).mono ?_
            rintro e w9 ⟨rfl, hb9⟩
            have hz9 := hb9.size
            replace t1 := t1.of_eq (hb9.block _ t1.lt)
            replace p1 := p1.of_eq (hb9.block _ p1.lt)
            replace a1 := a1.of_eq (hb9.block _ a1.lt)
            replace q1 := q1.of_eq (hb9.block _ q1.lt)
            refine hK _ _ ?_
            clear hK K
            refine wpAny_ready (rs := [0]) (by kernel_rfl) (by simp) ?_
            refine AllReady.cons rfl (fun K hK => ite_of rfl ?_) ?_
            · simp only [List.getElem_toArray, List.getElem_cons_zero, List.getElem_cons_succ]
              refine owp_loadT _ _ rfl rfl t1 ?_
              refine hK _ _ ?_
              simp only [Act.put, List.setIfInBounds_toArray, List.set_cons_zero, List.set_cons_succ]
              clear hK K
              refine wpAny_ready (rs := [4]) (by kernel_rfl) (by simp) ?_
              refine AllReady.cons rfl (fun K hK => ite_of rfl ?_) ?_
              · simp only [List.getElem_toArray, List.getElem_cons_zero, List.getElem_cons_succ]
                refine owp_buildTri _ _ _ rfl _ _ _ rfl rfl rfl ?_
                refine hK _ _ ?_
                simp only [Act.put, List.setIfInBounds_toArray, List.set_cons_zero, List.set_cons_succ]
                clear hK K
                refine wpAny_ready (rs := [6]) (by kernel_rfl) (by simp) ?_
                refine AllReady.cons rfl (fun K hK => ite_of rfl ?_) ?_
                · simp only [List.getElem_toArray, List.getElem_cons_zero, List.getElem_cons_succ]
                  refine owp_storeTri _ _ _ _ rfl rfl rfl q1 ?_
                  clear q1
                  intro w10 q1 hc10 hz10
                  replace hz10 := Nat.le_of_eq hz10.symm
                  replace t1 := t1.of_eq (hc10.block _ t1.lt (by omega))
                  replace p1 := p1.of_eq (hc10.block _ p1.lt (by omega))
                  replace a1 := a1.of_eq (hc10.block _ a1.lt (by omega))
                  refine hK _ _ ?_
                  simp only [Act.put, List.setIfInBounds_toArray, List.set_cons_zero, List.set_cons_succ]
                  clear hK K
                  refine wpAny_done (by kernel_rfl) ?_ _
                  go_wp2_with fail
                  go_meet
                  exact ⟨_, rfl, q1, by repeat' (first | (with_reducible exact Below.refl _ _) | (with_reducible assumption) | (with_reducible refine Below.trans ?_ (hb8.mono (by omega))) | (with_reducible refine Below.trans ?_ (hb9.mono (by omega))) | (with_reducible refine Chg.below ?_ hc10 (by omega) (by omega))), by omega, t1, p1, a1⟩
                exact AllReady.nil
              exact AllReady.nil
            exact AllReady.nil
          exact AllReady.nil
        exact AllReady.nil
      refine AllReady.cons rfl (fun K hK => ite_of rfl ?_) ?_
      · simp only [List.getElem_toArray, List.getElem_cons_zero, List.getElem_cons_succ]
        refine owp_allocTri rfl ?_
        intro w8 q1 hb8 hz8
        have l8 := Nat.lt_of_lt_of_eq (Nat.lt_succ_self _) hz8.symm
        clear hz8
        replace t1 := t1.of_eq (hb8.block _ t1.lt)
        replace p1 := p1.of_eq (hb8.block _ p1.lt)
        replace a1 := a1.of_eq (hb8.block _ a1.lt)
        refine hK _ _ ?_
        simp only [Act.put, List.setIfInBounds_toArray, List.set_cons_zero, List.set_cons_succ]
        clear hK K
        refine wpAny_ready (rs := [0, 1]) (by kernel_rfl) (by simp) ?_
        refine AllReady.cons rfl (fun K hK => ite_of rfl ?_) ?_
        · simp only [List.getElem_toArray, List.getElem_cons_zero, List.getElem_cons_succ]
          refine owp_loadT _ _ rfl rfl t1 ?_
          refine hK _ _ ?_
          simp only [Act.put, List.setIfInBounds_toArray, List.set_cons_zero, List.set_cons_succ]
          clear hK K
          refine wpAny_ready (rs := [1]) (by kernel_rfl) (by simp) ?_
          refine AllReady.cons rfl (fun K hK => ite_of rfl ?_) ?_
          · simp only [List.getElem_toArray, List.getElem_cons_zero, List.getElem_cons_succ]
            refine owp_loadPx _ _ rfl rfl p1 ?_
            refine hK _ _ ?_
            simp only [Act.put, List.setIfInBounds_toArray, List.set_cons_zero, List.set_cons_succ]
            clear hK K
            refine wpAny_ready (rs := [2]) (by kernel_rfl) (by simp) ?_
            refine AllReady.cons rfl (fun K hK => ite_of rfl ?_) ?_
            · simp only [List.getElem_toArray, List.getElem_cons_zero, List.getElem_cons_succ]
              go_simp
              go_at_call 18
              refine (R_Fill _ _).mono ?_
              rintro e w9 ⟨rfl, hb9⟩
              have hz9 := hb9.size
              replace t1 := t1.of_eq (hb9.block _ t1.lt)
              replace p1 := p1.of_eq (hb9.block _ p1.lt)
              replace a1 := a1.of_eq (hb9.block _ a1.lt)
              replace q1 := q1.of_eq (hb9.block _ q1.lt)
              refine hK _ _ ?_
              clear hK K
              refine wpAny_ready (rs := [4]) (by kernel_rfl) (by simp) ?_
              refine AllReady.cons rfl (fun K hK => ite_of rfl ?_) ?_
              · simp only [List.getElem_toArray, List.getElem_cons_zero, List.getElem_cons_succ]
                refine owp_buildTri _ _ _ rfl _ _ _ rfl rfl rfl ?_
                refine hK _ _ ?_
                simp only [Act.put, List.setIfInBounds_toArray, List.set_cons_zero, List.set_cons_succ]
                clear hK K
                refine wpAny_ready (rs := [6]) (by kernel_rfl) (by simp) ?_
                refine AllReady.cons rfl (fun K hK => ite_of rfl ?_) ?_
                · simp only [List.getElem_toArray, List.getElem_cons_zero, List.getElem_cons_succ]
                  refine owp_storeTri _ _ _ _ rfl rfl rfl q1 ?_
                  clear q1
                  intro w10 q1 hc10 hz10
                  replace hz10 := Nat.le_of_eq hz10.symm
                  replace t1 := t1.of_eq (hc10.block _ t1.lt (by omega))
                  replace p1 := p1.of_eq (hc10.block _ p1.lt (by omega))
                  replace a1 := a1.of_eq (hc10.block _ a1.lt (by omega))
                  refine hK _ _ ?_
                  simp only [Act.put, List.setIfInBounds_toArray, List.set_cons_zero, List.set_cons_succ]
                  clear hK K
                  refine wpAny_done (by kernel_rfl) ?_ _
                  go_wp2_with fail
                  go_meet
                  exact ⟨_, rfl, q1, by repeat' (first | (with_reducible exact Below.refl _ _) | (with_reducible assumption) | (with_reducible refine Below.trans ?_ (hb8.mono (by omega))) | (with_reducible refine Below.trans ?_ (hb9.mono (by omega))) | (with_reducible refine Chg.below ?_ hc10 (by omega) (by omega))), by omega, t1, p1, a1⟩
                exact AllReady.nil
              exact AllReady.nil
            exact AllReady.nil
          exact AllReady.nil
        refine AllReady.cons rfl (fun K hK => ite_of rfl ?_) ?_
        · simp only [List.getElem_toArray, List.getElem_cons_zero, List.getElem_cons_succ]
          refine owp_loadPx _ _ rfl rfl p1 ?_
          refine hK _ _ ?_
          simp only [Act.put, List.setIfInBounds_toArray, List.set_cons_zero, List.set_cons_succ]
          clear hK K
          refine wpAny_ready (rs := [0, 2]) (by kernel_rfl) (by simp) ?_
          refine AllReady.cons rfl (fun K hK => ite_of rfl ?_) ?_
          · simp only [List.getElem_toArray, List.getElem_cons_zero, List.getElem_cons_succ]
            refine owp_loadT _ _ rfl rfl t1 ?_
            refine hK _ _ ?_
            simp only [Act.put, List.setIfInBounds_toArray, List.set_cons_zero, List.set_cons_succ]
            clear hK K
            refine wpAny_ready (rs := [2]) (by kernel_rfl) (by simp) ?_
            refine AllReady.cons rfl (fun K hK => ite_of rfl ?_) ?_
            · simp only [List.getElem_toArray, List.getElem_cons_zero, List.getElem_cons_succ]
              go_simp
              go_at_call 18
              refine (R_Fill _ _).mono ?_
              rintro e w9 ⟨rfl, hb9⟩
              have hz9 := hb9.size
              replace t1 := t1.of_eq (hb9.block _ t1.lt)
              replace p1 := p1.of_eq (hb9.block _ p1.lt)
              replace a1 := a1.of_eq (hb9.block _ a1.lt)
              replace q1 := q1.of_eq (hb9.block _ q1.lt)
              refine hK _ _ ?_
              clear hK K
              refine wpAny_ready (rs := [4]) (by kernel_rfl) (by simp) ?_
              refine AllReady.cons rfl (fun K hK => ite_of rfl ?_) ?_
              · simp only [List.getElem_toArray, List.getElem_cons_zero, List.getElem_cons_succ]
                refine owp_buildTri _ _ _ rfl _ _ _ rfl rfl rfl ?_
                refine hK _ _ ?_
                simp only [Act.put, List.setIfInBounds_toArray, List.set_cons_zero, List.set_cons_succ]
                clear hK K
                refine wpAny_ready (rs := [6]) (by kernel_rfl) (by simp) ?_
                refine AllReady.cons rfl (fun K hK => ite_of rfl ?_) ?_
                · simp only [List.getElem_toArray, List.getElem_cons_zero, List.getElem_cons_succ]
                  refine owp_storeTri _ _ _ _ rfl rfl rfl q1 ?_
                  clear q1
                  intro w10 q1 hc10 hz10
                  replace hz10 := Nat.le_of_eq hz10.symm
                  replace t1 := t1.of_eq (hc10.block _ t1.lt (by omega))
                  replace p1 := p1.of_eq (hc10.block _ p1.lt (by omega))
                  replace a1 := a1.of_eq (hc10.block _ a1.lt (by omega))
                  refine hK _ _ ?_
                  simp only [Act.put, List.setIfInBounds_toArray, List.set_cons_zero, List.set_cons_succ]
                  clear hK K
                  refine wpAny_done (by kernel_rfl) ?_ _
                  go_wp2_with fail
                  go_meet
                  exact ⟨_, rfl, q1, by repeat' (first | (with_reducible exact Below.refl _ _) | (with_reducible assumption) | (with_reducible refine Below.trans ?_ (hb8.mono (by omega))) | (with_reducible refine Below.trans ?_ (hb9.mono (by omega))) | (with_reducible refine Chg.below ?_ hc10 (by omega) (by omega))), by omega, t1, p1, a1⟩
                exact AllReady.nil
              exact AllReady.nil
            exact AllReady.nil
          refine AllReady.cons rfl (fun K hK => ite_of rfl ?_) ?_
          · simp only [List.getElem_toArray, List.getElem_cons_zero, List.getElem_cons_succ]
            go_simp
            go_at_call 18
            refine (R_Fill _ _).mono ?_
            rintro e w9 ⟨rfl, hb9⟩
            have hz9 := hb9.size
            replace t1 := t1.of_eq (hb9.block _ t1.lt)
            replace p1 := p1.of_eq (hb9.block _ p1.lt)
            replace a1 := a1.of_eq (hb9.block _ a1.lt)
            replace q1 := q1.of_eq (hb9.block _ q1.lt)
            refine hK _ _ ?_
            clear hK K
            refine wpAny_ready (rs := [0]) (by kernel_rfl) (by simp) ?_
            refine AllReady.cons rfl (fun K hK => ite_of rfl ?_) ?_
            · simp only [List.getElem_toArray, List.getElem_cons_zero, List.getElem_cons_succ]
              refine owp_loadT _ _ rfl rfl t1 ?_
              refine hK _ _ ?_
              simp only [Act.put, List.setIfInBounds_toArray, List.set_cons_zero, List.set_cons_succ]
              clear hK K
              refine wpAny_ready (rs := [4]) (by kernel_rfl) (by simp) ?_
              refine AllReady.cons rfl (fun K hK => ite_of rfl ?_) ?_
              · simp only [List.getElem_toArray, List.getElem_cons_zero, List.getElem_cons_succ]
                refine owp_buildTri _ _ _ rfl _ _ _ rfl rfl rfl ?_
                refine hK _ _ ?_
                simp only [Act.put, List.setIfInBounds_toArray, List.set_cons_zero, List.set_cons_succ]
                clear hK K
                refine wpAny_ready (rs := [6]) (by kernel_rfl) (by simp) ?_
                refine AllReady.cons rfl (fun K hK => ite_of rfl ?_) ?_
                · simp only [List.getElem_toArray, List.getElem_cons_zero, List.getElem_cons_succ]
                  refine owp_storeTri _ _ _ _ rfl rfl rfl q1 ?_
                  clear q1
                  intro w10 q1 hc10 hz10
                  replace hz10 := Nat.le_of_eq hz10.symm
                  replace t1 := t1.of_eq (hc10.block _ t1.lt (by omega))
                  replace p1 := p1.of_eq (hc10.block _ p1.lt (by omega))
                  replace a1 := a1.of_eq (hc10.block _ a1.lt (by omega))
                  refine hK _ _ ?_
                  simp only [Act.put, List.setIfInBounds_toArray, List.set_cons_zero, List.set_cons_succ]
                  clear hK K
                  refine wpAny_done (by kernel_rfl) ?_ _
                  go_wp2_with fail
                  go_meet
                  exact ⟨_, rfl, q1, by repeat' (first | (with_reducible exact Below.refl _ _) | (with_reducible assumption) | (with_reducible refine Below.trans ?_ (hb8.mono (by omega))) | (with_reducible refine Below.trans ?_ (hb9.mono (by omega))) | (with_reducible refine Chg.below ?_ hc10 (by omega) (by omega))), by omega, t1, p1, a1⟩
                exact AllReady.nil
              exact AllReady.nil
            exact AllReady.nil
          exact AllReady.nil
        exact AllReady.nil
      exact AllReady.nil
    refine AllReady.cons rfl (fun K hK => ite_of rfl ?_) ?_
    · simp only [List.getElem_toArray, List.getElem_cons_zero, List.getElem_cons_succ]
      refine owp_allocTri rfl ?_
      intro w8 q1 hb8 hz8
      have l8 := Nat.lt_of_lt_of_eq (Nat.lt_succ_self _) hz8.symm
      clear hz8
      replace t1 := t1.of_eq (hb8.block _ t1.lt)
      replace p1 := p1.of_eq (hb8.block _ p1.lt)
      replace a1 := a1.of_eq (hb8.block _ a1.lt)
      refine hK _ _ ?_
      simp only [Act.put, List.setIfInBounds_toArray, List.set_cons_zero, List.set_cons_succ]
      clear hK K
      refine wpAny_ready (rs := [0, 1, 3]) (by kernel_rfl) (by simp) ?_
      refine AllReady.cons rfl (fun K hK => ite_of rfl ?_) ?_
      · simp only [List.getElem_toArray, List.getElem_cons_zero, List.getElem_cons_succ]
        refine owp_loadT _ _ rfl rfl t1 ?_
        refine hK _ _ ?_
        simp only [Act.put, List.setIfInBounds_toArray, List.set_cons_zero, List.set_cons_succ]
        clear hK K
        refine wpAny_ready (rs := [1, 3]) (by kernel_rfl) (by simp) ?_
        refine AllReady.cons rfl (fun K hK => ite_of rfl ?_) ?_
        · simp only [List.getElem_toArray, List.getElem_cons_zero, List.getElem_cons_succ]
          refine owp_loadPx _ _ rfl rfl p1 ?_
          refine hK _ _ ?_
          simp only [Act.put, List.setIfInBounds_toArray, List.set_cons_zero, List.set_cons_succ]
          clear hK K
          refine wpAny_ready (rs := [2, 3]) (by kernel_rfl) (by simp) ?_
          refine AllReady.cons rfl (fun K hK => ite_of rfl ?_) ?_
          · simp only [List.getElem_toArray, List.getElem_cons_zero, List.getElem_cons_succ]
            go_simp
            go_at_call 18
            refine (R_Fill _ _).mono ?_
            rintro e w9 ⟨rfl, hb9⟩
            have hz9 := hb9.size
            replace t1 := t1.of_eq (hb9.block _ t1.lt)
            replace p1 := p1.of_eq (hb9.block _ p1.lt)
            replace a1 := a1.of_eq (hb9.block _ a1.lt)
            replace q1 := q1.of_eq (hb9.block _ q1.lt)
            refine hK _ _ ?_
            clear hK K
            refine wpAny_ready (rs := [3]) (by kernel_rfl) (by simp) ?_
            refine AllReady.cons rfl (fun K hK => ite_of rfl ?_) ?_
            · simp only [List.getElem_toArray, List.getElem_cons_zero, List.getElem_cons_succ]
              refine owp_buildT rfl ?_
              refine hK _ _ ?_
              simp only [Act.put, List.setIfInBounds_toArray, List.set_cons_zero, List.set_cons_succ]
              clear hK K
              refine wpAny_ready (rs := [4]) (by kernel_rfl) (by simp) ?_
              refine AllReady.cons rfl (fun K hK => ite_of rfl ?_) ?_
              · simp only [List.getElem_toArray, List.getElem_cons_zero, List.getElem_cons_succ]
                refine owp_buildTri _ _ _ rfl _ _ _ rfl rfl rfl ?_
                refine hK _ _ ?_
                simp only [Act.put, List.setIfInBounds_toArray, List.set_cons_zero, List.set_cons_succ]
                clear hK K
                refine wpAny_ready (rs := [6]) (by kernel_rfl) (by simp) ?_
                refine AllReady.cons rfl (fun K hK => ite_of rfl ?_) ?_
                · simp only [List.getElem_toArray, List.getElem_cons_zero, List.getElem_cons_succ]
                  refine owp_storeTri _ _ _ _ rfl rfl rfl q1 ?_
                  clear q1
                  intro w10 q1 hc10 hz10
                  replace hz10 := Nat.le_of_eq hz10.symm
                  replace t1 := t1.of_eq (hc10.block _ t1.lt (by omega))
                  replace p1 := p1.of_eq (hc10.block _ p1.lt (by omega))
                  replace a1 := a1.of_eq (hc10.block _ a1.lt (by omega))
                  refine hK _ _ ?_
                  simp only [Act.put, List.setIfInBounds_toArray, List.set_cons_zero, List.set_cons_succ]
                  clear hK K
                  refine wpAny_done (by kernel_rfl) ?_ _
                  go_wp2_with fail
                  go_meet
                  exact ⟨_, rfl, q1, by repeat' (first | (with_reducible exact Below.refl _ _) | (with_reducible assumption) | (with_reducible refine Below.trans ?_ (hb8.mono (by omega))) | (with_reducible refine Below.trans ?_ (hb9.mono (by omega))) | (with_reducible refine Chg.below ?_ hc10 (by omega) (by omega))), by omega, t1, p1, a1⟩
                exact AllReady.nil
              exact AllReady.nil
            exact AllReady.nil
          refine AllReady.cons rfl (fun K hK => ite_of rfl ?_) ?_
          · simp only [List.getElem_toArray, List.getElem_cons_zero, List.getElem_cons_succ]
            refine owp_buildT rfl ?_
            refine hK _ _ ?_
            simp only [Act.put, List.setIfInBounds_toArray, List.set_cons_zero, List.set_cons_succ]
            clear hK K
            refine wpAny_ready (rs := [2]) (by kernel_rfl) (by simp) ?_
            refine AllReady.cons rfl (fun K hK => ite_of rfl ?_) ?_
            · simp only [List.getElem_toArray, List.getElem_cons_zero, List.getElem_cons_succ]
              go_simp
              go_at_call 18
              refine (R_Fill _ _).mono ?_
              rintro e w9 ⟨rfl, hb9⟩
              have hz9 := hb9.size
              replace t1 := t1.of_eq (hb9.block _ t1.lt)
              replace p1 := p1.of_eq (hb9.block _ p1.lt)
              replace a1 := a1.of_eq (hb9.block _ a1.lt)
              replace q1 := q1.of_eq (hb9.block _ q1.lt)
              refine hK _ _ ?_
              clear hK K
              refine wpAny_ready (rs := [4]) (by kernel_rfl) (by simp) ?_
              refine AllReady.cons rfl (fun K hK => ite_of rfl ?_) ?_
              · simp only [List.getElem_toArray, List.getElem_cons_zero, List.getElem_cons_succ]
                refine owp_buildTri _ _ _ rfl _ _ _ rfl rfl rfl ?_
                refine hK _ _ ?_
                simp only [Act.put, List.setIfInBounds_toArray, List.set_cons_zero, List.set_cons_succ]
                clear hK K
                refine wpAny_ready (rs := [6]) (by kernel_rfl) (by simp) ?_
                refine AllReady.cons rfl (fun K hK => ite_of rfl ?_) ?_
                · simp only [List.getElem_toArray, List.getElem_cons_zero, List.getElem_cons_succ]
                  refine owp_storeTri _ _ _ _ rfl rfl rfl q1 ?_
                  clear q1
                  intro w10 q1 hc10 hz10
                  replace hz10 := Nat.le_of_eq hz10.symm
                  replace t1 := t1.of_eq (hc10.block _ t1.lt (by omega))
                  replace p1 := p1.of_eq (hc10.block _ p1.lt (by omega))
                  replace a1 := a1.of_eq (hc10.block _ a1.lt (by omega))
                  refine hK _ _ ?_
                  simp only [Act.put, List.setIfInBounds_toArray, List.set_cons_zero, List.set_cons_succ]
                  clear hK K
                  refine wpAny_done (by kernel_rfl) ?_ _
                  go_wp2_with fail
                  go_meet
                  exact ⟨_, rfl, q1, by repeat' (first | (with_reducible exact Below.refl _ _) | (with_reducible assumption) | (with_reducible refine Below.trans ?_ (hb8.mono (by omega))) | (with_reducible refine Below.trans ?_ (hb9.mono (by omega))) | (with_reducible refine Chg.below ?_ hc10 (by omega) (by omega))), by omega, t1, p1, a1⟩
                exact AllReady.nil
              exact AllReady.nil
            exact AllReady.nil
          exact AllReady.nil
        refine AllReady.cons rfl (fun K hK => ite_of rfl ?_) ?_
        · simp only [List.getElem_toArray, List.getElem_cons_zero, List.getElem_cons_succ]
          refine owp_buildT rfl ?_
          refine hK _ _ ?_
          simp only [Act.put, List.setIfInBounds_toArray, List.set_cons_zero, List.set_cons_succ]
          clear hK K
          refine wpAny_ready (rs := [1]) (by kernel_rfl) (by simp) ?_
          refine AllReady.cons rfl (fun K hK => ite_of rfl ?_) ?_
          · simp only [List.getElem_toArray, List.getElem_cons_zero, List.getElem_cons_succ]
            refine owp_loadPx _ _ rfl rfl p1 ?_
            refine hK _ _ ?_
            simp only [Act.put, List.setIfInBounds_toArray, List.set_cons_zero, List.set_cons_succ]
            clear hK K
            refine wpAny_ready (rs := [2]) (by kernel_rfl) (by simp) ?_
            refine AllReady.cons rfl (fun K hK => ite_of rfl ?_) ?_
            · simp only [List.getElem_toArray, List.getElem_cons_zero, List.getElem_cons_succ]
              go_simp
              go_at_call 18
              refine (R_Fill _ _).mono ?_
              rintro e w9 ⟨rfl, hb9⟩
              have hz9 := hb9.size
              replace t1 := t1.of_eq (hb9.block _ t1.lt)
              replace p1 := p1.of_eq (hb9.block _ p1.lt)
              replace a1 := a1.of_eq (hb9.block _ a1.lt)
              replace q1 := q1.of_eq (hb9.block _ q1.lt)
              refine hK _ _ ?_
              clear hK K
              refine wpAny_ready (rs := [4]) (by kernel_rfl) (by simp) ?_
              refine AllReady.cons rfl (fun K hK => ite_of rfl ?_) ?_
              · simp only [List.getElem_toArray, List.getElem_cons_zero, List.getElem_cons_succ]
                refine owp_buildTri _ _ _ rfl _ _ _ rfl rfl rfl ?_
                refine hK _ _ ?_
                simp only [Act.put, List.setIfInBounds_toArray, List.set_cons_zero, List.set_cons_succ]
                clear hK K
                refine wpAny_ready (rs := [6]) (by kernel_rfl) (by simp) ?_
                refine AllReady.cons rfl (fun K hK => ite_of rfl ?_) ?_
                · simp only [List.getElem_toArray, List.getElem_cons_zero, List.getElem_cons_succ]
                  refine owp_storeTri _ _ _ _ rfl rfl rfl q1 ?_
                  clear q1
                  intro w10 q1 hc10 hz10
                  replace hz10 := Nat.le_of_eq hz10.symm
                  replace t1 := t1.of_eq (hc10.block _ t1.lt (by omega))
                  replace p1 := p1.of_eq (hc10.block _ p1.lt (by omega))
                  replace a1 := a1.of_eq (hc10.block _ a1.lt (by omega))
                  refine hK _ _ ?_
                  simp only [Act.put, List.setIfInBounds_toArray, List.set_cons_zero, List.set_cons_succ]
                  clear hK K
                  refine wpAny_done (by kernel_rfl) ?_ _
                  go_wp2_with fail
                  go_meet
                  exact ⟨_, rfl, q1, by repeat' (first | (with_reducible exact Below.refl _ _) | (with_reducible assumption) | (with_reducible refine Below.trans ?_ (hb8.mono (by omega))) | (with_reducible refine Below.trans ?_ (hb9.mono (by omega))) | (with_reducible refine Chg.below ?_ hc10 (by omega) (by omega))), by omega, t1, p1, a1⟩
                exact AllReady.nil
              exact AllReady.nil
            exact AllReady.nil
          exact AllReady.nil
        exact AllReady.nil
      refine AllReady.cons rfl (fun K hK => ite_of rfl ?_) ?_
      · simp only [List.getElem_toArray, List.getElem_cons_zero, List.getElem_cons_succ]
        refine owp_loadPx _ _ rfl rfl p1 ?_
        refine hK _ _ ?_
        simp only [Act.put, List.setIfInBounds_toArray, List.set_cons_zero, List.set_cons_succ]
        clear hK K
        refine wpAny_ready (rs := [0, 2, 3]) (by kernel_rfl) (by simp) ?_
        refine AllReady.cons rfl (fun K hK => ite_of rfl ?_) ?_
        · simp only [List.getElem_toArray, List.getElem_cons_zero, List.getElem_cons_succ]
          refine owp_loadT _ _ rfl rfl t1 ?_
          refine hK _ _ ?_
          simp only [Act.put, List.setIfInBounds_toArray, List.set_cons_zero, List.set_cons_succ]
          clear hK K
          refine wpAny_ready (rs := [2, 3]) (by kernel_rfl) (by simp) ?_
          refine AllReady.cons rfl (fun K hK => ite_of rfl ?_) ?_
          · simp only [List.getElem_toArray, List.getElem_cons_zero, List.getElem_cons_succ]
            go_simp
            go_at_call 18
            refine (R_Fill _ _).mono ?_
            rintro e w9 ⟨rfl, hb9⟩
            have hz9 := hb9.size
            replace t1 := t1.of_eq (hb9.block _ t1.lt)
            replace p1 := p1.of_eq (hb9.block _ p1.lt)
            replace a1 := a1.of_eq (hb9.block _ a1.lt)
            replace q1 := q1.of_eq (hb9.block _ q1.lt)
            refine hK _ _ ?_
            clear hK K
            refine wpAny_ready (rs := [3]) (by kernel_rfl) (by simp) ?_
            refine AllReady.cons rfl (fun K hK => ite_of rfl ?_) ?_
            · simp only [List.getElem_toArray, List.getElem_cons_zero, List.getElem_cons_succ]
              refine owp_buildT rfl ?_
              refine hK _ _ ?_
              simp only [Act.put, List.setIfInBounds_toArray, List.set_cons_zero, List.set_cons_succ]
              clear hK K
              refine wpAny_ready (rs := [4]) (by kernel_rfl) (by simp) ?_
              refine AllReady.cons rfl (fun K hK => ite_of rfl ?_) ?_
              · simp only [List.getElem_toArray, List.getElem_cons_zero, List.getElem_cons_succ]
                refine owp_buildTri _ _ _ rfl _ _ _ rfl rfl rfl ?_
                refine hK _ _ ?_
                simp only [Act.put, List.setIfInBounds_toArray, List.set_cons_zero, List.set_cons_succ]
                clear hK K
                refine wpAny_ready (rs := [6]) (by kernel_rfl) (by simp) ?_
                refine AllReady.cons rfl (fun K hK => ite_of rfl ?_) ?_
                · simp only [List.getElem_toArray, List.getElem_cons_zero, List.getElem_cons_succ]
                  refine owp_storeTri _ _ _ _ rfl rfl rfl q1 ?_
                  clear q1
                  intro w10 q1 hc10 hz10
                  replace hz10 := Nat.le_of_eq hz10.symm
                  replace t1 := t1.of_eq (hc10.block _ t1.lt (by omega))
                  replace p1 := p1.of_eq (hc10.block _ p1.lt (by omega))
                  replace a1 := a1.of_eq (hc10.block _ a1.lt (by omega))
                  refine hK _ _ ?_
                  simp only [Act.put, List.setIfInBounds_toArray, List.set_cons_zero, List.set_cons_succ]
                  clear hK K
                  refine wpAny_done (by kernel_rfl) ?_ _
                  go_wp2_with fail
                  go_meet
                  exact ⟨_, rfl, q1, by repeat' (first | (with_reducible exact Below.refl _ _) | (with_reducible assumption) | (with_reducible refine Below.trans ?_ (hb8.mono (by omega))) | (with_reducible refine Below.trans ?_ (hb9.mono (by omega))) | (with_reducible refine Chg.below ?_ hc10 (by omega) (by omega))), by omega, t1, p1, a1⟩
                exact AllReady.nil
              exact AllReady.nil
            exact AllReady.nil
          refine AllReady.cons rfl (fun K hK => ite_of rfl ?_) ?_
          · simp only [List.getElem_toArray, List.getElem_cons_zero, List.getElem_cons_succ]
            refine owp_buildT rfl ?_
            refine hK _ _ ?_
            simp only [Act.put, List.setIfInBounds_toArray, List.set_cons_zero, List.set_cons_succ]
            clear hK K
            refine wpAny_ready (rs := [2]) (by kernel_rfl) (by simp) ?_
            refine AllReady.cons rfl (fun K hK => ite_of rfl ?_) ?_
            · simp only [List.getElem_toArray, List.getElem_cons_zero, List.getElem_cons_succ]
              go_simp
              go_at_call 18
              refine (R_Fill _ _).mono ?_
              rintro e w9 ⟨rfl, hb9⟩
              have hz9 := hb9.size
              replace t1 := t1.of_eq (hb9.block _ t1.lt)
              replace p1 := p1.of_eq (hb9.block _ p1.lt)
              replace a1 := a1.of_eq (hb9.block _ a1.lt)
              replace q1 := q1.of_eq (hb9.block _ q1.lt)
              refine hK _ _ ?_
              clear hK K
              refine wpAny_ready (rs := [4]) (by kernel_rfl) (by simp) ?_
              refine AllReady.cons rfl (fun K hK => ite_of rfl ?_) ?_
              · simp only [List.getElem_toArray, List.getElem_cons_zero, List.getElem_cons_succ]
                refine owp_buildTri _ _ _ rfl _ _ _ rfl rfl rfl ?_
                refine hK _ _ ?_
                simp only [Act.put, List.setIfInBounds_toArray, List.set_cons_zero, List.set_cons_succ]
                clear hK K
                refine wpAny_ready (rs := [6]) (by kernel_rfl) (by simp) ?_
                refine AllReady.cons rfl (fun K hK => ite_of rfl ?_) ?_
                · simp only [List.getElem_toArray, List.getElem_cons_zero, List.getElem_cons_succ]
                  refine owp_storeTri _ _ _ _ rfl rfl rfl q1 ?_
                  clear q1
                  intro w10 q1 hc10 hz10
                  replace hz10 := Nat.le_of_eq hz10.symm
                  replace t1 := t1.of_eq (hc10.block _ t1.lt (by omega))
                  replace p1 := p1.of_eq (hc10.block _ p1.lt (by omega))
                  replace a1 := a1.of_eq (hc10.block _ a1.lt (by omega))
                  refine hK _ _ ?_
                  simp only [Act.put, List.setIfInBounds_toArray, List.set_cons_zero, List.set_cons_succ]
                  clear hK K
                  refine wpAny_done (by kernel_rfl) ?_ _
                  go_wp2_with fail
                  go_meet
                  exact ⟨_, rfl, q1, by repeat' (first | (with_reducible exact Below.refl _ _) | (with_reducible assumption) | (with_reducible refine Below.trans ?_ (hb8.mono (by omega))) | (with_reducible refine Below.trans ?_ (hb9.mono (by omega))) | (with_reducible refine Chg.below ?_ hc10 (by omega) (by omega))), by omega, t1, p1, a1⟩
                exact AllReady.nil
              exact AllReady.nil
            exact AllReady.nil
          exact AllReady.nil
        refine AllReady.cons rfl (fun K hK => ite_of rfl ?_) ?_
        · simp only [List.getElem_toArray, List.getElem_cons_zero, List.getElem_cons_succ]
          go_simp
          go_at_call 18
          refine (R_Fill _ _).mono ?_
          rintro e w9 ⟨rfl, hb9⟩
          have hz9 := hb9.size
          replace t1 := t1.of_eq (hb9.block _ t1.lt)
          replace p1 := p1.of_eq (hb9.block _ p1.lt)
          replace a1 := a1.of_eq (hb9.block _ a1.lt)
          replace q1 := q1.of_eq (hb9.block _ q1.lt)
          refine hK _ _ ?_
          clear hK K
          refine wpAny_ready (rs := [0, 3]) (by kernel_rfl) (by simp) ?_
          refine AllReady.cons rfl (fun K hK => ite_of rfl ?_) ?_
          · simp only [List.getElem_toArray, List.getElem_cons_zero, List.getElem_cons_succ]
            refine owp_loadT _ _ rfl rfl t1 ?_
            refine hK _ _ ?_
            simp only [Act.put, List.setIfInBounds_toArray, List.set_cons_zero, List.set_cons_succ]
            clear hK K
            refine wpAny_ready (rs := [3]) (by kernel_rfl) (by simp) ?_
            refine AllReady.cons rfl (fun K hK => ite_of rfl ?_) ?_
            · simp only [List.getElem_toArray, List.getElem_cons_zero, List.getElem_cons_succ]
              refine owp_buildT rfl ?_
              refine hK _ _ ?_
              simp only [Act.put, List.setIfInBounds_toArray, List.set_cons_zero, List.set_cons_succ]
              clear hK K
              refine wpAny_ready (rs := [4]) (by kernel_rfl) (by simp) ?_
              refine AllReady.cons rfl (fun K hK => ite_of rfl ?_) ?_
              · simp only [List.getElem_toArray, List.getElem_cons_zero, List.getElem_cons_succ]
                refine owp_buildTri _ _ _ rfl _ _ _ rfl rfl rfl ?_
                refine hK _ _ ?_
                simp only [Act.put, List.setIfInBounds_toArray, List.set_cons_zero, List.set_cons_succ]
                clear hK K
                refine wpAny_ready (rs := [6]) (by kernel_rfl) (by simp) ?_
                refine AllReady.cons rfl (fun K hK => ite_of rfl ?_) ?_
                · simp only [List.getElem_toArray, List.getElem_cons_zero, List.getElem_cons_succ]
                  refine owp_storeTri _ _ _ _ rfl rfl rfl q1 ?_
                  clear q1
                  intro w10 q1 hc10 hz10
                  replace hz10 := Nat.le_of_eq hz10.symm
                  replace t1 := t1.of_eq (hc10.block _ t1.lt (by omega))
                  replace p1 := p1.of_eq (hc10.block _ p1.lt (by omega))
                  replace a1 := a1.of_eq (hc10.block _ a1.lt (by omega))
                  refine hK _ _ ?_
                  simp only [Act.put, List.setIfInBounds_toArray, List.set_cons_zero, List.set_cons_succ]
                  clear hK K
                  refine wpAny_done (by kernel_rfl) ?_ _
                  go_wp2_with fail
                  go_meet
                  exact ⟨_, rfl, q1, by repeat' (first | (with_reducible exact Below.refl _ _) | (with_reducible assumption) | (with_reducible refine Below.trans ?_ (hb8.mono (by omega))) | (with_reducible refine Below.trans ?_ (hb9.mono (by omega))) | (with_reducible refine Chg.below ?_ hc10 (by omega) (by omega))), by omega, t1, p1, a1⟩
                exact AllReady.nil
              exact AllReady.nil
            exact AllReady.nil
          refine AllReady.cons rfl (fun K hK => ite_of rfl ?_) ?_
          · simp only [List.getElem_toArray, List.getElem_cons_zero, List.getElem_cons_succ]
            refine owp_buildT rfl ?_
            refine hK _ _ ?_
            simp only [Act.put, List.setIfInBounds_toArray, List.set_cons_zero, List.set_cons_succ]
            clear hK K
            refine wpAny_ready (rs := [0]) (by kernel_rfl) (by simp) ?_
            refine AllReady.cons rfl (fun K hK => ite_of rfl ?_) ?_
            · simp only [List.getElem_toArray, List.getElem_cons_zero, List.getElem_cons_succ]
              refine owp_loadT _ _ rfl rfl t1 ?_
              refine hK _ _ ?_
              simp only [Act.put, List.setIfInBounds_toArray, List.set_cons_zero, List.set_cons_succ]
              clear hK K
              refine wpAny_ready (rs := [4]) (by kernel_rfl) (by simp) ?_
              refine AllReady.cons rfl (fun K hK => ite_of rfl ?_) ?_
              · simp only [List.getElem_toArray, List.getElem_cons_zero, List.getElem_cons_succ]
                refine owp_buildTri _ _ _ rfl _ _ _ rfl rfl rfl ?_
                refine hK _ _ ?_
                simp only [Act.put, List.setIfInBounds_toArray, List.set_cons_zero, List.set_cons_succ]
                clear hK K
                refine wpAny_ready (rs := [6]) (by kernel_rfl) (by simp) ?_
                refine AllReady.cons rfl (fun K hK => ite_of rfl ?_) ?_
                · simp only [List.getElem_toArray, List.getElem_cons_zero, List.getElem_cons_succ]
                  refine owp_storeTri _ _ _ _ rfl rfl rfl q1 ?_
                  clear q1
                  intro w10 q1 hc10 hz10
                  replace hz10 := Nat.le_of_eq hz10.symm
                  replace t1 := t1.of_eq (hc10.block _ t1.lt (by omega))
                  replace p1 := p1.of_eq (hc10.block _ p1.lt (by omega))
                  replace a1 := a1.of_eq (hc10.block _ a1.lt (by omega))
                  refine hK _ _ ?_
                  simp only [Act.put, List.setIfInBounds_toArray, List.set_cons_zero, List.set_cons_succ]
                  clear hK K
                  refine wpAny_done (by kernel_rfl) ?_ _
                  go_wp2_with fail
                  go_meet
                  exact ⟨_, rfl, q1, by repeat' (first | (with_reducible exact Below.refl _ _) | (with_reducible assumption) | (with_reducible refine Below.trans ?_ (hb8.mono (by omega))) | (with_reducible refine Below.trans ?_ (hb9.mono (by omega))) | (with_reducible refine Chg.below ?_ hc10 (by omega) (by omega))), by omega, t1, p1, a1⟩
                exact AllReady.nil
              exact AllReady.nil
            exact AllReady.nil
          exact AllReady.nil
        refine AllReady.cons rfl (fun K hK => ite_of rfl ?_) ?_
        · simp only [List.getElem_toArray, List.getElem_cons_zero, List.getElem_cons_succ]
          refine owp_buildT rfl ?_
          refine hK _ _ ?_
          simp only [Act.put, List.setIfInBounds_toArray, List.set_cons_zero, List.set_cons_succ]
          clear hK K
          refine wpAny_ready (rs := [0, 2]) (by kernel_rfl) (by simp) ?_
          refine AllReady.cons rfl (fun K hK => ite_of rfl ?_) ?_
          · simp only [List.getElem_toArray, List.getElem_cons_zero, List.getElem_cons_succ]
            refine owp_loadT _ _ rfl rfl t1 ?_
            refine hK _ _ ?_
            simp only [Act.put, List.setIfInBounds_toArray, List.set_cons_zero, List.set_cons_succ]
            clear hK K
            refine wpAny_ready (rs := [2]) (by kernel_rfl) (by simp) ?_
            refine AllReady.cons rfl (fun K hK => ite_of rfl ?_) ?_
            · simp only [List.getElem_toArray, List.getElem_cons_zero, List.getElem_cons_succ]
              go_simp
              go_at_call 18
              refine (R_Fill _ _).mono ?_
              rintro e w9 ⟨rfl, hb9⟩
              have hz9 := hb9.size
              replace t1 := t1.of_eq (hb9.block _ t1.lt)
              replace p1 := p1.of_eq (hb9.block _ p1.lt)
              replace a1 := a1.of_eq (hb9.block _ a1.lt)
              replace q1 := q1.of_eq (hb9.block _ q1.lt)
              refine hK _ _ ?_
              clear hK K
              refine wpAny_ready (rs := [4]) (by kernel_rfl) (by simp) ?_
              refine AllReady.cons rfl (fun K hK => ite_of rfl ?_) ?_
              · simp only [List.getElem_toArray, List.getElem_cons_zero, List.getElem_cons_succ]
                refine owp_buildTri _ _ _ rfl _ _ _ rfl rfl rfl ?_
                refine hK _ _ ?_
                simp only [Act.put, List.setIfInBounds_toArray, List.set_cons_zero, List.set_cons_succ]
                clear hK K
                refine wpAny_ready (rs := [6]) (by kernel_rfl) (by simp) ?_
                refine AllReady.cons rfl (fun K hK => ite_of rfl ?_) ?_
                · simp only [List.getElem_toArray, List.getElem_cons_zero, List.getElem_cons_succ]
                  refine owp_storeTri _ _ _ _ rfl rfl rfl q1 ?_
                  clear q1
                  intro w10 q1 hc10 hz10
                  replace hz10 := Nat.le_of_eq hz10.symm
                  replace t1 := t1.of_eq (hc10.block _ t1.lt (by omega))
                  replace p1 := p1.of_eq (hc10.block _ p1.lt (by omega))
                  replace a1 := a1.of_eq (hc10.block _ a1.lt (by omega))
                  refine hK _ _ ?_
                  simp only [Act.put, List.setIfInBounds_toArray, List.set_cons_zero, List.set_cons_succ]
                  clear hK K
                  refine wpAny_done (by kernel_rfl) ?_ _
                  go_wp2_with fail
                  go_meet
                  exact ⟨_, rfl, q1, by repeat' (first | (with_reducible exact Below.refl _ _) | (with_reducible assumption) | (with_reducible refine Below.trans ?_ (hb8.mono (by omega))) | (with_reducible refine Below.trans ?_ (hb9.mono (by omega))) | (with_reducible refine Chg.below ?_ hc10 (by omega) (by omega))), by omega, t1, p1, a1⟩
                exact AllReady.nil
              exact AllReady.nil
            exact AllReady.nil
          refine AllReady.cons rfl (fun K hK => ite_of rfl ?_) ?_
          · simp only [List.getElem_toArray, List.getElem_cons_zero, List.getElem_cons_succ]
            go_simp
            go_at_call 18
            refine (R_Fill _ _).mono ?_
            rintro e w9 ⟨rfl, hb9⟩
            have hz9 := hb9.size
            replace t1 := t1.of_eq (hb9.block _ t1.lt)
            replace p1 := p1.of_eq (hb9.block _ p1.lt)
            replace a1 := a1.of_eq (hb9.block _ a1.lt)
            replace q1 := q1.of_eq (hb9.block _ q1.lt)
            refine hK _ _ ?_
            clear hK K
            refine wpAny_ready (rs := [0]) (by kernel_rfl) (by simp) ?_
            refine AllReady.cons rfl (fun K hK => ite_of rfl ?_) ?_
            · simp only [List.getElem_toArray, List.getElem_cons_zero, List.getElem_cons_succ]
              refine owp_loadT _ _ rfl rfl t1 ?_
              refine hK _ _ ?_
              simp only [Act.put, List.setIfInBounds_toArray, List.set_cons_zero, List.set_cons_succ]
              clear hK K
              refine wpAny_ready (rs := [4]) (by kernel_rfl) (by simp) ?_
              refine AllReady.cons rfl (fun K hK => ite_of rfl ?_) ?_
              · simp only [List.getElem_toArray, List.getElem_cons_zero, List.getElem_cons_succ]
                refine owp_buildTri _ _ _ rfl _ _ _ rfl rfl rfl ?_
                refine hK _ _ ?_
                simp only [Act.put, List.setIfInBounds_toArray, List.set_cons_zero, List.set_cons_succ]
                clear hK K
                refine wpAny_ready (rs := [6]) (by kernel_rfl) (by simp) ?_
                refine AllReady.cons rfl (fun K hK => ite_of rfl ?_) ?_
                · simp only [List.getElem_toArray, List.getElem_cons_zero, List.getElem_cons_succ]
                  refine owp_storeTri _ _ _ _ rfl rfl rfl q1 ?_
                  clear q1
                  intro w10 q1 hc10 hz10
                  replace hz10 := Nat.le_of_eq hz10.symm
                  replace t1 := t1.of_eq (hc10.block _ t1.lt (by omega))
                  replace p1 := p1.of_eq (hc10.block _ p1.lt (by omega))
                  replace a1 := a1.of_eq (hc10.block _ a1.lt (by omega))
                  refine hK _ _ ?_
                  simp only [Act.put, List.setIfInBounds_toArray, List.set_cons_zero, List.set_cons_succ]
                  clear hK K
                  refine wpAny_done (by kernel_rfl) ?_ _
                  go_wp2_with fail
                  go_meet
                  exact ⟨_, rfl, q1, by repeat' (first | (with_reducible exact Below.refl _ _) | (with_reducible assumption) | (with_reducible refine Below.trans ?_ (hb8.mono (by omega))) | (with_reducible refine Below.trans ?_ (hb9.mono (by omega))) | (with_reducible refine Chg.below ?_ hc10 (by omega) (by omega))), by omega, t1, p1, a1⟩
                exact AllReady.nil
              exact AllReady.nil
            exact AllReady.nil
          exact AllReady.nil
        exact AllReady.nil
      refine AllReady.cons rfl (fun K hK => ite_of rfl ?_) ?_
      · simp only [List.getElem_toArray, List.getElem_cons_zero, List.getElem_cons_succ]
        refine owp_buildT rfl ?_
        refine hK _ _ ?_
        simp only [Act.put, List.setIfInBounds_toArray, List.set_cons_zero, List.set_cons_succ]
        clear hK K
        refine wpAny_ready (rs := [0, 1]) (by kernel_rfl) (by simp) ?_
        refine AllReady.cons rfl (fun K hK => ite_of rfl ?_) ?_
        · simp only [List.getElem_toArray, List.getElem_cons_zero, List.getElem_cons_succ]
          refine owp_loadT _ _ rfl rfl t1 ?_
          refine hK _ _ ?_
          simp only [Act.put, List.setIfInBounds_toArray, List.set_cons_zero, List.set_cons_succ]
          clear hK K
          refine wpAny_ready (rs := [1]) (by kernel_rfl) (by simp) ?_
          refine AllReady.cons rfl (fun K hK => ite_of rfl ?_) ?_
          · simp only [List.getElem_toArray, List.getElem_cons_zero, List.getElem_cons_succ]
            refine owp_loadPx _ _ rfl rfl p1 ?_
            refine hK _ _ ?_
            simp only [Act.put, List.setIfInBounds_toArray, List.set_cons_zero, List.set_cons_succ]
            clear hK K
            refine wpAny_ready (rs := [2]) (by kernel_rfl) (by simp) ?_
            refine AllReady.cons rfl (fun K hK => ite_of rfl ?_) ?_
            · simp only [List.getElem_toArray, List.getElem_cons_zero, List.getElem_cons_succ]
              go_simp
              go_at_call 18
              refine (R_Fill _ _).mono ?_
              rintro e w9 ⟨rfl, hb9⟩
              have hz9 := hb9.size
              replace t1 := t1.of_eq (hb9.block _ t1.lt)
              replace p1 := p1.of_eq (hb9.block _ p1.lt)
              replace a1 := a1.of_eq (hb9.block _ a1.lt)
              replace q1 := q1.of_eq (hb9.block _ q1.lt)
              refine hK _ _ ?_
              clear hK K
              refine wpAny_ready (rs := [4]) (by kernel_rfl) (by simp) ?_
              refine AllReady.cons rfl (fun K hK => ite_of rfl ?_) ?_
              · simp only [List.getElem_toArray, List.getElem_cons_zero, List.getElem_cons_succ]
                refine owp_buildTri _ _ _ rfl _ _ _ rfl rfl rfl ?_
                refine hK _ _ ?_
                simp only [Act.put, List.setIfInBounds_toArray, List.set_cons_zero, List.set_cons_succ]
                clear hK K
                refine wpAny_ready (rs := [6]) (by kernel_rfl) (by simp) ?_
                refine AllReady.cons rfl (fun K hK => ite_of rfl ?_) ?_
                · simp only [List.getElem_toArray, List.getElem_cons_zero, List.getElem_cons_succ]
                  refine owp_storeTri _ _ _ _ rfl rfl rfl q1 ?_
                  clear q1
                  intro w10 q1 hc10 hz10
                  replace hz10 := Nat.le_of_eq hz10.symm
                  replace t1 := t1.of_eq (hc10.block _ t1.lt (by omega))
                  replace p1 := p1.of_eq (hc10.block _ p1.lt (by omega))
                  replace a1 := a1.of_eq (hc10.block _ a1.lt (by omega))
                  refine hK _ _ ?_
                  simp only [Act.put, List.setIfInBounds_toArray, List.set_cons_zero, List.set_cons_succ]
                  clear hK K
                  refine wpAny_done (by kernel_rfl) ?_ _
                  go_wp2_with fail
                  go_meet
                  exact ⟨_, rfl, q1, by repeat' (first | (with_reducible exact Below.refl _ _) | (with_reducible assumption) | (with_reducible refine Below.trans ?_ (hb8.mono (by omega))) | (with_reducible refine Below.trans ?_ (hb9.mono (by omega))) | (with_reducible refine Chg.below ?_ hc10 (by omega) (by omega))), by omega, t1, p1, a1⟩
                exact AllReady.nil
              exact AllReady.nil
            exact AllReady.nil
          exact AllReady.nil
        refine AllReady.cons rfl (fun K hK => ite_of rfl ?_) ?_
        · simp only [List.getElem_toArray, List.getElem_cons_zero, List.getElem_cons_succ]
          refine owp_loadPx _ _ rfl rfl p1 ?_
          refine hK _ _ ?_
          simp only [Act.put, List.setIfInBounds_toArray, List.set_cons_zero, List.set_cons_succ]
          clear hK K
          refine wpAny_ready (rs := [0, 2]) (by kernel_rfl) (by simp) ?_
          refine AllReady.cons rfl (fun K hK => ite_of rfl ?_) ?_
          · simp only [List.getElem_toArray, List.getElem_cons_zero, List.getElem_cons_succ]
            refine owp_loadT _ _ rfl rfl t1 ?_
            refine hK _ _ ?_
            simp only [Act.put, List.setIfInBounds_toArray, List.set_cons_zero, List.set_cons_succ]
            clear hK K
            refine wpAny_ready (rs := [2]) (by kernel_rfl) (by simp) ?_
            refine AllReady.cons rfl (fun K hK => ite_of rfl ?_) ?_
            · simp only [List.getElem_toArray, List.getElem_cons_zero, List.getElem_cons_succ]
              go_simp
              go_at_call 18
              refine (R_Fill _ _).mono ?_
              rintro e w9 ⟨rfl, hb9⟩
              have hz9 := hb9.size
              replace t1 := t1.of_eq (hb9.block _ t1.lt)
              replace p1 := p1.of_eq (hb9.block _ p1.lt)
              replace a1 := a1.of_eq (hb9.block _ a1.lt)
              replace q1 := q1.of_eq (hb9.block _ q1.lt)
              refine hK _ _ ?_
              clear hK K
              refine wpAny_ready (rs := [4]) (by kernel_rfl) (by simp) ?_
              refine AllReady.cons rfl (fun K hK => ite_of rfl ?_) ?_
              · simp only [List.getElem_toArray, List.getElem_cons_zero, List.getElem_cons_succ]
                refine owp_buildTri _ _ _ rfl _ _ _ rfl rfl rfl ?_
                refine hK _ _ ?_
                simp only [Act.put, List.setIfInBounds_toArray, List.set_cons_zero, List.set_cons_succ]
                clear hK K
                refine wpAny_ready (rs := [6]) (by kernel_rfl) (by simp) ?_
                refine AllReady.cons rfl (fun K hK => ite_of rfl ?_) ?_
                · simp only [List.getElem_toArray, List.getElem_cons_zero, List.getElem_cons_succ]
                  refine owp_storeTri _ _ _ _ rfl rfl rfl q1 ?_
                  clear q1
                  intro w10 q1 hc10 hz10
                  replace hz10 := Nat.le_of_eq hz10.symm
                  replace t1 := t1.of_eq (hc10.block _ t1.lt (by omega))
                  replace p1 := p1.of_eq (hc10.block _ p1.lt (by omega))
                  replace a1 := a1.of_eq (hc10.block _ a1.lt (by omega))
                  refine hK _ _ ?_
                  simp only [Act.put, List.setIfInBounds_toArray, List.set_cons_zero, List.set_cons_succ]
                  clear hK K
                  refine wpAny_done (by kernel_rfl) ?_ _
                  go_wp2_with fail
                  go_meet
                  exact ⟨_, rfl, q1, by repeat' (first | (with_reducible exact Below.refl _ _) | (with_reducible assumption) | (with_reducible refine Below.trans ?_ (hb8.mono (by omega))) | (with_reducible refine Below.trans ?_ (hb9.mono (by omega))) | (with_reducible refine Chg.below ?_ hc10 (by omega) (by omega))), by omega, t1, p1, a1⟩
                exact AllReady.nil
              exact AllReady.nil
            exact AllReady.nil
          refine AllReady.cons rfl (fun K hK => ite_of rfl ?_) ?_
          · simp only [List.getElem_toArray, List.getElem_cons_zero, List.getElem_cons_succ]
            go_simp
            go_at_call 18
            refine (R_Fill _ _).mono ?_
            rintro e w9 ⟨rfl, hb9⟩
            have hz9 := hb9.size
            replace t1 := t1.of_eq (hb9.block _ t1.lt)
            replace p1 := p1.of_eq (hb9.block _ p1.lt)
            replace a1 := a1.of_eq (hb9.block _ a1.lt)
            replace q1 := q1.of_eq (hb9.block _ q1.lt)
            refine hK _ _ ?_
            clear hK K
            refine wpAny_ready (rs := [0]) (by kernel_rfl) (by simp) ?_
            refine AllReady.cons rfl (fun K hK => ite_of rfl ?_) ?_
            · simp only [List.getElem_toArray, List.getElem_cons_zero, List.getElem_cons_succ]
              refine owp_loadT _ _ rfl rfl t1 ?_
              refine hK _ _ ?_
              simp only [Act.put, List.setIfInBounds_toArray, List.set_cons_zero, List.set_cons_succ]
              clear hK K
              refine wpAny_ready (rs := [4]) (by kernel_rfl) (by simp) ?_
              refine AllReady.cons rfl (fun K hK => ite_of rfl ?_) ?_
              · simp only [List.getElem_toArray, List.getElem_cons_zero, List.getElem_cons_succ]
                refine owp_buildTri _ _ _ rfl _ _ _ rfl rfl rfl ?_
                refine hK _ _ ?_
                simp only [Act.put, List.setIfInBounds_toArray, List.set_cons_zero, List.set_cons_succ]
                clear hK K
                refine wpAny_ready (rs := [6]) (by kernel_rfl) (by simp) ?_
                refine AllReady.cons rfl (fun K hK => ite_of rfl ?_) ?_
                · simp only [List.getElem_toArray, List.getElem_cons_zero, List.getElem_cons_succ]
                  refine owp_storeTri _ _ _ _ rfl rfl rfl q1 ?_
                  clear q1
                  intro w10 q1 hc10 hz10
                  replace hz10 := Nat.le_of_eq hz10.symm
                  replace t1 := t1.of_eq (hc10.block _ t1.lt (by omega))
                  replace p1 := p1.of_eq (hc10.block _ p1.lt (by omega))
                  replace a1 := a1.of_eq (hc10.block _ a1.lt (by omega))
                  refine hK _ _ ?_
                  simp only [Act.put, List.setIfInBounds_toArray, List.set_cons_zero, List.set_cons_succ]
                  clear hK K
                  refine wpAny_done (by kernel_rfl) ?_ _
                  go_wp2_with fail
                  go_meet
                  exact ⟨_, rfl, q1, by repeat' (first | (with_reducible exact Below.refl _ _) | (with_reducible assumption) | (with_reducible refine Below.trans ?_ (hb8.mono (by omega))) | (with_reducible refine Below.trans ?_ (hb9.mono (by omega))) | (with_reducible refine Chg.below ?_ hc10 (by omega) (by omega))), by omega, t1, p1, a1⟩
                exact AllReady.nil
              exact AllReady.nil
            exact AllReady.nil
          exact AllReady.nil
        exact AllReady.nil
      exact AllReady.nil
    exact AllReady.nil
  case rest =>
    clear B t1 p1 a1
    obtain ⟨b_q1, rfl, q1, B, hsz2, t1, p1, a1⟩ := hcut
    go_wp2
    go_loopw [9, 10, 11, 12, 13, 14, 15] (fun i _ _ _ _ _ _ wr => ∃ k : Nat, k ≤ 3 ∧ i = .int .i64 k ∧ Below w.heap.size w wr ∧ TileAt wr b_t1 t ∧ PixAt wr b_p1 p ∧ PairAt wr b_a1 x y ∧ TriAt wr b_q1 (tri t (fillT p) (fun _ => Px.zero))) (fun i _ _ _ _ _ _ _ => (3 - intOf i).toNat)
    case atStart => exact ⟨0, by omega, rfl, B, t1, p1, a1, q1⟩
    case round =>
      clear B t1 p1 a1 q1
      obtain ⟨k, hk3, rfl, B, t1, p1, a1, q1⟩ := hrel
      by_cases hlt : k < 3
      · have hok := Lib.hid (htri.out k)
        have hc1 := neq_tile_same
        have hc2 := neq_px_same
        go_upto_region 10 with (first | (refine wpList_storeI2 rfl _ _ rfl _ rfl _ _ rfl n1 ?_; clear n1; intro wn ht hcn hzn; have hsz := B.size; replace hzn := Nat.le_of_eq hzn.symm; replace B := Chg.below B hcn (by omega) B.size; (try replace t1 := t1.of_eq (hcn.block _ t1.lt (by omega))); (try replace p1 := p1.of_eq (hcn.block _ p1.lt (by omega))); (try replace a1 := a1.of_eq (hcn.block _ a1.lt (by omega))); (try replace q1 := q1.of_eq (hcn.block _ q1.lt (by omega))); (try replace u1 := u1.of_eq (hcn.block _ u1.lt (by omega))); (try replace s1 := s1.of_eq (hcn.block _ s1.lt (by omega))); (try replace s2 := s2.of_eq (hcn.block _ s2.lt (by omega))); have n1 := ht; clear ht; simp only [Act.put, List.setIfInBounds_toArray, List.set_cons_zero, List.set_cons_succ]) | (have _ := s2; refine wpList_allocI2' rfl rfl ?_; intro b_n1 wn hle hge ht hbn hzn; have hsz := B.size; replace B := B.trans (hbn.mono (by omega)); have hln := Nat.lt_of_lt_of_eq (Nat.lt_succ_self _) hzn.symm; clear hzn; (try (have hlt := t1.lt; replace t1 := t1.of_eq (hbn.block _ (by omega)))); (try (have hlt := p1.lt; replace p1 := p1.of_eq (hbn.block _ (by omega)))); (try (have hlt := a1.lt; replace a1 := a1.of_eq (hbn.block _ (by omega)))); (try (have hlt := q1.lt; replace q1 := q1.of_eq (hbn.block _ (by omega)))); (try (have hlt := u1.lt; replace u1 := u1.of_eq (hbn.block _ (by omega)))); (try (have hlt := s1.lt; replace s1 := s1.of_eq (hbn.block _ (by omega)))); (try (have hlt := s2.lt; replace s2 := s2.of_eq (hbn.block _ (by omega)))); (try (have hlt := n1.lt; replace n1 := n1.of_eq (hbn.block _ (by omega)))); have n1 := ht; clear ht; simp only [Act.put, List.setIfInBounds_toArray, List.set_cons_zero, List.set_cons_succ]) | (refine wpList_buildI2 rfl _ _ rfl _ _ rfl rfl ?_; simp only [Act.put, List.setIfInBounds_toArray, List.set_cons_zero, List.set_cons_succ]) | (refine wpList_loadAny (t := 3) rfl _ rfl _ _ _ rfl (run_load_fst n1) (by rfl) ?_; simp only [Act.put, List.setIfInBounds_toArray, List.set_cons_zero, List.set_cons_succ]) | (refine wpList_loadAny (t := 3) rfl _ rfl _ _ _ rfl (run_load_fst a1) (by rfl) ?_; simp only [Act.put, List.setIfInBounds_toArray, List.set_cons_zero, List.set_cons_succ]) | (refine wpList_loadAny (t := 3) rfl _ rfl _ _ _ rfl (run_load_snd a1) (by rfl) ?_; simp only [Act.put, List.setIfInBounds_toArray, List.set_cons_zero, List.set_cons_succ]) | (refine wpList_storePx rfl _ _ rfl _ rfl (_) rfl s2 ?_; clear s2; intro wn ht hcn hzn; have hsz := B.size; replace hzn := Nat.le_of_eq hzn.symm; replace B := Chg.below B hcn (by omega) B.size; (try replace t1 := t1.of_eq (hcn.block _ t1.lt (by omega))); (try replace p1 := p1.of_eq (hcn.block _ p1.lt (by omega))); (try replace a1 := a1.of_eq (hcn.block _ a1.lt (by omega))); (try replace q1 := q1.of_eq (hcn.block _ q1.lt (by omega))); (try replace u1 := u1.of_eq (hcn.block _ u1.lt (by omega))); (try replace s1 := s1.of_eq (hcn.block _ s1.lt (by omega))); (try replace n1 := n1.of_eq (hcn.block _ n1.lt (by omega))); have s2 := ht; clear ht; simp only [Act.put, List.setIfInBounds_toArray, List.set_cons_zero, List.set_cons_succ]) | (have _ := s1; refine wpList_allocPx' rfl rfl ?_; intro b_s2 wn hle hge ht hbn hzn; have hsz := B.size; replace B := B.trans (hbn.mono (by omega)); have hln := Nat.lt_of_lt_of_eq (Nat.lt_succ_self _) hzn.symm; clear hzn; (try (have hlt := t1.lt; replace t1 := t1.of_eq (hbn.block _ (by omega)))); (try (have hlt := p1.lt; replace p1 := p1.of_eq (hbn.block _ (by omega)))); (try (have hlt := a1.lt; replace a1 := a1.of_eq (hbn.block _ (by omega)))); (try (have hlt := q1.lt; replace q1 := q1.of_eq (hbn.block _ (by omega)))); (try (have hlt := u1.lt; replace u1 := u1.of_eq (hbn.block _ (by omega)))); (try (have hlt := s1.lt; replace s1 := s1.of_eq (hbn.block _ (by omega)))); (try (have hlt := s2.lt; replace s2 := s2.of_eq (hbn.block _ (by omega)))); (try (have hlt := n1.lt; replace n1 := n1.of_eq (hbn.block _ (by omega)))); have s2 := ht; clear ht; simp only [Act.put, List.setIfInBounds_toArray, List.set_cons_zero, List.set_cons_succ]) | (refine wpList_storePx rfl _ _ rfl _ rfl (_) rfl s1 ?_; clear s1; intro wn ht hcn hzn; have hsz := B.size; replace hzn := Nat.le_of_eq hzn.symm; replace B := Chg.below B hcn (by omega) B.size; (try replace t1 := t1.of_eq (hcn.block _ t1.lt (by omega))); (try replace p1 := p1.of_eq (hcn.block _ p1.lt (by omega))); (try replace a1 := a1.of_eq (hcn.block _ a1.lt (by omega))); (try replace q1 := q1.of_eq (hcn.block _ q1.lt (by omega))); (try replace u1 := u1.of_eq (hcn.block _ u1.lt (by omega))); (try replace s2 := s2.of_eq (hcn.block _ s2.lt (by omega))); (try replace n1 := n1.of_eq (hcn.block _ n1.lt (by omega))); have s1 := ht; clear ht; simp only [Act.put, List.setIfInBounds_toArray, List.set_cons_zero, List.set_cons_succ]) | (have _ := u1; refine wpList_allocPx' rfl rfl ?_; intro b_s1 wn hle hge ht hbn hzn; have hsz := B.size; replace B := B.trans (hbn.mono (by omega)); have hln := Nat.lt_of_lt_of_eq (Nat.lt_succ_self _) hzn.symm; clear hzn; (try (have hlt := t1.lt; replace t1 := t1.of_eq (hbn.block _ (by omega)))); (try (have hlt := p1.lt; replace p1 := p1.of_eq (hbn.block _ (by omega)))); (try (have hlt := a1.lt; replace a1 := a1.of_eq (hbn.block _ (by omega)))); (try (have hlt := q1.lt; replace q1 := q1.of_eq (hbn.block _ (by omega)))); (try (have hlt := u1.lt; replace u1 := u1.of_eq (hbn.block _ (by omega)))); (try (have hlt := s1.lt; replace s1 := s1.of_eq (hbn.block _ (by omega)))); (try (have hlt := s2.lt; replace s2 := s2.of_eq (hbn.block _ (by omega)))); (try (have hlt := n1.lt; replace n1 := n1.of_eq (hbn.block _ (by omega)))); have s1 := ht; clear ht; simp only [Act.put, List.setIfInBounds_toArray, List.set_cons_zero, List.set_cons_succ]) | (go_at_call 19; refine (P_Solid _ _).mono ?_; rintro e wn ⟨rfl, hbn⟩; have hsz := B.size; have hzn := hbn.size; replace B := B.trans (hbn.mono B.size); (try replace t1 := t1.of_eq (hbn.block _ t1.lt)); (try replace p1 := p1.of_eq (hbn.block _ p1.lt)); (try replace a1 := a1.of_eq (hbn.block _ a1.lt)); (try replace q1 := q1.of_eq (hbn.block _ q1.lt)); (try replace u1 := u1.of_eq (hbn.block _ u1.lt)); (try replace s1 := s1.of_eq (hbn.block _ s1.lt)); (try replace s2 := s2.of_eq (hbn.block _ s2.lt)); (try replace n1 := n1.of_eq (hbn.block _ n1.lt))) | (go_at_call 20; refine (R_Solid _ _).mono ?_; rintro e wn ⟨rfl, hbn⟩; have hsz := B.size; have hzn := hbn.size; replace B := B.trans (hbn.mono B.size); (try replace t1 := t1.of_eq (hbn.block _ t1.lt)); (try replace p1 := p1.of_eq (hbn.block _ p1.lt)); (try replace a1 := a1.of_eq (hbn.block _ a1.lt)); (try replace q1 := q1.of_eq (hbn.block _ q1.lt)); (try replace u1 := u1.of_eq (hbn.block _ u1.lt)); (try replace s1 := s1.of_eq (hbn.block _ s1.lt)); (try replace s2 := s2.of_eq (hbn.block _ s2.lt)); (try replace n1 := n1.of_eq (hbn.block _ n1.lt))) | (refine wpList_storeT rfl _ _ rfl _ rfl _ rfl u1 ?_; clear u1; intro wn ht hcn hzn; have hsz := B.size; replace hzn := Nat.le_of_eq hzn.symm; replace B := Chg.below B hcn (by omega) B.size; (try replace t1 := t1.of_eq (hcn.block _ t1.lt (by omega))); (try replace p1 := p1.of_eq (hcn.block _ p1.lt (by omega))); (try replace a1 := a1.of_eq (hcn.block _ a1.lt (by omega))); (try replace q1 := q1.of_eq (hcn.block _ q1.lt (by omega))); (try replace s1 := s1.of_eq (hcn.block _ s1.lt (by omega))); (try replace s2 := s2.of_eq (hcn.block _ s2.lt (by omega))); (try replace n1 := n1.of_eq (hcn.block _ n1.lt (by omega))); have u1 := ht; clear ht; simp only [Act.put, List.setIfInBounds_toArray, List.set_cons_zero, List.set_cons_succ]) | (have _ := q1; refine wpList_allocT' rfl rfl ?_; intro b_u1 wn hle hge ht hbn hzn; have hsz := B.size; replace B := B.trans (hbn.mono (by omega)); have hln := Nat.lt_of_lt_of_eq (Nat.lt_succ_self _) hzn.symm; clear hzn; (try (have hlt := t1.lt; replace t1 := t1.of_eq (hbn.block _ (by omega)))); (try (have hlt := p1.lt; replace p1 := p1.of_eq (hbn.block _ (by omega)))); (try (have hlt := a1.lt; replace a1 := a1.of_eq (hbn.block _ (by omega)))); (try (have hlt := q1.lt; replace q1 := q1.of_eq (hbn.block _ (by omega)))); (try (have hlt := u1.lt; replace u1 := u1.of_eq (hbn.block _ (by omega)))); (try (have hlt := s1.lt; replace s1 := s1.of_eq (hbn.block _ (by omega)))); (try (have hlt := s2.lt; replace s2 := s2.of_eq (hbn.block _ (by omega)))); (try (have hlt := n1.lt; replace n1 := n1.of_eq (hbn.block _ (by omega)))); have u1 := ht; clear ht; simp only [Act.put, List.setIfInBounds_toArray, List.set_cons_zero, List.set_cons_succ]) | (refine wpList_loadAny (t := 25) rfl _ rfl _ _ _ rfl (run_load_tri q1 hlt) (by first | rfl | omega) ?_; simp only [Act.put, List.setIfInBounds_toArray, List.set_cons_zero, List.set_cons_succ]) | (refine wpList_loadT rfl _ rfl _ rfl u1 ?_; simp only [Act.put, List.setIfInBounds_toArray, List.set_cons_zero, List.set_cons_succ]))
        refine wp_region_ov (by kernel_rfl) (by kernel_rfl) ?_
        repeat (first | go_big_quiet_skip | (go_big_quiet_want; first | (refine quiet_loadT rfl _ rfl (ov_tile u1) ?_; simp only [Act.put, List.setIfInBounds_toArray, List.set_cons_zero, List.set_cons_succ]; go_big_quiet_on) | (refine quiet_loadPx rfl _ rfl (ov_px s1) ?_; simp only [Act.put, List.setIfInBounds_toArray, List.set_cons_zero, List.set_cons_succ]; go_big_quiet_on) | (refine quiet_loadPx rfl _ rfl (ov_px s2) ?_; simp only [Act.put, List.setIfInBounds_toArray, List.set_cons_zero, List.set_cons_succ]; go_big_quiet_on) | (refine quiet_loadPx rfl _ rfl (ov_px p1) ?_; simp only [Act.put, List.setIfInBounds_toArray, List.set_cons_zero, List.set_cons_succ]; go_big_quiet_on) | (refine quiet_loadAny (t := 3) rfl _ _ _ rfl (fun w hw => run_load_fst (ov_pair a1 w hw)) (by rfl) ?_; simp only [Act.put, List.setIfInBounds_toArray, List.set_cons_zero, List.set_cons_succ]; go_big_quiet_on) | (refine quiet_loadAny (t := 3) rfl _ _ _ rfl (fun w hw => run_load_snd (ov_pair a1 w hw)) (by rfl) ?_; simp only [Act.put, List.setIfInBounds_toArray, List.set_cons_zero, List.set_cons_succ]; go_big_quiet_on) | (refine quiet_loadAny (t := 3) rfl _ _ _ rfl (fun w hw => run_load_fst (ov_pair n1 w hw)) (by rfl) ?_; simp only [Act.put, List.setIfInBounds_toArray, List.set_cons_zero, List.set_cons_succ]; go_big_quiet_on) | (refine quiet_loadAny (t := 3) rfl _ _ _ rfl (fun w hw => run_load_snd (ov_pair n1 w hw)) (by rfl) ?_; simp only [Act.put, List.setIfInBounds_toArray, List.set_cons_zero, List.set_cons_succ]; go_big_quiet_on) | (go_big_quiet_op; first | go_big_quiet_on | go_big_quiet_call ((first | (go_at_call 21; exact calls_ov (P_Zero _ _ hok.out)) | (go_at_call 22; exact calls_ov (R_Zero _ _)) | (go_at_call 17; exact calls_ov (P_Clean_t _ _ hok.out)) | (go_at_call 23; exact calls_ov (R_Clean_t _ _ hok.out)) | (go_at_call 16; exact calls_ov (P_Get _ _ _ _)) | (go_at_call 24; exact calls_ov (R_Get _ _ _ _)))))))
        refine wpQuiet_nil ?_
        intro wn hbn
        have hsz := B.size
        have hzn := hbn.size
        replace B := B.trans (hbn.mono B.size)
        try replace t1 := t1.of_eq (hbn.block _ t1.lt)
        try replace p1 := p1.of_eq (hbn.block _ p1.lt)
        try replace a1 := a1.of_eq (hbn.block _ a1.lt)
        try replace q1 := q1.of_eq (hbn.block _ q1.lt)
        try replace u1 := u1.of_eq (hbn.block _ u1.lt)
        try replace s1 := s1.of_eq (hbn.block _ s1.lt)
        try replace s2 := s2.of_eq (hbn.block _ s2.lt)
        try replace n1 := n1.of_eq (hbn.block _ n1.lt)
        go_wp2
        refine wp_region_ov (by kernel_rfl) (by kernel_rfl) ?_
        repeat (first | go_big_quiet_skip | (go_big_quiet_want; first | (refine quiet_loadT rfl _ rfl (ov_tile u1) ?_; simp only [Act.put, List.setIfInBounds_toArray, List.set_cons_zero, List.set_cons_succ]; go_big_quiet_on) | (refine quiet_loadPx rfl _ rfl (ov_px s1) ?_; simp only [Act.put, List.setIfInBounds_toArray, List.set_cons_zero, List.set_cons_succ]; go_big_quiet_on) | (refine quiet_loadPx rfl _ rfl (ov_px s2) ?_; simp only [Act.put, List.setIfInBounds_toArray, List.set_cons_zero, List.set_cons_succ]; go_big_quiet_on) | (refine quiet_loadPx rfl _ rfl (ov_px p1) ?_; simp only [Act.put, List.setIfInBounds_toArray, List.set_cons_zero, List.set_cons_succ]; go_big_quiet_on) | (refine quiet_loadAny (t := 3) rfl _ _ _ rfl (fun w hw => run_load_fst (ov_pair a1 w hw)) (by rfl) ?_; simp only [Act.put, List.setIfInBounds_toArray, List.set_cons_zero, List.set_cons_succ]; go_big_quiet_on) | (refine quiet_loadAny (t := 3) rfl _ _ _ rfl (fun w hw => run_load_snd (ov_pair a1 w hw)) (by rfl) ?_; simp only [Act.put, List.setIfInBounds_toArray, List.set_cons_zero, List.set_cons_succ]; go_big_quiet_on) | (refine quiet_loadAny (t := 3) rfl _ _ _ rfl (fun w hw => run_load_fst (ov_pair n1 w hw)) (by rfl) ?_; simp only [Act.put, List.setIfInBounds_toArray, List.set_cons_zero, List.set_cons_succ]; go_big_quiet_on) | (refine quiet_loadAny (t := 3) rfl _ _ _ rfl (fun w hw => run_load_snd (ov_pair n1 w hw)) (by rfl) ?_; simp only [Act.put, List.setIfInBounds_toArray, List.set_cons_zero, List.set_cons_succ]; go_big_quiet_on) | (go_big_quiet_op; first | go_big_quiet_on | go_big_quiet_call ((first | (go_at_call 14; exact calls_ov (P_Set _ _ _ _ _)) | (go_at_call 25; exact calls_ov (R_Set _ _ _ _ _)))))))
        refine wpQuiet_nil ?_
        intro wn hbn
        have hsz := B.size
        have hzn := hbn.size
        replace B := B.trans (hbn.mono B.size)
        try replace t1 := t1.of_eq (hbn.block _ t1.lt)
        try replace p1 := p1.of_eq (hbn.block _ p1.lt)
        try replace a1 := a1.of_eq (hbn.block _ a1.lt)
        try replace q1 := q1.of_eq (hbn.block _ q1.lt)
        try replace u1 := u1.of_eq (hbn.block _ u1.lt)
        try replace s1 := s1.of_eq (hbn.block _ s1.lt)
        try replace s2 := s2.of_eq (hbn.block _ s2.lt)
        try replace n1 := n1.of_eq (hbn.block _ n1.lt)
        go_wp2
        go_roundw
        case rel => exact ⟨k + 1, by omega, by go_num, B, t1, p1, a1, q1⟩
        case measure => simp [intOf]; omega
      · obtain rfl : k = 3 := by omega
        have hcmp := eql_tile_same
        go_wp2
        refine wp_region_ov (by kernel_rfl) (by kernel_rfl) ?_
        repeat (first | go_big_quiet_skip | (go_big_quiet_want; first | (refine quiet_loadPx rfl _ rfl (ov_px p1) ?_; simp only [Act.put, List.setIfInBounds_toArray, List.set_cons_zero, List.set_cons_succ]; go_big_quiet_on) | (go_big_quiet_op; first | go_big_quiet_on | go_big_quiet_call ((first | (go_at_call 15; exact calls_ov (P_Fill _ _)) | (go_at_call 18; exact calls_ov (R_Fill _ _)))))))
        refine wpQuiet_nil ?_
        intro wn hbn
        have hsz := B.size
        have hzn := hbn.size
        replace B := B.trans (hbn.mono B.size)
        try replace t1 := t1.of_eq (hbn.block _ t1.lt)
        try replace p1 := p1.of_eq (hbn.block _ p1.lt)
        try replace a1 := a1.of_eq (hbn.block _ a1.lt)
        try replace q1 := q1.of_eq (hbn.block _ q1.lt)
        try replace u1 := u1.of_eq (hbn.block _ u1.lt)
        try replace s1 := s1.of_eq (hbn.block _ s1.lt)
        try replace s2 := s2.of_eq (hbn.block _ s2.lt)
        try replace n1 := n1.of_eq (hbn.block _ n1.lt)
        go_wp2
        go_ret
        exact ⟨rfl, B⟩
namespace tileAccess
open Go.ChangeShapes Go.WideShapes Go.ChangeAt Go.RowKit
open Go.ChangeMaps (open_string shut_string)
set_option maxRecDepth 100000 in
theorem lifted (os : Os) (started : os.Started) (H : Type) (enc : TypeId × Value → H) :
    ReturnsInHanded {} Try.checked os 6 .any (Rows.tileAccessSpec.pre6 enc Try.prog Try.f6 Rows.tileAccessRow.domain false) (Rows.tileAccessSpec.post enc Try.prog Try.f6 false true false false) := by
  refine returnsInHanded_of_change (C := Try.checked) own started (by kernel_rfl) Try.func6
    (ChangeSpec.witness6 (enc := enc) (C := Try.checked) false ⟨#[], #[.agg (Array.replicate 256 (.int .u8 0)), .agg #[.int .u8 0, .int .u8 0, .int .u8 0, .int .u8 0], .agg #[.int .i64 0, .int .i64 0]], []⟩ 8 (by kernel_rfl) (by kernel_rfl) (by kernel_rfl) (by kernel_rfl)) ?_
  intro W base args ds gs before hval0 hW hcnd _
  have hval : ∀ (j : Nat) t v, Try.f6.params[j]? = some t → args[j]? = some v → Value.okWide Try.prog W .any base t v := hval0
  have hW' := hW
  obtain ⟨p, q, hA0, hV, rfl, hfz, hnd⟩ := hW
  have hA : DataW.TrodAll enc Try.prog W 0 (fun _ => true) true Try.f6.params.toList args.toList ds p := hA0
  rw [Try.params6] at hA hval
  obtain ⟨v0, vs0, d0, ds0, p0, q0, hargs, rfl, rfl, h0, r0⟩ := trodAll_cons hA
  obtain ⟨v1, vs1, d1, ds1, p1, q1, rfl, rfl, rfl, h1, r1⟩ := trodAll_cons r0
  obtain ⟨v2, vs2, d2, ds2, p2, q2, rfl, rfl, rfl, h2, r2⟩ := trodAll_cons r1
  obtain ⟨rfl, rfl, rfl⟩ := trodAll_nil r2
  obtain rfl : args = #[v0, v1, v2] := by cases args; simp_all
  obtain ⟨rfl, rfl⟩ := trodVars_none hV
  have k0 := h0
  have lt0 : ∀ x ∈ p0, x.block < W.heap.size := by obtain ⟨m, hm⟩ := k0; exact DataW.trod_lt m _ _ _ hm
  have k1 := h1
  have lt1 : ∀ x ∈ p1, x.block < W.heap.size := by obtain ⟨m, hm⟩ := k1; exact DataW.trod_lt m _ _ _ hm
  have k2 := h2
  have lt2 : ∀ x ∈ p2, x.block < W.heap.size := by obtain ⟨m, hm⟩ := k2; exact DataW.trod_lt m _ _ _ hm
  obtain ⟨a0, rfl, w0⟩ := open_tile (hval 0 25 v0 rfl rfl) h0
  obtain ⟨a1, rfl, w1⟩ := open_px (hval 1 23 v1 rfl rfl) h1
  obtain ⟨a2, b2, rfl, w2⟩ := open_int2 (hval 2 34 v2 rfl rfl) h2
  clear hA0 hval0
  refine (walk_TileAccess a0 a1 a2 b2 w0 w1 W ).mono fun e W' ⟨he, bel⟩ => ?_
  subst he
  exact ⟨_, rfl, _, _, _, [], _, [], hW', trodAll_mk1 (shut_bool Try.underlying4 _), (trodAll_cons_mk (Below.trod laidOut (by kernel_rfl) (of_decide_eq_true (by kernel_rfl)) k0 bel lt0) (trodAll_cons_mk (Below.trod laidOut (by kernel_rfl) (of_decide_eq_true (by kernel_rfl)) k1 bel lt1) (trodAll_cons_mk (Below.trod laidOut (by kernel_rfl) (of_decide_eq_true (by kernel_rfl)) k2 bel lt2) trodAll_mk0))), rfl, bel.frame _, fun h => by cases h⟩
theorem over : Rows.tileAccessRow.holds Try.pinned (OpenSpec.ofChange Rows.tileAccessSpec) :=
  OpenClaim.holds_of_wide 6 Try.f6 rfl rfl rfl rfl rfl rfl rfl ⟨rfl, rfl, rfl, rfl, rfl⟩ rfl rfl rfl rfl rfl (by kernel_rfl) Try.func6 (by kernel_rfl)
    (of_decide_eq_true (by kernel_rfl)) (by unfold Func.isWrapper; first | (rw [if_pos (by decide +kernel)]; kernel_rfl) | (rw [if_neg (by decide +kernel)]; exact ⟨rfl, rfl⟩))
    (fun os started H enc _ => lifted os started H enc)
/-- THE STATEMENT: TileAccess returns true for every input, and its arguments read as they did. -/
theorem proved : Rows.TileAccessSaid := over
end tileAccess

end Go.Proofs.Ytelfkakaaobfcaa
