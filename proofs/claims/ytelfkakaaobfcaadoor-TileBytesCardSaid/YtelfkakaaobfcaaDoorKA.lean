import Derived.Test.YtelfkakaaobfcaaDoorTz
import Derived.Deep.RegionHeld3
import Derived.Deep.CutBlock
import Derived.Deep.DeepCutAuto
import Derived.Test.YtelfkakaaobfcaaDoorTh

/- One operation of a region walked through all its orders. -/
namespace Go.Proofs.YtelfkakaaobfcaaDoor
open Go.RowKit Pl
set_option linter.unusedVariables false
set_option linter.unusedSimpArgs false
set_option maxRecDepth 20000

theorem ite_of {c : Prop} [Decidable c] {p q : Prop} (h : c) (hp : p) : if c then p else q := by rw [if_pos h]; exact hp
section
variable {o : Oper} {a : Act} {w : World} {Q : Exit → Act → World → Prop} {K : Act → World → Prop}
theorem owp_loadPx (x : Operand) (b : Nat) {p : Px} (ho : o.op = .load 23 x) (hx : a.eval x = .pointer (some ⟨b, 0, none⟩)) (ht : PixAt w b p)
    (h : K (a.put o.dst (Px.v p)) w) : o.wp Tryd.prog a w K Q := by
  unfold Oper.wp execOp
  simp only [ho, hx, run_load_px ht, Sem.run_bind, Sem.run_pure, Result.andThen_ok]
  exact h
theorem owp_loadT (x : Operand) (b : Nat) {f : Nat → Px} (ho : o.op = .load 25 x) (hx : a.eval x = .pointer (some ⟨b, 0, none⟩)) (ht : TileAt w b f)
    (h : K (a.put o.dst (Tile.v f)) w) : o.wp Tryd.prog a w K Q := by
  unfold Oper.wp execOp
  simp only [ho, hx, run_load_tile ht, Sem.run_bind, Sem.run_pure, Result.andThen_ok]
  exact h
theorem owp_allocT (ho : o.op = .alloc 25)
    (h : ∀ w', TileAt w' w.heap.size (fun _ => Px.zero) → Below w.heap.size w w' → w'.heap.size = w.heap.size + 1 → K (a.put o.dst (.pointer (some ⟨w.heap.size, 0, none⟩))) w') : o.wp Tryd.prog a w K Q := by
  unfold Oper.wp
  rw [run_alloc_tile w o ho]
  exact h _ (by unfold TileAt; rw [heap_get_alloc, if_pos rfl]) ((Below.refl _ _).alloc (Nat.le_refl _) _) (World.size_alloc _ _)
theorem owp_storeT (x y : Operand) (b : Nat) (g : Nat → Px) {f : Nat → Px} (ho : o.op = .store 25 x y) (hx : a.eval x = .pointer (some ⟨b, 0, none⟩)) (hy : a.eval y = Tile.v g) (ht : TileAt w b f)
    (h : ∀ w', TileAt w' b g → Chg b w w' → w'.heap.size = w.heap.size → K (a.put o.dst undef) w') : o.wp Tryd.prog a w K Q := by
  unfold Oper.wp execOp
  simp only [ho, hx, hy, run_store_tile ht, Sem.run_bind, Sem.run_pure, Result.andThen_ok]
  exact h _ (ht.setRow g) ((Chg.refl b w).setRow _) (size_setRow _ _ _)
theorem quiet_buildPx {C : World → Prop} {K : Act → Prop} (h : o.op = .build 23 #[]) (hk : K (a.put o.dst (Px.v Px.zero))) : o.quiet Tryd.prog a C K :=
  ⟨_, fun w hw => by
    have e : (execOp a.eval o).run Tryd.prog w = .ok (.value (Px.v Px.zero)) w := by
      obtain ⟨d, p, t, ps, af, gd⟩ := o
      simp only at h
      subst h
      kernel_rfl
    unfold Oper.quietAt
    rw [e]
    exact ⟨rfl, rfl⟩, hk⟩
theorem quiet_buildT {C : World → Prop} {K : Act → Prop} (h : o.op = .build 25 #[]) (hk : K (a.put o.dst (Tile.v fun _ => Px.zero))) : o.quiet Tryd.prog a C K :=
  ⟨_, fun w hw => by unfold Oper.quietAt; rw [run_build_tile w o h]; exact ⟨rfl, rfl⟩, hk⟩
theorem PixAt.drew {w : World} {b : Nat} {p : Px} (h : PixAt w b p) : PixAt w.drew b p := h
theorem TileAt.drew {w : World} {b : Nat} {f : Nat → Px} (h : TileAt w b f) : TileAt w.drew b f := h
end
end Go.Proofs.YtelfkakaaobfcaaDoor
/- The sanity check of the tile laws returns true. -/
namespace Go.Proofs.YtelfkakaaobfcaaDoor
open Go.RowKit Pl
set_option linter.unusedVariables false
set_option linter.unusedSimpArgs false
set_option maxRecDepth 20000

def pP : Px := ⟨1, 0, 0, 255⟩
def pQ : Px := ⟨0, 2, 0, 255⟩
def pN : Px := ⟨9, 9, 9, 255⟩
def sanT : Nat → Px := setT (fillT pP) 1 0 pQ
def sanH : Nat → Px := halveT (four (fun _ => Px.zero) (fun _ => Px.zero) (fun _ => Px.zero) (fillT pN))
theorem san1 : getT (flipT sanT) 6 0 = pQ := by decide
theorem san2 : getT (turnT sanT) 7 1 = pQ := by decide
theorem san3 : getT (turnT sanT) 1 0 = pP := by decide
theorem san4 : getT sanH 3 3 = Px.zero := by decide
theorem san5 : getT sanH 4 4 = pN := by decide
theorem sanQ : ∀ s, s < 4 → Tok (four (fun _ => Px.zero) (fun _ => Px.zero) (fun _ => Px.zero) (fillT pN) s) := fun s hs i hi => by
  have h : s = 0 ∨ s = 1 ∨ s = 2 ∨ s = 3 := by omega
  rcases h with rfl | rfl | rfl | rfl
  · show Px.zero.ok; unfold Px.ok Px.zero; simp
  · show Px.zero.ok; unfold Px.ok Px.zero; simp
  · show Px.zero.ok; unfold Px.ok Px.zero; simp
  · show pN.ok; unfold Px.ok pN; simp

set_option maxHeartbeats 4000000 in
set_option maxRecDepth 20000 in
theorem sanity (w : World) : Calls Tryd.prog 5 #[] w fun e w' => e = .returned (.bool true) ∧ Below w.heap.size w w' := by
  go_enter Tryd.func5, Tryd.ntmps5
  go_upto_region 4 with (first | (refine wpList_storePx rfl _ _ rfl _ rfl (pN) rfl p3 ?_; clear p3; intro w6 p3 hc6 hz6; replace hz6 := Nat.le_of_eq hz6.symm; replace p1 := p1.of_eq (hc6.block _ p1.lt (by omega)); replace p2 := p2.of_eq (hc6.block _ p2.lt (by omega)); simp only [Act.put, List.setIfInBounds_toArray, List.set_cons_zero, List.set_cons_succ]) | (refine wpList_allocPx rfl rfl ?_; intro w5 p3 hb5 hz5; have l5 := Nat.lt_of_lt_of_eq (Nat.lt_succ_self _) hz5.symm; clear hz5; replace p1 := p1.of_eq (hb5.block _ p1.lt); replace p2 := p2.of_eq (hb5.block _ p2.lt); simp only [Act.put, List.setIfInBounds_toArray, List.set_cons_zero, List.set_cons_succ]) | (refine wpList_storePx rfl _ _ rfl _ rfl (pQ) rfl p2 ?_; clear p2; intro w4 p2 hc4 hz4; replace hz4 := Nat.le_of_eq hz4.symm; replace p1 := p1.of_eq (hc4.block _ p1.lt (by omega)); simp only [Act.put, List.setIfInBounds_toArray, List.set_cons_zero, List.set_cons_succ]) | (refine wpList_allocPx rfl rfl ?_; intro w3 p2 hb3 hz3; have l3 := Nat.lt_of_lt_of_eq (Nat.lt_succ_self _) hz3.symm; clear hz3; replace p1 := p1.of_eq (hb3.block _ p1.lt); simp only [Act.put, List.setIfInBounds_toArray, List.set_cons_zero, List.set_cons_succ]) | (refine wpList_storePx rfl _ _ rfl _ rfl (pP) rfl p1 ?_; clear p1; intro w2 p1 hc2 hz2; replace hz2 := Nat.le_of_eq hz2.symm; simp only [Act.put, List.setIfInBounds_toArray, List.set_cons_zero, List.set_cons_succ]) | (refine wpList_allocPx rfl rfl ?_; intro w1 p1 hb1 hz1; have l1 := Nat.lt_of_lt_of_eq (Nat.lt_succ_self _) hz1.symm; clear hz1; simp only [Act.put, List.setIfInBounds_toArray, List.set_cons_zero, List.set_cons_succ]))
  have B6 : Below w.heap.size w w6 := by
    repeat' (first | (with_reducible exact Below.refl _ _) | (with_reducible assumption) | (with_reducible refine Below.trans ?_ (hb1.mono (by omega))) | (with_reducible refine Below.trans ?_ (hb3.mono (by omega))) | (with_reducible refine Below.trans ?_ (hb5.mono (by omega))) | (with_reducible refine Chg.below ?_ hc2 (by omega) (by omega)) | (with_reducible refine Chg.below ?_ hc4 (by omega) (by omega)) | (with_reducible refine Chg.below ?_ hc6 (by omega) (by omega)))
  clear hb1 hb3 hb5 hc2 hc4 hc6
  go_cut [4] from 9 to 12 (fun s wx => ∃ b, s = .pointer (some ⟨b, 0, none⟩) ∧ TileAt wx b sanT ∧ Below w.heap.size w wx ∧ w6.heap.size ≤ wx.heap.size ∧ w6.heap.size ≤ b ∧ PixAt wx w.heap.size pP ∧ PixAt wx w2.heap.size pQ ∧ PixAt wx w4.heap.size pN)
  case first =>
    refine wp_region_any (by kernel_rfl) ?_
    change wpAny _ _ _ _ _ _ _ (World.drew _)
    have B7 : Below w.heap.size w w6.drew := B6.drew
    have hz7 : w6.heap.size ≤ w6.drew.heap.size := Nat.le_refl _
    replace p1 := p1.drew
    replace p2 := p2.drew
    replace p3 := p3.drew
    clear B6
    generalize w6.drew = w7 at *
    refine wpAny_ready (rs := [0, 2, 4]) (by kernel_rfl) (by simp) ?_
    refine AllReady.cons rfl (fun K hK => ite_of rfl ?_) ?_
    · simp only [List.getElem_toArray, List.getElem_cons_zero, List.getElem_cons_succ]
      refine owp_loadPx _ _ rfl rfl p1 ?_
      refine hK _ _ ?_
      simp only [Act.put, List.setIfInBounds_toArray, List.set_cons_zero, List.set_cons_succ]
      clear hK K
      refine wpAny_ready (rs := [1, 2, 4]) (by kernel_rfl) (by simp) ?_
      refine AllReady.cons rfl (fun K hK => ite_of rfl ?_) ?_
      · simp only [List.getElem_toArray, List.getElem_cons_zero, List.getElem_cons_succ]
        go_simp
        go_at_call 14
        refine (P_Fill _ _).mono ?_
        rintro e w8 ⟨rfl, hb8⟩
        have hz8 := hb8.size
        replace p1 := p1.of_eq (hb8.block _ p1.lt)
        replace p2 := p2.of_eq (hb8.block _ p2.lt)
        replace p3 := p3.of_eq (hb8.block _ p3.lt)
        refine hK _ _ ?_
        clear hK K
        refine wpAny_ready (rs := [2, 4]) (by kernel_rfl) (by simp) ?_
        refine AllReady.cons rfl (fun K hK => ite_of rfl ?_) ?_
        · simp only [List.getElem_toArray, List.getElem_cons_zero, List.getElem_cons_succ]
          refine owp_loadPx _ _ rfl rfl p2 ?_
          refine hK _ _ ?_
          simp only [Act.put, List.setIfInBounds_toArray, List.set_cons_zero, List.set_cons_succ]
          clear hK K
          refine wpAny_ready (rs := [3, 4]) (by kernel_rfl) (by simp) ?_
          refine AllReady.cons rfl (fun K hK => ite_of rfl ?_) ?_
          · simp only [List.getElem_toArray, List.getElem_cons_zero, List.getElem_cons_succ]
            go_simp
            go_at_call 13
            refine (P_Set _ _ _ _ _).mono ?_
            rintro e w9 ⟨rfl, hb9⟩
            have hz9 := hb9.size
            replace p1 := p1.of_eq (hb9.block _ p1.lt)
            replace p2 := p2.of_eq (hb9.block _ p2.lt)
            replace p3 := p3.of_eq (hb9.block _ p3.lt)
            refine hK _ _ ?_
            clear hK K
            refine wpAny_ready (rs := [4]) (by kernel_rfl) (by simp) ?_
            refine AllReady.cons rfl (fun K hK => ite_of rfl ?_) ?_
            · simp only [List.getElem_toArray, List.getElem_cons_zero, List.getElem_cons_succ]
              refine owp_allocT rfl ?_
              intro w10 t4 hb10 hz10
              have l10 := Nat.lt_of_lt_of_eq (Nat.lt_succ_self _) hz10.symm
              clear hz10
              replace p1 := p1.of_eq (hb10.block _ p1.lt)
              replace p2 := p2.of_eq (hb10.block _ p2.lt)
              replace p3 := p3.of_eq (hb10.block _ p3.lt)
              refine hK _ _ ?_
              simp only [Act.put, List.setIfInBounds_toArray, List.set_cons_zero, List.set_cons_succ]
              clear hK K
              refine wpAny_ready (rs := [5]) (by kernel_rfl) (by simp) ?_
              refine AllReady.cons rfl (fun K hK => ite_of rfl ?_) ?_
              · simp only [List.getElem_toArray, List.getElem_cons_zero, List.getElem_cons_succ]
                refine owp_storeT _ _ _ _ rfl rfl rfl t4 ?_
                clear t4
                intro w11 t4 hc11 hz11
                replace hz11 := Nat.le_of_eq hz11.symm
                replace p1 := p1.of_eq (hc11.block _ p1.lt (by omega))
                replace p2 := p2.of_eq (hc11.block _ p2.lt (by omega))
                replace p3 := p3.of_eq (hc11.block _ p3.lt (by omega))
                refine hK _ _ ?_
                simp only [Act.put, List.setIfInBounds_toArray, List.set_cons_zero, List.set_cons_succ]
                clear hK K
                refine wpAny_done (by kernel_rfl) ?_ _
                go_wp2_with fail
                go_meet
                exact ⟨_, rfl, t4, by repeat' (first | (with_reducible exact Below.refl _ _) | (with_reducible assumption) | (with_reducible refine Below.trans ?_ (hb8.mono (by omega))) | (with_reducible refine Below.trans ?_ (hb9.mono (by omega))) | (with_reducible refine Below.trans ?_ (hb10.mono (by omega))) | (with_reducible refine Chg.below ?_ hc11 (by omega) (by omega))), by omega, by omega, p1, p2, p3⟩
              exact AllReady.nil
            exact AllReady.nil
          refine AllReady.cons rfl (fun K hK => ite_of rfl ?_) ?_
          · simp only [List.getElem_toArray, List.getElem_cons_zero, List.getElem_cons_succ]
            refine owp_allocT rfl ?_
            intro w9 t4 hb9 hz9
            have l9 := Nat.lt_of_lt_of_eq (Nat.lt_succ_self _) hz9.symm
            clear hz9
            replace p1 := p1.of_eq (hb9.block _ p1.lt)
            replace p2 := p2.of_eq (hb9.block _ p2.lt)
            replace p3 := p3.of_eq (hb9.block _ p3.lt)
            refine hK _ _ ?_
            simp only [Act.put, List.setIfInBounds_toArray, List.set_cons_zero, List.set_cons_succ]
            clear hK K
            refine wpAny_ready (rs := [3]) (by kernel_rfl) (by simp) ?_
            refine AllReady.cons rfl (fun K hK => ite_of rfl ?_) ?_
            · simp only [List.getElem_toArray, List.getElem_cons_zero, List.getElem_cons_succ]
              go_simp
              go_at_call 13
              refine (P_Set _ _ _ _ _).mono ?_
              rintro e w10 ⟨rfl, hb10⟩
              have hz10 := hb10.size
              replace p1 := p1.of_eq (hb10.block _ p1.lt)
              replace p2 := p2.of_eq (hb10.block _ p2.lt)
              replace p3 := p3.of_eq (hb10.block _ p3.lt)
              replace t4 := t4.of_eq (hb10.block _ t4.lt)
              refine hK _ _ ?_
              clear hK K
              refine wpAny_ready (rs := [5]) (by kernel_rfl) (by simp) ?_
              refine AllReady.cons rfl (fun K hK => ite_of rfl ?_) ?_
              · simp only [List.getElem_toArray, List.getElem_cons_zero, List.getElem_cons_succ]
                refine owp_storeT _ _ _ _ rfl rfl rfl t4 ?_
                clear t4
                intro w11 t4 hc11 hz11
                replace hz11 := Nat.le_of_eq hz11.symm
                replace p1 := p1.of_eq (hc11.block _ p1.lt (by omega))
                replace p2 := p2.of_eq (hc11.block _ p2.lt (by omega))
                replace p3 := p3.of_eq (hc11.block _ p3.lt (by omega))
                refine hK _ _ ?_
                simp only [Act.put, List.setIfInBounds_toArray, List.set_cons_zero, List.set_cons_succ]
                clear hK K
                refine wpAny_done (by kernel_rfl) ?_ _
                go_wp2_with fail
                go_meet
                exact ⟨_, rfl, t4, by repeat' (first | (with_reducible exact Below.refl _ _) | (with_reducible assumption) | (with_reducible refine Below.trans ?_ (hb8.mono (by omega))) | (with_reducible refine Below.trans ?_ (hb9.mono (by omega))) | (with_reducible refine Below.trans ?_ (hb10.mono (by omega))) | (with_reducible refine Chg.below ?_ hc11 (by omega) (by omega))), by omega, by omega, p1, p2, p3⟩
              exact AllReady.nil
            exact AllReady.nil
          exact AllReady.nil
        refine AllReady.cons rfl (fun K hK => ite_of rfl ?_) ?_
        · simp only [List.getElem_toArray, List.getElem_cons_zero, List.getElem_cons_succ]
          refine owp_allocT rfl ?_
          intro w9 t4 hb9 hz9
          have l9 := Nat.lt_of_lt_of_eq (Nat.lt_succ_self _) hz9.symm
          clear hz9
          replace p1 := p1.of_eq (hb9.block _ p1.lt)
          replace p2 := p2.of_eq (hb9.block _ p2.lt)
          replace p3 := p3.of_eq (hb9.block _ p3.lt)
          refine hK _ _ ?_
          simp only [Act.put, List.setIfInBounds_toArray, List.set_cons_zero, List.set_cons_succ]
          clear hK K
          refine wpAny_ready (rs := [2]) (by kernel_rfl) (by simp) ?_
          refine AllReady.cons rfl (fun K hK => ite_of rfl ?_) ?_
          · simp only [List.getElem_toArray, List.getElem_cons_zero, List.getElem_cons_succ]
            refine owp_loadPx _ _ rfl rfl p2 ?_
            refine hK _ _ ?_
            simp only [Act.put, List.setIfInBounds_toArray, List.set_cons_zero, List.set_cons_succ]
            clear hK K
            refine wpAny_ready (rs := [3]) (by kernel_rfl) (by simp) ?_
            refine AllReady.cons rfl (fun K hK => ite_of rfl ?_) ?_
            · simp only [List.getElem_toArray, List.getElem_cons_zero, List.getElem_cons_succ]
              go_simp
              go_at_call 13
              refine (P_Set _ _ _ _ _).mono ?_
              rintro e w10 ⟨rfl, hb10⟩
              have hz10 := hb10.size
              replace p1 := p1.of_eq (hb10.block _ p1.lt)
              replace p2 := p2.of_eq (hb10.block _ p2.lt)
              replace p3 := p3.of_eq (hb10.block _ p3.lt)
              replace t4 := t4.of_eq (hb10.block _ t4.lt)
              refine hK _ _ ?_
              clear hK K
              refine wpAny_ready (rs := [5]) (by kernel_rfl) (by simp) ?_
              refine AllReady.cons rfl (fun K hK => ite_of rfl ?_) ?_
              · simp only [List.getElem_toArray, List.getElem_cons_zero, List.getElem_cons_succ]
                refine owp_storeT _ _ _ _ rfl rfl rfl t4 ?_
                clear t4
                intro w11 t4 hc11 hz11
                replace hz11 := Nat.le_of_eq hz11.symm
                replace p1 := p1.of_eq (hc11.block _ p1.lt (by omega))
                replace p2 := p2.of_eq (hc11.block _ p2.lt (by omega))
                replace p3 := p3.of_eq (hc11.block _ p3.lt (by omega))
                refine hK _ _ ?_
                simp only [Act.put, List.setIfInBounds_toArray, List.set_cons_zero, List.set_cons_succ]
                clear hK K
                refine wpAny_done (by kernel_rfl) ?_ _
                go_wp2_with fail
                go_meet
                exact ⟨_, rfl, t4, by repeat' (first | (with_reducible exact Below.refl _ _) | (with_reducible assumption) | (with_reducible refine Below.trans ?_ (hb8.mono (by omega))) | (with_reducible refine Below.trans ?_ (hb9.mono (by omega))) | (with_reducible refine Below.trans ?_ (hb10.mono (by omega))) | (with_reducible refine Chg.below ?_ hc11 (by omega) (by omega))), by omega, by omega, p1, p2, p3⟩
              exact AllReady.nil
            exact AllReady.nil
          exact AllReady.nil
        exact AllReady.nil
      refine AllReady.cons rfl (fun K hK => ite_of rfl ?_) ?_
      · simp only [List.getElem_toArray, List.getElem_cons_zero, List.getElem_cons_succ]
        refine owp_loadPx _ _ rfl rfl p2 ?_
        refine hK _ _ ?_
        simp only [Act.put, List.setIfInBounds_toArray, List.set_cons_zero, List.set_cons_succ]
        clear hK K
        refine wpAny_ready (rs := [1, 4]) (by kernel_rfl) (by simp) ?_
        refine AllReady.cons rfl (fun K hK => ite_of rfl ?_) ?_
        · simp only [List.getElem_toArray, List.getElem_cons_zero, List.getElem_cons_succ]
          go_simp
          go_at_call 14
          refine (P_Fill _ _).mono ?_
          rintro e w8 ⟨rfl, hb8⟩
          have hz8 := hb8.size
          replace p1 := p1.of_eq (hb8.block _ p1.lt)
          replace p2 := p2.of_eq (hb8.block _ p2.lt)
          replace p3 := p3.of_eq (hb8.block _ p3.lt)
          refine hK _ _ ?_
          clear hK K
          refine wpAny_ready (rs := [3, 4]) (by kernel_rfl) (by simp) ?_
          refine AllReady.cons rfl (fun K hK => ite_of rfl ?_) ?_
          · simp only [List.getElem_toArray, List.getElem_cons_zero, List.getElem_cons_succ]
            go_simp
            go_at_call 13
            refine (P_Set _ _ _ _ _).mono ?_
            rintro e w9 ⟨rfl, hb9⟩
            have hz9 := hb9.size
            replace p1 := p1.of_eq (hb9.block _ p1.lt)
            replace p2 := p2.of_eq (hb9.block _ p2.lt)
            replace p3 := p3.of_eq (hb9.block _ p3.lt)
            refine hK _ _ ?_
            clear hK K
            refine wpAny_ready (rs := [4]) (by kernel_rfl) (by simp) ?_
            refine AllReady.cons rfl (fun K hK => ite_of rfl ?_) ?_
            · simp only [List.getElem_toArray, List.getElem_cons_zero, List.getElem_cons_succ]
              refine owp_allocT rfl ?_
              intro w10 t4 hb10 hz10
              have l10 := Nat.lt_of_lt_of_eq (Nat.lt_succ_self _) hz10.symm
              clear hz10
              replace p1 := p1.of_eq (hb10.block _ p1.lt)
              replace p2 := p2.of_eq (hb10.block _ p2.lt)
              replace p3 := p3.of_eq (hb10.block _ p3.lt)
              refine hK _ _ ?_
              simp only [Act.put, List.setIfInBounds_toArray, List.set_cons_zero, List.set_cons_succ]
              clear hK K
              refine wpAny_ready (rs := [5]) (by kernel_rfl) (by simp) ?_
              refine AllReady.cons rfl (fun K hK => ite_of rfl ?_) ?_
              · simp only [List.getElem_toArray, List.getElem_cons_zero, List.getElem_cons_succ]
                refine owp_storeT _ _ _ _ rfl rfl rfl t4 ?_
                clear t4
                intro w11 t4 hc11 hz11
                replace hz11 := Nat.le_of_eq hz11.symm
                replace p1 := p1.of_eq (hc11.block _ p1.lt (by omega))
                replace p2 := p2.of_eq (hc11.block _ p2.lt (by omega))
                replace p3 := p3.of_eq (hc11.block _ p3.lt (by omega))
                refine hK _ _ ?_
                simp only [Act.put, List.setIfInBounds_toArray, List.set_cons_zero, List.set_cons_succ]
                clear hK K
                refine wpAny_done (by kernel_rfl) ?_ _
                go_wp2_with fail
                go_meet
                exact ⟨_, rfl, t4, by repeat' (first | (with_reducible exact Below.refl _ _) | (with_reducible assumption) | (with_reducible refine Below.trans ?_ (hb8.mono (by omega))) | (with_reducible refine Below.trans ?_ (hb9.mono (by omega))) | (with_reducible refine Below.trans ?_ (hb10.mono (by omega))) | (with_reducible refine Chg.below ?_ hc11 (by omega) (by omega))), by omega, by omega, p1, p2, p3⟩
              exact AllReady.nil
            exact AllReady.nil
          refine AllReady.cons rfl (fun K hK => ite_of rfl ?_) ?_
          · simp only [List.getElem_toArray, List.getElem_cons_zero, List.getElem_cons_succ]
            refine owp_allocT rfl ?_
            intro w9 t4 hb9 hz9
            have l9 := Nat.lt_of_lt_of_eq (Nat.lt_succ_self _) hz9.symm
            clear hz9
            replace p1 := p1.of_eq (hb9.block _ p1.lt)
            replace p2 := p2.of_eq (hb9.block _ p2.lt)
            replace p3 := p3.of_eq (hb9.block _ p3.lt)
            refine hK _ _ ?_
            simp only [Act.put, List.setIfInBounds_toArray, List.set_cons_zero, List.set_cons_succ]
            clear hK K
            refine wpAny_ready (rs := [3]) (by kernel_rfl) (by simp) ?_
            refine AllReady.cons rfl (fun K hK => ite_of rfl ?_) ?_
            · simp only [List.getElem_toArray, List.getElem_cons_zero, List.getElem_cons_succ]
              go_simp
              go_at_call 13
              refine (P_Set _ _ _ _ _).mono ?_
              rintro e w10 ⟨rfl, hb10⟩
              have hz10 := hb10.size
              replace p1 := p1.of_eq (hb10.block _ p1.lt)
              replace p2 := p2.of_eq (hb10.block _ p2.lt)
              replace p3 := p3.of_eq (hb10.block _ p3.lt)
              replace t4 := t4.of_eq (hb10.block _ t4.lt)
              refine hK _ _ ?_
              clear hK K
              refine wpAny_ready (rs := [5]) (by kernel_rfl) (by simp) ?_
              refine AllReady.cons rfl (fun K hK => ite_of rfl ?_) ?_
              · simp only [List.getElem_toArray, List.getElem_cons_zero, List.getElem_cons_succ]
                refine owp_storeT _ _ _ _ rfl rfl rfl t4 ?_
                clear t4
                intro w11 t4 hc11 hz11
                replace hz11 := Nat.le_of_eq hz11.symm
                replace p1 := p1.of_eq (hc11.block _ p1.lt (by omega))
                replace p2 := p2.of_eq (hc11.block _ p2.lt (by omega))
                replace p3 := p3.of_eq (hc11.block _ p3.lt (by omega))
                refine hK _ _ ?_
                simp only [Act.put, List.setIfInBounds_toArray, List.set_cons_zero, List.set_cons_succ]
                clear hK K
                refine wpAny_done (by kernel_rfl) ?_ _
                go_wp2_with fail
                go_meet
                exact ⟨_, rfl, t4, by repeat' (first | (with_reducible exact Below.refl _ _) | (with_reducible assumption) | (with_reducible refine Below.trans ?_ (hb8.mono (by omega))) | (with_reducible refine Below.trans ?_ (hb9.mono (by omega))) | (with_reducible refine Below.trans ?_ (hb10.mono (by omega))) | (with_reducible refine Chg.below ?_ hc11 (by omega) (by omega))), by omega, by omega, p1, p2, p3⟩
              exact AllReady.nil
            exact AllReady.nil
          exact AllReady.nil
        refine AllReady.cons rfl (fun K hK => ite_of rfl ?_) ?_
        · simp only [List.getElem_toArray, List.getElem_cons_zero, List.getElem_cons_succ]
          refine owp_allocT rfl ?_
          intro w8 t4 hb8 hz8
          have l8 := Nat.lt_of_lt_of_eq (Nat.lt_succ_self _) hz8.symm
          clear hz8
          replace p1 := p1.of_eq (hb8.block _ p1.lt)
          replace p2 := p2.of_eq (hb8.block _ p2.lt)
          replace p3 := p3.of_eq (hb8.block _ p3.lt)
          refine hK _ _ ?_
          simp only [Act.put, List.setIfInBounds_toArray, List.set_cons_zero, List.set_cons_succ]
          clear hK K
          refine wpAny_ready (rs := [1]) (by kernel_rfl) (by simp) ?_
          refine AllReady.cons rfl (fun K hK => ite_of rfl ?_) ?_
          · simp only [List.getElem_toArray, List.getElem_cons_zero, List.getElem_cons_succ]
            go_simp
            go_at_call 14
            refine (P_Fill _ _).mono ?_
            rintro e w9 ⟨rfl, hb9⟩
            have hz9 := hb9.size
            replace p1 := p1.of_eq (hb9.block _ p1.lt)
            replace p2 := p2.of_eq (hb9.block _ p2.lt)
            replace p3 := p3.of_eq (hb9.block _ p3.lt)
            replace t4 := t4.of_eq (hb9.block _ t4.lt)
            refine hK _ _ ?_
            clear hK K
            refine wpAny_ready (rs := [3]) (by kernel_rfl) (by simp) ?_
            refine AllReady.cons rfl (fun K hK => ite_of rfl ?_) ?_
            · simp only [List.getElem_toArray, List.getElem_cons_zero, List.getElem_cons_succ]
              go_simp
              go_at_call 13
              refine (P_Set _ _ _ _ _).mono ?_
              rintro e w10 ⟨rfl, hb10⟩
              have hz10 := hb10.size
              replace p1 := p1.of_eq (hb10.block _ p1.lt)
              replace p2 := p2.of_eq (hb10.block _ p2.lt)
              replace p3 := p3.of_eq (hb10.block _ p3.lt)
              replace t4 := t4.of_eq (hb10.block _ t4.lt)
              refine hK _ _ ?_
              clear hK K
              refine wpAny_ready (rs := [5]) (by kernel_rfl) (by simp) ?_
              refine AllReady.cons rfl (fun K hK => ite_of rfl ?_) ?_
              · simp only [List.getElem_toArray, List.getElem_cons_zero, List.getElem_cons_succ]
                refine owp_storeT _ _ _ _ rfl rfl rfl t4 ?_
                clear t4
                intro w11 t4 hc11 hz11
                replace hz11 := Nat.le_of_eq hz11.symm
                replace p1 := p1.of_eq (hc11.block _ p1.lt (by omega))
                replace p2 := p2.of_eq (hc11.block _ p2.lt (by omega))
                replace p3 := p3.of_eq (hc11.block _ p3.lt (by omega))
                refine hK _ _ ?_
                simp only [Act.put, List.setIfInBounds_toArray, List.set_cons_zero, List.set_cons_succ]
                clear hK K
                refine wpAny_done (by kernel_rfl) ?_ _
                go_wp2_with fail
                go_meet
                exact ⟨_, rfl, t4, by repeat' (first | (with_reducible exact Below.refl _ _) | (with_reducible assumption) | (with_reducible refine Below.trans ?_ (hb8.mono (by omega))) | (with_reducible refine Below.trans ?_ (hb9.mono (by omega))) | (with_reducible refine Below.trans ?_ (hb10.mono (by omega))) | (with_reducible refine Chg.below ?_ hc11 (by omega) (by omega))), by omega, by omega, p1, p2, p3⟩
              exact AllReady.nil
            exact AllReady.nil
          exact AllReady.nil
        exact AllReady.nil
      refine AllReady.cons rfl (fun K hK => ite_of rfl ?_) ?_
      · simp only [List.getElem_toArray, List.getElem_cons_zero, List.getElem_cons_succ]
        refine owp_allocT rfl ?_
        intro w8 t4 hb8 hz8
        have l8 := Nat.lt_of_lt_of_eq (Nat.lt_succ_self _) hz8.symm
        clear hz8
        replace p1 := p1.of_eq (hb8.block _ p1.lt)
        replace p2 := p2.of_eq (hb8.block _ p2.lt)
        replace p3 := p3.of_eq (hb8.block _ p3.lt)
        refine hK _ _ ?_
        simp only [Act.put, List.setIfInBounds_toArray, List.set_cons_zero, List.set_cons_succ]
        clear hK K
        refine wpAny_ready (rs := [1, 2]) (by kernel_rfl) (by simp) ?_
        refine AllReady.cons rfl (fun K hK => ite_of rfl ?_) ?_
        · simp only [List.getElem_toArray, List.getElem_cons_zero, List.getElem_cons_succ]
          go_simp
          go_at_call 14
          refine (P_Fill _ _).mono ?_
          rintro e w9 ⟨rfl, hb9⟩
          have hz9 := hb9.size
          replace p1 := p1.of_eq (hb9.block _ p1.lt)
          replace p2 := p2.of_eq (hb9.block _ p2.lt)
          replace p3 := p3.of_eq (hb9.block _ p3.lt)
          replace t4 := t4.of_eq (hb9.block _ t4.lt)
          refine hK _ _ ?_
          clear hK K
          refine wpAny_ready (rs := [2]) (by kernel_rfl) (by simp) ?_
          refine AllReady.cons rfl (fun K hK => ite_of rfl ?_) ?_
          · simp only [List.getElem_toArray, List.getElem_cons_zero, List.getElem_cons_succ]
            refine owp_loadPx _ _ rfl rfl p2 ?_
            refine hK _ _ ?_
            simp only [Act.put, List.setIfInBounds_toArray, List.set_cons_zero, List.set_cons_succ]
            clear hK K
            refine wpAny_ready (rs := [3]) (by kernel_rfl) (by simp) ?_
            refine AllReady.cons rfl (fun K hK => ite_of rfl ?_) ?_
            · simp only [List.getElem_toArray, List.getElem_cons_zero, List.getElem_cons_succ]
              go_simp
              go_at_call 13
              refine (P_Set _ _ _ _ _).mono ?_
              rintro e w10 ⟨rfl, hb10⟩
              have hz10 := hb10.size
              replace p1 := p1.of_eq (hb10.block _ p1.lt)
              replace p2 := p2.of_eq (hb10.block _ p2.lt)
              replace p3 := p3.of_eq (hb10.block _ p3.lt)
              replace t4 := t4.of_eq (hb10.block _ t4.lt)
              refine hK _ _ ?_
              clear hK K
              refine wpAny_ready (rs := [5]) (by kernel_rfl) (by simp) ?_
              refine AllReady.cons rfl (fun K hK => ite_of rfl ?_) ?_
              · simp only [List.getElem_toArray, List.getElem_cons_zero, List.getElem_cons_succ]
                refine owp_storeT _ _ _ _ rfl rfl rfl t4 ?_
                clear t4
                intro w11 t4 hc11 hz11
                replace hz11 := Nat.le_of_eq hz11.symm
                replace p1 := p1.of_eq (hc11.block _ p1.lt (by omega))
                replace p2 := p2.of_eq (hc11.block _ p2.lt (by omega))
                replace p3 := p3.of_eq (hc11.block _ p3.lt (by omega))
                refine hK _ _ ?_
                simp only [Act.put, List.setIfInBounds_toArray, List.set_cons_zero, List.set_cons_succ]
                clear hK K
                refine wpAny_done (by kernel_rfl) ?_ _
                go_wp2_with fail
                go_meet
                exact ⟨_, rfl, t4, by repeat' (first | (with_reducible exact Below.refl _ _) | (with_reducible assumption) | (with_reducible refine Below.trans ?_ (hb8.mono (by omega))) | (with_reducible refine Below.trans ?_ (hb9.mono (by omega))) | (with_reducible refine Below.trans ?_ (hb10.mono (by omega))) | (with_reducible refine Chg.below ?_ hc11 (by omega) (by omega))), by omega, by omega, p1, p2, p3⟩
              exact AllReady.nil
            exact AllReady.nil
          exact AllReady.nil
        refine AllReady.cons rfl (fun K hK => ite_of rfl ?_) ?_
        · simp only [List.getElem_toArray, List.getElem_cons_zero, List.getElem_cons_succ]
          refine owp_loadPx _ _ rfl rfl p2 ?_
          refine hK _ _ ?_
          simp only [Act.put, List.setIfInBounds_toArray, List.set_cons_zero, List.set_cons_succ]
          clear hK K
          refine wpAny_ready (rs := [1]) (by kernel_rfl) (by simp) ?_
          refine AllReady.cons rfl (fun K hK => ite_of rfl ?_) ?_
          · simp only [List.getElem_toArray, List.getElem_cons_zero, List.getElem_cons_succ]
            go_simp
            go_at_call 14
            refine (P_Fill _ _).mono ?_
            rintro e w9 ⟨rfl, hb9⟩
            have hz9 := hb9.size
            replace p1 := p1.of_eq (hb9.block _ p1.lt)
            replace p2 := p2.of_eq (hb9.block _ p2.lt)
            replace p3 := p3.of_eq (hb9.block _ p3.lt)
            replace t4 := t4.of_eq (hb9.block _ t4.lt)
            refine hK _ _ ?_
            clear hK K
            refine wpAny_ready (rs := [3]) (by kernel_rfl) (by simp) ?_
            refine AllReady.cons rfl (fun K hK => ite_of rfl ?_) ?_
            · simp only [List.getElem_toArray, List.getElem_cons_zero, List.getElem_cons_succ]
              go_simp
              go_at_call 13
              refine (P_Set _ _ _ _ _).mono ?_
              rintro e w10 ⟨rfl, hb10⟩
              have hz10 := hb10.size
              replace p1 := p1.of_eq (hb10.block _ p1.lt)
              replace p2 := p2.of_eq (hb10.block _ p2.lt)
              replace p3 := p3.of_eq (hb10.block _ p3.lt)
              replace t4 := t4.of_eq (hb10.block _ t4.lt)
              refine hK _ _ ?_
              clear hK K
              refine wpAny_ready (rs := [5]) (by kernel_rfl) (by simp) ?_
              refine AllReady.cons rfl (fun K hK => ite_of rfl ?_) ?_
              · simp only [List.getElem_toArray, List.getElem_cons_zero, List.getElem_cons_succ]
                refine owp_storeT _ _ _ _ rfl rfl rfl t4 ?_
                clear t4
                intro w11 t4 hc11 hz11
                replace hz11 := Nat.le_of_eq hz11.symm
                replace p1 := p1.of_eq (hc11.block _ p1.lt (by omega))
                replace p2 := p2.of_eq (hc11.block _ p2.lt (by omega))
                replace p3 := p3.of_eq (hc11.block _ p3.lt (by omega))
                refine hK _ _ ?_
                simp only [Act.put, List.setIfInBounds_toArray, List.set_cons_zero, List.set_cons_succ]
                clear hK K
                refine wpAny_done (by kernel_rfl) ?_ _
                go_wp2_with fail
                go_meet
                exact ⟨_, rfl, t4, by repeat' (first | (with_reducible exact Below.refl _ _) | (with_reducible assumption) | (with_reducible refine Below.trans ?_ (hb8.mono (by omega))) | (with_reducible refine Below.trans ?_ (hb9.mono (by omega))) | (with_reducible refine Below.trans ?_ (hb10.mono (by omega))) | (with_reducible refine Chg.below ?_ hc11 (by omega) (by omega))), by omega, by omega, p1, p2, p3⟩
              exact AllReady.nil
            exact AllReady.nil
          exact AllReady.nil
        exact AllReady.nil
      exact AllReady.nil
    refine AllReady.cons rfl (fun K hK => ite_of rfl ?_) ?_
    · simp only [List.getElem_toArray, List.getElem_cons_zero, List.getElem_cons_succ]
      refine owp_loadPx _ _ rfl rfl p2 ?_
      refine hK _ _ ?_
      simp only [Act.put, List.setIfInBounds_toArray, List.set_cons_zero, List.set_cons_succ]
      clear hK K
      refine wpAny_ready (rs := [0, 4]) (by kernel_rfl) (by simp) ?_
      refine AllReady.cons rfl (fun K hK => ite_of rfl ?_) ?_
      · simp only [List.getElem_toArray, List.getElem_cons_zero, List.getElem_cons_succ]
        refine owp_loadPx _ _ rfl rfl p1 ?_
        refine hK _ _ ?_
        simp only [Act.put, List.setIfInBounds_toArray, List.set_cons_zero, List.set_cons_succ]
        clear hK K
        refine wpAny_ready (rs := [1, 4]) (by kernel_rfl) (by simp) ?_
        refine AllReady.cons rfl (fun K hK => ite_of rfl ?_) ?_
        · simp only [List.getElem_toArray, List.getElem_cons_zero, List.getElem_cons_succ]
          go_simp
          go_at_call 14
          refine (P_Fill _ _).mono ?_
          rintro e w8 ⟨rfl, hb8⟩
          have hz8 := hb8.size
          replace p1 := p1.of_eq (hb8.block _ p1.lt)
          replace p2 := p2.of_eq (hb8.block _ p2.lt)
          replace p3 := p3.of_eq (hb8.block _ p3.lt)
          refine hK _ _ ?_
          clear hK K
          refine wpAny_ready (rs := [3, 4]) (by kernel_rfl) (by simp) ?_
          refine AllReady.cons rfl (fun K hK => ite_of rfl ?_) ?_
          · simp only [List.getElem_toArray, List.getElem_cons_zero, List.getElem_cons_succ]
            go_simp
            go_at_call 13
            refine (P_Set _ _ _ _ _).mono ?_
            rintro e w9 ⟨rfl, hb9⟩
            have hz9 := hb9.size
            replace p1 := p1.of_eq (hb9.block _ p1.lt)
            replace p2 := p2.of_eq (hb9.block _ p2.lt)
            replace p3 := p3.of_eq (hb9.block _ p3.lt)
            refine hK _ _ ?_
            clear hK K
            refine wpAny_ready (rs := [4]) (by kernel_rfl) (by simp) ?_
            refine AllReady.cons rfl (fun K hK => ite_of rfl ?_) ?_
            · simp only [List.getElem_toArray, List.getElem_cons_zero, List.getElem_cons_succ]
              refine owp_allocT rfl ?_
              intro w10 t4 hb10 hz10
              have l10 := Nat.lt_of_lt_of_eq (Nat.lt_succ_self _) hz10.symm
              clear hz10
              replace p1 := p1.of_eq (hb10.block _ p1.lt)
              replace p2 := p2.of_eq (hb10.block _ p2.lt)
              replace p3 := p3.of_eq (hb10.block _ p3.lt)
              refine hK _ _ ?_
              simp only [Act.put, List.setIfInBounds_toArray, List.set_cons_zero, List.set_cons_succ]
              clear hK K
              refine wpAny_ready (rs := [5]) (by kernel_rfl) (by simp) ?_
              refine AllReady.cons rfl (fun K hK => ite_of rfl ?_) ?_
              · simp only [List.getElem_toArray, List.getElem_cons_zero, List.getElem_cons_succ]
                refine owp_storeT _ _ _ _ rfl rfl rfl t4 ?_
                clear t4
                intro w11 t4 hc11 hz11
                replace hz11 := Nat.le_of_eq hz11.symm
                replace p1 := p1.of_eq (hc11.block _ p1.lt (by omega))
                replace p2 := p2.of_eq (hc11.block _ p2.lt (by omega))
                replace p3 := p3.of_eq (hc11.block _ p3.lt (by omega))
                refine hK _ _ ?_
                simp only [Act.put, List.setIfInBounds_toArray, List.set_cons_zero, List.set_cons_succ]
                clear hK K
                refine wpAny_done (by kernel_rfl) ?_ _
                go_wp2_with fail
                go_meet
                exact ⟨_, rfl, t4, by repeat' (first | (with_reducible exact Below.refl _ _) | (with_reducible assumption) | (with_reducible refine Below.trans ?_ (hb8.mono (by omega))) | (with_reducible refine Below.trans ?_ (hb9.mono (by omega))) | (with_reducible refine Below.trans ?_ (hb10.mono (by omega))) | (with_reducible refine Chg.below ?_ hc11 (by omega) (by omega))), by omega, by omega, p1, p2, p3⟩
              exact AllReady.nil
            exact AllReady.nil
          refine AllReady.cons rfl (fun K hK => ite_of rfl ?_) ?_
          · simp only [List.getElem_toArray, List.getElem_cons_zero, List.getElem_cons_succ]
            refine owp_allocT rfl ?_
            intro w9 t4 hb9 hz9
            have l9 := Nat.lt_of_lt_of_eq (Nat.lt_succ_self _) hz9.symm
            clear hz9
            replace p1 := p1.of_eq (hb9.block _ p1.lt)
            replace p2 := p2.of_eq (hb9.block _ p2.lt)
            replace p3 := p3.of_eq (hb9.block _ p3.lt)
            refine hK _ _ ?_
            simp only [Act.put, List.setIfInBounds_toArray, List.set_cons_zero, List.set_cons_succ]
            clear hK K
            refine wpAny_ready (rs := [3]) (by kernel_rfl) (by simp) ?_
            refine AllReady.cons rfl (fun K hK => ite_of rfl ?_) ?_
            · simp only [List.getElem_toArray, List.getElem_cons_zero, List.getElem_cons_succ]
              go_simp
              go_at_call 13
              refine (P_Set _ _ _ _ _).mono ?_
              rintro e w10 ⟨rfl, hb10⟩
              have hz10 := hb10.size
              replace p1 := p1.of_eq (hb10.block _ p1.lt)
              replace p2 := p2.of_eq (hb10.block _ p2.lt)
              replace p3 := p3.of_eq (hb10.block _ p3.lt)
              replace t4 := t4.of_eq (hb10.block _ t4.lt)
              refine hK _ _ ?_
              clear hK K
              refine wpAny_ready (rs := [5]) (by kernel_rfl) (by simp) ?_
              refine AllReady.cons rfl (fun K hK => ite_of rfl ?_) ?_
              · simp only [List.getElem_toArray, List.getElem_cons_zero, List.getElem_cons_succ]
                refine owp_storeT _ _ _ _ rfl rfl rfl t4 ?_
                clear t4
                intro w11 t4 hc11 hz11
                replace hz11 := Nat.le_of_eq hz11.symm
                replace p1 := p1.of_eq (hc11.block _ p1.lt (by omega))
                replace p2 := p2.of_eq (hc11.block _ p2.lt (by omega))
                replace p3 := p3.of_eq (hc11.block _ p3.lt (by omega))
                refine hK _ _ ?_
                simp only [Act.put, List.setIfInBounds_toArray, List.set_cons_zero, List.set_cons_succ]
                clear hK K
                refine wpAny_done (by kernel_rfl) ?_ _
                go_wp2_with fail
                go_meet
                exact ⟨_, rfl, t4, by repeat' (first | (with_reducible exact Below.refl _ _) | (with_reducible assumption) | (with_reducible refine Below.trans ?_ (hb8.mono (by omega))) | (with_reducible refine Below.trans ?_ (hb9.mono (by omega))) | (with_reducible refine Below.trans ?_ (hb10.mono (by omega))) | (with_reducible refine Chg.below ?_ hc11 (by omega) (by omega))), by omega, by omega, p1, p2, p3⟩
              exact AllReady.nil
            exact AllReady.nil
          exact AllReady.nil
        refine AllReady.cons rfl (fun K hK => ite_of rfl ?_) ?_
        · simp only [List.getElem_toArray, List.getElem_cons_zero, List.getElem_cons_succ]
          refine owp_allocT rfl ?_
          intro w8 t4 hb8 hz8
          have l8 := Nat.lt_of_lt_of_eq (Nat.lt_succ_self _) hz8.symm
          clear hz8
          replace p1 := p1.of_eq (hb8.block _ p1.lt)
          replace p2 := p2.of_eq (hb8.block _ p2.lt)
          replace p3 := p3.of_eq (hb8.block _ p3.lt)
          refine hK _ _ ?_
          simp only [Act.put, List.setIfInBounds_toArray, List.set_cons_zero, List.set_cons_succ]
          clear hK K
          refine wpAny_ready (rs := [1]) (by kernel_rfl) (by simp) ?_
          refine AllReady.cons rfl (fun K hK => ite_of rfl ?_) ?_
          · simp only [List.getElem_toArray, List.getElem_cons_zero, List.getElem_cons_succ]
            go_simp
            go_at_call 14
            refine (P_Fill _ _).mono ?_
            rintro e w9 ⟨rfl, hb9⟩
            have hz9 := hb9.size
            replace p1 := p1.of_eq (hb9.block _ p1.lt)
            replace p2 := p2.of_eq (hb9.block _ p2.lt)
            replace p3 := p3.of_eq (hb9.block _ p3.lt)
            replace t4 := t4.of_eq (hb9.block _ t4.lt)
            refine hK _ _ ?_
            clear hK K
            refine wpAny_ready (rs := [3]) (by kernel_rfl) (by simp) ?_
            refine AllReady.cons rfl (fun K hK => ite_of rfl ?_) ?_
            · simp only [List.getElem_toArray, List.getElem_cons_zero, List.getElem_cons_succ]
              go_simp
              go_at_call 13
              refine (P_Set _ _ _ _ _).mono ?_
              rintro e w10 ⟨rfl, hb10⟩
              have hz10 := hb10.size
              replace p1 := p1.of_eq (hb10.block _ p1.lt)
              replace p2 := p2.of_eq (hb10.block _ p2.lt)
              replace p3 := p3.of_eq (hb10.block _ p3.lt)
              replace t4 := t4.of_eq (hb10.block _ t4.lt)
              refine hK _ _ ?_
              clear hK K
              refine wpAny_ready (rs := [5]) (by kernel_rfl) (by simp) ?_
              refine AllReady.cons rfl (fun K hK => ite_of rfl ?_) ?_
              · simp only [List.getElem_toArray, List.getElem_cons_zero, List.getElem_cons_succ]
                refine owp_storeT _ _ _ _ rfl rfl rfl t4 ?_
                clear t4
                intro w11 t4 hc11 hz11
                replace hz11 := Nat.le_of_eq hz11.symm
                replace p1 := p1.of_eq (hc11.block _ p1.lt (by omega))
                replace p2 := p2.of_eq (hc11.block _ p2.lt (by omega))
                replace p3 := p3.of_eq (hc11.block _ p3.lt (by omega))
                refine hK _ _ ?_
                simp only [Act.put, List.setIfInBounds_toArray, List.set_cons_zero, List.set_cons_succ]
                clear hK K
                refine wpAny_done (by kernel_rfl) ?_ _
                go_wp2_with fail
                go_meet
                exact ⟨_, rfl, t4, by repeat' (first | (with_reducible exact Below.refl _ _) | (with_reducible assumption) | (with_reducible refine Below.trans ?_ (hb8.mono (by omega))) | (with_reducible refine Below.trans ?_ (hb9.mono (by omega))) | (with_reducible refine Below.trans ?_ (hb10.mono (by omega))) | (with_reducible refine Chg.below ?_ hc11 (by omega) (by omega))), by omega, by omega, p1, p2, p3⟩
              exact AllReady.nil
            exact AllReady.nil
          exact AllReady.nil
        exact AllReady.nil
      refine AllReady.cons rfl (fun K hK => ite_of rfl ?_) ?_
      · simp only [List.getElem_toArray, List.getElem_cons_zero, List.getElem_cons_succ]
        refine owp_allocT rfl ?_
        intro w8 t4 hb8 hz8
        have l8 := Nat.lt_of_lt_of_eq (Nat.lt_succ_self _) hz8.symm
        clear hz8
        replace p1 := p1.of_eq (hb8.block _ p1.lt)
        replace p2 := p2.of_eq (hb8.block _ p2.lt)
        replace p3 := p3.of_eq (hb8.block _ p3.lt)
        refine hK _ _ ?_
        simp only [Act.put, List.setIfInBounds_toArray, List.set_cons_zero, List.set_cons_succ]
        clear hK K
        refine wpAny_ready (rs := [0]) (by kernel_rfl) (by simp) ?_
        refine AllReady.cons rfl (fun K hK => ite_of rfl ?_) ?_
        · simp only [List.getElem_toArray, List.getElem_cons_zero, List.getElem_cons_succ]
          refine owp_loadPx _ _ rfl rfl p1 ?_
          refine hK _ _ ?_
          simp only [Act.put, List.setIfInBounds_toArray, List.set_cons_zero, List.set_cons_succ]
          clear hK K
          refine wpAny_ready (rs := [1]) (by kernel_rfl) (by simp) ?_
          refine AllReady.cons rfl (fun K hK => ite_of rfl ?_) ?_
          · simp only [List.getElem_toArray, List.getElem_cons_zero, List.getElem_cons_succ]
            go_simp
            go_at_call 14
            refine (P_Fill _ _).mono ?_
            rintro e w9 ⟨rfl, hb9⟩
            have hz9 := hb9.size
            replace p1 := p1.of_eq (hb9.block _ p1.lt)
            replace p2 := p2.of_eq (hb9.block _ p2.lt)
            replace p3 := p3.of_eq (hb9.block _ p3.lt)
            replace t4 := t4.of_eq (hb9.block _ t4.lt)
            refine hK _ _ ?_
            clear hK K
            refine wpAny_ready (rs := [3]) (by kernel_rfl) (by simp) ?_
            refine AllReady.cons rfl (fun K hK => ite_of rfl ?_) ?_
            · simp only [List.getElem_toArray, List.getElem_cons_zero, List.getElem_cons_succ]
              go_simp
              go_at_call 13
              refine (P_Set _ _ _ _ _).mono ?_
              rintro e w10 ⟨rfl, hb10⟩
              have hz10 := hb10.size
              replace p1 := p1.of_eq (hb10.block _ p1.lt)
              replace p2 := p2.of_eq (hb10.block _ p2.lt)
              replace p3 := p3.of_eq (hb10.block _ p3.lt)
              replace t4 := t4.of_eq (hb10.block _ t4.lt)
              refine hK _ _ ?_
              clear hK K
              refine wpAny_ready (rs := [5]) (by kernel_rfl) (by simp) ?_
              refine AllReady.cons rfl (fun K hK => ite_of rfl ?_) ?_
              · simp only [List.getElem_toArray, List.getElem_cons_zero, List.getElem_cons_succ]
                refine owp_storeT _ _ _ _ rfl rfl rfl t4 ?_
                clear t4
                intro w11 t4 hc11 hz11
                replace hz11 := Nat.le_of_eq hz11.symm
                replace p1 := p1.of_eq (hc11.block _ p1.lt (by omega))
                replace p2 := p2.of_eq (hc11.block _ p2.lt (by omega))
                replace p3 := p3.of_eq (hc11.block _ p3.lt (by omega))
                refine hK _ _ ?_
                simp only [Act.put, List.setIfInBounds_toArray, List.set_cons_zero, List.set_cons_succ]
                clear hK K
                refine wpAny_done (by kernel_rfl) ?_ _
                go_wp2_with fail
                go_meet
                exact ⟨_, rfl, t4, by repeat' (first | (with_reducible exact Below.refl _ _) | (with_reducible assumption) | (with_reducible refine Below.trans ?_ (hb8.mono (by omega))) | (with_reducible refine Below.trans ?_ (hb9.mono (by omega))) | (with_reducible refine Below.trans ?_ (hb10.mono (by omega))) | (with_reducible refine Chg.below ?_ hc11 (by omega) (by omega))), by omega, by omega, p1, p2, p3⟩
              exact AllReady.nil
            exact AllReady.nil
          exact AllReady.nil
        exact AllReady.nil
      exact AllReady.nil
    refine AllReady.cons rfl (fun K hK => ite_of rfl ?_) ?_
    · simp only [List.getElem_toArray, List.getElem_cons_zero, List.getElem_cons_succ]
      refine owp_allocT rfl ?_
      intro w8 t4 hb8 hz8
      have l8 := Nat.lt_of_lt_of_eq (Nat.lt_succ_self _) hz8.symm
      clear hz8
      replace p1 := p1.of_eq (hb8.block _ p1.lt)
      replace p2 := p2.of_eq (hb8.block _ p2.lt)
      replace p3 := p3.of_eq (hb8.block _ p3.lt)
      refine hK _ _ ?_
      simp only [Act.put, List.setIfInBounds_toArray, List.set_cons_zero, List.set_cons_succ]
      clear hK K
      refine wpAny_ready (rs := [0, 2]) (by kernel_rfl) (by simp) ?_
      refine AllReady.cons rfl (fun K hK => ite_of rfl ?_) ?_
      · simp only [List.getElem_toArray, List.getElem_cons_zero, List.getElem_cons_succ]
        refine owp_loadPx _ _ rfl rfl p1 ?_
        refine hK _ _ ?_
        simp only [Act.put, List.setIfInBounds_toArray, List.set_cons_zero, List.set_cons_succ]
        clear hK K
        refine wpAny_ready (rs := [1, 2]) (by kernel_rfl) (by simp) ?_
        refine AllReady.cons rfl (fun K hK => ite_of rfl ?_) ?_
        · simp only [List.getElem_toArray, List.getElem_cons_zero, List.getElem_cons_succ]
          go_simp
          go_at_call 14
          refine (P_Fill _ _).mono ?_
          rintro e w9 ⟨rfl, hb9⟩
          have hz9 := hb9.size
          replace p1 := p1.of_eq (hb9.block _ p1.lt)
          replace p2 := p2.of_eq (hb9.block _ p2.lt)
          replace p3 := p3.of_eq (hb9.block _ p3.lt)
          replace t4 := t4.of_eq (hb9.block _ t4.lt)
          refine hK _ _ ?_
          clear hK K
          refine wpAny_ready (rs := [2]) (by kernel_rfl) (by simp) ?_
          refine AllReady.cons rfl (fun K hK => ite_of rfl ?_) ?_
          · simp only [List.getElem_toArray, List.getElem_cons_zero, List.getElem_cons_succ]
            refine owp_loadPx _ _ rfl rfl p2 ?_
            refine hK _ _ ?_
            simp only [Act.put, List.setIfInBounds_toArray, List.set_cons_zero, List.set_cons_succ]
            clear hK K
            refine wpAny_ready (rs := [3]) (by kernel_rfl) (by simp) ?_
            refine AllReady.cons rfl (fun K hK => ite_of rfl ?_) ?_
            · simp only [List.getElem_toArray, List.getElem_cons_zero, List.getElem_cons_succ]
              go_simp
              go_at_call 13
              refine (P_Set _ _ _ _ _).mono ?_
              rintro e w10 ⟨rfl, hb10⟩
              have hz10 := hb10.size
              replace p1 := p1.of_eq (hb10.block _ p1.lt)
              replace p2 := p2.of_eq (hb10.block _ p2.lt)
              replace p3 := p3.of_eq (hb10.block _ p3.lt)
              replace t4 := t4.of_eq (hb10.block _ t4.lt)
              refine hK _ _ ?_
              clear hK K
              refine wpAny_ready (rs := [5]) (by kernel_rfl) (by simp) ?_
              refine AllReady.cons rfl (fun K hK => ite_of rfl ?_) ?_
              · simp only [List.getElem_toArray, List.getElem_cons_zero, List.getElem_cons_succ]
                refine owp_storeT _ _ _ _ rfl rfl rfl t4 ?_
                clear t4
                intro w11 t4 hc11 hz11
                replace hz11 := Nat.le_of_eq hz11.symm
                replace p1 := p1.of_eq (hc11.block _ p1.lt (by omega))
                replace p2 := p2.of_eq (hc11.block _ p2.lt (by omega))
                replace p3 := p3.of_eq (hc11.block _ p3.lt (by omega))
                refine hK _ _ ?_
                simp only [Act.put, List.setIfInBounds_toArray, List.set_cons_zero, List.set_cons_succ]
                clear hK K
                refine wpAny_done (by kernel_rfl) ?_ _
                go_wp2_with fail
                go_meet
                exact ⟨_, rfl, t4, by repeat' (first | (with_reducible exact Below.refl _ _) | (with_reducible assumption) | (with_reducible refine Below.trans ?_ (hb8.mono (by omega))) | (with_reducible refine Below.trans ?_ (hb9.mono (by omega))) | (with_reducible refine Below.trans ?_ (hb10.mono (by omega))) | (with_reducible refine Chg.below ?_ hc11 (by omega) (by omega))), by omega, by omega, p1, p2, p3⟩
              exact AllReady.nil
            exact AllReady.nil
          exact AllReady.nil
        refine AllReady.cons rfl (fun K hK => ite_of rfl ?_) ?_
        · simp only [List.getElem_toArray, List.getElem_cons_zero, List.getElem_cons_succ]
          refine owp_loadPx _ _ rfl rfl p2 ?_
          refine hK _ _ ?_
          simp only [Act.put, List.setIfInBounds_toArray, List.set_cons_zero, List.set_cons_succ]
          clear hK K
          refine wpAny_ready (rs := [1]) (by kernel_rfl) (by simp) ?_
          refine AllReady.cons rfl (fun K hK => ite_of rfl ?_) ?_
          · simp only [List.getElem_toArray, List.getElem_cons_zero, List.getElem_cons_succ]
            go_simp
            go_at_call 14
            refine (P_Fill _ _).mono ?_
            rintro e w9 ⟨rfl, hb9⟩
            have hz9 := hb9.size
            replace p1 := p1.of_eq (hb9.block _ p1.lt)
            replace p2 := p2.of_eq (hb9.block _ p2.lt)
            replace p3 := p3.of_eq (hb9.block _ p3.lt)
            replace t4 := t4.of_eq (hb9.block _ t4.lt)
            refine hK _ _ ?_
            clear hK K
            refine wpAny_ready (rs := [3]) (by kernel_rfl) (by simp) ?_
            refine AllReady.cons rfl (fun K hK => ite_of rfl ?_) ?_
            · simp only [List.getElem_toArray, List.getElem_cons_zero, List.getElem_cons_succ]
              go_simp
              go_at_call 13
              refine (P_Set _ _ _ _ _).mono ?_
              rintro e w10 ⟨rfl, hb10⟩
              have hz10 := hb10.size
              replace p1 := p1.of_eq (hb10.block _ p1.lt)
              replace p2 := p2.of_eq (hb10.block _ p2.lt)
              replace p3 := p3.of_eq (hb10.block _ p3.lt)
              replace t4 := t4.of_eq (hb10.block _ t4.lt)
              refine hK _ _ ?_
              clear hK K
              refine wpAny_ready (rs := [5]) (by kernel_rfl) (by simp) ?_
              refine AllReady.cons rfl (fun K hK => ite_of rfl ?_) ?_
              · simp only [List.getElem_toArray, List.getElem_cons_zero, List.getElem_cons_succ]
                refine owp_storeT _ _ _ _ rfl rfl rfl t4 ?_
                clear t4
                intro w11 t4 hc11 hz11
                replace hz11 := Nat.le_of_eq hz11.symm
                replace p1 := p1.of_eq (hc11.block _ p1.lt (by omega))
                replace p2 := p2.of_eq (hc11.block _ p2.lt (by omega))
                replace p3 := p3.of_eq (hc11.block _ p3.lt (by omega))
                refine hK _ _ ?_
                simp only [Act.put, List.setIfInBounds_toArray, List.set_cons_zero, List.set_cons_succ]
                clear hK K
                refine wpAny_done (by kernel_rfl) ?_ _
                go_wp2_with fail
                go_meet
                exact ⟨_, rfl, t4, by repeat' (first | (with_reducible exact Below.refl _ _) | (with_reducible assumption) | (with_reducible refine Below.trans ?_ (hb8.mono (by omega))) | (with_reducible refine Below.trans ?_ (hb9.mono (by omega))) | (with_reducible refine Below.trans ?_ (hb10.mono (by omega))) | (with_reducible refine Chg.below ?_ hc11 (by omega) (by omega))), by omega, by omega, p1, p2, p3⟩
              exact AllReady.nil
            exact AllReady.nil
          exact AllReady.nil
        exact AllReady.nil
      refine AllReady.cons rfl (fun K hK => ite_of rfl ?_) ?_
      · simp only [List.getElem_toArray, List.getElem_cons_zero, List.getElem_cons_succ]
        refine owp_loadPx _ _ rfl rfl p2 ?_
        refine hK _ _ ?_
        simp only [Act.put, List.setIfInBounds_toArray, List.set_cons_zero, List.set_cons_succ]
        clear hK K
        refine wpAny_ready (rs := [0]) (by kernel_rfl) (by simp) ?_
        refine AllReady.cons rfl (fun K hK => ite_of rfl ?_) ?_
        · simp only [List.getElem_toArray, List.getElem_cons_zero, List.getElem_cons_succ]
          refine owp_loadPx _ _ rfl rfl p1 ?_
          refine hK _ _ ?_
          simp only [Act.put, List.setIfInBounds_toArray, List.set_cons_zero, List.set_cons_succ]
          clear hK K
          refine wpAny_ready (rs := [1]) (by kernel_rfl) (by simp) ?_
          refine AllReady.cons rfl (fun K hK => ite_of rfl ?_) ?_
          · simp only [List.getElem_toArray, List.getElem_cons_zero, List.getElem_cons_succ]
            go_simp
            go_at_call 14
            refine (P_Fill _ _).mono ?_
            rintro e w9 ⟨rfl, hb9⟩
            have hz9 := hb9.size
            replace p1 := p1.of_eq (hb9.block _ p1.lt)
            replace p2 := p2.of_eq (hb9.block _ p2.lt)
            replace p3 := p3.of_eq (hb9.block _ p3.lt)
            replace t4 := t4.of_eq (hb9.block _ t4.lt)
            refine hK _ _ ?_
            clear hK K
            refine wpAny_ready (rs := [3]) (by kernel_rfl) (by simp) ?_
            refine AllReady.cons rfl (fun K hK => ite_of rfl ?_) ?_
            · simp only [List.getElem_toArray, List.getElem_cons_zero, List.getElem_cons_succ]
              go_simp
              go_at_call 13
              refine (P_Set _ _ _ _ _).mono ?_
              rintro e w10 ⟨rfl, hb10⟩
              have hz10 := hb10.size
              replace p1 := p1.of_eq (hb10.block _ p1.lt)
              replace p2 := p2.of_eq (hb10.block _ p2.lt)
              replace p3 := p3.of_eq (hb10.block _ p3.lt)
              replace t4 := t4.of_eq (hb10.block _ t4.lt)
              refine hK _ _ ?_
              clear hK K
              refine wpAny_ready (rs := [5]) (by kernel_rfl) (by simp) ?_
              refine AllReady.cons rfl (fun K hK => ite_of rfl ?_) ?_
              · simp only [List.getElem_toArray, List.getElem_cons_zero, List.getElem_cons_succ]
                refine owp_storeT _ _ _ _ rfl rfl rfl t4 ?_
                clear t4
                intro w11 t4 hc11 hz11
                replace hz11 := Nat.le_of_eq hz11.symm
                replace p1 := p1.of_eq (hc11.block _ p1.lt (by omega))
                replace p2 := p2.of_eq (hc11.block _ p2.lt (by omega))
                replace p3 := p3.of_eq (hc11.block _ p3.lt (by omega))
                refine hK _ _ ?_
                simp only [Act.put, List.setIfInBounds_toArray, List.set_cons_zero, List.set_cons_succ]
                clear hK K
                refine wpAny_done (by kernel_rfl) ?_ _
                go_wp2_with fail
                go_meet
                exact ⟨_, rfl, t4, by repeat' (first | (with_reducible exact Below.refl _ _) | (with_reducible assumption) | (with_reducible refine Below.trans ?_ (hb8.mono (by omega))) | (with_reducible refine Below.trans ?_ (hb9.mono (by omega))) | (with_reducible refine Below.trans ?_ (hb10.mono (by omega))) | (with_reducible refine Chg.below ?_ hc11 (by omega) (by omega))), by omega, by omega, p1, p2, p3⟩
              exact AllReady.nil
            exact AllReady.nil
          exact AllReady.nil
        exact AllReady.nil
      exact AllReady.nil
    exact AllReady.nil
  case rest =>
    obtain ⟨b, rfl, t4, B7, hz7, hb7, p1, p2, p3⟩ := hcut
    have lt4 := t4.lt
    have lt3 := p3.lt
    have c1 : ∀ w, (binOp .eql 23 (Px.v (getT (flipT sanT) 6 0)) (Px.v pQ)).run Tryd.prog w = .ok (.bool true) w := fun w => by rw [eql_px, san1]; rfl
    have c2 : ∀ w, (binOp .eql 23 (Px.v (getT (turnT sanT) 7 1)) (Px.v pQ)).run Tryd.prog w = .ok (.bool true) w := fun w => by rw [eql_px, san2]; rfl
    have c3 : ∀ w, (binOp .eql 23 (Px.v (getT (turnT sanT) 1 0)) (Px.v pP)).run Tryd.prog w = .ok (.bool true) w := fun w => by rw [eql_px, san3]; rfl
    have c4 : ∀ w, (binOp .eql 23 (Px.v (getT sanH 3 3)) (Px.v Px.zero)).run Tryd.prog w = .ok (.bool true) w := fun w => by rw [eql_px, san4]; rfl
    have c5 : ∀ w, (binOp .eql 23 (Px.v (getT sanH 4 4)) (Px.v pN)).run Tryd.prog w = .ok (.bool true) w := fun w => by rw [eql_px, san5]; rfl
    go_wp2_with (first | (refine wpList_storeT rfl _ _ rfl _ rfl _ rfl t5 ?_; clear t5; intro w11 t5 hc11 hz11; replace hz11 := Nat.le_of_eq hz11.symm; replace p1 := p1.of_eq (hc11.block _ p1.lt (by omega)); replace p2 := p2.of_eq (hc11.block _ p2.lt (by omega)); replace p3 := p3.of_eq (hc11.block _ p3.lt (by omega)); replace t4 := t4.of_eq (hc11.block _ t4.lt (by omega)); simp only [Act.put, List.setIfInBounds_toArray, List.set_cons_zero, List.set_cons_succ]) | (refine wpList_allocT rfl rfl ?_; intro w10 t5 hb10 hz10; have l10 := Nat.lt_of_lt_of_eq (Nat.lt_succ_self _) hz10.symm; clear hz10; replace p1 := p1.of_eq (hb10.block _ p1.lt); replace p2 := p2.of_eq (hb10.block _ p2.lt); replace p3 := p3.of_eq (hb10.block _ p3.lt); replace t4 := t4.of_eq (hb10.block _ t4.lt); simp only [Act.put, List.setIfInBounds_toArray, List.set_cons_zero, List.set_cons_succ]) | (go_at_call 15; refine (P_Halve _ _ _ _ _ sanQ).mono ?_; rintro e w9 ⟨rfl, hb9⟩; have hz9 := hb9.size; replace p1 := p1.of_eq (hb9.block _ p1.lt); replace p2 := p2.of_eq (hb9.block _ p2.lt); replace p3 := p3.of_eq (hb9.block _ p3.lt); replace t4 := t4.of_eq (hb9.block _ t4.lt)) | (go_at_call 14; refine (P_Fill _ _).mono ?_; rintro e w8 ⟨rfl, hb8⟩; have hz8 := hb8.size; replace p1 := p1.of_eq (hb8.block _ p1.lt); replace p2 := p2.of_eq (hb8.block _ p2.lt); replace p3 := p3.of_eq (hb8.block _ p3.lt); replace t4 := t4.of_eq (hb8.block _ t4.lt)) | (refine wpList_loadPx rfl _ rfl _ rfl p3 ?_; simp only [Act.put, List.setIfInBounds_toArray, List.set_cons_zero, List.set_cons_succ]) | (refine wpList_buildT rfl rfl ?_; simp only [Act.put, List.setIfInBounds_toArray, List.set_cons_zero, List.set_cons_succ]))
    replace t5 : TileAt w11 w9.heap.size sanH := t5
    refine wp_region_ov (by kernel_rfl) (by kernel_rfl) ?_
    repeat (first | go_big_quiet_skip | (go_big_quiet_want; first | (refine quiet_buildPx rfl ?_; simp only [Act.put, List.setIfInBounds_toArray, List.set_cons_zero, List.set_cons_succ]; go_big_quiet_on) | (refine quiet_loadT rfl _ rfl (ov_tile t4) ?_; simp only [Act.put, List.setIfInBounds_toArray, List.set_cons_zero, List.set_cons_succ]; go_big_quiet_on) | (refine quiet_loadT rfl _ rfl (ov_tile t5) ?_; simp only [Act.put, List.setIfInBounds_toArray, List.set_cons_zero, List.set_cons_succ]; go_big_quiet_on) | (refine quiet_loadPx rfl _ rfl (ov_px p1) ?_; simp only [Act.put, List.setIfInBounds_toArray, List.set_cons_zero, List.set_cons_succ]; go_big_quiet_on) | (refine quiet_loadPx rfl _ rfl (ov_px p2) ?_; simp only [Act.put, List.setIfInBounds_toArray, List.set_cons_zero, List.set_cons_succ]; go_big_quiet_on) | (refine quiet_loadPx rfl _ rfl (ov_px p3) ?_; simp only [Act.put, List.setIfInBounds_toArray, List.set_cons_zero, List.set_cons_succ]; go_big_quiet_on) | (go_big_quiet_op; first | go_big_quiet_on | go_big_quiet_call ((first | (go_at_call 17; exact calls_ov (P_Flip _ _)) | (go_at_call 18; exact calls_ov (P_Turn _ _)) | (go_at_call 16; exact calls_ov (P_Get _ _ _ _)))))))
    refine wpQuiet_nil ?_
    intro w12 hb12
    have hz12 := hb12.size
    go_wp2
    go_ret
    refine ⟨rfl, ?_⟩
    repeat' (first | (with_reducible exact Below.refl _ _) | (with_reducible assumption) | (with_reducible refine Below.trans ?_ (hb8.mono (by omega))) | (with_reducible refine Below.trans ?_ (hb9.mono (by omega))) | (with_reducible refine Below.trans ?_ (hb10.mono (by omega))) | (with_reducible refine Below.trans ?_ (hb12.mono (by omega))) | (with_reducible refine Chg.below ?_ hc11 (by omega) (by omega)))
end Go.Proofs.YtelfkakaaobfcaaDoor
/- Boxing and making, with a name for the new block. -/
namespace Go.Proofs.YtelfkakaaobfcaaDoor
open Go.RowKit Pl
set_option linter.unusedVariables false
set_option linter.unusedSimpArgs false
set_option maxRecDepth 20000
section
variable {ops : Array Oper} {rest : List Oper} {o : Oper} {a : Act} {w : World} {Q : Exit → Act → World → Prop}
theorem wpList_loadTw (hw : Region.wanted o (yielded ops a.tmps) = true) (x : Operand) (ho : o.op = .load 25 x) (b : Nat) (hx : a.eval x = .pointer (some ⟨b, 0, none⟩)) {f : Nat → Px} (ht : TileAt w b f)
    (h : wpList Tryd.prog ops Q rest (a.put o.dst (Tile.v f)) w) : wpList Tryd.prog ops Q (o :: rest) a w := by
  unfold wpList
  rw [if_pos hw]
  left
  unfold Oper.wp execOp
  simp only [ho, hx, run_load_tile ht, Sem.run_bind, Sem.run_pure, Result.andThen_ok]
  exact h
theorem wpList_boxT' (hg : o.guard = none) (x : Operand) (ho : o.op = .box 25 x) (f : Nat → Px) (hx : a.eval x = Tile.v f)
    (h : ∀ b w', w.heap.size ≤ b → b ≤ w.heap.size → TileAt w' b f → Below b w w' → w'.heap.size = b + 1 → wpList Tryd.prog ops Q rest (a.put o.dst (.pointer (some ⟨b, 0, none⟩))) w') : wpList Tryd.prog ops Q (o :: rest) a w :=
  wpList_boxT hg x ho f hx fun w' h1 h2 h3 => h _ w' (Nat.le_refl _) (Nat.le_refl _) h1 h2 h3
theorem wpList_boxPx' (hg : o.guard = none) (x : Operand) (ho : o.op = .box 23 x) (p : Px) (hx : a.eval x = Px.v p)
    (h : ∀ b w', w.heap.size ≤ b → b ≤ w.heap.size → PixAt w' b p → Below b w w' → w'.heap.size = b + 1 → wpList Tryd.prog ops Q rest (a.put o.dst (.pointer (some ⟨b, 0, none⟩))) w') : wpList Tryd.prog ops Q (o :: rest) a w :=
  wpList_boxPx hg x ho p hx fun w' h1 h2 h3 => h _ w' (Nat.le_refl _) (Nat.le_refl _) h1 h2 h3
theorem wpList_allocT' (hg : o.guard = none) (ho : o.op = .alloc 25)
    (h : ∀ b w', w.heap.size ≤ b → b ≤ w.heap.size → TileAt w' b (fun _ => Px.zero) → Below b w w' → w'.heap.size = b + 1 → wpList Tryd.prog ops Q rest (a.put o.dst (.pointer (some ⟨b, 0, none⟩))) w') : wpList Tryd.prog ops Q (o :: rest) a w :=
  wpList_allocT hg ho fun w' h1 h2 h3 => h _ w' (Nat.le_refl _) (Nat.le_refl _) h1 h2 h3
theorem wpList_allocPx' (hg : o.guard = none) (ho : o.op = .alloc 23)
    (h : ∀ b w', w.heap.size ≤ b → b ≤ w.heap.size → PixAt w' b Px.zero → Below b w w' → w'.heap.size = b + 1 → wpList Tryd.prog ops Q rest (a.put o.dst (.pointer (some ⟨b, 0, none⟩))) w') : wpList Tryd.prog ops Q (o :: rest) a w :=
  wpList_allocPx hg ho fun w' h1 h2 h3 => h _ w' (Nat.le_refl _) (Nat.le_refl _) h1 h2 h3
end
theorem TileAt.carry {w w' : World} {B b : Nat} {f : Nat → Px} (h : TileAt w b f) (k : Below B w w') (hb : b < B) : TileAt w' b f := h.of_eq (k.block _ hb)
theorem PixAt.carry {w w' : World} {B b : Nat} {p : Px} (h : PixAt w b p) (k : Below B w w') (hb : b < B) : PixAt w' b p := h.of_eq (k.block _ hb)
end Go.Proofs.YtelfkakaaobfcaaDoor
