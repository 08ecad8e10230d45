/- The sanity check of the tile laws returns true. -/
import Derived.Test.YtelfkakaaobfcaaTh
import Derived.Test.YtelfkakaaobfcaaTo
namespace Go.Proofs.Ytelfkakaaobfcaa
open Go.RowKit Pl
set_option linter.unusedVariables false
set_option linter.unusedSimpArgs false

def pP : Px := ⟨1, 0, 0, 255⟩
def pQ : Px := ⟨0, 2, 0, 255⟩
def pN : Px := ⟨9, 9, 9, 255⟩
def sanT : Nat → Px := setT (fillT pP) 1 0 pQ
def sanH : Nat → Px := halveT (four (fun _ => Px.zero) (fun _ => Px.zero) (fun _ => Px.zero) (fillT pN))
theorem san1 : getT (flipT sanT) 6 0 = pQ := by decide
theorem san2 : getT (turnT sanT) 7 1 = pQ := by decide
theorem san3 : getT (turnT sanT) 1 0 = pP := by decide
theorem san4 : getT sanH 3 3 = Px.zero := by decide
theorem san5 : getT sanH 4 4 = pN := by decide
theorem sanQ : ∀ s, s < 4 → Tok (four (fun _ => Px.zero) (fun _ => Px.zero) (fun _ => Px.zero) (fillT pN) s) := fun s hs i hi => by
  have h : s = 0 ∨ s = 1 ∨ s = 2 ∨ s = 3 := by omega
  rcases h with rfl | rfl | rfl | rfl
  · show Px.zero.ok; unfold Px.ok Px.zero; simp
  · show Px.zero.ok; unfold Px.ok Px.zero; simp
  · show Px.zero.ok; unfold Px.ok Px.zero; simp
  · show pN.ok; unfold Px.ok pN; simp

set_option maxHeartbeats 4000000 in
set_option maxRecDepth 20000 in
theorem sanity (w : World) : Calls Try.prog 9 #[] w fun e w' => e = .returned (.bool true) ∧ Below w.heap.size w w' := by
  go_enter Try.func9, Try.ntmps9
  go_upto_region 4 with (first | (refine wpList_storePx rfl _ _ rfl _ rfl (pN) rfl p3 ?_; clear p3; intro w6 p3 hc6 hz6; replace hz6 := Nat.le_of_eq hz6.symm; replace p1 := p1.of_eq (hc6.block _ p1.lt (by omega)); replace p2 := p2.of_eq (hc6.block _ p2.lt (by omega)); simp only [Act.put, List.setIfInBounds_toArray, List.set_cons_zero, List.set_cons_succ]) | (refine wpList_allocPx rfl rfl ?_; intro w5 p3 hb5 hz5; have l5 := Nat.lt_of_lt_of_eq (Nat.lt_succ_self _) hz5.symm; clear hz5; replace p1 := p1.of_eq (hb5.block _ p1.lt); replace p2 := p2.of_eq (hb5.block _ p2.lt); simp only [Act.put, List.setIfInBounds_toArray, List.set_cons_zero, List.set_cons_succ]) | (refine wpList_storePx rfl _ _ rfl _ rfl (pQ) rfl p2 ?_; clear p2; intro w4 p2 hc4 hz4; replace hz4 := Nat.le_of_eq hz4.symm; replace p1 := p1.of_eq (hc4.block _ p1.lt (by omega)); simp only [Act.put, List.setIfInBounds_toArray, List.set_cons_zero, List.set_cons_succ]) | (refine wpList_allocPx rfl rfl ?_; intro w3 p2 hb3 hz3; have l3 := Nat.lt_of_lt_of_eq (Nat.lt_succ_self _) hz3.symm; clear hz3; replace p1 := p1.of_eq (hb3.block _ p1.lt); simp only [Act.put, List.setIfInBounds_toArray, List.set_cons_zero, List.set_cons_succ]) | (refine wpList_storePx rfl _ _ rfl _ rfl (pP) rfl p1 ?_; clear p1; intro w2 p1 hc2 hz2; replace hz2 := Nat.le_of_eq hz2.symm; simp only [Act.put, List.setIfInBounds_toArray, List.set_cons_zero, List.set_cons_succ]) | (refine wpList_allocPx rfl rfl ?_; intro w1 p1 hb1 hz1; have l1 := Nat.lt_of_lt_of_eq (Nat.lt_succ_self _) hz1.symm; clear hz1; simp only [Act.put, List.setIfInBounds_toArray, List.set_cons_zero, List.set_cons_succ]))
  have B6 : Below w.heap.size w w6 := by
    repeat' (first | (with_reducible exact Below.refl _ _) | (with_reducible assumption) | (with_reducible refine Below.trans ?_ (hb1.mono (by omega))) | (with_reducible refine Below.trans ?_ (hb3.mono (by omega))) | (with_reducible refine Below.trans ?_ (hb5.mono (by omega))) | (with_reducible refine Chg.below ?_ hc2 (by omega) (by omega)) | (with_reducible refine Chg.below ?_ hc4 (by omega) (by omega)) | (with_reducible refine Chg.below ?_ hc6 (by omega) (by omega)))
  clear hb1 hb3 hb5 hc2 hc4 hc6
  go_cut [4] from 9 to 12 (fun s wx => ∃ b, s = .pointer (some ⟨b, 0, none⟩) ∧ TileAt wx b sanT ∧ Below w.heap.size w wx ∧ w6.heap.size ≤ wx.heap.size ∧ w6.heap.size ≤ b ∧ PixAt wx w.heap.size pP ∧ PixAt wx w2.heap.size pQ ∧ PixAt wx w4.heap.size pN)
  case first =>
    refine wp_region_any (by kernel_rfl) ?_
    change wpAny _ _ _ _ _ _ _ (World.drew _)
    have B7 : Below w.heap.size w w6.drew := B6.drew
    have hz7 : w6.heap.size ≤ w6.drew.heap.size := Nat.le_refl _
    replace p1 := p1.drew
    replace p2 := p2.drew
    replace p3 := p3.drew
    clear B6
    generalize w6.drew = w7 at *
    refine wpAny_ready (rs := [0, 2, 4]) (by kernel_rfl) (by simp) ?_
    refine AllReady.cons rfl (fun K hK => ite_of rfl ?_) ?_
    · simp only [List.getElem_toArray, List.getElem_cons_zero, List.getElem_cons_succ]
      refine owp_loadPx _ _ rfl rfl p1 ?_
      refine hK _ _ ?_
      simp only [Act.put, List.setIfInBounds_toArray, List.set_cons_zero, List.set_cons_succ]
      clear hK K
      refine wpAny_ready (rs := [1, 2, 4]) (by kernel_rfl) (by simp) ?_
      refine AllReady.cons rfl (fun K hK => ite_of rfl ?_) ?_
      · simp only [List.getElem_toArray, List.getElem_cons_zero, List.getElem_cons_succ]
        go_simp
        go_at_call 15
        refine (P_Fill _ _).mono ?_
        rintro e w8 ⟨rfl, hb8⟩
        have hz8 := hb8.size
        replace p1 := p1.of_eq (hb8.block _ p1.lt)
        replace p2 := p2.of_eq (hb8.block _ p2.lt)
        replace p3 := p3.of_eq (hb8.block _ p3.lt)
        refine hK _ _ ?_
        clear hK K
        refine wpAny_ready (rs := [2, 4]) (by kernel_rfl) (by simp) ?_
        refine AllReady.cons rfl (fun K hK => ite_of rfl ?_) ?_
        · simp only [List.getElem_toArray, List.getElem_cons_zero, List.getElem_cons_succ]
          refine owp_loadPx _ _ rfl rfl p2 ?_
          refine hK _ _ ?_
          simp only [Act.put, List.setIfInBounds_toArray, List.set_cons_zero, List.set_cons_succ]
          clear hK K
          refine wpAny_ready (rs := [3, 4]) (by kernel_rfl) (by simp) ?_
          refine AllReady.cons rfl (fun K hK => ite_of rfl ?_) ?_
          · simp only [List.getElem_toArray, List.getElem_cons_zero, List.getElem_cons_succ]
            go_simp
            go_at_call 14
            refine (P_Set _ _ _ _ _).mono ?_
            rintro e w9 ⟨rfl, hb9⟩
            have hz9 := hb9.size
            replace p1 := p1.of_eq (hb9.block _ p1.lt)
            replace p2 := p2.of_eq (hb9.block _ p2.lt)
            replace p3 := p3.of_eq (hb9.block _ p3.lt)
            refine hK _ _ ?_
            clear hK K
            refine wpAny_ready (rs := [4]) (by kernel_rfl) (by simp) ?_
            refine AllReady.cons rfl (fun K hK => ite_of rfl ?_) ?_
            · simp only [List.getElem_toArray, List.getElem_cons_zero, List.getElem_cons_succ]
              refine owp_allocT rfl ?_
              intro w10 t4 hb10 hz10
              have l10 := Nat.lt_of_lt_of_eq (Nat.lt_succ_self _) hz10.symm
              clear hz10
              replace p1 := p1.of_eq (hb10.block _ p1.lt)
              replace p2 := p2.of_eq (hb10.block _ p2.lt)
              replace p3 := p3.of_eq (hb10.block _ p3.lt)
              refine hK _ _ ?_
              simp only [Act.put, List.setIfInBounds_toArray, List.set_cons_zero, List.set_cons_succ]
              clear hK K
              refine wpAny_ready (rs := [5]) (by kernel_rfl) (by simp) ?_
              refine AllReady.cons rfl (fun K hK => ite_of rfl ?_) ?_
              · simp only [List.getElem_toArray, List.getElem_cons_zero, List.getElem_cons_succ]
                refine owp_storeT _ _ _ _ rfl rfl rfl t4 ?_
                clear t4
                intro w11 t4 hc11 hz11
                replace hz11 := Nat.le_of_eq hz11.symm
                replace p1 := p1.of_eq (hc11.block _ p1.lt (by omega))
                replace p2 := p2.of_eq (hc11.block _ p2.lt (by omega))
                replace p3 := p3.of_eq (hc11.block _ p3.lt (by omega))
                refine hK _ _ ?_
                simp only [Act.put, List.setIfInBounds_toArray, List.set_cons_zero, List.set_cons_succ]
                clear hK K
                refine wpAny_done (by kernel_rfl) ?_ _
                go_wp2_with fail
                go_meet
                exact ⟨_, rfl, t4, by repeat' (first | (with_reducible exact Below.refl _ _) | (with_reducible assumption) | (with_reducible refine Below.trans ?_ (hb8.mono (by omega))) | (with_reducible refine Below.trans ?_ (hb9.mono (by omega))) | (with_reducible refine Below.trans ?_ (hb10.mono (by omega))) | (with_reducible refine Chg.below ?_ hc11 (by omega) (by omega))), by omega, by omega, p1, p2, p3⟩
              exact AllReady.nil
            exact AllReady.nil
          refine AllReady.cons rfl (fun K hK => ite_of rfl ?_) ?_
          · simp only [List.getElem_toArray, List.getElem_cons_zero, List.getElem_cons_succ]
            refine owp_allocT rfl ?_
            intro w9 t4 hb9 hz9
            have l9 := Nat.lt_of_lt_of_eq (Nat.lt_succ_self _) hz9.symm
            clear hz9
            replace p1 := p1.of_eq (hb9.block _ p1.lt)
            replace p2 := p2.of_eq (hb9.block _ p2.lt)
            replace p3 := p3.of_eq (hb9.block _ p3.lt)
            refine hK _ _ ?_
            simp only [Act.put, List.setIfInBounds_toArray, List.set_cons_zero, List.set_cons_succ]
            clear hK K
            refine wpAny_ready (rs := [3]) (by kernel_rfl) (by simp) ?_
            refine AllReady.cons rfl (fun K hK => ite_of rfl ?_) ?_
            · simp only [List.getElem_toArray, List.getElem_cons_zero, List.getElem_cons_succ]
              go_simp
              go_at_call 14
              refine (P_Set _ _ _ _ _).mono ?_
              rintro e w10 ⟨rfl, hb10⟩
              have hz10 := hb10.size
              replace p1 := p1.of_eq (hb10.block _ p1.lt)
              replace p2 := p2.of_eq (hb10.block _ p2.lt)
              replace p3 := p3.of_eq (hb10.block _ p3.lt)
              replace t4 := t4.of_eq (hb10.block _ t4.lt)
              refine hK _ _ ?_
              clear hK K
              refine wpAny_ready (rs := [5]) (by kernel_rfl) (by simp) ?_
              refine AllReady.cons rfl (fun K hK => ite_of rfl ?_) ?_
              · simp only [List.getElem_toArray, List.getElem_cons_zero, List.getElem_cons_succ]
                refine owp_storeT _ _ _ _ rfl rfl rfl t4 ?_
                clear t4
                intro w11 t4 hc11 hz11
                replace hz11 := Nat.le_of_eq hz11.symm
                replace p1 := p1.of_eq (hc11.block _ p1.lt (by omega))
                replace p2 := p2.of_eq (hc11.block _ p2.lt (by omega))
                replace p3 := p3.of_eq (hc11.block _ p3.lt (by omega))
                refine hK _ _ ?_
                simp only [Act.put, List.setIfInBounds_toArray, List.set_cons_zero, List.set_cons_succ]
                clear hK K
                refine wpAny_done (by kernel_rfl) ?_ _
                go_wp2_with fail
                go_meet
                exact ⟨_, rfl, t4, by repeat' (first | (with_reducible exact Below.refl _ _) | (with_reducible assumption) | (with_reducible refine Below.trans ?_ (hb8.mono (by omega))) | (with_reducible refine Below.trans ?_ (hb9.mono (by omega))) | (with_reducible refine Below.trans ?_ (hb10.mono (by omega))) | (with_reducible refine Chg.below ?_ hc11 (by omega) (by omega))), by omega, by omega, p1, p2, p3⟩
              exact AllReady.nil
            exact AllReady.nil
          exact AllReady.nil
        refine AllReady.cons rfl (fun K hK => ite_of rfl ?_) ?_
        · simp only [List.getElem_toArray, List.getElem_cons_zero, List.getElem_cons_succ]
          refine owp_allocT rfl ?_
          intro w9 t4 hb9 hz9
          have l9 := Nat.lt_of_lt_of_eq (Nat.lt_succ_self _) hz9.symm
          clear hz9
          replace p1 := p1.of_eq (hb9.block _ p1.lt)
          replace p2 := p2.of_eq (hb9.block _ p2.lt)
          replace p3 := p3.of_eq (hb9.block _ p3.lt)
          refine hK _ _ ?_
          simp only [Act.put, List.setIfInBounds_toArray, List.set_cons_zero, List.set_cons_succ]
          clear hK K
          refine wpAny_ready (rs := [2]) (by kernel_rfl) (by simp) ?_
          refine AllReady.cons rfl (fun K hK => ite_of rfl ?_) ?_
          · simp only [List.getElem_toArray, List.getElem_cons_zero, List.getElem_cons_succ]
            refine owp_loadPx _ _ rfl rfl p2 ?_
            refine hK _ _ ?_
            simp only [Act.put, List.setIfInBounds_toArray, List.set_cons_zero, List.set_cons_succ]
            clear hK K
            refine wpAny_ready (rs := [3]) (by kernel_rfl) (by simp) ?_
            refine AllReady.cons rfl (fun K hK => ite_of rfl ?_) ?_
            · simp only [List.getElem_toArray, List.getElem_cons_zero, List.getElem_cons_succ]
              go_simp
              go_at_call 14
              refine (P_Set _ _ _ _ _).mono ?_
              rintro e w10 ⟨rfl, hb10⟩
              have hz10 := hb10.size
              replace p1 := p1.of_eq (hb10.block _ p1.lt)
              replace p2 := p2.of_eq (hb10.block _ p2.lt)
              replace p3 := p3.of_eq (hb10.block _ p3.lt)
              replace t4 := t4.of_eq (hb10.block _ t4.lt)
              refine hK _ _ ?_
              clear hK K
              refine wpAny_ready (rs := [5]) (by kernel_rfl) (by simp) ?_
              refine AllReady.cons rfl (fun K hK => ite_of rfl ?_) ?_
              · simp only [List.getElem_toArray, List.getElem_cons_zero, List.getElem_cons_succ]
                refine owp_storeT _ _ _ _ rfl rfl rfl t4 ?_
                clear t4
                intro w11 t4 hc11 hz11
                replace hz11 := Nat.le_of_eq hz11.symm
                replace p1 := p1.of_eq (hc11.block _ p1.lt (by omega))
                replace p2 := p2.of_eq (hc11.block _ p2.lt (by omega))
                replace p3 := p3.of_eq (hc11.block _ p3.lt (by omega))
                refine hK _ _ ?_
                simp only [Act.put, List.setIfInBounds_toArray, List.set_cons_zero, List.set_cons_succ]
                clear hK K
                refine wpAny_done (by kernel_rfl) ?_ _
                go_wp2_with fail
                go_meet
                exact ⟨_, rfl, t4, by repeat' (first | (with_reducible exact Below.refl _ _) | (with_reducible assumption) | (with_reducible refine Below.trans ?_ (hb8.mono (by omega))) | (with_reducible refine Below.trans ?_ (hb9.mono (by omega))) | (with_reducible refine Below.trans ?_ (hb10.mono (by omega))) | (with_reducible refine Chg.below ?_ hc11 (by omega) (by omega))), by omega, by omega, p1, p2, p3⟩
              exact AllReady.nil
            exact AllReady.nil
          exact AllReady.nil
        exact AllReady.nil
      refine AllReady.cons rfl (fun K hK => ite_of rfl ?_) ?_
      · simp only [List.getElem_toArray, List.getElem_cons_zero, List.getElem_cons_succ]
        refine owp_loadPx _ _ rfl rfl p2 ?_
        refine hK _ _ ?_
        simp only [Act.put, List.setIfInBounds_toArray, List.set_cons_zero, List.set_cons_succ]
        clear hK K
        refine wpAny_ready (rs := [1, 4]) (by kernel_rfl) (by simp) ?_
        refine AllReady.cons rfl (fun K hK => ite_of rfl ?_) ?_
        · simp only [List.getElem_toArray, List.getElem_cons_zero, List.getElem_cons_succ]
          go_simp
          go_at_call 15
          refine (P_Fill _ _).mono ?_
          rintro e w8 ⟨rfl, hb8⟩
          have hz8 := hb8.size
          replace p1 := p1.of_eq (hb8.block _ p1.lt)
          replace p2 := p2.of_eq (hb8.block _ p2.lt)
          replace p3 := p3.of_eq (hb8.block _ p3.lt)
          refine hK _ _ ?_
          clear hK K
          refine wpAny_ready (rs := [3, 4]) (by kernel_rfl) (by simp) ?_
          refine AllReady.cons rfl (fun K hK => ite_of rfl ?_) ?_
          · simp only [List.getElem_toArray, List.getElem_cons_zero, List.getElem_cons_succ]
            go_simp
            go_at_call 14
            refine (P_Set _ _ _ _ _).mono ?_
            rintro e w9 ⟨rfl, hb9⟩
            have hz9 := hb9.size
            replace p1 := p1.of_eq (hb9.block _ p1.lt)
            replace p2 := p2.of_eq (hb9.block _ p2.lt)
            replace p3 := p3.of_eq (hb9.block _ p3.lt)
            refine hK _ _ ?_
            clear hK K
            refine wpAny_ready (rs := [4]) (by kernel_rfl) (by simp) ?_
            refine AllReady.cons rfl (fun K hK => ite_of rfl ?_) ?_
            · simp only [List.getElem_toArray, List.getElem_cons_zero, List.getElem_cons_succ]
              refine owp_allocT rfl ?_
              intro w10 t4 hb10 hz10
              have l10 := Nat.lt_of_lt_of_eq (Nat.lt_succ_self _) hz10.symm
              clear hz10
              replace p1 := p1.of_eq (hb10.block _ p1.lt)
              replace p2 := p2.of_eq (hb10.block _ p2.lt)
              replace p3 := p3.of_eq (hb10.block _ p3.lt)
              refine hK _ _ ?_
              simp only [Act.put, List.setIfInBounds_toArray, List.set_cons_zero, List.set_cons_succ]
              clear hK K
              refine wpAny_ready (rs := [5]) (by kernel_rfl) (by simp) ?_
              refine AllReady.cons rfl (fun K hK => ite_of rfl ?_) ?_
              · simp only [List.getElem_toArray, List.getElem_cons_zero, List.getElem_cons_succ]
                refine owp_storeT _ _ _ _ rfl rfl rfl t4 ?_
                clear t4
                intro w11 t4 hc11 hz11
                replace hz11 := Nat.le_of_eq hz11.symm
                replace p1 := p1.of_eq (hc11.block _ p1.lt (by omega))
                replace p2 := p2.of_eq (hc11.block _ p2.lt (by omega))
                replace p3 := p3.of_eq (hc11.block _ p3.lt (by omega))
                refine hK _ _ ?_
                simp only [Act.put, List.setIfInBounds_toArray, List.set_cons_zero, List.set_cons_succ]
                clear hK K
                refine wpAny_done (by kernel_rfl) ?_ _
                go_wp2_with fail
                go_meet
                exact ⟨_, rfl, t4, by repeat' (first | (with_reducible exact Below.refl _ _) | (with_reducible assumption) | (with_reducible refine Below.trans ?_ (hb8.mono (by omega))) | (with_reducible refine Below.trans ?_ (hb9.mono (by omega))) | (with_reducible refine Below.trans ?_ (hb10.mono (by omega))) | (with_reducible refine Chg.below ?_ hc11 (by omega) (by omega))), by omega, by omega, p1, p2, p3⟩
              exact AllReady.nil
            exact AllReady.nil
          refine AllReady.cons rfl (fun K hK => ite_of rfl ?_) ?_
          · simp only [List.getElem_toArray, List.getElem_cons_zero, List.getElem_cons_succ]
            refine owp_allocT rfl ?_
            intro w9 t4 hb9 hz9
            have l9 := Nat.lt_of_lt_of_eq (Nat.lt_succ_self _) hz9.symm
            clear hz9
            replace p1 := p1.of_eq (hb9.block _ p1.lt)
            replace p2 := p2.of_eq (hb9.block _ p2.lt)
            replace p3 := p3.of_eq (hb9.block _ p3.lt)
            refine hK _ _ ?_
            simp only [Act.put, List.setIfInBounds_toArray, List.set_cons_zero, List.set_cons_succ]
            clear hK K
            refine wpAny_ready (rs := [3]) (by kernel_rfl) (by simp) ?_
            refine AllReady.cons rfl (fun K hK => ite_of rfl ?_) ?_
            · simp only [List.getElem_toArray, List.getElem_cons_zero, List.getElem_cons_succ]
              go_simp
              go_at_call 14
              refine (P_Set _ _ _ _ _).mono ?_
              rintro e w10 ⟨rfl, hb10⟩
              have hz10 := hb10.size
              replace p1 := p1.of_eq (hb10.block _ p1.lt)
              replace p2 := p2.of_eq (hb10.block _ p2.lt)
              replace p3 := p3.of_eq (hb10.block _ p3.lt)
              replace t4 := t4.of_eq (hb10.block _ t4.lt)
              refine hK _ _ ?_
              clear hK K
              refine wpAny_ready (rs := [5]) (by kernel_rfl) (by simp) ?_
              refine AllReady.cons rfl (fun K hK => ite_of rfl ?_) ?_
              · simp only [List.getElem_toArray, List.getElem_cons_zero, List.getElem_cons_succ]
                refine owp_storeT _ _ _ _ rfl rfl rfl t4 ?_
                clear t4
                intro w11 t4 hc11 hz11
                replace hz11 := Nat.le_of_eq hz11.symm
                replace p1 := p1.of_eq (hc11.block _ p1.lt (by omega))
                replace p2 := p2.of_eq (hc11.block _ p2.lt (by omega))
                replace p3 := p3.of_eq (hc11.block _ p3.lt (by omega))
                refine hK _ _ ?_
                simp only [Act.put, List.setIfInBounds_toArray, List.set_cons_zero, List.set_cons_succ]
                clear hK K
                refine wpAny_done (by kernel_rfl) ?_ _
                go_wp2_with fail
                go_meet
                exact ⟨_, rfl, t4, by repeat' (first | (with_reducible exact Below.refl _ _) | (with_reducible assumption) | (with_reducible refine Below.trans ?_ (hb8.mono (by omega))) | (with_reducible refine Below.trans ?_ (hb9.mono (by omega))) | (with_reducible refine Below.trans ?_ (hb10.mono (by omega))) | (with_reducible refine Chg.below ?_ hc11 (by omega) (by omega))), by omega, by omega, p1, p2, p3⟩
              exact AllReady.nil
            exact AllReady.nil
          exact AllReady.nil
        refine AllReady.cons rfl (fun K hK => ite_of rfl ?_) ?_
        · simp only [List.getElem_toArray, List.getElem_cons_zero, List.getElem_cons_succ]
          refine owp_allocT rfl ?_
          intro w8 t4 hb8 hz8
          have l8 := Nat.lt_of_lt_of_eq (Nat.lt_succ_self _) hz8.symm
          clear hz8
          replace p1 := p1.of_eq (hb8.block _ p1.lt)
          replace p2 := p2.of_eq (hb8.block _ p2.lt)
          replace p3 := p3.of_eq (hb8.block _ p3.lt)
          refine hK _ _ ?_
          simp only [Act.put, List.setIfInBounds_toArray, List.set_cons_zero, List.set_cons_succ]
          clear hK K
          refine wpAny_ready (rs := [1]) (by kernel_rfl) (by simp) ?_
          refine AllReady.cons rfl (fun K hK => ite_of rfl ?_) ?_
          · simp only [List.getElem_toArray, List.getElem_cons_zero, List.getElem_cons_succ]
            go_simp
            go_at_call 15
            refine (P_Fill _ _).mono ?_
            rintro e w9 ⟨rfl, hb9⟩
            have hz9 := hb9.size
            replace p1 := p1.of_eq (hb9.block _ p1.lt)
            replace p2 := p2.of_eq (hb9.block _ p2.lt)
            replace p3 := p3.of_eq (hb9.block _ p3.lt)
            replace t4 := t4.of_eq (hb9.block _ t4.lt)
            refine hK _ _ ?_
            clear hK K
            refine wpAny_ready (rs := [3]) (by kernel_rfl) (by simp) ?_
            refine AllReady.cons rfl (fun K hK => ite_of rfl ?_) ?_
            · simp only [List.getElem_toArray, List.getElem_cons_zero, List.getElem_cons_succ]
              go_simp
              go_at_call 14
              refine (P_Set _ _ _ _ _).mono ?_
              rintro e w10 ⟨rfl, hb10⟩
              have hz10 := hb10.size
              replace p1 := p1.of_eq (hb10.block _ p1.lt)
              replace p2 := p2.of_eq (hb10.block _ p2.lt)
              replace p3 := p3.of_eq (hb10.block _ p3.lt)
              replace t4 := t4.of_eq (hb10.block _ t4.lt)
              refine hK _ _ ?_
              clear hK K
              refine wpAny_ready (rs := [5]) (by kernel_rfl) (by simp) ?_
              refine AllReady.cons rfl (fun K hK => ite_of rfl ?_) ?_
              · simp only [List.getElem_toArray, List.getElem_cons_zero, List.getElem_cons_succ]
                refine owp_storeT _ _ _ _ rfl rfl rfl t4 ?_
                clear t4
                intro w11 t4 hc11 hz11
                replace hz11 := Nat.le_of_eq hz11.symm
                replace p1 := p1.of_eq (hc11.block _ p1.lt (by omega))
                replace p2 := p2.of_eq (hc11.block _ p2.lt (by omega))
                replace p3 := p3.of_eq (hc11.block _ p3.lt (by omega))
                refine hK _ _ ?_
                simp only [Act.put, List.setIfInBounds_toArray, List.set_cons_zero, List.set_cons_succ]
                clear hK K
                refine wpAny_done (by kernel_rfl) ?_ _
                go_wp2_with fail
                go_meet
                exact ⟨_, rfl, t4, by repeat' (first | (with_reducible exact Below.refl _ _) | (with_reducible assumption) | (with_reducible refine Below.trans ?_ (hb8.mono (by omega))) | (with_reducible refine Below.trans ?_ (hb9.mono (by omega))) | (with_reducible refine Below.trans ?_ (hb10.mono (by omega))) | (with_reducible refine Chg.below ?_ hc11 (by omega) (by omega))), by omega, by omega, p1, p2, p3⟩
              exact AllReady.nil
            exact AllReady.nil
          exact AllReady.nil
        exact AllReady.nil
      refine AllReady.cons rfl (fun K hK => ite_of rfl ?_) ?_
      · simp only [List.getElem_toArray, List.getElem_cons_zero, List.getElem_cons_succ]
        refine owp_allocT rfl ?_
        intro w8 t4 hb8 hz8
        have l8 := Nat.lt_of_lt_of_eq (Nat.lt_succ_self _) hz8.symm
        clear hz8
        replace p1 := p1.of_eq (hb8.block _ p1.lt)
        replace p2 := p2.of_eq (hb8.block _ p2.lt)
        replace p3 := p3.of_eq (hb8.block _ p3.lt)
        refine hK _ _ ?_
        simp only [Act.put, List.setIfInBounds_toArray, List.set_cons_zero, List.set_cons_succ]
        clear hK K
        refine wpAny_ready (rs := [1, 2]) (by kernel_rfl) (by simp) ?_
        refine AllReady.cons rfl (fun K hK => ite_of rfl ?_) ?_
        · simp only [List.getElem_toArray, List.getElem_cons_zero, List.getElem_cons_succ]
          go_simp
          go_at_call 15
          refine (P_Fill _ _).mono ?_
          rintro e w9 ⟨rfl, hb9⟩
          have hz9 := hb9.size
          replace p1 := p1.of_eq (hb9.block _ p1.lt)
          replace p2 := p2.of_eq (hb9.block _ p2.lt)
          replace p3 := p3.of_eq (hb9.block _ p3.lt)
          replace t4 := t4.of_eq (hb9.block _ t4.lt)
          refine hK _ _ ?_
          clear hK K
          refine wpAny_ready (rs := [2]) (by kernel_rfl) (by simp) ?_
          refine AllReady.cons rfl (fun K hK => ite_of rfl ?_) ?_
          · simp only [List.getElem_toArray, List.getElem_cons_zero, List.getElem_cons_succ]
            refine owp_loadPx _ _ rfl rfl p2 ?_
            refine hK _ _ ?_
            simp only [Act.put, List.setIfInBounds_toArray, List.set_cons_zero, List.set_cons_succ]
            clear hK K
            refine wpAny_ready (rs := [3]) (by kernel_rfl) (by simp) ?_
            refine AllReady.cons rfl (fun K hK => ite_of rfl ?_) ?_
            · simp only [List.getElem_toArray, List.getElem_cons_zero, List.getElem_cons_succ]
              go_simp
              go_at_call 14
              refine (P_Set _ _ _ _ _).mono ?_
              rintro e w10 ⟨rfl, hb10⟩
              have hz10 := hb10.size
              replace p1 := p1.of_eq (hb10.block _ p1.lt)
              replace p2 := p2.of_eq (hb10.block _ p2.lt)
              replace p3 := p3.of_eq (hb10.block _ p3.lt)
              replace t4 := t4.of_eq (hb10.block _ t4.lt)
              refine hK _ _ ?_
              clear hK K
              refine wpAny_ready (rs := [5]) (by kernel_rfl) (by simp) ?_
              refine AllReady.cons rfl (fun K hK => ite_of rfl ?_) ?_
              · simp only [List.getElem_toArray, List.getElem_cons_zero, List.getElem_cons_succ]
                refine owp_storeT _ _ _ _ rfl rfl rfl t4 ?_
                clear t4
                intro w11 t4 hc11 hz11
                replace hz11 := Nat.le_of_eq hz11.symm
                replace p1 := p1.of_eq (hc11.block _ p1.lt (by omega))
                replace p2 := p2.of_eq (hc11.block _ p2.lt (by omega))
                replace p3 := p3.of_eq (hc11.block _ p3.lt (by omega))
                refine hK _ _ ?_
                simp only [Act.put, List.setIfInBounds_toArray, List.set_cons_zero, List.set_cons_succ]
                clear hK K
                refine wpAny_done (by kernel_rfl) ?_ _
                go_wp2_with fail
                go_meet
                exact ⟨_, rfl, t4, by repeat' (first | (with_reducible exact Below.refl _ _) | (with_reducible assumption) | (with_reducible refine Below.trans ?_ (hb8.mono (by omega))) | (with_reducible refine Below.trans ?_ (hb9.mono (by omega))) | (with_reducible refine Below.trans ?_ (hb10.mono (by omega))) | (with_reducible refine Chg.below ?_ hc11 (by omega) (by omega))), by omega, by omega, p1, p2, p3⟩
              exact AllReady.nil
            exact AllReady.nil
          exact AllReady.nil
        refine AllReady.cons rfl (fun K hK => ite_of rfl ?_) ?_
        · simp only [List.getElem_toArray, List.getElem_cons_zero, List.getElem_cons_succ]
          refine owp_loadPx _ _ rfl rfl p2 ?_
          refine hK _ _ ?_
          simp only [Act.put, List.setIfInBounds_toArray, List.set_cons_zero, List.set_cons_succ]
          clear hK K
          refine wpAny_ready (rs := [1]) (by kernel_rfl) (by simp) ?_
          refine AllReady.cons rfl (fun K hK => ite_of rfl ?_) ?_
          · simp only [List.getElem_toArray, List.getElem_cons_zero, List.getElem_cons_succ]
            go_simp
            go_at_call 15
            refine (P_Fill _ _).mono ?_
            rintro e w9 ⟨rfl, hb9⟩
            have hz9 := hb9.size
            replace p1 := p1.of_eq (hb9.block _ p1.lt)
            replace p2 := p2.of_eq (hb9.block _ p2.lt)
            replace p3 := p3.of_eq (hb9.block _ p3.lt)
            replace t4 := t4.of_eq (hb9.block _ t4.lt)
            refine hK _ _ ?_
            clear hK K
            refine wpAny_ready (rs := [3]) (by kernel_rfl) (by simp) ?_
            refine AllReady.cons rfl (fun K hK => ite_of rfl ?_) ?_
            · simp only [List.getElem_toArray, List.getElem_cons_zero, List.getElem_cons_succ]
              go_simp
              go_at_call 14
              refine (P_Set _ _ _ _ _).mono ?_
              rintro e w10 ⟨rfl, hb10⟩
              have hz10 := hb10.size
              replace p1 := p1.of_eq (hb10.block _ p1.lt)
              replace p2 := p2.of_eq (hb10.block _ p2.lt)
              replace p3 := p3.of_eq (hb10.block _ p3.lt)
              replace t4 := t4.of_eq (hb10.block _ t4.lt)
              refine hK _ _ ?_
              clear hK K
              refine wpAny_ready (rs := [5]) (by kernel_rfl) (by simp) ?_
              refine AllReady.cons rfl (fun K hK => ite_of rfl ?_) ?_
              · simp only [List.getElem_toArray, List.getElem_cons_zero, List.getElem_cons_succ]
                refine owp_storeT _ _ _ _ rfl rfl rfl t4 ?_
                clear t4
                intro w11 t4 hc11 hz11
                replace hz11 := Nat.le_of_eq hz11.symm
                replace p1 := p1.of_eq (hc11.block _ p1.lt (by omega))
                replace p2 := p2.of_eq (hc11.block _ p2.lt (by omega))
                replace p3 := p3.of_eq (hc11.block _ p3.lt (by omega))
                refine hK _ _ ?_
                simp only [Act.put, List.setIfInBounds_toArray, List.set_cons_zero, List.set_cons_succ]
                clear hK K
                refine wpAny_done (by kernel_rfl) ?_ _
                go_wp2_with fail
                go_meet
                exact ⟨_, rfl, t4, by repeat' (first | (with_reducible exact Below.refl _ _) | (with_reducible assumption) | (with_reducible refine Below.trans ?_ (hb8.mono (by omega))) | (with_reducible refine Below.trans ?_ (hb9.mono (by omega))) | (with_reducible refine Below.trans ?_ (hb10.mono (by omega))) | (with_reducible refine Chg.below ?_ hc11 (by omega) (by omega))), by omega, by omega, p1, p2, p3⟩
              exact AllReady.nil
            exact AllReady.nil
          exact AllReady.nil
        exact AllReady.nil
      exact AllReady.nil
    refine AllReady.cons rfl (fun K hK => ite_of rfl ?_) ?_
    · simp only [List.getElem_toArray, List.getElem_cons_zero, List.getElem_cons_succ]
      refine owp_loadPx _ _ rfl rfl p2 ?_
      refine hK _ _ ?_
      simp only [Act.put, List.setIfInBounds_toArray, List.set_cons_zero, List.set_cons_succ]
      clear hK K
      refine wpAny_ready (rs := [0, 4]) (by kernel_rfl) (by simp) ?_
      refine AllReady.cons rfl (fun K hK => ite_of rfl ?_) ?_
      · simp only [List.getElem_toArray, List.getElem_cons_zero, List.getElem_cons_succ]
        refine owp_loadPx _ _ rfl rfl p1 ?_
        refine hK _ _ ?_
        simp only [Act.put, List.setIfInBounds_toArray, List.set_cons_zero, List.set_cons_succ]
        clear hK K
        refine wpAny_ready (rs := [1, 4]) (by kernel_rfl) (by simp) ?_
        refine AllReady.cons rfl (fun K hK => ite_of rfl ?_) ?_
        · simp only [List.getElem_toArray, List.getElem_cons_zero, List.getElem_cons_succ]
          go_simp
          go_at_call 15
          refine (P_Fill _ _).mono ?_
          rintro e w8 ⟨rfl, hb8⟩
          have hz8 := hb8.size
          replace p1 := p1.of_eq (hb8.block _ p1.lt)
          replace p2 := p2.of_eq (hb8.block _ p2.lt)
          replace p3 := p3.of_eq (hb8.block _ p3.lt)
          refine hK _ _ ?_
          clear hK K
          refine wpAny_ready (rs := [3, 4]) (by kernel_rfl) (by simp) ?_
          refine AllReady.cons rfl (fun K hK => ite_of rfl ?_) ?_
          · simp only [List.getElem_toArray, List.getElem_cons_zero, List.getElem_cons_succ]
            go_simp
            go_at_call 14
            refine (P_Set _ _ _ _ _).mono ?_
            rintro e w9 ⟨rfl, hb9⟩
            have hz9 := hb9.size
            replace p1 := p1.of_eq (hb9.block _ p1.lt)
            replace p2 := p2.of_eq (hb9.block _ p2.lt)
            replace p3 := p3.of_eq (hb9.block _ p3.lt)
            refine hK _ _ ?_
            clear hK K
            refine wpAny_ready (rs := [4]) (by kernel_rfl) (by simp) ?_
            refine AllReady.cons rfl (fun K hK => ite_of rfl ?_) ?_
            · simp only [List.getElem_toArray, List.getElem_cons_zero, List.getElem_cons_succ]
              refine owp_allocT rfl ?_
              intro w10 t4 hb10 hz10
              have l10 := Nat.lt_of_lt_of_eq (Nat.lt_succ_self _) hz10.symm
              clear hz10
              replace p1 := p1.of_eq (hb10.block _ p1.lt)
              replace p2 := p2.of_eq (hb10.block _ p2.lt)
              replace p3 := p3.of_eq (hb10.block _ p3.lt)
              refine hK _ _ ?_
              simp only [Act.put, List.setIfInBounds_toArray, List.set_cons_zero, List.set_cons_succ]
              clear hK K
              refine wpAny_ready (rs := [5]) (by kernel_rfl) (by simp) ?_
              refine AllReady.cons rfl (fun K hK => ite_of rfl ?_) ?_
              · simp only [List.getElem_toArray, List.getElem_cons_zero, List.getElem_cons_succ]
                refine owp_storeT _ _ _ _ rfl rfl rfl t4 ?_
                clear t4
                intro w11 t4 hc11 hz11
                replace hz11 := Nat.le_of_eq hz11.symm
                replace p1 := p1.of_eq (hc11.block _ p1.lt (by omega))
                replace p2 := p2.of_eq (hc11.block _ p2.lt (by omega))
                replace p3 := p3.of_eq (hc11.block _ p3.lt (by omega))
                refine hK _ _ ?_
                simp only [Act.put, List.setIfInBounds_toArray, List.set_cons_zero, List.set_cons_succ]
                clear hK K
                refine wpAny_done (by kernel_rfl) ?_ _
                go_wp2_with fail
                go_meet
                exact ⟨_, rfl, t4, by repeat' (first | (with_reducible exact Below.refl _ _) | (with_reducible assumption) | (with_reducible refine Below.trans ?_ (hb8.mono (by omega))) | (with_reducible refine Below.trans ?_ (hb9.mono (by omega))) | (with_reducible refine Below.trans ?_ (hb10.mono (by omega))) | (with_reducible refine Chg.below ?_ hc11 (by omega) (by omega))), by omega, by omega, p1, p2, p3⟩
              exact AllReady.nil
            exact AllReady.nil
          refine AllReady.cons rfl (fun K hK => ite_of rfl ?_) ?_
          · simp only [List.getElem_toArray, List.getElem_cons_zero, List.getElem_cons_succ]
            refine owp_allocT rfl ?_
            intro w9 t4 hb9 hz9
            have l9 := Nat.lt_of_lt_of_eq (Nat.lt_succ_self _) hz9.symm
            clear hz9
            replace p1 := p1.of_eq (hb9.block _ p1.lt)
            replace p2 := p2.of_eq (hb9.block _ p2.lt)
            replace p3 := p3.of_eq (hb9.block _ p3.lt)
            refine hK _ _ ?_
            simp only [Act.put, List.setIfInBounds_toArray, List.set_cons_zero, List.set_cons_succ]
            clear hK K
            refine wpAny_ready (rs := [3]) (by kernel_rfl) (by simp) ?_
            refine AllReady.cons rfl (fun K hK => ite_of rfl ?_) ?_
            · simp only [List.getElem_toArray, List.getElem_cons_zero, List.getElem_cons_succ]
              go_simp
              go_at_call 14
              refine (P_Set _ _ _ _ _).mono ?_
              rintro e w10 ⟨rfl, hb10⟩
              have hz10 := hb10.size
              replace p1 := p1.of_eq (hb10.block _ p1.lt)
              replace p2 := p2.of_eq (hb10.block _ p2.lt)
              replace p3 := p3.of_eq (hb10.block _ p3.lt)
              replace t4 := t4.of_eq (hb10.block _ t4.lt)
              refine hK _ _ ?_
              clear hK K
              refine wpAny_ready (rs := [5]) (by kernel_rfl) (by simp) ?_
              refine AllReady.cons rfl (fun K hK => ite_of rfl ?_) ?_
              · simp only [List.getElem_toArray, List.getElem_cons_zero, List.getElem_cons_succ]
                refine owp_storeT _ _ _ _ rfl rfl rfl t4 ?_
                clear t4
                intro w11 t4 hc11 hz11
                replace hz11 := Nat.le_of_eq hz11.symm
                replace p1 := p1.of_eq (hc11.block _ p1.lt (by omega))
                replace p2 := p2.of_eq (hc11.block _ p2.lt (by omega))
                replace p3 := p3.of_eq (hc11.block _ p3.lt (by omega))
                refine hK _ _ ?_
                simp only [Act.put, List.setIfInBounds_toArray, List.set_cons_zero, List.set_cons_succ]
                clear hK K
                refine wpAny_done (by kernel_rfl) ?_ _
                go_wp2_with fail
                go_meet
                exact ⟨_, rfl, t4, by repeat' (first | (with_reducible exact Below.refl _ _) | (with_reducible assumption) | (with_reducible refine Below.trans ?_ (hb8.mono (by omega))) | (with_reducible refine Below.trans ?_ (hb9.mono (by omega))) | (with_reducible refine Below.trans ?_ (hb10.mono (by omega))) | (with_reducible refine Chg.below ?_ hc11 (by omega) (by omega))), by omega, by omega, p1, p2, p3⟩
              exact AllReady.nil
            exact AllReady.nil
          exact AllReady.nil
        refine AllReady.cons rfl (fun K hK => ite_of rfl ?_) ?_
        · simp only [List.getElem_toArray, List.getElem_cons_zero, List.getElem_cons_succ]
          refine owp_allocT rfl ?_
          intro w8 t4 hb8 hz8
          have l8 := Nat.lt_of_lt_of_eq (Nat.lt_succ_self _) hz8.symm
          clear hz8
          replace p1 := p1.of_eq (hb8.block _ p1.lt)
          replace p2 := p2.of_eq (hb8.block _ p2.lt)
          replace p3 := p3.of_eq (hb8.block _ p3.lt)
          refine hK _ _ ?_
          simp only [Act.put, List.setIfInBounds_toArray, List.set_cons_zero, List.set_cons_succ]
          clear hK K
          refine wpAny_ready (rs := [1]) (by kernel_rfl) (by simp) ?_
          refine AllReady.cons rfl (fun K hK => ite_of rfl ?_) ?_
          · simp only [List.getElem_toArray, List.getElem_cons_zero, List.getElem_cons_succ]
            go_simp
            go_at_call 15
            refine (P_Fill _ _).mono ?_
            rintro e w9 ⟨rfl, hb9⟩
            have hz9 := hb9.size
            replace p1 := p1.of_eq (hb9.block _ p1.lt)
            replace p2 := p2.of_eq (hb9.block _ p2.lt)
            replace p3 := p3.of_eq (hb9.block _ p3.lt)
            replace t4 := t4.of_eq (hb9.block _ t4.lt)
            refine hK _ _ ?_
            clear hK K
            refine wpAny_ready (rs := [3]) (by kernel_rfl) (by simp) ?_
            refine AllReady.cons rfl (fun K hK => ite_of rfl ?_) ?_
            · simp only [List.getElem_toArray, List.getElem_cons_zero, List.getElem_cons_succ]
              go_simp
              go_at_call 14
              refine (P_Set _ _ _ _ _).mono ?_
              rintro e w10 ⟨rfl, hb10⟩
              have hz10 := hb10.size
              replace p1 := p1.of_eq (hb10.block _ p1.lt)
              replace p2 := p2.of_eq (hb10.block _ p2.lt)
              replace p3 := p3.of_eq (hb10.block _ p3.lt)
              replace t4 := t4.of_eq (hb10.block _ t4.lt)
              refine hK _ _ ?_
              clear hK K
              refine wpAny_ready (rs := [5]) (by kernel_rfl) (by simp) ?_
              refine AllReady.cons rfl (fun K hK => ite_of rfl ?_) ?_
              · simp only [List.getElem_toArray, List.getElem_cons_zero, List.getElem_cons_succ]
                refine owp_storeT _ _ _ _ rfl rfl rfl t4 ?_
                clear t4
                intro w11 t4 hc11 hz11
                replace hz11 := Nat.le_of_eq hz11.symm
                replace p1 := p1.of_eq (hc11.block _ p1.lt (by omega))
                replace p2 := p2.of_eq (hc11.block _ p2.lt (by omega))
                replace p3 := p3.of_eq (hc11.block _ p3.lt (by omega))
                refine hK _ _ ?_
                simp only [Act.put, List.setIfInBounds_toArray, List.set_cons_zero, List.set_cons_succ]
                clear hK K
                refine wpAny_done (by kernel_rfl) ?_ _
                go_wp2_with fail
                go_meet
                exact ⟨_, rfl, t4, by repeat' (first | (with_reducible exact Below.refl _ _) | (with_reducible assumption) | (with_reducible refine Below.trans ?_ (hb8.mono (by omega))) | (with_reducible refine Below.trans ?_ (hb9.mono (by omega))) | (with_reducible refine Below.trans ?_ (hb10.mono (by omega))) | (with_reducible refine Chg.below ?_ hc11 (by omega) (by omega))), by omega, by omega, p1, p2, p3⟩
              exact AllReady.nil
            exact AllReady.nil
          exact AllReady.nil
        exact AllReady.nil
      refine AllReady.cons rfl (fun K hK => ite_of rfl ?_) ?_
      · simp only [List.getElem_toArray, List.getElem_cons_zero, List.getElem_cons_succ]
        refine owp_allocT rfl ?_
        intro w8 t4 hb8 hz8
        have l8 := Nat.lt_of_lt_of_eq (Nat.lt_succ_self _) hz8.symm
        clear hz8
        replace p1 := p1.of_eq (hb8.block _ p1.lt)
        replace p2 := p2.of_eq (hb8.block _ p2.lt)
        replace p3 := p3.of_eq (hb8.block _ p3.lt)
        refine hK _ _ ?_
        simp only [Act.put, List.setIfInBounds_toArray, List.set_cons_zero, List.set_cons_succ]
        clear hK K
        refine wpAny_ready (rs := [0]) (by kernel_rfl) (by simp) ?_
        refine AllReady.cons rfl (fun K hK => ite_of rfl ?_) ?_
        · simp only [List.getElem_toArray, List.getElem_cons_zero, List.getElem_cons_succ]
          refine owp_loadPx _ _ rfl rfl p1 ?_
          refine hK _ _ ?_
          simp only [Act.put, List.setIfInBounds_toArray, List.set_cons_zero, List.set_cons_succ]
          clear hK K
          refine wpAny_ready (rs := [1]) (by kernel_rfl) (by simp) ?_
          refine AllReady.cons rfl (fun K hK => ite_of rfl ?_) ?_
          · simp only [List.getElem_toArray, List.getElem_cons_zero, List.getElem_cons_succ]
            go_simp
            go_at_call 15
            refine (P_Fill _ _).mono ?_
            rintro e w9 ⟨rfl, hb9⟩
            have hz9 := hb9.size
            replace p1 := p1.of_eq (hb9.block _ p1.lt)
            replace p2 := p2.of_eq (hb9.block _ p2.lt)
            replace p3 := p3.of_eq (hb9.block _ p3.lt)
            replace t4 := t4.of_eq (hb9.block _ t4.lt)
            refine hK _ _ ?_
            clear hK K
            refine wpAny_ready (rs := [3]) (by kernel_rfl) (by simp) ?_
            refine AllReady.cons rfl (fun K hK => ite_of rfl ?_) ?_
            · simp only [List.getElem_toArray, List.getElem_cons_zero, List.getElem_cons_succ]
              go_simp
              go_at_call 14
              refine (P_Set _ _ _ _ _).mono ?_
              rintro e w10 ⟨rfl, hb10⟩
              have hz10 := hb10.size
              replace p1 := p1.of_eq (hb10.block _ p1.lt)
              replace p2 := p2.of_eq (hb10.block _ p2.lt)
              replace p3 := p3.of_eq (hb10.block _ p3.lt)
              replace t4 := t4.of_eq (hb10.block _ t4.lt)
              refine hK _ _ ?_
              clear hK K
              refine wpAny_ready (rs := [5]) (by kernel_rfl) (by simp) ?_
              refine AllReady.cons rfl (fun K hK => ite_of rfl ?_) ?_
              · simp only [List.getElem_toArray, List.getElem_cons_zero, List.getElem_cons_succ]
                refine owp_storeT _ _ _ _ rfl rfl rfl t4 ?_
                clear t4
                intro w11 t4 hc11 hz11
                replace hz11 := Nat.le_of_eq hz11.symm
                replace p1 := p1.of_eq (hc11.block _ p1.lt (by omega))
                replace p2 := p2.of_eq (hc11.block _ p2.lt (by omega))
                replace p3 := p3.of_eq (hc11.block _ p3.lt (by omega))
                refine hK _ _ ?_
                simp only [Act.put, List.setIfInBounds_toArray, List.set_cons_zero, List.set_cons_succ]
                clear hK K
                refine wpAny_done (by kernel_rfl) ?_ _
                go_wp2_with fail
                go_meet
                exact ⟨_, rfl, t4, by repeat' (first | (with_reducible exact Below.refl _ _) | (with_reducible assumption) | (with_reducible refine Below.trans ?_ (hb8.mono (by omega))) | (with_reducible refine Below.trans ?_ (hb9.mono (by omega))) | (with_reducible refine Below.trans ?_ (hb10.mono (by omega))) | (with_reducible refine Chg.below ?_ hc11 (by omega) (by omega))), by omega, by omega, p1, p2, p3⟩
              exact AllReady.nil
            exact AllReady.nil
          exact AllReady.nil
        exact AllReady.nil
      exact AllReady.nil
    refine AllReady.cons rfl (fun K hK => ite_of rfl ?_) ?_
    · simp only [List.getElem_toArray, List.getElem_cons_zero, List.getElem_cons_succ]
      refine owp_allocT rfl ?_
      intro w8 t4 hb8 hz8
      have l8 := Nat.lt_of_lt_of_eq (Nat.lt_succ_self _) hz8.symm
      clear hz8
      replace p1 := p1.of_eq (hb8.block _ p1.lt)
      replace p2 := p2.of_eq (hb8.block _ p2.lt)
      replace p3 := p3.of_eq (hb8.block _ p3.lt)
      refine hK _ _ ?_
      simp only [Act.put, List.setIfInBounds_toArray, List.set_cons_zero, List.set_cons_succ]
      clear hK K
      refine wpAny_ready (rs := [0, 2]) (by kernel_rfl) (by simp) ?_
      refine AllReady.cons rfl (fun K hK => ite_of rfl ?_) ?_
      · simp only [List.getElem_toArray, List.getElem_cons_zero, List.getElem_cons_succ]
        refine owp_loadPx _ _ rfl rfl p1 ?_
        refine hK _ _ ?_
        simp only [Act.put, List.setIfInBounds_toArray, List.set_cons_zero, List.set_cons_succ]
        clear hK K
        refine wpAny_ready (rs := [1, 2]) (by kernel_rfl) (by simp) ?_
        refine AllReady.cons rfl (fun K hK => ite_of rfl ?_) ?_
        · simp only [List.getElem_toArray, List.getElem_cons_zero, List.getElem_cons_succ]
          go_simp
          go_at_call 15
          refine (P_Fill _ _).mono ?_
          rintro e w9 ⟨rfl, hb9⟩
          have hz9 := hb9.size
          replace p1 := p1.of_eq (hb9.block _ p1.lt)
          replace p2 := p2.of_eq (hb9.block _ p2.lt)
          replace p3 := p3.of_eq (hb9.block _ p3.lt)
          replace t4 := t4.of_eq (hb9.block _ t4.lt)
          refine hK _ _ ?_
          clear hK K
          refine wpAny_ready (rs := [2]) (by kernel_rfl) (by simp) ?_
          refine AllReady.cons rfl (fun K hK => ite_of rfl ?_) ?_
          · simp only [List.getElem_toArray, List.getElem_cons_zero, List.getElem_cons_succ]
            refine owp_loadPx _ _ rfl rfl p2 ?_
            refine hK _ _ ?_
            simp only [Act.put, List.setIfInBounds_toArray, List.set_cons_zero, List.set_cons_succ]
            clear hK K
            refine wpAny_ready (rs := [3]) (by kernel_rfl) (by simp) ?_
            refine AllReady.cons rfl (fun K hK => ite_of rfl ?_) ?_
            · simp only [List.getElem_toArray, List.getElem_cons_zero, List.getElem_cons_succ]
              go_simp
              go_at_call 14
              refine (P_Set _ _ _ _ _).mono ?_
              rintro e w10 ⟨rfl, hb10⟩
              have hz10 := hb10.size
              replace p1 := p1.of_eq (hb10.block _ p1.lt)
              replace p2 := p2.of_eq (hb10.block _ p2.lt)
              replace p3 := p3.of_eq (hb10.block _ p3.lt)
              replace t4 := t4.of_eq (hb10.block _ t4.lt)
              refine hK _ _ ?_
              clear hK K
              refine wpAny_ready (rs := [5]) (by kernel_rfl) (by simp) ?_
              refine AllReady.cons rfl (fun K hK => ite_of rfl ?_) ?_
              · simp only [List.getElem_toArray, List.getElem_cons_zero, List.getElem_cons_succ]
                refine owp_storeT _ _ _ _ rfl rfl rfl t4 ?_
                clear t4
                intro w11 t4 hc11 hz11
                replace hz11 := Nat.le_of_eq hz11.symm
                replace p1 := p1.of_eq (hc11.block _ p1.lt (by omega))
                replace p2 := p2.of_eq (hc11.block _ p2.lt (by omega))
                replace p3 := p3.of_eq (hc11.block _ p3.lt (by omega))
                refine hK _ _ ?_
                simp only [Act.put, List.setIfInBounds_toArray, List.set_cons_zero, List.set_cons_succ]
                clear hK K
                refine wpAny_done (by kernel_rfl) ?_ _
                go_wp2_with fail
                go_meet
                exact ⟨_, rfl, t4, by repeat' (first | (with_reducible exact Below.refl _ _) | (with_reducible assumption) | (with_reducible refine Below.trans ?_ (hb8.mono (by omega))) | (with_reducible refine Below.trans ?_ (hb9.mono (by omega))) | (with_reducible refine Below.trans ?_ (hb10.mono (by omega))) | (with_reducible refine Chg.below ?_ hc11 (by omega) (by omega))), by omega, by omega, p1, p2, p3⟩
              exact AllReady.nil
            exact AllReady.nil
          exact AllReady.nil
        refine AllReady.cons rfl (fun K hK => ite_of rfl ?_) ?_
        · simp only [List.getElem_toArray, List.getElem_cons_zero, List.getElem_cons_succ]
          refine owp_loadPx _ _ rfl rfl p2 ?_
          refine hK _ _ ?_
          simp only [Act.put, List.setIfInBounds_toArray, List.set_cons_zero, List.set_cons_succ]
          clear hK K
          refine wpAny_ready (rs := [1]) (by kernel_rfl) (by simp) ?_
          refine AllReady.cons rfl (fun K hK => ite_of rfl ?_) ?_
          · simp only [List.getElem_toArray, List.getElem_cons_zero, List.getElem_cons_succ]
            go_simp
            go_at_call 15
            refine (P_Fill _ _).mono ?_
            rintro e w9 ⟨rfl, hb9⟩
            have hz9 := hb9.size
            replace p1 := p1.of_eq (hb9.block _ p1.lt)
            replace p2 := p2.of_eq (hb9.block _ p2.lt)
            replace p3 := p3.of_eq (hb9.block _ p3.lt)
            replace t4 := t4.of_eq (hb9.block _ t4.lt)
            refine hK _ _ ?_
            clear hK K
            refine wpAny_ready (rs := [3]) (by kernel_rfl) (by simp) ?_
            refine AllReady.cons rfl (fun K hK => ite_of rfl ?_) ?_
            · simp only [List.getElem_toArray, List.getElem_cons_zero, List.getElem_cons_succ]
              go_simp
              go_at_call 14
              refine (P_Set _ _ _ _ _).mono ?_
              rintro e w10 ⟨rfl, hb10⟩
              have hz10 := hb10.size
              replace p1 := p1.of_eq (hb10.block _ p1.lt)
              replace p2 := p2.of_eq (hb10.block _ p2.lt)
              replace p3 := p3.of_eq (hb10.block _ p3.lt)
              replace t4 := t4.of_eq (hb10.block _ t4.lt)
              refine hK _ _ ?_
              clear hK K
              refine wpAny_ready (rs := [5]) (by kernel_rfl) (by simp) ?_
              refine AllReady.cons rfl (fun K hK => ite_of rfl ?_) ?_
              · simp only [List.getElem_toArray, List.getElem_cons_zero, List.getElem_cons_succ]
                refine owp_storeT _ _ _ _ rfl rfl rfl t4 ?_
                clear t4
                intro w11 t4 hc11 hz11
                replace hz11 := Nat.le_of_eq hz11.symm
                replace p1 := p1.of_eq (hc11.block _ p1.lt (by omega))
                replace p2 := p2.of_eq (hc11.block _ p2.lt (by omega))
                replace p3 := p3.of_eq (hc11.block _ p3.lt (by omega))
                refine hK _ _ ?_
                simp only [Act.put, List.setIfInBounds_toArray, List.set_cons_zero, List.set_cons_succ]
                clear hK K
                refine wpAny_done (by kernel_rfl) ?_ _
                go_wp2_with fail
                go_meet
                exact ⟨_, rfl, t4, by repeat' (first | (with_reducible exact Below.refl _ _) | (with_reducible assumption) | (with_reducible refine Below.trans ?_ (hb8.mono (by omega))) | (with_reducible refine Below.trans ?_ (hb9.mono (by omega))) | (with_reducible refine Below.trans ?_ (hb10.mono (by omega))) | (with_reducible refine Chg.below ?_ hc11 (by omega) (by omega))), by omega, by omega, p1, p2, p3⟩
              exact AllReady.nil
            exact AllReady.nil
          exact AllReady.nil
        exact AllReady.nil
      refine AllReady.cons rfl (fun K hK => ite_of rfl ?_) ?_
      · simp only [List.getElem_toArray, List.getElem_cons_zero, List.getElem_cons_succ]
        refine owp_loadPx _ _ rfl rfl p2 ?_
        refine hK _ _ ?_
        simp only [Act.put, List.setIfInBounds_toArray, List.set_cons_zero, List.set_cons_succ]
        clear hK K
        refine wpAny_ready (rs := [0]) (by kernel_rfl) (by simp) ?_
        refine AllReady.cons rfl (fun K hK => ite_of rfl ?_) ?_
        · simp only [List.getElem_toArray, List.getElem_cons_zero, List.getElem_cons_succ]
          refine owp_loadPx _ _ rfl rfl p1 ?_
          refine hK _ _ ?_
          simp only [Act.put, List.setIfInBounds_toArray, List.set_cons_zero, List.set_cons_succ]
          clear hK K
          refine wpAny_ready (rs := [1]) (by kernel_rfl) (by simp) ?_
          refine AllReady.cons rfl (fun K hK => ite_of rfl ?_) ?_
          · simp only [List.getElem_toArray, List.getElem_cons_zero, List.getElem_cons_succ]
            go_simp
            go_at_call 15
            refine (P_Fill _ _).mono ?_
            rintro e w9 ⟨rfl, hb9⟩
            have hz9 := hb9.size
            replace p1 := p1.of_eq (hb9.block _ p1.lt)
            replace p2 := p2.of_eq (hb9.block _ p2.lt)
            replace p3 := p3.of_eq (hb9.block _ p3.lt)
            replace t4 := t4.of_eq (hb9.block _ t4.lt)
            refine hK _ _ ?_
            clear hK K
            refine wpAny_ready (rs := [3]) (by kernel_rfl) (by simp) ?_
            refine AllReady.cons rfl (fun K hK => ite_of rfl ?_) ?_
            · simp only [List.getElem_toArray, List.getElem_cons_zero, List.getElem_cons_succ]
              go_simp
              go_at_call 14
              refine (P_Set _ _ _ _ _).mono ?_
              rintro e w10 ⟨rfl, hb10⟩
              have hz10 := hb10.size
              replace p1 := p1.of_eq (hb10.block _ p1.lt)
              replace p2 := p2.of_eq (hb10.block _ p2.lt)
              replace p3 := p3.of_eq (hb10.block _ p3.lt)
              replace t4 := t4.of_eq (hb10.block _ t4.lt)
              refine hK _ _ ?_
              clear hK K
              refine wpAny_ready (rs := [5]) (by kernel_rfl) (by simp) ?_
              refine AllReady.cons rfl (fun K hK => ite_of rfl ?_) ?_
              · simp only [List.getElem_toArray, List.getElem_cons_zero, List.getElem_cons_succ]
                refine owp_storeT _ _ _ _ rfl rfl rfl t4 ?_
                clear t4
                intro w11 t4 hc11 hz11
                replace hz11 := Nat.le_of_eq hz11.symm
                replace p1 := p1.of_eq (hc11.block _ p1.lt (by omega))
                replace p2 := p2.of_eq (hc11.block _ p2.lt (by omega))
                replace p3 := p3.of_eq (hc11.block _ p3.lt (by omega))
                refine hK _ _ ?_
                simp only [Act.put, List.setIfInBounds_toArray, List.set_cons_zero, List.set_cons_succ]
                clear hK K
                refine wpAny_done (by kernel_rfl) ?_ _
                go_wp2_with fail
                go_meet
                exact ⟨_, rfl, t4, by repeat' (first | (with_reducible exact Below.refl _ _) | (with_reducible assumption) | (with_reducible refine Below.trans ?_ (hb8.mono (by omega))) | (with_reducible refine Below.trans ?_ (hb9.mono (by omega))) | (with_reducible refine Below.trans ?_ (hb10.mono (by omega))) | (with_reducible refine Chg.below ?_ hc11 (by omega) (by omega))), by omega, by omega, p1, p2, p3⟩
              exact AllReady.nil
            exact AllReady.nil
          exact AllReady.nil
        exact AllReady.nil
      exact AllReady.nil
    exact AllReady.nil
  case rest =>
    obtain ⟨b, rfl, t4, B7, hz7, hb7, p1, p2, p3⟩ := hcut
    have lt4 := t4.lt
    have lt3 := p3.lt
    have c1 : ∀ w, (binOp .eql 23 (Px.v (getT (flipT sanT) 6 0)) (Px.v pQ)).run Try.prog w = .ok (.bool true) w := fun w => by rw [eql_px, san1]; rfl
    have c2 : ∀ w, (binOp .eql 23 (Px.v (getT (turnT sanT) 7 1)) (Px.v pQ)).run Try.prog w = .ok (.bool true) w := fun w => by rw [eql_px, san2]; rfl
    have c3 : ∀ w, (binOp .eql 23 (Px.v (getT (turnT sanT) 1 0)) (Px.v pP)).run Try.prog w = .ok (.bool true) w := fun w => by rw [eql_px, san3]; rfl
    have c4 : ∀ w, (binOp .eql 23 (Px.v (getT sanH 3 3)) (Px.v Px.zero)).run Try.prog w = .ok (.bool true) w := fun w => by rw [eql_px, san4]; rfl
    have c5 : ∀ w, (binOp .eql 23 (Px.v (getT sanH 4 4)) (Px.v pN)).run Try.prog w = .ok (.bool true) w := fun w => by rw [eql_px, san5]; rfl
    go_wp2_with (first | (refine wpList_storeT rfl _ _ rfl _ rfl _ rfl t5 ?_; clear t5; intro w11 t5 hc11 hz11; replace hz11 := Nat.le_of_eq hz11.symm; replace p1 := p1.of_eq (hc11.block _ p1.lt (by omega)); replace p2 := p2.of_eq (hc11.block _ p2.lt (by omega)); replace p3 := p3.of_eq (hc11.block _ p3.lt (by omega)); replace t4 := t4.of_eq (hc11.block _ t4.lt (by omega)); simp only [Act.put, List.setIfInBounds_toArray, List.set_cons_zero, List.set_cons_succ]) | (refine wpList_allocT rfl rfl ?_; intro w10 t5 hb10 hz10; have l10 := Nat.lt_of_lt_of_eq (Nat.lt_succ_self _) hz10.symm; clear hz10; replace p1 := p1.of_eq (hb10.block _ p1.lt); replace p2 := p2.of_eq (hb10.block _ p2.lt); replace p3 := p3.of_eq (hb10.block _ p3.lt); replace t4 := t4.of_eq (hb10.block _ t4.lt); simp only [Act.put, List.setIfInBounds_toArray, List.set_cons_zero, List.set_cons_succ]) | (go_at_call 33; refine (P_Halve _ _ _ _ _ sanQ).mono ?_; rintro e w9 ⟨rfl, hb9⟩; have hz9 := hb9.size; replace p1 := p1.of_eq (hb9.block _ p1.lt); replace p2 := p2.of_eq (hb9.block _ p2.lt); replace p3 := p3.of_eq (hb9.block _ p3.lt); replace t4 := t4.of_eq (hb9.block _ t4.lt)) | (go_at_call 15; refine (P_Fill _ _).mono ?_; rintro e w8 ⟨rfl, hb8⟩; have hz8 := hb8.size; replace p1 := p1.of_eq (hb8.block _ p1.lt); replace p2 := p2.of_eq (hb8.block _ p2.lt); replace p3 := p3.of_eq (hb8.block _ p3.lt); replace t4 := t4.of_eq (hb8.block _ t4.lt)) | (refine wpList_loadPx rfl _ rfl _ rfl p3 ?_; simp only [Act.put, List.setIfInBounds_toArray, List.set_cons_zero, List.set_cons_succ]) | (refine wpList_buildT rfl rfl ?_; simp only [Act.put, List.setIfInBounds_toArray, List.set_cons_zero, List.set_cons_succ]))
    replace t5 : TileAt w11 w9.heap.size sanH := t5
    refine wp_region_ov (by kernel_rfl) (by kernel_rfl) ?_
    repeat (first | go_big_quiet_skip | (go_big_quiet_want; first | (refine quiet_buildPx rfl ?_; simp only [Act.put, List.setIfInBounds_toArray, List.set_cons_zero, List.set_cons_succ]; go_big_quiet_on) | (refine quiet_loadT rfl _ rfl (ov_tile t4) ?_; simp only [Act.put, List.setIfInBounds_toArray, List.set_cons_zero, List.set_cons_succ]; go_big_quiet_on) | (refine quiet_loadT rfl _ rfl (ov_tile t5) ?_; simp only [Act.put, List.setIfInBounds_toArray, List.set_cons_zero, List.set_cons_succ]; go_big_quiet_on) | (refine quiet_loadPx rfl _ rfl (ov_px p1) ?_; simp only [Act.put, List.setIfInBounds_toArray, List.set_cons_zero, List.set_cons_succ]; go_big_quiet_on) | (refine quiet_loadPx rfl _ rfl (ov_px p2) ?_; simp only [Act.put, List.setIfInBounds_toArray, List.set_cons_zero, List.set_cons_succ]; go_big_quiet_on) | (refine quiet_loadPx rfl _ rfl (ov_px p3) ?_; simp only [Act.put, List.setIfInBounds_toArray, List.set_cons_zero, List.set_cons_succ]; go_big_quiet_on) | (go_big_quiet_op; first | go_big_quiet_on | go_big_quiet_call ((first | (go_at_call 10; exact calls_ov (P_Flip _ _)) | (go_at_call 12; exact calls_ov (P_Turn _ _)) | (go_at_call 16; exact calls_ov (P_Get _ _ _ _)))))))
    refine wpQuiet_nil ?_
    intro w12 hb12
    have hz12 := hb12.size
    go_wp2
    go_ret
    refine ⟨rfl, ?_⟩
    repeat' (first | (with_reducible exact Below.refl _ _) | (with_reducible assumption) | (with_reducible refine Below.trans ?_ (hb8.mono (by omega))) | (with_reducible refine Below.trans ?_ (hb9.mono (by omega))) | (with_reducible refine Below.trans ?_ (hb10.mono (by omega))) | (with_reducible refine Below.trans ?_ (hb12.mono (by omega))) | (with_reducible refine Chg.below ?_ hc11 (by omega) (by omega)))
end Go.Proofs.Ytelfkakaaobfcaa
