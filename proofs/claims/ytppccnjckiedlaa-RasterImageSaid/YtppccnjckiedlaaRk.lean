/- Contracts of tiles, with, made, Put, Set, Get of package raster. -/
import Derived.Test.YtppccnjckiedlaaRj
import Derived.Test.YtppccnjckiedlaaAf
namespace Go.Proofs.Ytppccnjckiedlaa
open Go.RowKit Go.Shelf Pl
set_option linter.unusedVariables false
set_option linter.unusedSimpArgs false
set_option maxRecDepth 20000

theorem OwnT.chg {B b : Nat} {v : Value} {ls : List TA} {w w' : World} (h : OwnT B v ls w) (hc : Chg b w w') (hb : b < B) : OwnT B v ls w' := by
  refine World.ownsRow.kept (row := some b) h ⟨hc.os, hc.tape, hc.output, hc.size, fun k hk hne => hc.block k hk (fun e => hne (by rw [e]))⟩ ?_
  cases hv : v.ownBlock with
  | none => exact .inl rfl
  | some k =>
    right
    intro e
    injection e with e
    have := World.ownsRow.lt h k hv
    omega
theorem rs_take {g o : Nat} {ls : List TA} {w : World} (sc : 0 < ls.length → RCells g o ls w) {k : Nat} (hk : k ≤ ls.length) : RS (.slice (some ⟨g, o, none⟩) k k) (ls.take k) w := by
  have hl : (ls.take k).length = k := by rw [List.length_take]; omega
  refine .inr ⟨g, o, k, by rw [hl], by omega, fun h => (sc (by omega)).take k⟩
theorem rs_drop {g o c : Nat} {ls : List TA} {w : World} (sc : 0 < ls.length → RCells g o ls w) (hc : ls.length ≤ c) {k : Nat} (hk : k ≤ ls.length) : RS (.slice (if c = k then some ⟨g, o, none⟩ else some ⟨g, o + k * 258, none⟩) (ls.length - k) (c - k)) (ls.drop k) w := by
  have hl : (ls.drop k).length = ls.length - k := List.length_drop ..
  by_cases e : c = k
  · rw [if_pos e]
    exact .inr ⟨g, o, c - k, by rw [hl], by omega, fun h => absurd h (by omega)⟩
  · rw [if_neg e]
    exact .inr ⟨g, o + k * 258, c - k, by rw [hl], by omega, fun h => (sc (by omega)).drop k⟩
theorem run_alloc_R (w : World) (o : Oper) (ho : o.op = .alloc 30) (ev : Operand → Value) : (execOp ev o).run Try.prog w = .ok (.value (.pointer (some ⟨w.heap.size, 0, none⟩))) (w.alloc (.cells #[.slice none 0 0] 30)) := by
  obtain ⟨d, p, t, ps, af, gd⟩ := o
  simp only at ho
  subst ho
  kernel_rfl
/-- A row of tiles is no small block. -/
theorem RS.chg {v : Value} {ls : List TA} {t : TypeId} {b : Nat} {cs : Array Value} {w w' : World} (h : RS v ls w) (hb : AtB t w b cs) (hs : cs.size < 258) (hc : Chg b w w') : RS v ls w' := by
  rcases h with h | ⟨g, o, c, e, hcap, sc⟩
  · exact .inl h
  · refine .inr ⟨g, o, c, e, hcap, fun hn => (sc hn).of_eq (hc.block g (sc hn).lt fun hg => ?_)⟩
    subst hg
    have h1 := (sc hn).2 0 hn 257 (by omega)
    rw [cell_of_row w g _ cs _ (0, 0) hb] at h1
    have h2 : (taC (aT ls 0))[257]? ≠ none := by
      rw [Ne, Array.getElem?_eq_none_iff, size_taC]; omega
    rw [← h1, Ne, Array.getElem?_eq_none_iff] at h2
    omega
theorem owp_storeB {o : Oper} {a : Act} {w : World} {Q : Exit → Act → World → Prop} {K : Act → World → Prop} {t : TypeId} {cs : Array Value} (x y : Operand) (b : Nat) (cs' : Array Value) (ho : o.op = .store t x y) (hx : a.eval x = .pointer (some ⟨b, 0, none⟩)) (hy : a.eval y = .agg cs') (ht : AtB t w b cs) (hsz : (Try.prog.info? t).map (·.size) = some cs'.size) (hss : cs'.size = cs.size) (hone : cs'.all (·.oneCell') = true)
    (h : ∀ w', AtB t w' b cs' → Chg b w w' → w'.heap.size = w.heap.size → K (a.put o.dst undef) w') : o.wp Try.prog a w K Q := by
  unfold Oper.wp execOp
  simp only [ho, hx, hy, run_store_B ht hsz hss hone, Sem.run_bind, Sem.run_pure, Result.andThen_ok]
  exact h _ (ht.setRow cs') ((Chg.refl b w).setRow _) (size_setRow _ _ _)
/-! ### tiles -/
theorem P_tiles0 (a : Option Addr) (c : Nat) (ls : List TA) (w : World) (h : RS (.slice a ls.length c) ls w) (tk : TokL ls) (hn : ls.length ≤ maxLen) : Calls Try.prog 68 #[.agg #[.slice a ls.length c]] w fun e w' => e = .returned (if validL ls = true then .slice a ls.length c else .slice none 0 0) ∧ Below w.heap.size w w' := by
  have B := Below.refl w.heap.size w
  have HS := Lib.hid h
  clear h
  cases hv : validL ls with
  | true =>
    rw [if_pos rfl]
    go_enter Try.func68, Try.ntmps68
    go_wp2_with (first | (go_at_call 16; refine (P_Valid _ ls _ (HS.out.below B) tk hn).mono ?_; rintro e wn ⟨rfl, hbn⟩; have hsz := B.size; have hzn := hbn.size; replace B := B.trans (hbn.mono B.size); (try first | replace r1 := r1.of_eq (hbn.block _ r1.lt) | replace r1 := r1.below hbn)) | (refine wpList_loadAny (t := 30) rfl _ rfl _ _ _ rfl (run_load_B r1 Try.isAgg30 (by kernel_rfl)) (by rfl) ?_; simp only [Act.put, List.setIfInBounds_toArray, List.set_cons_zero, List.set_cons_succ]) | (refine wpList_loadAny (t := 28) rfl _ rfl _ _ _ rfl (run_load_sl r1.cell0) (by rfl) ?_; simp only [Act.put, List.setIfInBounds_toArray, List.set_cons_zero, List.set_cons_succ]) | (refine wpList_boxB (t := 30) rfl _ rfl _ rfl ?_; intro b_r1 wn hle hge ht hbn hzn; have hsz := B.size; replace B := B.trans (hbn.mono (by omega)); have hln := Nat.lt_of_lt_of_eq (Nat.lt_succ_self _) hzn.symm; clear hzn; (try first | (have hlt := r1.lt; replace r1 := r1.of_eq (hbn.block _ (by omega))) | replace r1 := r1.below (hbn.mono hle)); have r1 := ht; clear ht; simp only [Act.put, List.setIfInBounds_toArray, List.set_cons_zero, List.set_cons_succ]) | fail)
    go_ret
    exact ⟨rfl, B⟩
  | false =>
    rw [if_neg (by decide)]
    go_enter Try.func68, Try.ntmps68
    go_wp2_with (first | (go_at_call 16; refine (P_Valid _ ls _ (HS.out.below B) tk hn).mono ?_; rintro e wn ⟨rfl, hbn⟩; have hsz := B.size; have hzn := hbn.size; replace B := B.trans (hbn.mono B.size); (try first | replace r1 := r1.of_eq (hbn.block _ r1.lt) | replace r1 := r1.below hbn)) | (refine wpList_loadAny (t := 30) rfl _ rfl _ _ _ rfl (run_load_B r1 Try.isAgg30 (by kernel_rfl)) (by rfl) ?_; simp only [Act.put, List.setIfInBounds_toArray, List.set_cons_zero, List.set_cons_succ]) | (refine wpList_loadAny (t := 28) rfl _ rfl _ _ _ rfl (run_load_sl r1.cell0) (by rfl) ?_; simp only [Act.put, List.setIfInBounds_toArray, List.set_cons_zero, List.set_cons_succ]) | (refine wpList_boxB (t := 30) rfl _ rfl _ rfl ?_; intro b_r1 wn hle hge ht hbn hzn; have hsz := B.size; replace B := B.trans (hbn.mono (by omega)); have hln := Nat.lt_of_lt_of_eq (Nat.lt_succ_self _) hzn.symm; clear hzn; (try first | (have hlt := r1.lt; replace r1 := r1.of_eq (hbn.block _ (by omega))) | replace r1 := r1.below (hbn.mono hle)); have r1 := ht; clear ht; simp only [Act.put, List.setIfInBounds_toArray, List.set_cons_zero, List.set_cons_succ]) | fail)
    go_ret
    exact ⟨rfl, B⟩
/-- The tiles of a valid raster: a slice that is known ahead of the walk. -/
theorem P_tiles (v : Value) (ls : List TA) (w : World) (h : RS v ls w) (tk : TokL ls) (hn : ls.length ≤ maxLen) : ∃ a c, ∀ w', Below w.heap.size w w' → (Calls Try.prog 68 #[.agg #[v]] w' fun e w'' => e = .returned (.slice a (fineL ls).length c) ∧ Below w'.heap.size w' w'') ∧ RS (.slice a (fineL ls).length c) (fineL ls) w' := by
  obtain ⟨a, c, rfl, hc⟩ := h.len
  cases hv : validL ls with
  | true =>
    rw [fineL_of hv]
    refine ⟨a, c, fun w' hb => ⟨?_, h.below hb⟩⟩
    have := P_tiles0 a c ls w' (h.below hb) tk hn
    rw [hv, if_pos rfl] at this
    exact this
  | false =>
    rw [fineL_no hv]
    refine ⟨none, 0, fun w' hb => ⟨?_, RS.nil _⟩⟩
    have := P_tiles0 a c ls w' (h.below hb) tk hn
    rw [hv, if_neg (by decide)] at this
    exact this
/-! ### with -/
theorem P_CloneO (v : Value) (ls : List TA) (w : World) (h : RS v ls w) (hn : ls.length ≤ 4000) : Calls Try.prog 96 #[v] w fun e w' => ∃ v' b, e = .returned v' ∧ w.heap.size ≤ b ∧ b ≤ w.heap.size ∧ OwnT b v' ls w' ∧ Below w.heap.size w w' :=
  (P_Clone v ls w h hn).mono fun e w' ⟨v', he, ho, hb⟩ => ⟨v', _, he, Nat.le_refl _, Nat.le_refl _, ho, hb⟩
set_option maxHeartbeats 1000000 in
theorem P_with (v : Value) (ls : List TA) (x y : Int) (t : Nat → Px) (w : World) (h : RS v ls w) (hs : Srt ls) (ht : Tok t) (hn : ls.length ≤ 4000) : Calls Try.prog 73 #[v, .agg #[.int .i64 x, .int .i64 y], Tile.v t] w fun e w' => ∃ v', e = .returned v' ∧ RS v' (putL ls x y t) w' ∧ Below w.heap.size w w' := by
  have B := Below.refl w.heap.size w
  have HS := Lib.hid h
  have SR := Lib.hid hs
  have hcl := cutL_le ls x y
  rcases h with ⟨rfl, rfl⟩ | ⟨g, o, c, rfl, hc, sc⟩
  · have hcut : cutL ([] : List TA) x y = 0 := rfl
    have hhit : hitL ([] : List TA) x y = false := rfl
    have hp := putL_cut ([] : List TA) x y t
    rw [hhit, hcut] at hp
    have HP := Lib.hid hp
    clear hp hs hcl hn
    cases hz : zeroB t with
    | true =>
      have HN := Lib.hid (show newA x y t = [] from by unfold newA; rw [hz]; rfl)
      go_enter Try.func73, Try.ntmps73
      go_wp2_with (first | (at_builtin; refine wpList_appendT rfl _ _ rfl _ _ rfl rfl od ((RS.nil _)) (by simp) (by omega) ?_; intro v_od wn ht hbn; have hsz := B.size; have hzn := hbn.size; replace B := B.trans (hbn.mono (by omega)); clear od; (try replace p1 := p1.of_eq (hbn.block _ (by omega))); (try replace u1 := u1.of_eq (hbn.block _ (by omega))); have od := ht; clear ht; simp only [Act.put, List.setIfInBounds_toArray, List.set_cons_zero, List.set_cons_succ]) | (go_at_call 96; have qp := p1.lt; have qu := u1.lt; refine (P_CloneO _ ([]) _ (RS.nil _) (by first | (rw [List.length_take]; omega) | simp)).mono ?_; rintro e wn ⟨v_od, b_od, rfl, hle, hge, od, hbn⟩; have hsz := B.size; have hzn := hbn.size; replace B := B.trans (hbn.mono B.size); (try first | replace p1 := p1.of_eq (hbn.block _ p1.lt) | replace p1 := p1.below hbn); (try first | replace u1 := u1.of_eq (hbn.block _ u1.lt) | replace u1 := u1.below hbn); (try first | replace od := od.of_eq (hbn.block _ od.lt) | replace od := od.below hbn)) | (go_at_call 93; refine (P_find _ [] x y _ (HS.out.below B) SR.out (by first | omega | simp)).mono ?_; rintro e wn ⟨rfl, hbn⟩; have hsz := B.size; have hzn := hbn.size; replace B := B.trans (hbn.mono B.size); (try first | replace p1 := p1.of_eq (hbn.block _ p1.lt) | replace p1 := p1.below hbn); (try first | replace u1 := u1.of_eq (hbn.block _ u1.lt) | replace u1 := u1.below hbn); (try first | replace od := od.of_eq (hbn.block _ od.lt) | replace od := od.below hbn)) | (go_at_call 53; refine (P_Zero _ _ ht).mono ?_; rintro e wn ⟨rfl, hbn⟩; have hsz := B.size; have hzn := hbn.size; replace B := B.trans (hbn.mono B.size); (try first | replace p1 := p1.of_eq (hbn.block _ p1.lt) | replace p1 := p1.below hbn); (try first | replace u1 := u1.of_eq (hbn.block _ u1.lt) | replace u1 := u1.below hbn); (try first | replace od := od.of_eq (hbn.block _ od.lt) | replace od := od.below hbn)) | (refine wpList_loadT rfl _ rfl _ rfl u1 ?_; simp only [Act.put, List.setIfInBounds_toArray, List.set_cons_zero, List.set_cons_succ]) | (refine wpList_loadAny (t := 24) rfl _ rfl _ _ _ rfl (run_load_B p1 Try.isAgg24 (by kernel_rfl)) (by rfl) ?_; simp only [Act.put, List.setIfInBounds_toArray, List.set_cons_zero, List.set_cons_succ]) | (have _ := p1; refine wpList_boxT' rfl _ rfl _ rfl ?_; intro b_u1 wn hle hge ht hbn hzn; have hsz := B.size; replace B := B.trans (hbn.mono (by omega)); have hln := Nat.lt_of_lt_of_eq (Nat.lt_succ_self _) hzn.symm; clear hzn; (try first | (have hlt := p1.lt; replace p1 := p1.of_eq (hbn.block _ (by omega))) | replace p1 := p1.below (hbn.mono hle)); (try first | (have hlt := u1.lt; replace u1 := u1.of_eq (hbn.block _ (by omega))) | replace u1 := u1.below (hbn.mono hle)); (try first | (have hlt := od.lt; replace od := od.of_eq (hbn.block _ (by omega))) | replace od := od.below (hbn.mono hle)); have u1 := ht; clear ht; simp only [Act.put, List.setIfInBounds_toArray, List.set_cons_zero, List.set_cons_succ]) | (refine wpList_boxB (t := 24) rfl _ rfl _ rfl ?_; intro b_p1 wn hle hge ht hbn hzn; have hsz := B.size; replace B := B.trans (hbn.mono (by omega)); have hln := Nat.lt_of_lt_of_eq (Nat.lt_succ_self _) hzn.symm; clear hzn; (try first | (have hlt := p1.lt; replace p1 := p1.of_eq (hbn.block _ (by omega))) | replace p1 := p1.below (hbn.mono hle)); (try first | (have hlt := u1.lt; replace u1 := u1.of_eq (hbn.block _ (by omega))) | replace u1 := u1.below (hbn.mono hle)); (try first | (have hlt := od.lt; replace od := od.of_eq (hbn.block _ (by omega))) | replace od := od.below (hbn.mono hle)); have p1 := ht; clear ht; simp only [Act.put, List.setIfInBounds_toArray, List.set_cons_zero, List.set_cons_succ]) | fail)
      go_ret
      refine ⟨_, rfl, ?_, B⟩
      have e := od.rs
      rw [HP.out, HN.out]
      simpa using e
    | false =>
      have HN := Lib.hid (show newA x y t = [⟨x, y, t⟩] from by unfold newA; rw [hz]; rfl)
      go_enter Try.func73, Try.ntmps73
      go_wp2_with (first | (at_builtin; refine wpList_appendT rfl _ _ rfl _ _ rfl rfl od ((RS.nil _)) (by simp) (by omega) ?_; intro v_od wn ht hbn; have hsz := B.size; have hzn := hbn.size; replace B := B.trans (hbn.mono (by omega)); clear od; (try replace p1 := p1.of_eq (hbn.block _ (by omega))); (try replace u1 := u1.of_eq (hbn.block _ (by omega))); have od := ht; clear ht; simp only [Act.put, List.setIfInBounds_toArray, List.set_cons_zero, List.set_cons_succ]) | (at_builtin; refine wpList_appendT rfl _ _ rfl _ _ rfl rfl od ((RS.one s1)) (by simp) (by omega) ?_; intro v_od wn ht hbn; have hsz := B.size; have hzn := hbn.size; replace B := B.trans (hbn.mono (by omega)); clear od; (try replace p1 := p1.of_eq (hbn.block _ (by omega))); (try replace u1 := u1.of_eq (hbn.block _ (by omega))); have od := ht; clear ht; simp only [Act.put, List.setIfInBounds_toArray, List.set_cons_zero, List.set_cons_succ]) | (refine wpList_bs1T rfl _ rfl ⟨x, y, t⟩ (by rfl) ?_; intro b_s1 wn hle hge ht hbn hzn; have hsz := B.size; replace B := B.trans (hbn.mono (by omega)); have hln := Nat.lt_of_lt_of_eq (Nat.lt_succ_self _) hzn.symm; clear hzn; (try first | (have hlt := p1.lt; replace p1 := p1.of_eq (hbn.block _ (by omega))) | replace p1 := p1.below (hbn.mono hle)); (try first | (have hlt := u1.lt; replace u1 := u1.of_eq (hbn.block _ (by omega))) | replace u1 := u1.below (hbn.mono hle)); (try first | (have hlt := od.lt; replace od := od.of_eq (hbn.block _ (by omega))) | replace od := od.below (hbn.mono hle)); have s1 := ht; clear ht; simp only [Act.put, List.setIfInBounds_toArray, List.set_cons_zero, List.set_cons_succ]) | (refine wpList_buildTA rfl _ _ rfl x y t (by rfl) (by rfl) ?_; simp only [Act.put, List.setIfInBounds_toArray, List.set_cons_zero, List.set_cons_succ]) | (go_at_call 96; have qp := p1.lt; have qu := u1.lt; refine (P_CloneO _ ([]) _ (RS.nil _) (by first | (rw [List.length_take]; omega) | simp)).mono ?_; rintro e wn ⟨v_od, b_od, rfl, hle, hge, od, hbn⟩; have hsz := B.size; have hzn := hbn.size; replace B := B.trans (hbn.mono B.size); (try first | replace p1 := p1.of_eq (hbn.block _ p1.lt) | replace p1 := p1.below hbn); (try first | replace u1 := u1.of_eq (hbn.block _ u1.lt) | replace u1 := u1.below hbn); (try first | replace od := od.of_eq (hbn.block _ od.lt) | replace od := od.below hbn)) | (go_at_call 93; refine (P_find _ [] x y _ (HS.out.below B) SR.out (by first | omega | simp)).mono ?_; rintro e wn ⟨rfl, hbn⟩; have hsz := B.size; have hzn := hbn.size; replace B := B.trans (hbn.mono B.size); (try first | replace p1 := p1.of_eq (hbn.block _ p1.lt) | replace p1 := p1.below hbn); (try first | replace u1 := u1.of_eq (hbn.block _ u1.lt) | replace u1 := u1.below hbn); (try first | replace od := od.of_eq (hbn.block _ od.lt) | replace od := od.below hbn)) | (go_at_call 53; refine (P_Zero _ _ ht).mono ?_; rintro e wn ⟨rfl, hbn⟩; have hsz := B.size; have hzn := hbn.size; replace B := B.trans (hbn.mono B.size); (try first | replace p1 := p1.of_eq (hbn.block _ p1.lt) | replace p1 := p1.below hbn); (try first | replace u1 := u1.of_eq (hbn.block _ u1.lt) | replace u1 := u1.below hbn); (try first | replace od := od.of_eq (hbn.block _ od.lt) | replace od := od.below hbn)) | (refine wpList_loadT rfl _ rfl _ rfl u1 ?_; simp only [Act.put, List.setIfInBounds_toArray, List.set_cons_zero, List.set_cons_succ]) | (refine wpList_loadAny (t := 24) rfl _ rfl _ _ _ rfl (run_load_B p1 Try.isAgg24 (by kernel_rfl)) (by rfl) ?_; simp only [Act.put, List.setIfInBounds_toArray, List.set_cons_zero, List.set_cons_succ]) | (have _ := p1; refine wpList_boxT' rfl _ rfl _ rfl ?_; intro b_u1 wn hle hge ht hbn hzn; have hsz := B.size; replace B := B.trans (hbn.mono (by omega)); have hln := Nat.lt_of_lt_of_eq (Nat.lt_succ_self _) hzn.symm; clear hzn; (try first | (have hlt := p1.lt; replace p1 := p1.of_eq (hbn.block _ (by omega))) | replace p1 := p1.below (hbn.mono hle)); (try first | (have hlt := u1.lt; replace u1 := u1.of_eq (hbn.block _ (by omega))) | replace u1 := u1.below (hbn.mono hle)); (try first | (have hlt := od.lt; replace od := od.of_eq (hbn.block _ (by omega))) | replace od := od.below (hbn.mono hle)); have u1 := ht; clear ht; simp only [Act.put, List.setIfInBounds_toArray, List.set_cons_zero, List.set_cons_succ]) | (refine wpList_boxB (t := 24) rfl _ rfl _ rfl ?_; intro b_p1 wn hle hge ht hbn hzn; have hsz := B.size; replace B := B.trans (hbn.mono (by omega)); have hln := Nat.lt_of_lt_of_eq (Nat.lt_succ_self _) hzn.symm; clear hzn; (try first | (have hlt := p1.lt; replace p1 := p1.of_eq (hbn.block _ (by omega))) | replace p1 := p1.below (hbn.mono hle)); (try first | (have hlt := u1.lt; replace u1 := u1.of_eq (hbn.block _ (by omega))) | replace u1 := u1.below (hbn.mono hle)); (try first | (have hlt := od.lt; replace od := od.of_eq (hbn.block _ (by omega))) | replace od := od.below (hbn.mono hle)); have p1 := ht; clear ht; simp only [Act.put, List.setIfInBounds_toArray, List.set_cons_zero, List.set_cons_succ]) | fail)
      go_ret
      refine ⟨_, rfl, ?_, B⟩
      have e := od.rs
      rw [HP.out, HN.out]
      simpa using e
  · have h : RS (.slice (some ⟨g, o, none⟩) ls.length c) ls w := .inr ⟨g, o, c, rfl, hc, sc⟩
    have HT := Lib.hid (rs_take sc hcl)
    have HC := Lib.hid (putL_cut ls x y t)
    have hcn : cutL ls x y ≤ c := by omega
    cases hh : hitL ls x y with
    | true =>
      have hk : cutL ls x y + 1 ≤ ls.length := by
        first
          | exact hcl
          | (unfold hitL at hh; have := of_decide_eq_true (Bool.and_eq_true_iff.1 hh).1; omega)
      have HR := Lib.hid (rs_drop sc hc hk)
      cases hz : zeroB t with
      | true =>
        have HN := Lib.hid (show newA x y t = [] from by unfold newA; rw [hz]; rfl)
        have HH := Lib.hid hh
        clear hs sc h
        go_enter Try.func73, Try.ntmps73
        go_wp2_with (first | (at_builtin; refine wpList_appendT rfl _ _ rfl _ _ rfl rfl od ((HR.out.below B)) (by simp; omega) (by omega) ?_; intro v_od wn ht hbn; have hsz := B.size; have hzn := hbn.size; replace B := B.trans (hbn.mono (by omega)); clear od; (try replace p1 := p1.of_eq (hbn.block _ (by omega))); (try replace u1 := u1.of_eq (hbn.block _ (by omega))); have od := ht; clear ht; simp only [Act.put, List.setIfInBounds_toArray, List.set_cons_zero, List.set_cons_succ]) | (go_at_call 96; have qp := p1.lt; have qu := u1.lt; refine (P_CloneO _ (ls.take (cutL ls x y)) _ (HT.out.below B) (by first | (rw [List.length_take]; omega) | simp)).mono ?_; rintro e wn ⟨v_od, b_od, rfl, hle, hge, od, hbn⟩; have hsz := B.size; have hzn := hbn.size; replace B := B.trans (hbn.mono B.size); (try first | replace p1 := p1.of_eq (hbn.block _ p1.lt) | replace p1 := p1.below hbn); (try first | replace u1 := u1.of_eq (hbn.block _ u1.lt) | replace u1 := u1.below hbn); (try first | replace od := od.of_eq (hbn.block _ od.lt) | replace od := od.below hbn)) | (go_at_call 93; refine (P_find _ ls x y _ (HS.out.below B) SR.out (by first | omega | simp)).mono ?_; rintro e wn ⟨rfl, hbn⟩; have hsz := B.size; have hzn := hbn.size; replace B := B.trans (hbn.mono B.size); (try first | replace p1 := p1.of_eq (hbn.block _ p1.lt) | replace p1 := p1.below hbn); (try first | replace u1 := u1.of_eq (hbn.block _ u1.lt) | replace u1 := u1.below hbn); (try first | replace od := od.of_eq (hbn.block _ od.lt) | replace od := od.below hbn)) | (go_at_call 53; refine (P_Zero _ _ ht).mono ?_; rintro e wn ⟨rfl, hbn⟩; have hsz := B.size; have hzn := hbn.size; replace B := B.trans (hbn.mono B.size); (try first | replace p1 := p1.of_eq (hbn.block _ p1.lt) | replace p1 := p1.below hbn); (try first | replace u1 := u1.of_eq (hbn.block _ u1.lt) | replace u1 := u1.below hbn); (try first | replace od := od.of_eq (hbn.block _ od.lt) | replace od := od.below hbn)) | (refine wpList_loadT rfl _ rfl _ rfl u1 ?_; simp only [Act.put, List.setIfInBounds_toArray, List.set_cons_zero, List.set_cons_succ]) | (refine wpList_loadAny (t := 24) rfl _ rfl _ _ _ rfl (run_load_B p1 Try.isAgg24 (by kernel_rfl)) (by rfl) ?_; simp only [Act.put, List.setIfInBounds_toArray, List.set_cons_zero, List.set_cons_succ]) | (have _ := p1; refine wpList_boxT' rfl _ rfl _ rfl ?_; intro b_u1 wn hle hge ht hbn hzn; have hsz := B.size; replace B := B.trans (hbn.mono (by omega)); have hln := Nat.lt_of_lt_of_eq (Nat.lt_succ_self _) hzn.symm; clear hzn; (try first | (have hlt := p1.lt; replace p1 := p1.of_eq (hbn.block _ (by omega))) | replace p1 := p1.below (hbn.mono hle)); (try first | (have hlt := u1.lt; replace u1 := u1.of_eq (hbn.block _ (by omega))) | replace u1 := u1.below (hbn.mono hle)); (try first | (have hlt := od.lt; replace od := od.of_eq (hbn.block _ (by omega))) | replace od := od.below (hbn.mono hle)); have u1 := ht; clear ht; simp only [Act.put, List.setIfInBounds_toArray, List.set_cons_zero, List.set_cons_succ]) | (refine wpList_boxB (t := 24) rfl _ rfl _ rfl ?_; intro b_p1 wn hle hge ht hbn hzn; have hsz := B.size; replace B := B.trans (hbn.mono (by omega)); have hln := Nat.lt_of_lt_of_eq (Nat.lt_succ_self _) hzn.symm; clear hzn; (try first | (have hlt := p1.lt; replace p1 := p1.of_eq (hbn.block _ (by omega))) | replace p1 := p1.below (hbn.mono hle)); (try first | (have hlt := u1.lt; replace u1 := u1.of_eq (hbn.block _ (by omega))) | replace u1 := u1.below (hbn.mono hle)); (try first | (have hlt := od.lt; replace od := od.of_eq (hbn.block _ (by omega))) | replace od := od.below (hbn.mono hle)); have p1 := ht; clear ht; simp only [Act.put, List.setIfInBounds_toArray, List.set_cons_zero, List.set_cons_succ]) | fail)
        all_goals
          go_ret
          refine ⟨_, rfl, ?_, B⟩
          have e := od.rs
          rw [HC.out, HN.out, HH.out]
          simpa using e
      | false =>
        have HN := Lib.hid (show newA x y t = [⟨x, y, t⟩] from by unfold newA; rw [hz]; rfl)
        have HH := Lib.hid hh
        clear hs sc h
        go_enter Try.func73, Try.ntmps73
        go_wp2_with (first | (at_builtin; refine wpList_appendT rfl _ _ rfl _ _ rfl rfl od ((HR.out.below B)) (by simp; omega) (by omega) ?_; intro v_od wn ht hbn; have hsz := B.size; have hzn := hbn.size; replace B := B.trans (hbn.mono (by omega)); clear od; (try replace p1 := p1.of_eq (hbn.block _ (by omega))); (try replace u1 := u1.of_eq (hbn.block _ (by omega))); have od := ht; clear ht; simp only [Act.put, List.setIfInBounds_toArray, List.set_cons_zero, List.set_cons_succ]) | (at_builtin; refine wpList_appendT rfl _ _ rfl _ _ rfl rfl od ((RS.one s1)) (by simp; omega) (by omega) ?_; intro v_od wn ht hbn; have hsz := B.size; have hzn := hbn.size; replace B := B.trans (hbn.mono (by omega)); clear od; (try replace p1 := p1.of_eq (hbn.block _ (by omega))); (try replace u1 := u1.of_eq (hbn.block _ (by omega))); have od := ht; clear ht; simp only [Act.put, List.setIfInBounds_toArray, List.set_cons_zero, List.set_cons_succ]) | (refine wpList_bs1T rfl _ rfl ⟨x, y, t⟩ (by rfl) ?_; intro b_s1 wn hle hge ht hbn hzn; have hsz := B.size; replace B := B.trans (hbn.mono (by omega)); have hln := Nat.lt_of_lt_of_eq (Nat.lt_succ_self _) hzn.symm; clear hzn; (try first | (have hlt := p1.lt; replace p1 := p1.of_eq (hbn.block _ (by omega))) | replace p1 := p1.below (hbn.mono hle)); (try first | (have hlt := u1.lt; replace u1 := u1.of_eq (hbn.block _ (by omega))) | replace u1 := u1.below (hbn.mono hle)); (try first | (have hlt := od.lt; replace od := od.of_eq (hbn.block _ (by omega))) | replace od := od.below (hbn.mono hle)); have s1 := ht; clear ht; simp only [Act.put, List.setIfInBounds_toArray, List.set_cons_zero, List.set_cons_succ]) | (refine wpList_buildTA rfl _ _ rfl x y t (by rfl) (by rfl) ?_; simp only [Act.put, List.setIfInBounds_toArray, List.set_cons_zero, List.set_cons_succ]) | (go_at_call 96; have qp := p1.lt; have qu := u1.lt; refine (P_CloneO _ (ls.take (cutL ls x y)) _ (HT.out.below B) (by first | (rw [List.length_take]; omega) | simp)).mono ?_; rintro e wn ⟨v_od, b_od, rfl, hle, hge, od, hbn⟩; have hsz := B.size; have hzn := hbn.size; replace B := B.trans (hbn.mono B.size); (try first | replace p1 := p1.of_eq (hbn.block _ p1.lt) | replace p1 := p1.below hbn); (try first | replace u1 := u1.of_eq (hbn.block _ u1.lt) | replace u1 := u1.below hbn); (try first | replace od := od.of_eq (hbn.block _ od.lt) | replace od := od.below hbn)) | (go_at_call 93; refine (P_find _ ls x y _ (HS.out.below B) SR.out (by first | omega | simp)).mono ?_; rintro e wn ⟨rfl, hbn⟩; have hsz := B.size; have hzn := hbn.size; replace B := B.trans (hbn.mono B.size); (try first | replace p1 := p1.of_eq (hbn.block _ p1.lt) | replace p1 := p1.below hbn); (try first | replace u1 := u1.of_eq (hbn.block _ u1.lt) | replace u1 := u1.below hbn); (try first | replace od := od.of_eq (hbn.block _ od.lt) | replace od := od.below hbn)) | (go_at_call 53; refine (P_Zero _ _ ht).mono ?_; rintro e wn ⟨rfl, hbn⟩; have hsz := B.size; have hzn := hbn.size; replace B := B.trans (hbn.mono B.size); (try first | replace p1 := p1.of_eq (hbn.block _ p1.lt) | replace p1 := p1.below hbn); (try first | replace u1 := u1.of_eq (hbn.block _ u1.lt) | replace u1 := u1.below hbn); (try first | replace od := od.of_eq (hbn.block _ od.lt) | replace od := od.below hbn)) | (refine wpList_loadT rfl _ rfl _ rfl u1 ?_; simp only [Act.put, List.setIfInBounds_toArray, List.set_cons_zero, List.set_cons_succ]) | (refine wpList_loadAny (t := 24) rfl _ rfl _ _ _ rfl (run_load_B p1 Try.isAgg24 (by kernel_rfl)) (by rfl) ?_; simp only [Act.put, List.setIfInBounds_toArray, List.set_cons_zero, List.set_cons_succ]) | (have _ := p1; refine wpList_boxT' rfl _ rfl _ rfl ?_; intro b_u1 wn hle hge ht hbn hzn; have hsz := B.size; replace B := B.trans (hbn.mono (by omega)); have hln := Nat.lt_of_lt_of_eq (Nat.lt_succ_self _) hzn.symm; clear hzn; (try first | (have hlt := p1.lt; replace p1 := p1.of_eq (hbn.block _ (by omega))) | replace p1 := p1.below (hbn.mono hle)); (try first | (have hlt := u1.lt; replace u1 := u1.of_eq (hbn.block _ (by omega))) | replace u1 := u1.below (hbn.mono hle)); (try first | (have hlt := od.lt; replace od := od.of_eq (hbn.block _ (by omega))) | replace od := od.below (hbn.mono hle)); have u1 := ht; clear ht; simp only [Act.put, List.setIfInBounds_toArray, List.set_cons_zero, List.set_cons_succ]) | (refine wpList_boxB (t := 24) rfl _ rfl _ rfl ?_; intro b_p1 wn hle hge ht hbn hzn; have hsz := B.size; replace B := B.trans (hbn.mono (by omega)); have hln := Nat.lt_of_lt_of_eq (Nat.lt_succ_self _) hzn.symm; clear hzn; (try first | (have hlt := p1.lt; replace p1 := p1.of_eq (hbn.block _ (by omega))) | replace p1 := p1.below (hbn.mono hle)); (try first | (have hlt := u1.lt; replace u1 := u1.of_eq (hbn.block _ (by omega))) | replace u1 := u1.below (hbn.mono hle)); (try first | (have hlt := od.lt; replace od := od.of_eq (hbn.block _ (by omega))) | replace od := od.below (hbn.mono hle)); have p1 := ht; clear ht; simp only [Act.put, List.setIfInBounds_toArray, List.set_cons_zero, List.set_cons_succ]) | fail)
        all_goals
          go_ret
          refine ⟨_, rfl, ?_, B⟩
          have e := od.rs
          rw [HC.out, HN.out, HH.out]
          simpa using e
    | false =>
      have hk : cutL ls x y ≤ ls.length := by
        first
          | exact hcl
          | (unfold hitL at hh; have := of_decide_eq_true (Bool.and_eq_true_iff.1 hh).1; omega)
      have HR := Lib.hid (rs_drop sc hc hk)
      cases hz : zeroB t with
      | true =>
        have HN := Lib.hid (show newA x y t = [] from by unfold newA; rw [hz]; rfl)
        have HH := Lib.hid hh
        clear hs sc h
        go_enter Try.func73, Try.ntmps73
        go_wp2_with (first | (at_builtin; refine wpList_appendT rfl _ _ rfl _ _ rfl rfl od ((HR.out.below B)) (by simp; omega) (by omega) ?_; intro v_od wn ht hbn; have hsz := B.size; have hzn := hbn.size; replace B := B.trans (hbn.mono (by omega)); clear od; (try replace p1 := p1.of_eq (hbn.block _ (by omega))); (try replace u1 := u1.of_eq (hbn.block _ (by omega))); have od := ht; clear ht; simp only [Act.put, List.setIfInBounds_toArray, List.set_cons_zero, List.set_cons_succ]) | (go_at_call 96; have qp := p1.lt; have qu := u1.lt; refine (P_CloneO _ (ls.take (cutL ls x y)) _ (HT.out.below B) (by first | (rw [List.length_take]; omega) | simp)).mono ?_; rintro e wn ⟨v_od, b_od, rfl, hle, hge, od, hbn⟩; have hsz := B.size; have hzn := hbn.size; replace B := B.trans (hbn.mono B.size); (try first | replace p1 := p1.of_eq (hbn.block _ p1.lt) | replace p1 := p1.below hbn); (try first | replace u1 := u1.of_eq (hbn.block _ u1.lt) | replace u1 := u1.below hbn); (try first | replace od := od.of_eq (hbn.block _ od.lt) | replace od := od.below hbn)) | (go_at_call 93; refine (P_find _ ls x y _ (HS.out.below B) SR.out (by first | omega | simp)).mono ?_; rintro e wn ⟨rfl, hbn⟩; have hsz := B.size; have hzn := hbn.size; replace B := B.trans (hbn.mono B.size); (try first | replace p1 := p1.of_eq (hbn.block _ p1.lt) | replace p1 := p1.below hbn); (try first | replace u1 := u1.of_eq (hbn.block _ u1.lt) | replace u1 := u1.below hbn); (try first | replace od := od.of_eq (hbn.block _ od.lt) | replace od := od.below hbn)) | (go_at_call 53; refine (P_Zero _ _ ht).mono ?_; rintro e wn ⟨rfl, hbn⟩; have hsz := B.size; have hzn := hbn.size; replace B := B.trans (hbn.mono B.size); (try first | replace p1 := p1.of_eq (hbn.block _ p1.lt) | replace p1 := p1.below hbn); (try first | replace u1 := u1.of_eq (hbn.block _ u1.lt) | replace u1 := u1.below hbn); (try first | replace od := od.of_eq (hbn.block _ od.lt) | replace od := od.below hbn)) | (refine wpList_loadT rfl _ rfl _ rfl u1 ?_; simp only [Act.put, List.setIfInBounds_toArray, List.set_cons_zero, List.set_cons_succ]) | (refine wpList_loadAny (t := 24) rfl _ rfl _ _ _ rfl (run_load_B p1 Try.isAgg24 (by kernel_rfl)) (by rfl) ?_; simp only [Act.put, List.setIfInBounds_toArray, List.set_cons_zero, List.set_cons_succ]) | (have _ := p1; refine wpList_boxT' rfl _ rfl _ rfl ?_; intro b_u1 wn hle hge ht hbn hzn; have hsz := B.size; replace B := B.trans (hbn.mono (by omega)); have hln := Nat.lt_of_lt_of_eq (Nat.lt_succ_self _) hzn.symm; clear hzn; (try first | (have hlt := p1.lt; replace p1 := p1.of_eq (hbn.block _ (by omega))) | replace p1 := p1.below (hbn.mono hle)); (try first | (have hlt := u1.lt; replace u1 := u1.of_eq (hbn.block _ (by omega))) | replace u1 := u1.below (hbn.mono hle)); (try first | (have hlt := od.lt; replace od := od.of_eq (hbn.block _ (by omega))) | replace od := od.below (hbn.mono hle)); have u1 := ht; clear ht; simp only [Act.put, List.setIfInBounds_toArray, List.set_cons_zero, List.set_cons_succ]) | (refine wpList_boxB (t := 24) rfl _ rfl _ rfl ?_; intro b_p1 wn hle hge ht hbn hzn; have hsz := B.size; replace B := B.trans (hbn.mono (by omega)); have hln := Nat.lt_of_lt_of_eq (Nat.lt_succ_self _) hzn.symm; clear hzn; (try first | (have hlt := p1.lt; replace p1 := p1.of_eq (hbn.block _ (by omega))) | replace p1 := p1.below (hbn.mono hle)); (try first | (have hlt := u1.lt; replace u1 := u1.of_eq (hbn.block _ (by omega))) | replace u1 := u1.below (hbn.mono hle)); (try first | (have hlt := od.lt; replace od := od.of_eq (hbn.block _ (by omega))) | replace od := od.below (hbn.mono hle)); have p1 := ht; clear ht; simp only [Act.put, List.setIfInBounds_toArray, List.set_cons_zero, List.set_cons_succ]) | fail)
        all_goals
          go_ret
          refine ⟨_, rfl, ?_, B⟩
          have e := od.rs
          rw [HC.out, HN.out, HH.out]
          simpa using e
      | false =>
        have HN := Lib.hid (show newA x y t = [⟨x, y, t⟩] from by unfold newA; rw [hz]; rfl)
        have HH := Lib.hid hh
        clear hs sc h
        go_enter Try.func73, Try.ntmps73
        go_wp2_with (first | (at_builtin; refine wpList_appendT rfl _ _ rfl _ _ rfl rfl od ((HR.out.below B)) (by simp; omega) (by omega) ?_; intro v_od wn ht hbn; have hsz := B.size; have hzn := hbn.size; replace B := B.trans (hbn.mono (by omega)); clear od; (try replace p1 := p1.of_eq (hbn.block _ (by omega))); (try replace u1 := u1.of_eq (hbn.block _ (by omega))); have od := ht; clear ht; simp only [Act.put, List.setIfInBounds_toArray, List.set_cons_zero, List.set_cons_succ]) | (at_builtin; refine wpList_appendT rfl _ _ rfl _ _ rfl rfl od ((RS.one s1)) (by simp; omega) (by omega) ?_; intro v_od wn ht hbn; have hsz := B.size; have hzn := hbn.size; replace B := B.trans (hbn.mono (by omega)); clear od; (try replace p1 := p1.of_eq (hbn.block _ (by omega))); (try replace u1 := u1.of_eq (hbn.block _ (by omega))); have od := ht; clear ht; simp only [Act.put, List.setIfInBounds_toArray, List.set_cons_zero, List.set_cons_succ]) | (refine wpList_bs1T rfl _ rfl ⟨x, y, t⟩ (by rfl) ?_; intro b_s1 wn hle hge ht hbn hzn; have hsz := B.size; replace B := B.trans (hbn.mono (by omega)); have hln := Nat.lt_of_lt_of_eq (Nat.lt_succ_self _) hzn.symm; clear hzn; (try first | (have hlt := p1.lt; replace p1 := p1.of_eq (hbn.block _ (by omega))) | replace p1 := p1.below (hbn.mono hle)); (try first | (have hlt := u1.lt; replace u1 := u1.of_eq (hbn.block _ (by omega))) | replace u1 := u1.below (hbn.mono hle)); (try first | (have hlt := od.lt; replace od := od.of_eq (hbn.block _ (by omega))) | replace od := od.below (hbn.mono hle)); have s1 := ht; clear ht; simp only [Act.put, List.setIfInBounds_toArray, List.set_cons_zero, List.set_cons_succ]) | (refine wpList_buildTA rfl _ _ rfl x y t (by rfl) (by rfl) ?_; simp only [Act.put, List.setIfInBounds_toArray, List.set_cons_zero, List.set_cons_succ]) | (go_at_call 96; have qp := p1.lt; have qu := u1.lt; refine (P_CloneO _ (ls.take (cutL ls x y)) _ (HT.out.below B) (by first | (rw [List.length_take]; omega) | simp)).mono ?_; rintro e wn ⟨v_od, b_od, rfl, hle, hge, od, hbn⟩; have hsz := B.size; have hzn := hbn.size; replace B := B.trans (hbn.mono B.size); (try first | replace p1 := p1.of_eq (hbn.block _ p1.lt) | replace p1 := p1.below hbn); (try first | replace u1 := u1.of_eq (hbn.block _ u1.lt) | replace u1 := u1.below hbn); (try first | replace od := od.of_eq (hbn.block _ od.lt) | replace od := od.below hbn)) | (go_at_call 93; refine (P_find _ ls x y _ (HS.out.below B) SR.out (by first | omega | simp)).mono ?_; rintro e wn ⟨rfl, hbn⟩; have hsz := B.size; have hzn := hbn.size; replace B := B.trans (hbn.mono B.size); (try first | replace p1 := p1.of_eq (hbn.block _ p1.lt) | replace p1 := p1.below hbn); (try first | replace u1 := u1.of_eq (hbn.block _ u1.lt) | replace u1 := u1.below hbn); (try first | replace od := od.of_eq (hbn.block _ od.lt) | replace od := od.below hbn)) | (go_at_call 53; refine (P_Zero _ _ ht).mono ?_; rintro e wn ⟨rfl, hbn⟩; have hsz := B.size; have hzn := hbn.size; replace B := B.trans (hbn.mono B.size); (try first | replace p1 := p1.of_eq (hbn.block _ p1.lt) | replace p1 := p1.below hbn); (try first | replace u1 := u1.of_eq (hbn.block _ u1.lt) | replace u1 := u1.below hbn); (try first | replace od := od.of_eq (hbn.block _ od.lt) | replace od := od.below hbn)) | (refine wpList_loadT rfl _ rfl _ rfl u1 ?_; simp only [Act.put, List.setIfInBounds_toArray, List.set_cons_zero, List.set_cons_succ]) | (refine wpList_loadAny (t := 24) rfl _ rfl _ _ _ rfl (run_load_B p1 Try.isAgg24 (by kernel_rfl)) (by rfl) ?_; simp only [Act.put, List.setIfInBounds_toArray, List.set_cons_zero, List.set_cons_succ]) | (have _ := p1; refine wpList_boxT' rfl _ rfl _ rfl ?_; intro b_u1 wn hle hge ht hbn hzn; have hsz := B.size; replace B := B.trans (hbn.mono (by omega)); have hln := Nat.lt_of_lt_of_eq (Nat.lt_succ_self _) hzn.symm; clear hzn; (try first | (have hlt := p1.lt; replace p1 := p1.of_eq (hbn.block _ (by omega))) | replace p1 := p1.below (hbn.mono hle)); (try first | (have hlt := u1.lt; replace u1 := u1.of_eq (hbn.block _ (by omega))) | replace u1 := u1.below (hbn.mono hle)); (try first | (have hlt := od.lt; replace od := od.of_eq (hbn.block _ (by omega))) | replace od := od.below (hbn.mono hle)); have u1 := ht; clear ht; simp only [Act.put, List.setIfInBounds_toArray, List.set_cons_zero, List.set_cons_succ]) | (refine wpList_boxB (t := 24) rfl _ rfl _ rfl ?_; intro b_p1 wn hle hge ht hbn hzn; have hsz := B.size; replace B := B.trans (hbn.mono (by omega)); have hln := Nat.lt_of_lt_of_eq (Nat.lt_succ_self _) hzn.symm; clear hzn; (try first | (have hlt := p1.lt; replace p1 := p1.of_eq (hbn.block _ (by omega))) | replace p1 := p1.below (hbn.mono hle)); (try first | (have hlt := u1.lt; replace u1 := u1.of_eq (hbn.block _ (by omega))) | replace u1 := u1.below (hbn.mono hle)); (try first | (have hlt := od.lt; replace od := od.of_eq (hbn.block _ (by omega))) | replace od := od.below (hbn.mono hle)); have p1 := ht; clear ht; simp only [Act.put, List.setIfInBounds_toArray, List.set_cons_zero, List.set_cons_succ]) | fail)
        all_goals
          go_ret
          refine ⟨_, rfl, ?_, B⟩
          have e := od.rs
          rw [HC.out, HN.out, HH.out]
          simpa using e
/-! ### made -/
theorem P_made (a : Option Addr) (n c : Nat) (w : World) (hn : n ≤ maxLen) : Calls Try.prog 72 #[.slice a n c] w fun e w' => e = .returned (if n ≤ 1024 then .tuple #[.agg #[.slice a n c], .int .i64 0] else .tuple #[.agg #[.slice none 0 0], .int .i64 2]) ∧ Below w.heap.size w w' := by
  have B := Below.refl w.heap.size w
  by_cases h : n ≤ 1024
  · rw [if_pos h]
    have d1 : decide (1024 < (n : Int)) = false := decide_eq_false (by omega)
    go_enter Try.func72, Try.ntmps72
    go_wp2_with (first | (refine wpList_storeB (t := 30) rfl _ _ rfl _ rfl _ rfl r1 (by kernel_rfl) rfl (by simp [Value.oneCell']) ?_; clear r1; intro wn ht hcn hzn; have hsz := B.size; replace hzn := Nat.le_of_eq hzn.symm; replace B := Chg.below B hcn (by omega) B.size; have r1 := ht; clear ht; simp only [Act.put, List.setIfInBounds_toArray, List.set_cons_zero, List.set_cons_succ]) | (refine wpList_allocBk (t := 30) rfl _ (run_alloc_R _ _ rfl) ?_; intro b_r1 wn hle hge ht hbn hzn; have hsz := B.size; replace B := B.trans (hbn.mono (by omega)); have hln := Nat.lt_of_lt_of_eq (Nat.lt_succ_self _) hzn.symm; clear hzn; (try first | (have hlt := r1.lt; replace r1 := r1.of_eq (hbn.block _ (by omega))) | replace r1 := r1.below (hbn.mono hle)); have r1 := ht; clear ht; simp only [Act.put, List.setIfInBounds_toArray, List.set_cons_zero, List.set_cons_succ]) | fail)
    refine bodyPost_ret (results_B2 (t := 30) rfl _ _ (b_r1) rfl _ rfl r1 Try.isAgg30 (by kernel_rfl)) rfl ?_
    exact ⟨rfl, B⟩
  · rw [if_neg h]
    have d1 : decide (1024 < (n : Int)) = true := decide_eq_true (by omega)
    go_enter Try.func72, Try.ntmps72
    go_wp2_with (first | (refine wpList_storeB (t := 30) rfl _ _ rfl _ rfl _ rfl r1 (by kernel_rfl) rfl (by simp [Value.oneCell']) ?_; clear r1; intro wn ht hcn hzn; have hsz := B.size; replace hzn := Nat.le_of_eq hzn.symm; replace B := Chg.below B hcn (by omega) B.size; have r1 := ht; clear ht; simp only [Act.put, List.setIfInBounds_toArray, List.set_cons_zero, List.set_cons_succ]) | (refine wpList_allocBk (t := 30) rfl _ (run_alloc_R _ _ rfl) ?_; intro b_r1 wn hle hge ht hbn hzn; have hsz := B.size; replace B := B.trans (hbn.mono (by omega)); have hln := Nat.lt_of_lt_of_eq (Nat.lt_succ_self _) hzn.symm; clear hzn; (try first | (have hlt := r1.lt; replace r1 := r1.of_eq (hbn.block _ (by omega))) | replace r1 := r1.below (hbn.mono hle)); have r1 := ht; clear ht; simp only [Act.put, List.setIfInBounds_toArray, List.set_cons_zero, List.set_cons_succ]) | fail)
    refine bodyPost_ret (results_B2 (t := 30) rfl _ _ (b_r1) rfl _ rfl r1 Try.isAgg30 (by kernel_rfl)) rfl ?_
    exact ⟨rfl, B⟩
/-! ### Put -/
set_option maxHeartbeats 1000000 in
theorem P_Put (v : Value) (ls : List TA) (x y : Int) (t : Nat → Px) (w : World) (h : RS v ls w) (tk : TokL ls) (hn : ls.length ≤ maxLen) (ht : Tok t) : Calls Try.prog 28 #[.agg #[v], .agg #[.int .i64 x, .int .i64 y], Tile.v t] w fun e w' => ∃ v', e = .returned (.tuple #[.agg #[v'], .int .i64 (putE ls x y t)]) ∧ RS v' (putR ls x y t) w' ∧ Below w.heap.size w w' := by
  have B := Below.refl w.heap.size w
  obtain ⟨a', c', hT⟩ := P_tiles v ls w h tk hn
  have HT := Lib.hid hT
  clear hT
  obtain ⟨a, c, rfl, hc⟩ := h.len
  cases hw : withinB x y with
  | false =>
    have e1 : putE ls x y t = 1 := by unfold putE; rw [hw]; rfl
    have e2 : putR ls x y t = [] := by unfold putR; rw [hw]; rfl
    rw [e1, e2]
    clear e1 e2
    go_enter Try.func28, Try.ntmps28
    go_wp2_with (first | (have _ := r2; refine wpList_storeB (t := 30) rfl _ _ rfl _ rfl _ rfl r2 (by kernel_rfl) rfl (by simp [Value.oneCell']) ?_; clear r2; intro wn ht hcn hzn; have hsz := B.size; replace hzn := Nat.le_of_eq hzn.symm; replace B := Chg.below B hcn (by omega) B.size; (try replace r1 := r1.of_eq (hcn.block _ r1.lt (by omega))); (try replace p1 := p1.of_eq (hcn.block _ p1.lt (by omega))); (try replace u1 := u1.of_eq (hcn.block _ u1.lt (by omega))); have r2 := ht; clear ht; simp only [Act.put, List.setIfInBounds_toArray, List.set_cons_zero, List.set_cons_succ]) | (go_at_call 52; refine (P_within x y _).mono ?_; rintro e wn ⟨rfl, hbn⟩; have hsz := B.size; have hzn := hbn.size; replace B := B.trans (hbn.mono B.size); (try first | replace r1 := r1.of_eq (hbn.block _ r1.lt) | replace r1 := r1.below hbn); (try first | replace p1 := p1.of_eq (hbn.block _ p1.lt) | replace p1 := p1.below hbn); (try first | replace u1 := u1.of_eq (hbn.block _ u1.lt) | replace u1 := u1.below hbn); (try first | replace r2 := r2.of_eq (hbn.block _ r2.lt) | replace r2 := r2.below hbn)) | (refine wpList_loadAny (t := 24) rfl _ rfl _ _ _ rfl (run_load_B p1 Try.isAgg24 (by kernel_rfl)) (by rfl) ?_; simp only [Act.put, List.setIfInBounds_toArray, List.set_cons_zero, List.set_cons_succ]) | (have _ := u1; refine wpList_allocBk (t := 30) rfl _ (run_alloc_R _ _ rfl) ?_; intro b_r2 wn hle hge ht hbn hzn; have hsz := B.size; replace B := B.trans (hbn.mono (by omega)); have hln := Nat.lt_of_lt_of_eq (Nat.lt_succ_self _) hzn.symm; clear hzn; (try first | (have hlt := r1.lt; replace r1 := r1.of_eq (hbn.block _ (by omega))) | replace r1 := r1.below (hbn.mono hle)); (try first | (have hlt := p1.lt; replace p1 := p1.of_eq (hbn.block _ (by omega))) | replace p1 := p1.below (hbn.mono hle)); (try first | (have hlt := u1.lt; replace u1 := u1.of_eq (hbn.block _ (by omega))) | replace u1 := u1.below (hbn.mono hle)); (try first | (have hlt := r2.lt; replace r2 := r2.of_eq (hbn.block _ (by omega))) | replace r2 := r2.below (hbn.mono hle)); have r2 := ht; clear ht; simp only [Act.put, List.setIfInBounds_toArray, List.set_cons_zero, List.set_cons_succ]) | (have _ := p1; refine wpList_boxT' rfl _ rfl _ rfl ?_; intro b_u1 wn hle hge ht hbn hzn; have hsz := B.size; replace B := B.trans (hbn.mono (by omega)); have hln := Nat.lt_of_lt_of_eq (Nat.lt_succ_self _) hzn.symm; clear hzn; (try first | (have hlt := r1.lt; replace r1 := r1.of_eq (hbn.block _ (by omega))) | replace r1 := r1.below (hbn.mono hle)); (try first | (have hlt := p1.lt; replace p1 := p1.of_eq (hbn.block _ (by omega))) | replace p1 := p1.below (hbn.mono hle)); (try first | (have hlt := u1.lt; replace u1 := u1.of_eq (hbn.block _ (by omega))) | replace u1 := u1.below (hbn.mono hle)); (try first | (have hlt := r2.lt; replace r2 := r2.of_eq (hbn.block _ (by omega))) | replace r2 := r2.below (hbn.mono hle)); have u1 := ht; clear ht; simp only [Act.put, List.setIfInBounds_toArray, List.set_cons_zero, List.set_cons_succ]) | (have _ := r1; refine wpList_boxB (t := 24) rfl _ rfl _ rfl ?_; intro b_p1 wn hle hge ht hbn hzn; have hsz := B.size; replace B := B.trans (hbn.mono (by omega)); have hln := Nat.lt_of_lt_of_eq (Nat.lt_succ_self _) hzn.symm; clear hzn; (try first | (have hlt := r1.lt; replace r1 := r1.of_eq (hbn.block _ (by omega))) | replace r1 := r1.below (hbn.mono hle)); (try first | (have hlt := p1.lt; replace p1 := p1.of_eq (hbn.block _ (by omega))) | replace p1 := p1.below (hbn.mono hle)); (try first | (have hlt := u1.lt; replace u1 := u1.of_eq (hbn.block _ (by omega))) | replace u1 := u1.below (hbn.mono hle)); (try first | (have hlt := r2.lt; replace r2 := r2.of_eq (hbn.block _ (by omega))) | replace r2 := r2.below (hbn.mono hle)); have p1 := ht; clear ht; simp only [Act.put, List.setIfInBounds_toArray, List.set_cons_zero, List.set_cons_succ]) | (refine wpList_boxB (t := 30) rfl _ rfl _ rfl ?_; intro b_r1 wn hle hge ht hbn hzn; have hsz := B.size; replace B := B.trans (hbn.mono (by omega)); have hln := Nat.lt_of_lt_of_eq (Nat.lt_succ_self _) hzn.symm; clear hzn; (try first | (have hlt := r1.lt; replace r1 := r1.of_eq (hbn.block _ (by omega))) | replace r1 := r1.below (hbn.mono hle)); (try first | (have hlt := p1.lt; replace p1 := p1.of_eq (hbn.block _ (by omega))) | replace p1 := p1.below (hbn.mono hle)); (try first | (have hlt := u1.lt; replace u1 := u1.of_eq (hbn.block _ (by omega))) | replace u1 := u1.below (hbn.mono hle)); (try first | (have hlt := r2.lt; replace r2 := r2.of_eq (hbn.block _ (by omega))) | replace r2 := r2.below (hbn.mono hle)); have r1 := ht; clear ht; simp only [Act.put, List.setIfInBounds_toArray, List.set_cons_zero, List.set_cons_succ]) | fail)
    refine bodyPost_ret (results_B2 (t := 30) rfl _ _ (b_r2) rfl _ rfl r2 Try.isAgg30 (by kernel_rfl)) rfl ?_
    exact ⟨_, rfl, RS.nil _, B⟩
  | true =>
    have SR := Lib.hid (validL_srt (fineL_valid ls))
    have CT : Hid (Tok (cleanT t)) := Lib.hid (fun i hi => cleanP_ok (ht i hi))
    have hfl := fineL_length ls
    have hpl := putL_length (fineL ls) x y (cleanT t)
    by_cases hm : (putL (fineL ls) x y (cleanT t)).length ≤ 1024
    · have e1 : putE ls x y t = 0 := by unfold putE manyE; rw [hw, if_pos rfl, if_pos hm]
      have e2 := Lib.hid (show putR ls x y t = putL (fineL ls) x y (cleanT t) by unfold putR manyL; rw [hw, if_pos rfl, if_pos hm])
      rw [e1]
      clear e1
      go_enter Try.func28, Try.ntmps28
      go_wp2_with (first | (go_at_call 52; refine (P_within x y _).mono ?_; rintro e wn ⟨rfl, hbn⟩; have hsz := B.size; have hzn := hbn.size; replace B := B.trans (hbn.mono B.size); (try first | replace r1 := r1.of_eq (hbn.block _ r1.lt) | replace r1 := r1.below hbn); (try first | replace p1 := p1.of_eq (hbn.block _ p1.lt) | replace p1 := p1.below hbn); (try first | replace u1 := u1.of_eq (hbn.block _ u1.lt) | replace u1 := u1.below hbn); (try first | replace r2 := r2.of_eq (hbn.block _ r2.lt) | replace r2 := r2.below hbn)) | (refine wpList_loadAny (t := 24) rfl _ rfl _ _ _ rfl (run_load_B p1 Try.isAgg24 (by kernel_rfl)) (by rfl) ?_; simp only [Act.put, List.setIfInBounds_toArray, List.set_cons_zero, List.set_cons_succ]) | (have _ := u1; refine wpList_allocBk (t := 30) rfl _ (run_alloc_R _ _ rfl) ?_; intro b_r2 wn hle hge ht hbn hzn; have hsz := B.size; replace B := B.trans (hbn.mono (by omega)); have hln := Nat.lt_of_lt_of_eq (Nat.lt_succ_self _) hzn.symm; clear hzn; (try first | (have hlt := r1.lt; replace r1 := r1.of_eq (hbn.block _ (by omega))) | replace r1 := r1.below (hbn.mono hle)); (try first | (have hlt := p1.lt; replace p1 := p1.of_eq (hbn.block _ (by omega))) | replace p1 := p1.below (hbn.mono hle)); (try first | (have hlt := u1.lt; replace u1 := u1.of_eq (hbn.block _ (by omega))) | replace u1 := u1.below (hbn.mono hle)); (try first | (have hlt := r2.lt; replace r2 := r2.of_eq (hbn.block _ (by omega))) | replace r2 := r2.below (hbn.mono hle)); have r2 := ht; clear ht; simp only [Act.put, List.setIfInBounds_toArray, List.set_cons_zero, List.set_cons_succ]) | (have _ := p1; refine wpList_boxT' rfl _ rfl _ rfl ?_; intro b_u1 wn hle hge ht hbn hzn; have hsz := B.size; replace B := B.trans (hbn.mono (by omega)); have hln := Nat.lt_of_lt_of_eq (Nat.lt_succ_self _) hzn.symm; clear hzn; (try first | (have hlt := r1.lt; replace r1 := r1.of_eq (hbn.block _ (by omega))) | replace r1 := r1.below (hbn.mono hle)); (try first | (have hlt := p1.lt; replace p1 := p1.of_eq (hbn.block _ (by omega))) | replace p1 := p1.below (hbn.mono hle)); (try first | (have hlt := u1.lt; replace u1 := u1.of_eq (hbn.block _ (by omega))) | replace u1 := u1.below (hbn.mono hle)); (try first | (have hlt := r2.lt; replace r2 := r2.of_eq (hbn.block _ (by omega))) | replace r2 := r2.below (hbn.mono hle)); have u1 := ht; clear ht; simp only [Act.put, List.setIfInBounds_toArray, List.set_cons_zero, List.set_cons_succ]) | (have _ := r1; refine wpList_boxB (t := 24) rfl _ rfl _ rfl ?_; intro b_p1 wn hle hge ht hbn hzn; have hsz := B.size; replace B := B.trans (hbn.mono (by omega)); have hln := Nat.lt_of_lt_of_eq (Nat.lt_succ_self _) hzn.symm; clear hzn; (try first | (have hlt := r1.lt; replace r1 := r1.of_eq (hbn.block _ (by omega))) | replace r1 := r1.below (hbn.mono hle)); (try first | (have hlt := p1.lt; replace p1 := p1.of_eq (hbn.block _ (by omega))) | replace p1 := p1.below (hbn.mono hle)); (try first | (have hlt := u1.lt; replace u1 := u1.of_eq (hbn.block _ (by omega))) | replace u1 := u1.below (hbn.mono hle)); (try first | (have hlt := r2.lt; replace r2 := r2.of_eq (hbn.block _ (by omega))) | replace r2 := r2.below (hbn.mono hle)); have p1 := ht; clear ht; simp only [Act.put, List.setIfInBounds_toArray, List.set_cons_zero, List.set_cons_succ]) | (refine wpList_boxB (t := 30) rfl _ rfl _ rfl ?_; intro b_r1 wn hle hge ht hbn hzn; have hsz := B.size; replace B := B.trans (hbn.mono (by omega)); have hln := Nat.lt_of_lt_of_eq (Nat.lt_succ_self _) hzn.symm; clear hzn; (try first | (have hlt := r1.lt; replace r1 := r1.of_eq (hbn.block _ (by omega))) | replace r1 := r1.below (hbn.mono hle)); (try first | (have hlt := p1.lt; replace p1 := p1.of_eq (hbn.block _ (by omega))) | replace p1 := p1.below (hbn.mono hle)); (try first | (have hlt := u1.lt; replace u1 := u1.of_eq (hbn.block _ (by omega))) | replace u1 := u1.below (hbn.mono hle)); (try first | (have hlt := r2.lt; replace r2 := r2.of_eq (hbn.block _ (by omega))) | replace r2 := r2.below (hbn.mono hle)); have r1 := ht; clear ht; simp only [Act.put, List.setIfInBounds_toArray, List.set_cons_zero, List.set_cons_succ]) | fail)
      refine wp_region_ov_any 5 #[true, true, true, true, true, false, false, false, false, false, false] (by kernel_rfl) (by kernel_rfl) ?_
      simp only [List.length_cons, List.length_nil, Nat.reduceAdd, Nat.reduceSub, List.take_succ_cons, List.take_zero]
      repeat (first | go_big_quiet_skip | (go_big_quiet_want; first | (refine quiet_loadAny (t := 30) rfl _ _ _ rfl (fun w hw => run_load_B (ov_B r1 w hw) Try.isAgg30 (by kernel_rfl)) (by rfl) ?_; simp only [Act.put, List.setIfInBounds_toArray, List.set_cons_zero, List.set_cons_succ]; go_big_quiet_on) | (refine quiet_loadAny (t := 24) rfl _ _ _ rfl (fun w hw => run_load_B (ov_B p1 w hw) Try.isAgg24 (by kernel_rfl)) (by rfl) ?_; simp only [Act.put, List.setIfInBounds_toArray, List.set_cons_zero, List.set_cons_succ]; go_big_quiet_on) | (refine quiet_loadT rfl _ rfl (ov_tile u1) ?_; simp only [Act.put, List.setIfInBounds_toArray, List.set_cons_zero, List.set_cons_succ]; go_big_quiet_on) | (go_big_quiet_op; first | go_big_quiet_on | go_big_quiet_call ((first | (go_at_call 68; exact calls_ov (HT.out _ (below_ov B B.size _)).1) | (go_at_call 54; exact calls_ov (P_Clean_t _ _ ht)))))))
      refine wpQuiet_nil ?_
      intro wn hbn
      have hsz := B.size
      have hzn := hbn.size
      replace B := B.trans (hbn.mono B.size)
      try first | replace r1 := r1.of_eq (hbn.block _ r1.lt) | replace r1 := r1.below hbn
      try first | replace p1 := p1.of_eq (hbn.block _ p1.lt) | replace p1 := p1.below hbn
      try first | replace u1 := u1.of_eq (hbn.block _ u1.lt) | replace u1 := u1.below hbn
      try first | replace r2 := r2.of_eq (hbn.block _ r2.lt) | replace r2 := r2.below hbn
      refine any_next 5 rfl (by kernel_rfl) rfl (fun K hK => ?_)
      try simp only [List.getElem_toArray, List.getElem_cons_zero, List.getElem_cons_succ]
      go_simp
      go_at_call 73
      refine (P_with _ (fineL ls) x y (cleanT t) _ (HT.out _ B).2 SR.out CT.out (by omega)).mono ?_
      rintro e wn ⟨v1, rfl, rs1, hbn⟩
      obtain ⟨a1, c1, rfl, hc1⟩ := rs1.len
      have hsz := B.size
      have hzn := hbn.size
      replace B := B.trans (hbn.mono B.size)
      try first | replace r1 := r1.of_eq (hbn.block _ r1.lt) | replace r1 := r1.below hbn
      try first | replace p1 := p1.of_eq (hbn.block _ p1.lt) | replace p1 := p1.below hbn
      try first | replace u1 := u1.of_eq (hbn.block _ u1.lt) | replace u1 := u1.below hbn
      try first | replace r2 := r2.of_eq (hbn.block _ r2.lt) | replace r2 := r2.below hbn
      refine hK _ _ ?_
      clear hK K
      try simp only [List.getElem_toArray, List.getElem_cons_zero, List.getElem_cons_succ]
      simp only [Act.put, List.setIfInBounds_toArray, List.set_cons_zero, List.set_cons_succ]
      refine any_next 6 rfl (by kernel_rfl) rfl (fun K hK => ?_)
      try simp only [List.getElem_toArray, List.getElem_cons_zero, List.getElem_cons_succ]
      go_simp
      go_at_call 72
      refine (P_made _ _ _ _ (by unfold maxLen; omega)).mono ?_
      rintro e wn ⟨rfl, hbn⟩
      rw [if_pos hm]
      have hsz := B.size
      have hzn := hbn.size
      replace B := B.trans (hbn.mono B.size)
      try first | replace r1 := r1.of_eq (hbn.block _ r1.lt) | replace r1 := r1.below hbn
      try first | replace p1 := p1.of_eq (hbn.block _ p1.lt) | replace p1 := p1.below hbn
      try first | replace u1 := u1.of_eq (hbn.block _ u1.lt) | replace u1 := u1.below hbn
      try first | replace r2 := r2.of_eq (hbn.block _ r2.lt) | replace r2 := r2.below hbn
      try first | replace rs1 := rs1.of_eq (hbn.block _ rs1.lt) | replace rs1 := rs1.below hbn
      refine hK _ _ ?_
      clear hK K
      try simp only [List.getElem_toArray, List.getElem_cons_zero, List.getElem_cons_succ]
      simp only [Act.put, List.setIfInBounds_toArray, List.set_cons_zero, List.set_cons_succ]
      refine any_pure 7 rfl (by kernel_rfl) (by kernel_rfl) (by kernel_rfl) rfl (fun w => rfl) ?_
      try simp only [List.getElem_toArray, List.getElem_cons_zero, List.getElem_cons_succ]
      simp only [Act.put, List.setIfInBounds_toArray, List.set_cons_zero, List.set_cons_succ]
      refine any_pure 8 rfl (by kernel_rfl) (by kernel_rfl) (by kernel_rfl) rfl (fun w => rfl) ?_
      try simp only [List.getElem_toArray, List.getElem_cons_zero, List.getElem_cons_succ]
      simp only [Act.put, List.setIfInBounds_toArray, List.set_cons_zero, List.set_cons_succ]
      refine any_next 9 rfl (by kernel_rfl) rfl (fun K hK => ?_)
      try simp only [List.getElem_toArray, List.getElem_cons_zero, List.getElem_cons_succ]
      refine owp_storeB (t := 30) _ _ _ _ rfl rfl rfl r2 (by kernel_rfl) rfl (by simp [Value.oneCell']) ?_
      have r2o := r2
      clear r2
      intro wn r2 hcn hzn
      have hsz := B.size
      replace hzn := Nat.le_of_eq hzn.symm
      replace B := Chg.below B hcn (by omega) B.size
      try replace r1 := r1.of_eq (hcn.block _ r1.lt (by omega))
      try replace p1 := p1.of_eq (hcn.block _ p1.lt (by omega))
      try replace u1 := u1.of_eq (hcn.block _ u1.lt (by omega))
      replace rs1 := rs1.chg r2o (by simp) hcn
      clear r2o
      refine hK _ _ ?_
      clear hK K
      try simp only [List.getElem_toArray, List.getElem_cons_zero, List.getElem_cons_succ]
      simp only [Act.put, List.setIfInBounds_toArray, List.set_cons_zero, List.set_cons_succ]
      refine any_pure 10 rfl (by kernel_rfl) (by kernel_rfl) (by kernel_rfl) rfl (fun w => rfl) ?_
      try simp only [List.getElem_toArray, List.getElem_cons_zero, List.getElem_cons_succ]
      simp only [Act.put, List.setIfInBounds_toArray, List.set_cons_zero, List.set_cons_succ]
      refine any_end (by kernel_rfl) ?_
      go_wp2
      refine bodyPost_ret (results_B2 (t := 30) rfl _ _ (b_r2) rfl _ rfl r2 Try.isAgg30 (by kernel_rfl)) rfl ?_
      refine ⟨_, rfl, ?_, B⟩
      rw [e2.out]
      exact rs1
    · have e1 : putE ls x y t = 2 := by unfold putE manyE; rw [hw, if_pos rfl, if_neg hm]
      have e2 := Lib.hid (show putR ls x y t = [] by unfold putR manyL; rw [hw, if_pos rfl, if_neg hm])
      rw [e1]
      clear e1
      go_enter Try.func28, Try.ntmps28
      go_wp2_with (first | (go_at_call 52; refine (P_within x y _).mono ?_; rintro e wn ⟨rfl, hbn⟩; have hsz := B.size; have hzn := hbn.size; replace B := B.trans (hbn.mono B.size); (try first | replace r1 := r1.of_eq (hbn.block _ r1.lt) | replace r1 := r1.below hbn); (try first | replace p1 := p1.of_eq (hbn.block _ p1.lt) | replace p1 := p1.below hbn); (try first | replace u1 := u1.of_eq (hbn.block _ u1.lt) | replace u1 := u1.below hbn); (try first | replace r2 := r2.of_eq (hbn.block _ r2.lt) | replace r2 := r2.below hbn)) | (refine wpList_loadAny (t := 24) rfl _ rfl _ _ _ rfl (run_load_B p1 Try.isAgg24 (by kernel_rfl)) (by rfl) ?_; simp only [Act.put, List.setIfInBounds_toArray, List.set_cons_zero, List.set_cons_succ]) | (have _ := u1; refine wpList_allocBk (t := 30) rfl _ (run_alloc_R _ _ rfl) ?_; intro b_r2 wn hle hge ht hbn hzn; have hsz := B.size; replace B := B.trans (hbn.mono (by omega)); have hln := Nat.lt_of_lt_of_eq (Nat.lt_succ_self _) hzn.symm; clear hzn; (try first | (have hlt := r1.lt; replace r1 := r1.of_eq (hbn.block _ (by omega))) | replace r1 := r1.below (hbn.mono hle)); (try first | (have hlt := p1.lt; replace p1 := p1.of_eq (hbn.block _ (by omega))) | replace p1 := p1.below (hbn.mono hle)); (try first | (have hlt := u1.lt; replace u1 := u1.of_eq (hbn.block _ (by omega))) | replace u1 := u1.below (hbn.mono hle)); (try first | (have hlt := r2.lt; replace r2 := r2.of_eq (hbn.block _ (by omega))) | replace r2 := r2.below (hbn.mono hle)); have r2 := ht; clear ht; simp only [Act.put, List.setIfInBounds_toArray, List.set_cons_zero, List.set_cons_succ]) | (have _ := p1; refine wpList_boxT' rfl _ rfl _ rfl ?_; intro b_u1 wn hle hge ht hbn hzn; have hsz := B.size; replace B := B.trans (hbn.mono (by omega)); have hln := Nat.lt_of_lt_of_eq (Nat.lt_succ_self _) hzn.symm; clear hzn; (try first | (have hlt := r1.lt; replace r1 := r1.of_eq (hbn.block _ (by omega))) | replace r1 := r1.below (hbn.mono hle)); (try first | (have hlt := p1.lt; replace p1 := p1.of_eq (hbn.block _ (by omega))) | replace p1 := p1.below (hbn.mono hle)); (try first | (have hlt := u1.lt; replace u1 := u1.of_eq (hbn.block _ (by omega))) | replace u1 := u1.below (hbn.mono hle)); (try first | (have hlt := r2.lt; replace r2 := r2.of_eq (hbn.block _ (by omega))) | replace r2 := r2.below (hbn.mono hle)); have u1 := ht; clear ht; simp only [Act.put, List.setIfInBounds_toArray, List.set_cons_zero, List.set_cons_succ]) | (have _ := r1; refine wpList_boxB (t := 24) rfl _ rfl _ rfl ?_; intro b_p1 wn hle hge ht hbn hzn; have hsz := B.size; replace B := B.trans (hbn.mono (by omega)); have hln := Nat.lt_of_lt_of_eq (Nat.lt_succ_self _) hzn.symm; clear hzn; (try first | (have hlt := r1.lt; replace r1 := r1.of_eq (hbn.block _ (by omega))) | replace r1 := r1.below (hbn.mono hle)); (try first | (have hlt := p1.lt; replace p1 := p1.of_eq (hbn.block _ (by omega))) | replace p1 := p1.below (hbn.mono hle)); (try first | (have hlt := u1.lt; replace u1 := u1.of_eq (hbn.block _ (by omega))) | replace u1 := u1.below (hbn.mono hle)); (try first | (have hlt := r2.lt; replace r2 := r2.of_eq (hbn.block _ (by omega))) | replace r2 := r2.below (hbn.mono hle)); have p1 := ht; clear ht; simp only [Act.put, List.setIfInBounds_toArray, List.set_cons_zero, List.set_cons_succ]) | (refine wpList_boxB (t := 30) rfl _ rfl _ rfl ?_; intro b_r1 wn hle hge ht hbn hzn; have hsz := B.size; replace B := B.trans (hbn.mono (by omega)); have hln := Nat.lt_of_lt_of_eq (Nat.lt_succ_self _) hzn.symm; clear hzn; (try first | (have hlt := r1.lt; replace r1 := r1.of_eq (hbn.block _ (by omega))) | replace r1 := r1.below (hbn.mono hle)); (try first | (have hlt := p1.lt; replace p1 := p1.of_eq (hbn.block _ (by omega))) | replace p1 := p1.below (hbn.mono hle)); (try first | (have hlt := u1.lt; replace u1 := u1.of_eq (hbn.block _ (by omega))) | replace u1 := u1.below (hbn.mono hle)); (try first | (have hlt := r2.lt; replace r2 := r2.of_eq (hbn.block _ (by omega))) | replace r2 := r2.below (hbn.mono hle)); have r1 := ht; clear ht; simp only [Act.put, List.setIfInBounds_toArray, List.set_cons_zero, List.set_cons_succ]) | fail)
      refine wp_region_ov_any 5 #[true, true, true, true, true, false, false, false, false, false, false] (by kernel_rfl) (by kernel_rfl) ?_
      simp only [List.length_cons, List.length_nil, Nat.reduceAdd, Nat.reduceSub, List.take_succ_cons, List.take_zero]
      repeat (first | go_big_quiet_skip | (go_big_quiet_want; first | (refine quiet_loadAny (t := 30) rfl _ _ _ rfl (fun w hw => run_load_B (ov_B r1 w hw) Try.isAgg30 (by kernel_rfl)) (by rfl) ?_; simp only [Act.put, List.setIfInBounds_toArray, List.set_cons_zero, List.set_cons_succ]; go_big_quiet_on) | (refine quiet_loadAny (t := 24) rfl _ _ _ rfl (fun w hw => run_load_B (ov_B p1 w hw) Try.isAgg24 (by kernel_rfl)) (by rfl) ?_; simp only [Act.put, List.setIfInBounds_toArray, List.set_cons_zero, List.set_cons_succ]; go_big_quiet_on) | (refine quiet_loadT rfl _ rfl (ov_tile u1) ?_; simp only [Act.put, List.setIfInBounds_toArray, List.set_cons_zero, List.set_cons_succ]; go_big_quiet_on) | (go_big_quiet_op; first | go_big_quiet_on | go_big_quiet_call ((first | (go_at_call 68; exact calls_ov (HT.out _ (below_ov B B.size _)).1) | (go_at_call 54; exact calls_ov (P_Clean_t _ _ ht)))))))
      refine wpQuiet_nil ?_
      intro wn hbn
      have hsz := B.size
      have hzn := hbn.size
      replace B := B.trans (hbn.mono B.size)
      try first | replace r1 := r1.of_eq (hbn.block _ r1.lt) | replace r1 := r1.below hbn
      try first | replace p1 := p1.of_eq (hbn.block _ p1.lt) | replace p1 := p1.below hbn
      try first | replace u1 := u1.of_eq (hbn.block _ u1.lt) | replace u1 := u1.below hbn
      try first | replace r2 := r2.of_eq (hbn.block _ r2.lt) | replace r2 := r2.below hbn
      refine any_next 5 rfl (by kernel_rfl) rfl (fun K hK => ?_)
      try simp only [List.getElem_toArray, List.getElem_cons_zero, List.getElem_cons_succ]
      go_simp
      go_at_call 73
      refine (P_with _ (fineL ls) x y (cleanT t) _ (HT.out _ B).2 SR.out CT.out (by omega)).mono ?_
      rintro e wn ⟨v1, rfl, rs1, hbn⟩
      obtain ⟨a1, c1, rfl, hc1⟩ := rs1.len
      have hsz := B.size
      have hzn := hbn.size
      replace B := B.trans (hbn.mono B.size)
      try first | replace r1 := r1.of_eq (hbn.block _ r1.lt) | replace r1 := r1.below hbn
      try first | replace p1 := p1.of_eq (hbn.block _ p1.lt) | replace p1 := p1.below hbn
      try first | replace u1 := u1.of_eq (hbn.block _ u1.lt) | replace u1 := u1.below hbn
      try first | replace r2 := r2.of_eq (hbn.block _ r2.lt) | replace r2 := r2.below hbn
      refine hK _ _ ?_
      clear hK K
      try simp only [List.getElem_toArray, List.getElem_cons_zero, List.getElem_cons_succ]
      simp only [Act.put, List.setIfInBounds_toArray, List.set_cons_zero, List.set_cons_succ]
      refine any_next 6 rfl (by kernel_rfl) rfl (fun K hK => ?_)
      try simp only [List.getElem_toArray, List.getElem_cons_zero, List.getElem_cons_succ]
      go_simp
      go_at_call 72
      refine (P_made _ _ _ _ (by unfold maxLen; omega)).mono ?_
      rintro e wn ⟨rfl, hbn⟩
      rw [if_neg hm]
      have hsz := B.size
      have hzn := hbn.size
      replace B := B.trans (hbn.mono B.size)
      try first | replace r1 := r1.of_eq (hbn.block _ r1.lt) | replace r1 := r1.below hbn
      try first | replace p1 := p1.of_eq (hbn.block _ p1.lt) | replace p1 := p1.below hbn
      try first | replace u1 := u1.of_eq (hbn.block _ u1.lt) | replace u1 := u1.below hbn
      try first | replace r2 := r2.of_eq (hbn.block _ r2.lt) | replace r2 := r2.below hbn
      try first | replace rs1 := rs1.of_eq (hbn.block _ rs1.lt) | replace rs1 := rs1.below hbn
      refine hK _ _ ?_
      clear hK K
      try simp only [List.getElem_toArray, List.getElem_cons_zero, List.getElem_cons_succ]
      simp only [Act.put, List.setIfInBounds_toArray, List.set_cons_zero, List.set_cons_succ]
      refine any_pure 7 rfl (by kernel_rfl) (by kernel_rfl) (by kernel_rfl) rfl (fun w => rfl) ?_
      try simp only [List.getElem_toArray, List.getElem_cons_zero, List.getElem_cons_succ]
      simp only [Act.put, List.setIfInBounds_toArray, List.set_cons_zero, List.set_cons_succ]
      refine any_pure 8 rfl (by kernel_rfl) (by kernel_rfl) (by kernel_rfl) rfl (fun w => rfl) ?_
      try simp only [List.getElem_toArray, List.getElem_cons_zero, List.getElem_cons_succ]
      simp only [Act.put, List.setIfInBounds_toArray, List.set_cons_zero, List.set_cons_succ]
      refine any_next 9 rfl (by kernel_rfl) rfl (fun K hK => ?_)
      try simp only [List.getElem_toArray, List.getElem_cons_zero, List.getElem_cons_succ]
      refine owp_storeB (t := 30) _ _ _ _ rfl rfl rfl r2 (by kernel_rfl) rfl (by simp [Value.oneCell']) ?_
      have r2o := r2
      clear r2
      intro wn r2 hcn hzn
      have hsz := B.size
      replace hzn := Nat.le_of_eq hzn.symm
      replace B := Chg.below B hcn (by omega) B.size
      try replace r1 := r1.of_eq (hcn.block _ r1.lt (by omega))
      try replace p1 := p1.of_eq (hcn.block _ p1.lt (by omega))
      try replace u1 := u1.of_eq (hcn.block _ u1.lt (by omega))
      replace rs1 := rs1.chg r2o (by simp) hcn
      clear r2o
      refine hK _ _ ?_
      clear hK K
      try simp only [List.getElem_toArray, List.getElem_cons_zero, List.getElem_cons_succ]
      simp only [Act.put, List.setIfInBounds_toArray, List.set_cons_zero, List.set_cons_succ]
      refine any_pure 10 rfl (by kernel_rfl) (by kernel_rfl) (by kernel_rfl) rfl (fun w => rfl) ?_
      try simp only [List.getElem_toArray, List.getElem_cons_zero, List.getElem_cons_succ]
      simp only [Act.put, List.setIfInBounds_toArray, List.set_cons_zero, List.set_cons_succ]
      refine any_end (by kernel_rfl) ?_
      go_wp2
      refine bodyPost_ret (results_B2 (t := 30) rfl _ _ (b_r2) rfl _ rfl r2 Try.isAgg30 (by kernel_rfl)) rfl ?_
      exact ⟨_, rfl, by rw [e2.out]; exact RS.nil _, B⟩
end Go.Proofs.Ytppccnjckiedlaa
