import Derived.Test.YtppccnjckiedlaaK3
import Derived.Test.YtppccnjckiedlaaK1
import Derived.Test.YtppccnjckiedlaaK2

/- Plain: the pixels that Image makes are the raster's pixels, row by row. -/
namespace Go.Proofs.Ytppccnjckiedlaa
open Go.RowKit Pl
set_option linter.unusedVariables false
set_option linter.unusedSimpArgs false
/-- The pixel number j of a rectangle. -/
def widN (c : Rc) : Nat := (c.x1 - c.x0).toNat
def pxX (c : Rc) (j : Nat) : Int := c.x0 + ((j % widN c : Nat) : Int)
def pxY (c : Rc) (j : Nat) : Int := c.y0 + ((j / widN c : Nat) : Int)
def imgL (c : Rc) (ks : List TA) : List Px := (List.range (areaN c)).map fun j => getL ks (pxX c j) (pxY c j)
theorem imgL_len (c : Rc) (ks : List TA) : (imgL c ks).length = areaN c := by unfold imgL; rw [List.length_map, List.length_range]
theorem imgL_at (c : Rc) (ks : List TA) {j : Nat} (hj : j < areaN c) : (imgL c ks)[j]? = some (getL ks (pxX c j) (pxY c j)) := by
  unfold imgL
  rw [List.getElem?_map, List.getElem?_range hj]
  rfl
theorem area_wid {c : Rc} (hf : Fits c) : areaN c = widN c * (c.y1 - c.y0).toNat ∧ 0 < widN c := by
  have h1 := hf.h1
  have h2 := hf.h2
  obtain ⟨W, hW⟩ : ∃ W : Nat, c.x1 - c.x0 = (W : Int) := ⟨(c.x1 - c.x0).toNat, by omega⟩
  obtain ⟨H, hH⟩ : ∃ H : Nat, c.y1 - c.y0 = (H : Int) := ⟨(c.y1 - c.y0).toNat, by omega⟩
  unfold areaN widN
  rw [hW, hH, ← Int.natCast_mul, Int.toNat_natCast, Int.toNat_natCast, Int.toNat_natCast]
  exact ⟨rfl, by omega⟩
theorem px_in {c : Rc} (hf : Fits c) {j : Nat} (hj : j < areaN c) : hasR c (pxX c j) (pxY c j) = true := by
  obtain ⟨ea, hw⟩ := area_wid hf
  have hm := Nat.mod_lt j hw
  have hd : j / widN c < (c.y1 - c.y0).toNat := Nat.div_lt_of_lt_mul (by rw [← ea]; exact hj)
  rw [hasR_iff]
  unfold pxX pxY
  have hw' : widN c = (c.x1 - c.x0).toNat := rfl
  generalize j % widN c = u at hm ⊢
  generalize j / widN c = v at hd ⊢
  have := hf.h1
  have := hf.h2
  omega
/-- The index of a pixel, and back. -/
theorem idx_px {c : Rc} (hf : Fits c) {j : Nat} (hj : j < areaN c) {x y : Int} (hh : hasR c x y = true) : (idxI c x y).toNat = j ↔ x = pxX c j ∧ y = pxY c j := by
  obtain ⟨ea, hw⟩ := area_wid hf
  have hr := (hasR_iff c x y).1 hh
  obtain ⟨u, hu⟩ : ∃ u : Nat, x - c.x0 = (u : Int) := ⟨(x - c.x0).toNat, by omega⟩
  obtain ⟨v, hv⟩ : ∃ v : Nat, y - c.y0 = (v : Int) := ⟨(y - c.y0).toNat, by omega⟩
  have hwi : c.x1 - c.x0 = (widN c : Int) := by unfold widN; have := hf.h1; omega
  have e : (idxI c x y).toNat = v * widN c + u := by
    have : idxI c x y = ((v * widN c + u : Nat) : Int) := by
      unfold idxI
      rw [hwi, hv]
      have : (v : Int) * (widN c : Int) + x - c.x0 = (v : Int) * (widN c : Int) + (u : Int) := by omega
      rw [this]
      simp
    rw [this]
    exact Int.toNat_natCast _
  have hul : u < widN c := by omega
  rw [e]
  unfold pxX pxY
  constructor
  · intro h
    have hm : j % widN c = u := by rw [← h, Nat.mul_comm, Nat.mul_add_mod]; exact Nat.mod_eq_of_lt hul
    have hd : j / widN c = v := by rw [← h, Nat.mul_comm, Nat.mul_add_div hw, Nat.div_eq_of_lt hul]; omega
    rw [hm, hd]
    omega
  · rintro ⟨hx, hy⟩
    have hu' : u = j % widN c := by omega
    have hv' : v = j / widN c := by omega
    rw [hu', hv', Nat.mul_comm]
    exact Nat.div_add_mod j (widN c)
/-- The place of a pixel in its tile. -/
def inT (x y : Int) : Nat := (8 * (y % 8) + x % 8).toNat
theorem runT_img {c : Rc} (hf : Fits c) (e : TA) {s : List Px} (hs : s.length = areaN c) {j : Nat} (hj : j < areaN c) : ∀ m, m ≤ 64 → (runT (imgF c) e m s).1.length = areaN c ∧ (runT (imgF c) e m s).1[j]? = if eqB e.x e.y (pxX c j / 8) (pxY c j / 8) = true ∧ inT (pxX c j) (pxY c j) < m then some (e.t (inT (pxX c j) (pxY c j))) else s[j]?
  | 0, _ => ⟨hs, by rw [if_neg (fun h => absurd h.2 (Nat.not_lt_zero _))]; rfl⟩
  | m + 1, hm => by
    obtain ⟨hl, ih⟩ := runT_img hf e hs hj m (by omega)
    show (if hasR c (e.x * 8 + (m : Int) % 8) (e.y * 8 + (m : Int) / 8) = true then (runT (imgF c) e m s).1.set (idxI c (e.x * 8 + (m : Int) % 8) (e.y * 8 + (m : Int) / 8)).toNat (e.t m) else (runT (imgF c) e m s).1).length = _ ∧
      (if hasR c (e.x * 8 + (m : Int) % 8) (e.y * 8 + (m : Int) / 8) = true then (runT (imgF c) e m s).1.set (idxI c (e.x * 8 + (m : Int) % 8) (e.y * 8 + (m : Int) / 8)).toNat (e.t m) else (runT (imgF c) e m s).1)[j]? = _
    by_cases hh : hasR c (e.x * 8 + (m : Int) % 8) (e.y * 8 + (m : Int) / 8) = true
    · rw [if_pos hh]
      refine ⟨by rw [List.length_set]; exact hl, ?_⟩
      rw [List.getElem?_set]
      have hi := idx_px hf hj hh
      by_cases h1 : (idxI c (e.x * 8 + (m : Int) % 8) (e.y * 8 + (m : Int) / 8)).toNat = j
      · obtain ⟨ex, ey⟩ := hi.1 h1
        rw [if_pos h1, if_pos (by rw [h1, hl]; exact hj), ← ex, ← ey, if_pos ⟨decide_eq_true (by omega), by unfold inT; omega⟩]
        congr 2
        unfold inT
        omega
      · have hn := fun h => h1 (hi.2 h)
        rw [if_neg h1, ih]
        by_cases h2 : eqB e.x e.y (pxX c j / 8) (pxY c j / 8) = true ∧ inT (pxX c j) (pxY c j) < m
        · rw [if_pos h2, if_pos ⟨h2.1, by omega⟩]
        · rw [if_neg h2, if_neg (fun h3 => ?_)]
          have hq := of_decide_eq_true h3.1
          have h4 : inT (pxX c j) (pxY c j) = m := by
            rcases Nat.lt_or_ge (inT (pxX c j) (pxY c j)) m with h5 | h5
            · exact absurd ⟨h3.1, h5⟩ h2
            · omega
          unfold inT at h4
          exact hn ⟨by omega, by omega⟩
    · rw [if_neg hh]
      refine ⟨hl, ?_⟩
      rw [ih]
      by_cases h2 : eqB e.x e.y (pxX c j / 8) (pxY c j / 8) = true ∧ inT (pxX c j) (pxY c j) < m
      · rw [if_pos h2, if_pos ⟨h2.1, by omega⟩]
      · rw [if_neg h2, if_neg (fun h3 => ?_)]
        have hq := of_decide_eq_true h3.1
        have h4 : inT (pxX c j) (pxY c j) = m := by
          rcases Nat.lt_or_ge (inT (pxX c j) (pxY c j)) m with h5 | h5
          · exact absurd ⟨h3.1, h5⟩ h2
          · omega
        unfold inT at h4
        apply hh
        have := px_in hf hj
        rw [show e.x * 8 + (m : Int) % 8 = pxX c j by omega, show e.y * 8 + (m : Int) / 8 = pxY c j by omega]
        exact this
theorem tileL_snoc (a : List TA) (e : TA) (x y : Int) (h : eqB e.x e.y x y = false) : tileL (a ++ [e]) x y = tileL a x y := by
  induction a with
  | nil => show (if eqB e.x e.y x y = true then e.t else zT) = zT; rw [h]; rfl
  | cons b r ih =>
    show (if eqB b.x b.y x y = true then b.t else tileL (r ++ [e]) x y) = if eqB b.x b.y x y = true then b.t else tileL r x y
    rw [ih]
theorem mapK_img {c : Rc} (hf : Fits c) {ks : List TA} (hs : Srt ks) {j : Nat} (hj : j < areaN c) : ∀ k, k ≤ ks.length → (mapK (imgF c) ks (List.replicate (areaN c) Px.zero) k).1.length = areaN c ∧ (mapK (imgF c) ks (List.replicate (areaN c) Px.zero) k).1[j]? = some (getL (ks.take k) (pxX c j) (pxY c j))
  | 0, _ => by
    refine ⟨List.length_replicate .., ?_⟩
    show (List.replicate (areaN c) Px.zero)[j]? = some (tileL [] _ _ _)
    rw [List.getElem?_replicate, if_pos hj]
    rfl
  | k + 1, hk => by
    obtain ⟨hl, ih⟩ := mapK_img hf hs hj k (by omega)
    have hr := runT_img hf (aT ks k) hl hj 64 (Nat.le_refl _)
    refine ⟨hr.1, hr.2.trans ?_⟩
    have ht : ks.take (k + 1) = ks.take k ++ [aT ks k] := by
      rw [List.take_add_one, aT_at (show k < ks.length from hk)]
      rfl
    have h64 : inT (pxX c j) (pxY c j) < 64 := by unfold inT; omega
    rw [ht]
    unfold getL
    by_cases he : eqB (aT ks k).x (aT ks k).y (pxX c j / 8) (pxY c j / 8) = true
    · rw [if_pos ⟨he, h64⟩, tileL_append]
      · show _ = some ((if eqB (aT ks k).x (aT ks k).y (pxX c j / 8) (pxY c j / 8) = true then (aT ks k).t else zT) _)
        rw [if_pos he]
        rfl
      · intro b hb
        obtain ⟨i, hi⟩ := List.mem_iff_getElem?.1 hb
        have hik : i < k := by
          have := (List.getElem?_eq_some_iff.1 hi).1
          rw [List.length_take] at this
          omega
        rw [List.getElem?_take_of_lt hik, aT_at (by omega)] at hi
        obtain rfl := Option.some.inj hi
        have hlt := srt_at hs hik (show k < ks.length from hk)
        have hq := of_decide_eq_true he
        have hlt := of_decide_eq_true hlt
        exact decide_eq_false (by omega)
    · rw [if_neg (fun h => he h.1), ih, tileL_snoc _ _ _ _ (by simpa using he)]
      rfl
/-- What Image makes of a valid raster. -/
theorem imgPL_eq {c : Rc} (hf : Fits c) {ks : List TA} (hv : validL ks = true) : imgPL c ks = imgL c ks := by
  apply List.ext_getElem?
  intro j
  by_cases hj : j < areaN c
  · have := (mapK_img hf (validL_srt hv) hj ks.length (Nat.le_refl _)).2
    rw [List.take_length] at this
    rw [imgL_at c ks hj]
    exact this
  · have e2 : (imgL c ks)[j]? = none := List.getElem?_eq_none (by rw [imgL_len]; omega)
    rw [e2]
    apply List.getElem?_eq_none
    have hz : 0 < areaN c := by have := (area_bd hf).1; omega
    have := (mapK_img hf (validL_srt hv) hz ks.length (Nat.le_refl _)).1
    show (mapK (imgF c) ks (List.replicate (areaN c) Px.zero) ks.length).1.length ≤ j
    omega
end Go.Proofs.Ytppccnjckiedlaa
/- Contract of the reference's Same at equal images. -/
namespace Go.Proofs.Ytppccnjckiedlaa
open Go.RowKit Go.Shelf Pl
set_option linter.unusedVariables false
set_option linter.unusedSimpArgs false
set_option maxRecDepth 20000
theorem run_load_imr {w : World} {b : Nat} {c : Rc} {u : Value} (h : AtB 68 w b (imgC c u)) : (Instr.loadAt 64 (.pointer (some ⟨b, 0, none⟩))).run Try.prog w = .ok (.agg (rcA c)) w :=
  run_load_BP (cs' := rcA c) h 0 Try.isAgg64 (by kernel_rfl) (fun j hj => by
    have hj : j < 4 := hj
    have hc : j = 0 ∨ j = 1 ∨ j = 2 ∨ j = 3 := by omega
    rcases hc with rfl | rfl | rfl | rfl <;> rfl)
theorem neqs_rcA (r : Rc) (w : World) : (binOp .neq 64 (.agg (rcA r)) (.agg (rcA r))).run Try.prog w = .ok (.bool false) w := by
  have := neq_rc r r w
  rw [decide_eq_true rfl] at this
  exact this
theorem neqs_px2 (p : Px) (w : World) : (binOp .neq 37 (Px.v p) (Px.v p)).run Try.prog w = .ok (.bool false) w := by rw [neq_px, decide_eq_true rfl]; rfl
set_option maxHeartbeats 4000000 in
theorem R_SameS (c : Rc) (u u' : Value) (L : List Px) (w : World) (h : RSE pxE u L w) (h' : RSE pxE u' L w) (hn : L.length ≤ 100000) : Calls Try.prog 37 #[.agg (imgC c u), .agg (imgC c u')] w fun e w' => e = .returned (.bool true) ∧ Below w.heap.size w w' := by
  have B := Below.refl w.heap.size w
  obtain ⟨a, cp, rfl, _⟩ := h.len
  obtain ⟨a', cp', rfl, _⟩ := h'.len
  have HA := Lib.hid (fun k => h.at k)
  have HA' := Lib.hid (fun k => h'.at k)
  clear h h'
  have hq1 := neqs_rcA
  have hq2 := neqs_px2
  go_enter Try.func37, Try.ntmps37
  go_upto_region 0 with fail
  refine wp_region_lit ?_
  try simp only [List.getElem_toArray, List.getElem_cons_zero, List.getElem_cons_succ]
  (refine wpList_boxB (t := 68) rfl _ rfl _ rfl ?_; intro b_m2 wn hle hge ht hbn hzn; have hsz := B.size; replace B := B.trans (hbn.mono (by omega)); have hln := Nat.lt_of_lt_of_eq (Nat.lt_succ_self _) hzn.symm; clear hzn; (try first | (have hlt := m2.lt; replace m2 := m2.of_eq (hbn.block _ (by omega))) | replace m2 := m2.below (hbn.mono hle)); (try first | (have hlt := m3.lt; replace m3 := m3.of_eq (hbn.block _ (by omega))) | replace m3 := m3.below (hbn.mono hle)); (try first | (have hlt := rs1.lt; replace rs1 := rs1.of_eq (hbn.block _ (by omega))) | replace rs1 := rs1.below (hbn.mono hle)); (try first | (have hlt := rs2.lt; replace rs2 := rs2.of_eq (hbn.block _ (by omega))) | replace rs2 := rs2.below (hbn.mono hle)); (try first | (have hlt := rc1.lt; replace rc1 := rc1.of_eq (hbn.block _ (by omega))) | replace rc1 := rc1.below (hbn.mono hle)); (try first | (have hlt := rc2.lt; replace rc2 := rc2.of_eq (hbn.block _ (by omega))) | replace rc2 := rc2.below (hbn.mono hle)); have m2 := ht; clear ht; simp only [Act.put, List.setIfInBounds_toArray, List.set_cons_zero, List.set_cons_succ])
  (refine wpList_boxB (t := 68) rfl _ rfl _ rfl ?_; intro b_m3 wn hle hge ht hbn hzn; have hsz := B.size; replace B := B.trans (hbn.mono (by omega)); have hln := Nat.lt_of_lt_of_eq (Nat.lt_succ_self _) hzn.symm; clear hzn; (try first | (have hlt := m2.lt; replace m2 := m2.of_eq (hbn.block _ (by omega))) | replace m2 := m2.below (hbn.mono hle)); (try first | (have hlt := m3.lt; replace m3 := m3.of_eq (hbn.block _ (by omega))) | replace m3 := m3.below (hbn.mono hle)); (try first | (have hlt := rs1.lt; replace rs1 := rs1.of_eq (hbn.block _ (by omega))) | replace rs1 := rs1.below (hbn.mono hle)); (try first | (have hlt := rs2.lt; replace rs2 := rs2.of_eq (hbn.block _ (by omega))) | replace rs2 := rs2.below (hbn.mono hle)); (try first | (have hlt := rc1.lt; replace rc1 := rc1.of_eq (hbn.block _ (by omega))) | replace rc1 := rc1.below (hbn.mono hle)); (try first | (have hlt := rc2.lt; replace rc2 := rc2.of_eq (hbn.block _ (by omega))) | replace rc2 := rc2.below (hbn.mono hle)); have m3 := ht; clear ht; simp only [Act.put, List.setIfInBounds_toArray, List.set_cons_zero, List.set_cons_succ])
  refine wpList_chunk 1 (by kernel_rfl) ?_
  simp only [List.take_succ_cons, List.take_zero, List.drop_succ_cons, List.drop_zero, Nat.reduceAdd]
  repeat (first | go_big_quiet_skip | (go_big_quiet_want; first | (refine quiet_loadAny (t := 64) rfl _ _ _ rfl (fun w hw => run_load_imr (ov_B m2 w hw)) (by first | rfl | omega) ?_; simp only [Act.put, List.setIfInBounds_toArray, List.set_cons_zero, List.set_cons_succ]; go_big_quiet_on) | (refine quiet_loadAny (t := 64) rfl _ _ _ rfl (fun w hw => run_load_imr (ov_B m3 w hw)) (by first | rfl | omega) ?_; simp only [Act.put, List.setIfInBounds_toArray, List.set_cons_zero, List.set_cons_succ]; go_big_quiet_on) | (refine quiet_loadAny (t := 66) rfl _ _ _ rfl (fun w hw => run_load_slp (imgC_u (ov_B m2 w hw))) (by first | rfl | omega) ?_; simp only [Act.put, List.setIfInBounds_toArray, List.set_cons_zero, List.set_cons_succ]; go_big_quiet_on) | (refine quiet_loadAny (t := 66) rfl _ _ _ rfl (fun w hw => run_load_slp (imgC_u (ov_B m3 w hw))) (by first | rfl | omega) ?_; simp only [Act.put, List.setIfInBounds_toArray, List.set_cons_zero, List.set_cons_succ]; go_big_quiet_on) | (go_big_quiet_op; go_big_quiet_on)))
  refine wpQuiet_nil ?_
  refine wpList_nil ?_
  go_upto_region 1 with fail
  refine wp_region_lit ?_
  try simp only [List.getElem_toArray, List.getElem_cons_zero, List.getElem_cons_succ]
  refine wpList_chunk 8 (by kernel_rfl) ?_
  simp only [List.take_succ_cons, List.take_zero, List.drop_succ_cons, List.drop_zero, Nat.reduceAdd]
  repeat (first | go_big_quiet_skip | (go_big_quiet_want; first | (refine quiet_loadAny (t := 64) rfl _ _ _ rfl (fun w hw => run_load_imr (ov_B m2 w hw)) (by first | rfl | omega) ?_; simp only [Act.put, List.setIfInBounds_toArray, List.set_cons_zero, List.set_cons_succ]; go_big_quiet_on) | (refine quiet_loadAny (t := 64) rfl _ _ _ rfl (fun w hw => run_load_imr (ov_B m3 w hw)) (by first | rfl | omega) ?_; simp only [Act.put, List.setIfInBounds_toArray, List.set_cons_zero, List.set_cons_succ]; go_big_quiet_on) | (refine quiet_loadAny (t := 66) rfl _ _ _ rfl (fun w hw => run_load_slp (imgC_u (ov_B m2 w hw))) (by first | rfl | omega) ?_; simp only [Act.put, List.setIfInBounds_toArray, List.set_cons_zero, List.set_cons_succ]; go_big_quiet_on) | (refine quiet_loadAny (t := 66) rfl _ _ _ rfl (fun w hw => run_load_slp (imgC_u (ov_B m3 w hw))) (by first | rfl | omega) ?_; simp only [Act.put, List.setIfInBounds_toArray, List.set_cons_zero, List.set_cons_succ]; go_big_quiet_on) | (go_big_quiet_op; go_big_quiet_on)))
  refine wpQuiet_nil ?_
  refine wpList_lenS (by first | rfl | simp [Region.wanted, yielded]) rfl Try.underlying66 rfl ?_
  simp only [Act.put, List.setIfInBounds_toArray, List.set_cons_zero, List.set_cons_succ]
  refine wpList_chunk 2 (by kernel_rfl) ?_
  simp only [List.take_succ_cons, List.take_zero, List.drop_succ_cons, List.drop_zero, Nat.reduceAdd]
  repeat (first | go_big_quiet_skip | (go_big_quiet_want; first | (refine quiet_loadAny (t := 64) rfl _ _ _ rfl (fun w hw => run_load_imr (ov_B m2 w hw)) (by first | rfl | omega) ?_; simp only [Act.put, List.setIfInBounds_toArray, List.set_cons_zero, List.set_cons_succ]; go_big_quiet_on) | (refine quiet_loadAny (t := 64) rfl _ _ _ rfl (fun w hw => run_load_imr (ov_B m3 w hw)) (by first | rfl | omega) ?_; simp only [Act.put, List.setIfInBounds_toArray, List.set_cons_zero, List.set_cons_succ]; go_big_quiet_on) | (refine quiet_loadAny (t := 66) rfl _ _ _ rfl (fun w hw => run_load_slp (imgC_u (ov_B m2 w hw))) (by first | rfl | omega) ?_; simp only [Act.put, List.setIfInBounds_toArray, List.set_cons_zero, List.set_cons_succ]; go_big_quiet_on) | (refine quiet_loadAny (t := 66) rfl _ _ _ rfl (fun w hw => run_load_slp (imgC_u (ov_B m3 w hw))) (by first | rfl | omega) ?_; simp only [Act.put, List.setIfInBounds_toArray, List.set_cons_zero, List.set_cons_succ]; go_big_quiet_on) | (go_big_quiet_op; go_big_quiet_on)))
  refine wpQuiet_nil ?_
  refine wpList_lenS (by first | rfl | simp [Region.wanted, yielded]) rfl Try.underlying66 rfl ?_
  simp only [Act.put, List.setIfInBounds_toArray, List.set_cons_zero, List.set_cons_succ]
  refine wpList_chunk 2 (by kernel_rfl) ?_
  simp only [List.take_succ_cons, List.take_zero, List.drop_succ_cons, List.drop_zero, Nat.reduceAdd]
  repeat (first | go_big_quiet_skip | (go_big_quiet_want; first | (refine quiet_loadAny (t := 64) rfl _ _ _ rfl (fun w hw => run_load_imr (ov_B m2 w hw)) (by first | rfl | omega) ?_; simp only [Act.put, List.setIfInBounds_toArray, List.set_cons_zero, List.set_cons_succ]; go_big_quiet_on) | (refine quiet_loadAny (t := 64) rfl _ _ _ rfl (fun w hw => run_load_imr (ov_B m3 w hw)) (by first | rfl | omega) ?_; simp only [Act.put, List.setIfInBounds_toArray, List.set_cons_zero, List.set_cons_succ]; go_big_quiet_on) | (refine quiet_loadAny (t := 66) rfl _ _ _ rfl (fun w hw => run_load_slp (imgC_u (ov_B m2 w hw))) (by first | rfl | omega) ?_; simp only [Act.put, List.setIfInBounds_toArray, List.set_cons_zero, List.set_cons_succ]; go_big_quiet_on) | (refine quiet_loadAny (t := 66) rfl _ _ _ rfl (fun w hw => run_load_slp (imgC_u (ov_B m3 w hw))) (by first | rfl | omega) ?_; simp only [Act.put, List.setIfInBounds_toArray, List.set_cons_zero, List.set_cons_succ]; go_big_quiet_on) | (go_big_quiet_op; go_big_quiet_on)))
  refine wpQuiet_nil ?_
  refine wpList_nil ?_
  have k2 : w.heap.size ≤ b_m2 := by omega
  have k3 : b_m2 < b_m3 := by have := m2.lt; omega
  go_upto_region 3 with fail
  go_wp2
  go_loopw [5] (fun i wr => ∃ k : Nat, k ≤ L.length ∧ i = .int .i64 k ∧ Below w.heap.size w wr ∧ AtB 68 wr b_m2 (imgC c (.slice a L.length cp)) ∧ AtB 68 wr b_m3 (imgC c (.slice a' L.length cp'))) (fun i _ => (L.length - intOf i).toNat)
  case atStart => exact ⟨0, by omega, rfl, B, m2, m3⟩
  case round =>
    clear B m2 m3
    obtain ⟨k, hkl, rfl, B, m2, m3⟩ := hrel
    by_cases hk : k < L.length
    · have q1 : decide ((k : Int) < (L.length : Int)) = true := decide_eq_true (by omega)
      have q2 : decide (k < L.length) = true := decide_eq_true hk
      obtain ⟨g, o, rfl, rc1⟩ := HA.out (by omega)
      obtain ⟨g', o', rfl, rc2⟩ := HA'.out (by omega)
      replace rc1 := rc1.of_eq (B.block _ rc1.lt)
      replace rc2 := rc2.of_eq (B.block _ rc2.lt)
      obtain ⟨p, hp⟩ : ∃ p, L[k]? = some p := ⟨_, List.getElem?_eq_getElem hk⟩
      go_upto_region 4 with fail
      refine wp_region_lit ?_
      try simp only [List.getElem_toArray, List.getElem_cons_zero, List.getElem_cons_succ]
      refine wpList_chunk 3 (by kernel_rfl) ?_
      simp only [List.take_succ_cons, List.take_zero, List.drop_succ_cons, List.drop_zero, Nat.reduceAdd]
      repeat (first | go_big_quiet_skip | (go_big_quiet_want; first | (refine quiet_loadAny (t := 64) rfl _ _ _ rfl (fun w hw => run_load_imr (ov_B m2 w hw)) (by first | rfl | omega) ?_; simp only [Act.put, List.setIfInBounds_toArray, List.set_cons_zero, List.set_cons_succ]; go_big_quiet_on) | (refine quiet_loadAny (t := 64) rfl _ _ _ rfl (fun w hw => run_load_imr (ov_B m3 w hw)) (by first | rfl | omega) ?_; simp only [Act.put, List.setIfInBounds_toArray, List.set_cons_zero, List.set_cons_succ]; go_big_quiet_on) | (refine quiet_loadAny (t := 66) rfl _ _ _ rfl (fun w hw => run_load_slp (imgC_u (ov_B m2 w hw))) (by first | rfl | omega) ?_; simp only [Act.put, List.setIfInBounds_toArray, List.set_cons_zero, List.set_cons_succ]; go_big_quiet_on) | (refine quiet_loadAny (t := 66) rfl _ _ _ rfl (fun w hw => run_load_slp (imgC_u (ov_B m3 w hw))) (by first | rfl | omega) ?_; simp only [Act.put, List.setIfInBounds_toArray, List.set_cons_zero, List.set_cons_succ]; go_big_quiet_on) | (go_big_quiet_op; go_big_quiet_on)))
      refine wpQuiet_nil ?_
      refine wpList_lenS (by first | rfl | simp [Region.wanted, yielded]) rfl Try.underlying66 rfl ?_
      simp only [Act.put, List.setIfInBounds_toArray, List.set_cons_zero, List.set_cons_succ]
      refine wpList_chunk 1 (by kernel_rfl) ?_
      simp only [List.take_succ_cons, List.take_zero, List.drop_succ_cons, List.drop_zero, Nat.reduceAdd]
      repeat (first | go_big_quiet_skip | (go_big_quiet_want; first | (refine quiet_loadAny (t := 64) rfl _ _ _ rfl (fun w hw => run_load_imr (ov_B m2 w hw)) (by first | rfl | omega) ?_; simp only [Act.put, List.setIfInBounds_toArray, List.set_cons_zero, List.set_cons_succ]; go_big_quiet_on) | (refine quiet_loadAny (t := 64) rfl _ _ _ rfl (fun w hw => run_load_imr (ov_B m3 w hw)) (by first | rfl | omega) ?_; simp only [Act.put, List.setIfInBounds_toArray, List.set_cons_zero, List.set_cons_succ]; go_big_quiet_on) | (refine quiet_loadAny (t := 66) rfl _ _ _ rfl (fun w hw => run_load_slp (imgC_u (ov_B m2 w hw))) (by first | rfl | omega) ?_; simp only [Act.put, List.setIfInBounds_toArray, List.set_cons_zero, List.set_cons_succ]; go_big_quiet_on) | (refine quiet_loadAny (t := 66) rfl _ _ _ rfl (fun w hw => run_load_slp (imgC_u (ov_B m3 w hw))) (by first | rfl | omega) ?_; simp only [Act.put, List.setIfInBounds_toArray, List.set_cons_zero, List.set_cons_succ]; go_big_quiet_on) | (go_big_quiet_op; go_big_quiet_on)))
      refine wpQuiet_nil ?_
      refine wpList_nil ?_
      go_upto_region 6 with fail
      try simp only [List.getElem_toArray, List.getElem_cons_zero, List.getElem_cons_succ]
      try have lx_m2 := m2.lt
      try have lx_m3 := m3.lt
      try have lx_rs1 := rs1.lt
      try have lx_rs2 := rs2.lt
      try have lx_rc1 := rc1.lt
      try have lx_rc2 := rc2.lt
      refine wp_region_RL 11 [] (by kernel_rfl) (by kernel_rfl) (by kernel_rfl) ?_
      rotate_left 0
      simp only [List.take_succ_cons, List.take_zero, List.drop_succ_cons, List.drop_zero, Nat.reduceAdd]
      refine wpRL_chunk 11 (by kernel_rfl) ?_
      simp only [List.take_succ_cons, List.take_zero, List.drop_succ_cons, List.drop_zero, Nat.reduceAdd]
      repeat (first | go_big_quiet_skip | (go_big_quiet_want; first | (refine quiet_loadAny (t := 64) rfl _ _ _ rfl (fun w hw => run_load_imr (ov_B m2 w hw)) (by first | rfl | omega) ?_; simp only [Act.put, List.setIfInBounds_toArray, List.set_cons_zero, List.set_cons_succ]; go_big_quiet_on) | (refine quiet_loadAny (t := 64) rfl _ _ _ rfl (fun w hw => run_load_imr (ov_B m3 w hw)) (by first | rfl | omega) ?_; simp only [Act.put, List.setIfInBounds_toArray, List.set_cons_zero, List.set_cons_succ]; go_big_quiet_on) | (refine quiet_loadAny (t := 66) rfl _ _ _ rfl (fun w hw => run_load_slp (imgC_u (ov_B m2 w hw))) (by first | rfl | omega) ?_; simp only [Act.put, List.setIfInBounds_toArray, List.set_cons_zero, List.set_cons_succ]; go_big_quiet_on) | (refine quiet_loadAny (t := 66) rfl _ _ _ rfl (fun w hw => run_load_slp (imgC_u (ov_B m3 w hw))) (by first | rfl | omega) ?_; simp only [Act.put, List.setIfInBounds_toArray, List.set_cons_zero, List.set_cons_succ]; go_big_quiet_on) | (refine quiet_loadAny (t := 37) rfl _ _ _ rfl (fun w hw => rce_px (ov_rce rc1 w hw) hp) (by first | rfl | omega) ?_; simp only [Act.put, List.setIfInBounds_toArray, List.set_cons_zero, List.set_cons_succ]; go_big_quiet_on) | (refine quiet_loadAny (t := 37) rfl _ _ _ rfl (fun w hw => rce_px (ov_rce rc2 w hw) hp) (by first | rfl | omega) ?_; simp only [Act.put, List.setIfInBounds_toArray, List.set_cons_zero, List.set_cons_succ]; go_big_quiet_on) | (go_big_quiet_op; go_big_quiet_on)))
      refine wpQuiet_nil ?_
      refine wpRL_nil ?_
      intro wn hbn hE
      have hsz := B.size
      have hzn := hbn.size
      replace B := B.trans (hbn.mono B.size)
      (try first | replace m2 := m2.of_eq (hbn.block _ m2.lt) | replace m2 := m2.below hbn)
      (try first | replace m3 := m3.of_eq (hbn.block _ m3.lt) | replace m3 := m3.below hbn)
      (try first | replace rs1 := rs1.of_eq (hbn.block _ rs1.lt) | replace rs1 := rs1.below hbn)
      (try first | replace rs2 := rs2.of_eq (hbn.block _ rs2.lt) | replace rs2 := rs2.below hbn)
      (try first | replace rc1 := rc1.of_eq (hbn.block _ rc1.lt) | replace rc1 := rc1.below hbn)
      (try first | replace rc2 := rc2.of_eq (hbn.block _ rc2.lt) | replace rc2 := rc2.below hbn)
      clear hE
      try simp only [List.drop_succ_cons, List.drop_zero]
      refine NoPan.normal ?_
      go_wp2
      go_roundw
      case rel => exact ⟨k + 1, by omega, by go_num, B, m2, m3⟩
      case measure => simp [intOf]; omega
    · obtain rfl : k = L.length := by omega
      have q1 : decide (((L.length : Nat) : Int) < (L.length : Int)) = false := decide_eq_false (by omega)
      have q2 : decide (L.length < L.length) = false := decide_eq_false (by omega)
      go_upto_region 4 with fail
      refine wp_region_lit ?_
      try simp only [List.getElem_toArray, List.getElem_cons_zero, List.getElem_cons_succ]
      refine wpList_chunk 3 (by kernel_rfl) ?_
      simp only [List.take_succ_cons, List.take_zero, List.drop_succ_cons, List.drop_zero, Nat.reduceAdd]
      repeat (first | go_big_quiet_skip | (go_big_quiet_want; first | (refine quiet_loadAny (t := 64) rfl _ _ _ rfl (fun w hw => run_load_imr (ov_B m2 w hw)) (by first | rfl | omega) ?_; simp only [Act.put, List.setIfInBounds_toArray, List.set_cons_zero, List.set_cons_succ]; go_big_quiet_on) | (refine quiet_loadAny (t := 64) rfl _ _ _ rfl (fun w hw => run_load_imr (ov_B m3 w hw)) (by first | rfl | omega) ?_; simp only [Act.put, List.setIfInBounds_toArray, List.set_cons_zero, List.set_cons_succ]; go_big_quiet_on) | (refine quiet_loadAny (t := 66) rfl _ _ _ rfl (fun w hw => run_load_slp (imgC_u (ov_B m2 w hw))) (by first | rfl | omega) ?_; simp only [Act.put, List.setIfInBounds_toArray, List.set_cons_zero, List.set_cons_succ]; go_big_quiet_on) | (refine quiet_loadAny (t := 66) rfl _ _ _ rfl (fun w hw => run_load_slp (imgC_u (ov_B m3 w hw))) (by first | rfl | omega) ?_; simp only [Act.put, List.setIfInBounds_toArray, List.set_cons_zero, List.set_cons_succ]; go_big_quiet_on) | (go_big_quiet_op; go_big_quiet_on)))
      refine wpQuiet_nil ?_
      refine wpList_lenS (by first | rfl | simp [Region.wanted, yielded]) rfl Try.underlying66 rfl ?_
      simp only [Act.put, List.setIfInBounds_toArray, List.set_cons_zero, List.set_cons_succ]
      refine wpList_chunk 1 (by kernel_rfl) ?_
      simp only [List.take_succ_cons, List.take_zero, List.drop_succ_cons, List.drop_zero, Nat.reduceAdd]
      repeat (first | go_big_quiet_skip | (go_big_quiet_want; first | (refine quiet_loadAny (t := 64) rfl _ _ _ rfl (fun w hw => run_load_imr (ov_B m2 w hw)) (by first | rfl | omega) ?_; simp only [Act.put, List.setIfInBounds_toArray, List.set_cons_zero, List.set_cons_succ]; go_big_quiet_on) | (refine quiet_loadAny (t := 64) rfl _ _ _ rfl (fun w hw => run_load_imr (ov_B m3 w hw)) (by first | rfl | omega) ?_; simp only [Act.put, List.setIfInBounds_toArray, List.set_cons_zero, List.set_cons_succ]; go_big_quiet_on) | (refine quiet_loadAny (t := 66) rfl _ _ _ rfl (fun w hw => run_load_slp (imgC_u (ov_B m2 w hw))) (by first | rfl | omega) ?_; simp only [Act.put, List.setIfInBounds_toArray, List.set_cons_zero, List.set_cons_succ]; go_big_quiet_on) | (refine quiet_loadAny (t := 66) rfl _ _ _ rfl (fun w hw => run_load_slp (imgC_u (ov_B m3 w hw))) (by first | rfl | omega) ?_; simp only [Act.put, List.setIfInBounds_toArray, List.set_cons_zero, List.set_cons_succ]; go_big_quiet_on) | (go_big_quiet_op; go_big_quiet_on)))
      refine wpQuiet_nil ?_
      refine wpList_nil ?_
      go_wp2
      go_ret
      exact ⟨rfl, B⟩
end Go.Proofs.Ytppccnjckiedlaa
/- Contract of the reference's Image. -/
namespace Go.Proofs.Ytppccnjckiedlaa
open Go.RowKit Go.Shelf Pl
set_option linter.unusedVariables false
set_option linter.unusedSimpArgs false
set_option maxRecDepth 20000
def shC (c : Rc) (u : Value) (n : Int) : Array Value := #[.int .i64 c.x0, .int .i64 c.y0, .int .i64 c.x1, .int .i64 c.y1, u, .int .i64 n]
theorem run_alloc_Sh (w : World) (o : Oper) (ho : o.op = .alloc 72) (ev : Operand → Value) : (execOp ev o).run Try.prog w = .ok (.value (.pointer (some ⟨w.heap.size, 0, none⟩))) (w.alloc (.cells (shC Rc.zero (.slice none 0 0) 0) 72)) := by
  obtain ⟨d, p, t, ps, af, gd⟩ := o
  simp only at ho
  subst ho
  kernel_rfl
theorem R_fitsB (c : Rc) (n : Int) (w : World) (e : fitsE c = n) : Calls Try.prog 81 #[.agg (rcA c)] w fun e w' => e = .returned (.int .i64 n) ∧ Below w.heap.size w w' := e ▸ R_fits c w
/-- The slice of an image stored. -/
theorem wpList_storeU {ops : Array Oper} {rest : List Oper} {o : Oper} {a : Act} {w : World} {Q : Exit → Act → World → Prop} (hg : o.guard = none) (x y : Operand) (ho : o.op = .store 66 x y) (b : Nat) (hx : a.eval x = .pointer (some ⟨b, 4, none⟩)) (ad : Option Addr) (n cp : Nat) (hy : a.eval y = .slice ad n cp) {c : Rc} {u : Value} (ht : AtB 68 w b (imgC c u))
    (h : ∀ w', AtB 68 w' b (imgC c (.slice ad n cp)) → Chg b w w' → w'.heap.size = w.heap.size → wpList Try.prog ops Q rest (a.put o.dst undef) w') : wpList Try.prog ops Q (o :: rest) a w := by
  have e : AtB 68 (w.setCell ⟨b, 4, none⟩ (.slice ad n cp)) b (imgC c (.slice ad n cp)) := by
    have e1 : (imgC c u).setIfInBounds 4 (.slice ad n cp) = imgC c (.slice ad n cp) := rfl
    unfold AtB
    rw [← e1]
    exact heap_setCell_same _ _ _ _ _ _ ht
  refine wpList_storeAny hg x y ho _ ?_ (h _ e ((Chg.refl b w).setCell _) (by simp only [World.size_setCell]))
  rw [hx, hy]
  have c0 := imgC_u ht
  have f0 := ht.frozen 4
  simp [go_sem, c0, f0]
section
variable {o : Oper} {a : Act} {C : World → Prop} {K : Act → Prop}
theorem run_build_Im (w : World) (c : Rc) : (Instr.build 68 #[(0, .agg (rcA c))]).run Try.prog w = .ok (.agg (imgC c (.slice none 0 0))) w := by kernel_rfl
theorem run_build_Sh (w : World) (c : Rc) (ad : Option Addr) (n cp : Nat) : (Instr.build 72 #[(0, .agg (imgC c (.slice ad n cp)))]).run Try.prog w = .ok (.agg (shC c (.slice ad n cp) 0)) w := by kernel_rfl
theorem quiet_buildIm {x : Operand} (h : o.op = .build 68 #[(0, x)]) (c : Rc) (hx : a.eval x = .agg (rcA c)) (hk : K (a.put o.dst (.agg (imgC c (.slice none 0 0))))) : o.quiet Try.prog a C K :=
  ⟨_, fun w hw => by
    unfold Oper.quietAt execOp
    simp only [h, List.map_toArray, List.map_cons, List.map_nil, hx, Sem.run_bind, run_build_Im, Result.andThen_ok, Sem.run_pure]
    exact ⟨rfl, rfl⟩, hk⟩
theorem quiet_buildSh {x : Operand} (h : o.op = .build 72 #[(0, x)]) (c : Rc) (ad : Option Addr) (n cp : Nat) (hx : a.eval x = .agg (imgC c (.slice ad n cp))) (hk : K (a.put o.dst (.agg (shC c (.slice ad n cp) 0)))) : o.quiet Try.prog a C K :=
  ⟨_, fun w hw => by
    unfold Oper.quietAt execOp
    simp only [h, List.map_toArray, List.map_cons, List.map_nil, hx, Sem.run_bind, run_build_Sh, Result.andThen_ok, Sem.run_pure]
    exact ⟨rfl, rfl⟩, hk⟩
end
theorem px_row {c : Rc} (hf : Fits c) {k j : Nat} (hj : j < widN c) : pxX c (widN c * k + j) = c.x0 + (j : Int) ∧ pxY c (widN c * k + j) = c.y0 + (k : Int) := by
  have hw := (area_wid hf).2
  unfold pxX pxY
  rw [Nat.mul_add_mod, Nat.mod_eq_of_lt hj, Nat.mul_add_div hw, Nat.div_eq_of_lt hj, Nat.add_zero]
  exact ⟨rfl, rfl⟩
theorem imgL_next {c : Rc} (ks : List TA) {n : Nat} (hn : n < areaN c) : (imgL c ks).take (n + 1) = (imgL c ks).take n ++ [getL ks (pxX c n) (pxY c n)] := by
  rw [List.take_add_one, imgL_at c ks hn]
  rfl
set_option maxHeartbeats 4000000 in
theorem R_Image_no (v : Value) (ls : List TA) (c : Rc) (w : World) (h : RS v ls w) (hE : ¬ fitsE c = 0) : Calls Try.prog 34 #[.agg #[v], Rc.v c] w fun e w' => e = .returned (.agg (shC Rc.zero (.slice none 0 0) (fitsE c))) ∧ Below w.heap.size w w' := by
  have B := Below.refl w.heap.size w
  obtain ⟨a, cv, rfl, _⟩ := h.len
  obtain ⟨n, hn⟩ : ∃ n, fitsE c = n := ⟨_, rfl⟩
  rw [hn] at hE ⊢
  have q1 : (n != 0) = true := by simpa using hE
  simp only [Rc.v_A]
  go_enter Try.func34, Try.ntmps34
  go_upto_region 0 with fail
  refine wp_region_lit ?_
  try simp only [List.getElem_toArray, List.getElem_cons_zero, List.getElem_cons_succ]
  (refine wpList_boxB (t := 30) rfl _ rfl _ rfl ?_; intro b_r2 wn hle hge ht hbn hzn; have hsz := B.size; replace B := B.trans (hbn.mono (by omega)); have hln := Nat.lt_of_lt_of_eq (Nat.lt_succ_self _) hzn.symm; clear hzn; (try first | (have hlt := r2.lt; replace r2 := r2.of_eq (hbn.block _ (by omega))) | replace r2 := r2.below (hbn.mono hle)); (try first | (have hlt := c3.lt; replace c3 := c3.of_eq (hbn.block _ (by omega))) | replace c3 := c3.below (hbn.mono hle)); (try first | (have hlt := r4.lt; replace r4 := r4.of_eq (hbn.block _ (by omega))) | replace r4 := r4.below (hbn.mono hle)); (try first | (have hlt := m6.lt; replace m6 := m6.of_eq (hbn.block _ (by omega))) | replace m6 := m6.below (hbn.mono hle)); (try first | (have hlt := p9.lt; replace p9 := p9.of_eq (hbn.block _ (by omega))) | replace p9 := p9.below (hbn.mono hle)); (try first | (have hlt := s1.lt; replace s1 := s1.of_eq (hbn.block _ (by omega))) | replace s1 := s1.below (hbn.mono hle)); (try first | (have hlt := rs1.lt; replace rs1 := rs1.of_eq (hbn.block _ (by omega))) | replace rs1 := rs1.below (hbn.mono hle)); have r2 := ht; clear ht; simp only [Act.put, List.setIfInBounds_toArray, List.set_cons_zero, List.set_cons_succ])
  (refine wpList_boxB (t := 64) rfl _ rfl _ rfl ?_; intro b_c3 wn hle hge ht hbn hzn; have hsz := B.size; replace B := B.trans (hbn.mono (by omega)); have hln := Nat.lt_of_lt_of_eq (Nat.lt_succ_self _) hzn.symm; clear hzn; (try first | (have hlt := r2.lt; replace r2 := r2.of_eq (hbn.block _ (by omega))) | replace r2 := r2.below (hbn.mono hle)); (try first | (have hlt := c3.lt; replace c3 := c3.of_eq (hbn.block _ (by omega))) | replace c3 := c3.below (hbn.mono hle)); (try first | (have hlt := r4.lt; replace r4 := r4.of_eq (hbn.block _ (by omega))) | replace r4 := r4.below (hbn.mono hle)); (try first | (have hlt := m6.lt; replace m6 := m6.of_eq (hbn.block _ (by omega))) | replace m6 := m6.below (hbn.mono hle)); (try first | (have hlt := p9.lt; replace p9 := p9.of_eq (hbn.block _ (by omega))) | replace p9 := p9.below (hbn.mono hle)); (try first | (have hlt := s1.lt; replace s1 := s1.of_eq (hbn.block _ (by omega))) | replace s1 := s1.below (hbn.mono hle)); (try first | (have hlt := rs1.lt; replace rs1 := rs1.of_eq (hbn.block _ (by omega))) | replace rs1 := rs1.below (hbn.mono hle)); have c3 := ht; clear ht; simp only [Act.put, List.setIfInBounds_toArray, List.set_cons_zero, List.set_cons_succ])
  (refine wpList_allocBk (t := 72) rfl _ (run_alloc_Sh _ _ rfl) ?_; intro b_r4 wn hle hge ht hbn hzn; have hsz := B.size; replace B := B.trans (hbn.mono (by omega)); have hln := Nat.lt_of_lt_of_eq (Nat.lt_succ_self _) hzn.symm; clear hzn; (try first | (have hlt := r2.lt; replace r2 := r2.of_eq (hbn.block _ (by omega))) | replace r2 := r2.below (hbn.mono hle)); (try first | (have hlt := c3.lt; replace c3 := c3.of_eq (hbn.block _ (by omega))) | replace c3 := c3.below (hbn.mono hle)); (try first | (have hlt := r4.lt; replace r4 := r4.of_eq (hbn.block _ (by omega))) | replace r4 := r4.below (hbn.mono hle)); (try first | (have hlt := m6.lt; replace m6 := m6.of_eq (hbn.block _ (by omega))) | replace m6 := m6.below (hbn.mono hle)); (try first | (have hlt := p9.lt; replace p9 := p9.of_eq (hbn.block _ (by omega))) | replace p9 := p9.below (hbn.mono hle)); (try first | (have hlt := s1.lt; replace s1 := s1.of_eq (hbn.block _ (by omega))) | replace s1 := s1.below (hbn.mono hle)); (try first | (have hlt := rs1.lt; replace rs1 := rs1.of_eq (hbn.block _ (by omega))) | replace rs1 := rs1.below (hbn.mono hle)); have r4 := ht; clear ht; simp only [Act.put, List.setIfInBounds_toArray, List.set_cons_zero, List.set_cons_succ])
  refine wpList_nil ?_
  go_upto_region 1 with fail
  refine wp_region_lit ?_
  try simp only [List.getElem_toArray, List.getElem_cons_zero, List.getElem_cons_succ]
  refine wpList_chunk 1 (by kernel_rfl) ?_
  simp only [List.take_succ_cons, List.take_zero, List.drop_succ_cons, List.drop_zero, Nat.reduceAdd]
  repeat (first | go_big_quiet_skip | (go_big_quiet_want; first | (refine quiet_buildIm rfl c rfl ?_; simp only [Act.put, List.setIfInBounds_toArray, List.set_cons_zero, List.set_cons_succ]; go_big_quiet_on) | (refine quiet_buildSh rfl c _ _ _ rfl ?_; simp only [Act.put, List.setIfInBounds_toArray, List.set_cons_zero, List.set_cons_succ]; go_big_quiet_on) | (refine quiet_loadAny (t := 30) rfl _ _ _ rfl (fun w hw => run_load_B (ov_B r2 w hw) Try.isAgg30 (by kernel_rfl)) (by rfl) ?_; simp only [Act.put, List.setIfInBounds_toArray, List.set_cons_zero, List.set_cons_succ]; go_big_quiet_on) | (refine quiet_loadAny (t := 64) rfl _ _ _ rfl (fun w hw => run_load_B (ov_B c3 w hw) Try.isAgg64 (by kernel_rfl)) (by rfl) ?_; simp only [Act.put, List.setIfInBounds_toArray, List.set_cons_zero, List.set_cons_succ]; go_big_quiet_on) | (refine quiet_loadPx rfl _ rfl (ov_px p9) ?_; simp only [Act.put, List.setIfInBounds_toArray, List.set_cons_zero, List.set_cons_succ]; go_big_quiet_on) | (refine quiet_loadAny (t := 66) rfl _ _ _ rfl (fun w hw => run_load_slp (imgC_u (ov_B m6 w hw))) (by first | rfl | omega) ?_; simp only [Act.put, List.setIfInBounds_toArray, List.set_cons_zero, List.set_cons_succ]; go_big_quiet_on) | (refine quiet_loadAny (t := 68) rfl _ _ _ rfl (fun w hw => run_load_img (ov_B m6 w hw)) (by first | rfl | omega) ?_; simp only [Act.put, List.setIfInBounds_toArray, List.set_cons_zero, List.set_cons_succ]; go_big_quiet_on) | (refine quiet_loadAny (t := 3) rfl _ _ _ rfl (fun w hw => run_load_int ((ov_B c3 w hw).cellL 0 rfl)) (by rfl) ?_; simp only [Act.put, List.setIfInBounds_toArray, List.set_cons_zero, List.set_cons_succ]; go_big_quiet_on) | (refine quiet_loadAny (t := 3) rfl _ _ _ rfl (fun w hw => run_load_int ((ov_B c3 w hw).cellL 1 rfl)) (by rfl) ?_; simp only [Act.put, List.setIfInBounds_toArray, List.set_cons_zero, List.set_cons_succ]; go_big_quiet_on) | (refine quiet_loadAny (t := 3) rfl _ _ _ rfl (fun w hw => run_load_int ((ov_B c3 w hw).cellL 2 rfl)) (by rfl) ?_; simp only [Act.put, List.setIfInBounds_toArray, List.set_cons_zero, List.set_cons_succ]; go_big_quiet_on) | (refine quiet_loadAny (t := 3) rfl _ _ _ rfl (fun w hw => run_load_int ((ov_B c3 w hw).cellL 3 rfl)) (by rfl) ?_; simp only [Act.put, List.setIfInBounds_toArray, List.set_cons_zero, List.set_cons_succ]; go_big_quiet_on) | (go_big_quiet_op; go_big_quiet_on)))
  refine wpQuiet_nil ?_
  refine wpList_callF (by first | rfl | simp [Region.wanted, yielded]) rfl (enters_of Try.func81 (by kernel_rfl) rfl) (by simp only [List.map_toArray, List.map_cons, List.map_nil, Act.eval, Array.getD_eq_getD_getElem?, List.getElem?_toArray, List.getElem?_cons_succ, List.getElem?_cons_zero, Option.getD_some]; rfl) ?_
  refine (R_fitsB c n _ hn).mono ?_
  rintro e wn ⟨rfl, hbn⟩
  have hsz := B.size
  have hzn := hbn.size
  replace B := B.trans (hbn.mono B.size)
  (try first | replace r2 := r2.of_eq (hbn.block _ r2.lt) | replace r2 := r2.below hbn)
  (try first | replace c3 := c3.of_eq (hbn.block _ c3.lt) | replace c3 := c3.below hbn)
  (try first | replace r4 := r4.of_eq (hbn.block _ r4.lt) | replace r4 := r4.below hbn)
  (try first | replace m6 := m6.of_eq (hbn.block _ m6.lt) | replace m6 := m6.below hbn)
  (try first | replace p9 := p9.of_eq (hbn.block _ p9.lt) | replace p9 := p9.below hbn)
  (try first | replace s1 := s1.of_eq (hbn.block _ s1.lt) | replace s1 := s1.below hbn)
  (try first | replace rs1 := rs1.of_eq (hbn.block _ rs1.lt) | replace rs1 := rs1.below hbn)
  refine ⟨_, rfl, ?_⟩
  simp only [Act.put, List.setIfInBounds_toArray, List.set_cons_zero, List.set_cons_succ]
  refine wpList_chunk 1 (by kernel_rfl) ?_
  simp only [List.take_succ_cons, List.take_zero, List.drop_succ_cons, List.drop_zero, Nat.reduceAdd]
  repeat (first | go_big_quiet_skip | (go_big_quiet_want; first | (refine quiet_buildIm rfl c rfl ?_; simp only [Act.put, List.setIfInBounds_toArray, List.set_cons_zero, List.set_cons_succ]; go_big_quiet_on) | (refine quiet_buildSh rfl c _ _ _ rfl ?_; simp only [Act.put, List.setIfInBounds_toArray, List.set_cons_zero, List.set_cons_succ]; go_big_quiet_on) | (refine quiet_loadAny (t := 30) rfl _ _ _ rfl (fun w hw => run_load_B (ov_B r2 w hw) Try.isAgg30 (by kernel_rfl)) (by rfl) ?_; simp only [Act.put, List.setIfInBounds_toArray, List.set_cons_zero, List.set_cons_succ]; go_big_quiet_on) | (refine quiet_loadAny (t := 64) rfl _ _ _ rfl (fun w hw => run_load_B (ov_B c3 w hw) Try.isAgg64 (by kernel_rfl)) (by rfl) ?_; simp only [Act.put, List.setIfInBounds_toArray, List.set_cons_zero, List.set_cons_succ]; go_big_quiet_on) | (refine quiet_loadPx rfl _ rfl (ov_px p9) ?_; simp only [Act.put, List.setIfInBounds_toArray, List.set_cons_zero, List.set_cons_succ]; go_big_quiet_on) | (refine quiet_loadAny (t := 66) rfl _ _ _ rfl (fun w hw => run_load_slp (imgC_u (ov_B m6 w hw))) (by first | rfl | omega) ?_; simp only [Act.put, List.setIfInBounds_toArray, List.set_cons_zero, List.set_cons_succ]; go_big_quiet_on) | (refine quiet_loadAny (t := 68) rfl _ _ _ rfl (fun w hw => run_load_img (ov_B m6 w hw)) (by first | rfl | omega) ?_; simp only [Act.put, List.setIfInBounds_toArray, List.set_cons_zero, List.set_cons_succ]; go_big_quiet_on) | (refine quiet_loadAny (t := 3) rfl _ _ _ rfl (fun w hw => run_load_int ((ov_B c3 w hw).cellL 0 rfl)) (by rfl) ?_; simp only [Act.put, List.setIfInBounds_toArray, List.set_cons_zero, List.set_cons_succ]; go_big_quiet_on) | (refine quiet_loadAny (t := 3) rfl _ _ _ rfl (fun w hw => run_load_int ((ov_B c3 w hw).cellL 1 rfl)) (by rfl) ?_; simp only [Act.put, List.setIfInBounds_toArray, List.set_cons_zero, List.set_cons_succ]; go_big_quiet_on) | (refine quiet_loadAny (t := 3) rfl _ _ _ rfl (fun w hw => run_load_int ((ov_B c3 w hw).cellL 2 rfl)) (by rfl) ?_; simp only [Act.put, List.setIfInBounds_toArray, List.set_cons_zero, List.set_cons_succ]; go_big_quiet_on) | (refine quiet_loadAny (t := 3) rfl _ _ _ rfl (fun w hw => run_load_int ((ov_B c3 w hw).cellL 3 rfl)) (by rfl) ?_; simp only [Act.put, List.setIfInBounds_toArray, List.set_cons_zero, List.set_cons_succ]; go_big_quiet_on) | (go_big_quiet_op; go_big_quiet_on)))
  refine wpQuiet_nil ?_
  refine wpList_nil ?_
  go_upto_region 2 with fail
  refine wp_region_lit ?_
  try simp only [List.getElem_toArray, List.getElem_cons_zero, List.getElem_cons_succ]
  refine wpList_chunk 2 (by kernel_rfl) ?_
  simp only [List.take_succ_cons, List.take_zero, List.drop_succ_cons, List.drop_zero, Nat.reduceAdd]
  repeat (first | go_big_quiet_skip | (go_big_quiet_want; first | (refine quiet_buildIm rfl c rfl ?_; simp only [Act.put, List.setIfInBounds_toArray, List.set_cons_zero, List.set_cons_succ]; go_big_quiet_on) | (refine quiet_buildSh rfl c _ _ _ rfl ?_; simp only [Act.put, List.setIfInBounds_toArray, List.set_cons_zero, List.set_cons_succ]; go_big_quiet_on) | (refine quiet_loadAny (t := 30) rfl _ _ _ rfl (fun w hw => run_load_B (ov_B r2 w hw) Try.isAgg30 (by kernel_rfl)) (by rfl) ?_; simp only [Act.put, List.setIfInBounds_toArray, List.set_cons_zero, List.set_cons_succ]; go_big_quiet_on) | (refine quiet_loadAny (t := 64) rfl _ _ _ rfl (fun w hw => run_load_B (ov_B c3 w hw) Try.isAgg64 (by kernel_rfl)) (by rfl) ?_; simp only [Act.put, List.setIfInBounds_toArray, List.set_cons_zero, List.set_cons_succ]; go_big_quiet_on) | (refine quiet_loadPx rfl _ rfl (ov_px p9) ?_; simp only [Act.put, List.setIfInBounds_toArray, List.set_cons_zero, List.set_cons_succ]; go_big_quiet_on) | (refine quiet_loadAny (t := 66) rfl _ _ _ rfl (fun w hw => run_load_slp (imgC_u (ov_B m6 w hw))) (by first | rfl | omega) ?_; simp only [Act.put, List.setIfInBounds_toArray, List.set_cons_zero, List.set_cons_succ]; go_big_quiet_on) | (refine quiet_loadAny (t := 68) rfl _ _ _ rfl (fun w hw => run_load_img (ov_B m6 w hw)) (by first | rfl | omega) ?_; simp only [Act.put, List.setIfInBounds_toArray, List.set_cons_zero, List.set_cons_succ]; go_big_quiet_on) | (refine quiet_loadAny (t := 3) rfl _ _ _ rfl (fun w hw => run_load_int ((ov_B c3 w hw).cellL 0 rfl)) (by rfl) ?_; simp only [Act.put, List.setIfInBounds_toArray, List.set_cons_zero, List.set_cons_succ]; go_big_quiet_on) | (refine quiet_loadAny (t := 3) rfl _ _ _ rfl (fun w hw => run_load_int ((ov_B c3 w hw).cellL 1 rfl)) (by rfl) ?_; simp only [Act.put, List.setIfInBounds_toArray, List.set_cons_zero, List.set_cons_succ]; go_big_quiet_on) | (refine quiet_loadAny (t := 3) rfl _ _ _ rfl (fun w hw => run_load_int ((ov_B c3 w hw).cellL 2 rfl)) (by rfl) ?_; simp only [Act.put, List.setIfInBounds_toArray, List.set_cons_zero, List.set_cons_succ]; go_big_quiet_on) | (refine quiet_loadAny (t := 3) rfl _ _ _ rfl (fun w hw => run_load_int ((ov_B c3 w hw).cellL 3 rfl)) (by rfl) ?_; simp only [Act.put, List.setIfInBounds_toArray, List.set_cons_zero, List.set_cons_succ]; go_big_quiet_on) | (go_big_quiet_op; go_big_quiet_on)))
  refine wpQuiet_nil ?_
  refine wpList_nil ?_
  go_upto_region 3 with fail
  refine wp_region_lit ?_
  try simp only [List.getElem_toArray, List.getElem_cons_zero, List.getElem_cons_succ]
  refine wpList_chunk 2 (by kernel_rfl) ?_
  simp only [List.take_succ_cons, List.take_zero, List.drop_succ_cons, List.drop_zero, Nat.reduceAdd]
  repeat (first | go_big_quiet_skip | (go_big_quiet_want; first | (refine quiet_buildIm rfl c rfl ?_; simp only [Act.put, List.setIfInBounds_toArray, List.set_cons_zero, List.set_cons_succ]; go_big_quiet_on) | (refine quiet_buildSh rfl c _ _ _ rfl ?_; simp only [Act.put, List.setIfInBounds_toArray, List.set_cons_zero, List.set_cons_succ]; go_big_quiet_on) | (refine quiet_loadAny (t := 30) rfl _ _ _ rfl (fun w hw => run_load_B (ov_B r2 w hw) Try.isAgg30 (by kernel_rfl)) (by rfl) ?_; simp only [Act.put, List.setIfInBounds_toArray, List.set_cons_zero, List.set_cons_succ]; go_big_quiet_on) | (refine quiet_loadAny (t := 64) rfl _ _ _ rfl (fun w hw => run_load_B (ov_B c3 w hw) Try.isAgg64 (by kernel_rfl)) (by rfl) ?_; simp only [Act.put, List.setIfInBounds_toArray, List.set_cons_zero, List.set_cons_succ]; go_big_quiet_on) | (refine quiet_loadPx rfl _ rfl (ov_px p9) ?_; simp only [Act.put, List.setIfInBounds_toArray, List.set_cons_zero, List.set_cons_succ]; go_big_quiet_on) | (refine quiet_loadAny (t := 66) rfl _ _ _ rfl (fun w hw => run_load_slp (imgC_u (ov_B m6 w hw))) (by first | rfl | omega) ?_; simp only [Act.put, List.setIfInBounds_toArray, List.set_cons_zero, List.set_cons_succ]; go_big_quiet_on) | (refine quiet_loadAny (t := 68) rfl _ _ _ rfl (fun w hw => run_load_img (ov_B m6 w hw)) (by first | rfl | omega) ?_; simp only [Act.put, List.setIfInBounds_toArray, List.set_cons_zero, List.set_cons_succ]; go_big_quiet_on) | (refine quiet_loadAny (t := 3) rfl _ _ _ rfl (fun w hw => run_load_int ((ov_B c3 w hw).cellL 0 rfl)) (by rfl) ?_; simp only [Act.put, List.setIfInBounds_toArray, List.set_cons_zero, List.set_cons_succ]; go_big_quiet_on) | (refine quiet_loadAny (t := 3) rfl _ _ _ rfl (fun w hw => run_load_int ((ov_B c3 w hw).cellL 1 rfl)) (by rfl) ?_; simp only [Act.put, List.setIfInBounds_toArray, List.set_cons_zero, List.set_cons_succ]; go_big_quiet_on) | (refine quiet_loadAny (t := 3) rfl _ _ _ rfl (fun w hw => run_load_int ((ov_B c3 w hw).cellL 2 rfl)) (by rfl) ?_; simp only [Act.put, List.setIfInBounds_toArray, List.set_cons_zero, List.set_cons_succ]; go_big_quiet_on) | (refine quiet_loadAny (t := 3) rfl _ _ _ rfl (fun w hw => run_load_int ((ov_B c3 w hw).cellL 3 rfl)) (by rfl) ?_; simp only [Act.put, List.setIfInBounds_toArray, List.set_cons_zero, List.set_cons_succ]; go_big_quiet_on) | (go_big_quiet_op; go_big_quiet_on)))
  refine wpQuiet_nil ?_
  (refine wpList_storeB (t := 72) rfl _ _ rfl _ rfl _ rfl r4 (by kernel_rfl) rfl (by simp [rcA, imgC, shC, Value.oneCell']) ?_; have r4o := r4; clear r4; intro wn ht hcn hzn; (try replace rs1 := rs1.chg r4o (by simp [rcA, imgC, shC]) hcn); have hsz := B.size; replace hzn := Nat.le_of_eq hzn.symm; replace B := Chg.below B hcn (by omega) B.size; (try replace r2 := r2.of_eq (hcn.block _ r2.lt (by omega))); (try replace c3 := c3.of_eq (hcn.block _ c3.lt (by omega))); (try replace m6 := m6.of_eq (hcn.block _ m6.lt (by omega))); (try replace p9 := p9.of_eq (hcn.block _ p9.lt (by omega))); (try replace s1 := s1.of_eq (hcn.block _ s1.lt (by omega))); (try replace rs1 := rs1.of_eq (hcn.block _ rs1.lt (by omega))); have r4 := ht; clear ht; simp only [Act.put, List.setIfInBounds_toArray, List.set_cons_zero, List.set_cons_succ])
  refine wpList_nil ?_
  go_wp2
  refine bodyPost_ret (results_B (t := 72) rfl _ _ (b_r4) rfl r4 Try.isAgg72 (by kernel_rfl)) rfl ?_
  exact ⟨rfl, B⟩
theorem OwnE.ownltE {α : Type} {k : Nat} {T S : TypeId} {E : Elt α k T S} {B : Nat} {v : Value} {ls : List α} {w : World} (h : OwnE E B v ls w) : ∀ b, v.ownBlock = some b → b < w.heap.size := by
  intro b hb
  obtain ⟨_, h2⟩ := h
  rcases h2 with ⟨rfl, h0⟩ | ⟨g, cap, cur, rfl, _, hg, _⟩
  · cases hb
  · have e : some g = some b := hb
    injection e with e
    subst e
    exact (Array.getElem?_eq_some_iff.1 hg).1
theorem OwnE.chgB {α : Type} {k : Nat} {T S : TypeId} {E : Elt α k T S} {B b : Nat} {v : Value} {ls : List α} {w w' : World} (h : OwnE E B v ls w) (hc : Chg b w w') (hne : ∀ k, v.ownBlock = some k → k ≠ b) : OwnE E B v ls w' := by
  refine World.ownsRow.kept (row := some b) h ⟨hc.os, hc.tape, hc.output, hc.size, fun k hk hn => hc.block k hk (fun e => hn (by rw [e]))⟩ ?_
  cases hv : v.ownBlock with
  | none => exact .inl rfl
  | some k =>
    right
    intro e
    injection e with e
    exact hne k hv e
set_option maxHeartbeats 8000000 in
theorem R_Image_ok (v : Value) (ls : List TA) (c : Rc) (w : World) (h : RS v ls w) (tk : TokL ls) (hn : ls.length ≤ maxLen) (hE : fitsE c = 0) : Calls Try.prog 34 #[.agg #[v], Rc.v c] w fun e w' => ∃ u, e = .returned (.agg (shC c u 0)) ∧ RSE pxE u (imgL c (fineL ls)) w' ∧ Below w.heap.size w w' := by
  have B := Below.refl w.heap.size w
  obtain ⟨a', c', hT⟩ := R_Of v ls w h tk hn
  have HS := Lib.hid (hT w (Below.refl _ _)).2
  have HT := Lib.hid hT
  clear hT
  obtain ⟨a, cv, rfl, _⟩ := h.len
  have hfl := fineL_length ls
  have HF := fitsE_zero hE
  have hf := Lib.hid HF
  obtain ⟨hew, hw0⟩ := area_wid HF
  obtain ⟨f1, f2, f3, f4, f5, f6, f7, f8⟩ := HF
  clear h tk
  generalize fineL ls = ks at *
  obtain ⟨W, hW⟩ : ∃ W : Nat, c.x1 - c.x0 = (W : Int) := ⟨(c.x1 - c.x0).toNat, by omega⟩
  obtain ⟨H, hH⟩ : ∃ H : Nat, c.y1 - c.y0 = (H : Int) := ⟨(c.y1 - c.y0).toNat, by omega⟩
  have eW : widN c = W := by unfold widN; rw [hW]; exact Int.toNat_natCast _
  have eH : (c.y1 - c.y0).toNat = H := by rw [hH]; exact Int.toNat_natCast _
  rw [eW, eH] at hew
  rw [eW] at hw0
  have hWH : W * H ≤ 65536 := by
    have : W * H ≤ 256 * 256 := Nat.mul_le_mul (by omega) (by omega)
    omega
  have HR := Lib.hid (fun (k j : Nat) (hj : j < W) => by
    have := px_row (c := c) hf.out (k := k) (j := j) (by rw [eW]; exact hj)
    rw [eW] at this
    exact this)
  have HNX := Lib.hid (fun (n : Nat) (h : n < areaN c) => imgL_next ks h)
  have HLN := Lib.hid (imgL_len c ks)
  simp only [Rc.v_A]
  go_enter Try.func34, Try.ntmps34
  go_upto_region 0 with fail
  refine wp_region_lit ?_
  try simp only [List.getElem_toArray, List.getElem_cons_zero, List.getElem_cons_succ]
  (refine wpList_boxB (t := 30) rfl _ rfl _ rfl ?_; intro b_r2 wn hle hge ht hbn hzn; have hsz := B.size; replace B := B.trans (hbn.mono (by omega)); have hln := Nat.lt_of_lt_of_eq (Nat.lt_succ_self _) hzn.symm; clear hzn; (try first | (have hlt := r2.lt; replace r2 := r2.of_eq (hbn.block _ (by omega))) | replace r2 := r2.below (hbn.mono hle)); (try first | (have hlt := c3.lt; replace c3 := c3.of_eq (hbn.block _ (by omega))) | replace c3 := c3.below (hbn.mono hle)); (try first | (have hlt := r4.lt; replace r4 := r4.of_eq (hbn.block _ (by omega))) | replace r4 := r4.below (hbn.mono hle)); (try first | (have hlt := m6.lt; replace m6 := m6.of_eq (hbn.block _ (by omega))) | replace m6 := m6.below (hbn.mono hle)); (try first | (have hlt := p9.lt; replace p9 := p9.of_eq (hbn.block _ (by omega))) | replace p9 := p9.below (hbn.mono hle)); (try first | (have hlt := s1.lt; replace s1 := s1.of_eq (hbn.block _ (by omega))) | replace s1 := s1.below (hbn.mono hle)); (try first | (have hlt := rs1.lt; replace rs1 := rs1.of_eq (hbn.block _ (by omega))) | replace rs1 := rs1.below (hbn.mono hle)); have r2 := ht; clear ht; simp only [Act.put, List.setIfInBounds_toArray, List.set_cons_zero, List.set_cons_succ])
  (refine wpList_boxB (t := 64) rfl _ rfl _ rfl ?_; intro b_c3 wn hle hge ht hbn hzn; have hsz := B.size; replace B := B.trans (hbn.mono (by omega)); have hln := Nat.lt_of_lt_of_eq (Nat.lt_succ_self _) hzn.symm; clear hzn; (try first | (have hlt := r2.lt; replace r2 := r2.of_eq (hbn.block _ (by omega))) | replace r2 := r2.below (hbn.mono hle)); (try first | (have hlt := c3.lt; replace c3 := c3.of_eq (hbn.block _ (by omega))) | replace c3 := c3.below (hbn.mono hle)); (try first | (have hlt := r4.lt; replace r4 := r4.of_eq (hbn.block _ (by omega))) | replace r4 := r4.below (hbn.mono hle)); (try first | (have hlt := m6.lt; replace m6 := m6.of_eq (hbn.block _ (by omega))) | replace m6 := m6.below (hbn.mono hle)); (try first | (have hlt := p9.lt; replace p9 := p9.of_eq (hbn.block _ (by omega))) | replace p9 := p9.below (hbn.mono hle)); (try first | (have hlt := s1.lt; replace s1 := s1.of_eq (hbn.block _ (by omega))) | replace s1 := s1.below (hbn.mono hle)); (try first | (have hlt := rs1.lt; replace rs1 := rs1.of_eq (hbn.block _ (by omega))) | replace rs1 := rs1.below (hbn.mono hle)); have c3 := ht; clear ht; simp only [Act.put, List.setIfInBounds_toArray, List.set_cons_zero, List.set_cons_succ])
  (refine wpList_allocBk (t := 72) rfl _ (run_alloc_Sh _ _ rfl) ?_; intro b_r4 wn hle hge ht hbn hzn; have hsz := B.size; replace B := B.trans (hbn.mono (by omega)); have hln := Nat.lt_of_lt_of_eq (Nat.lt_succ_self _) hzn.symm; clear hzn; (try first | (have hlt := r2.lt; replace r2 := r2.of_eq (hbn.block _ (by omega))) | replace r2 := r2.below (hbn.mono hle)); (try first | (have hlt := c3.lt; replace c3 := c3.of_eq (hbn.block _ (by omega))) | replace c3 := c3.below (hbn.mono hle)); (try first | (have hlt := r4.lt; replace r4 := r4.of_eq (hbn.block _ (by omega))) | replace r4 := r4.below (hbn.mono hle)); (try first | (have hlt := m6.lt; replace m6 := m6.of_eq (hbn.block _ (by omega))) | replace m6 := m6.below (hbn.mono hle)); (try first | (have hlt := p9.lt; replace p9 := p9.of_eq (hbn.block _ (by omega))) | replace p9 := p9.below (hbn.mono hle)); (try first | (have hlt := s1.lt; replace s1 := s1.of_eq (hbn.block _ (by omega))) | replace s1 := s1.below (hbn.mono hle)); (try first | (have hlt := rs1.lt; replace rs1 := rs1.of_eq (hbn.block _ (by omega))) | replace rs1 := rs1.below (hbn.mono hle)); have r4 := ht; clear ht; simp only [Act.put, List.setIfInBounds_toArray, List.set_cons_zero, List.set_cons_succ])
  refine wpList_nil ?_
  go_upto_region 1 with fail
  refine wp_region_lit ?_
  try simp only [List.getElem_toArray, List.getElem_cons_zero, List.getElem_cons_succ]
  refine wpList_chunk 1 (by kernel_rfl) ?_
  simp only [List.take_succ_cons, List.take_zero, List.drop_succ_cons, List.drop_zero, Nat.reduceAdd]
  repeat (first | go_big_quiet_skip | (go_big_quiet_want; first | (refine quiet_buildIm rfl c rfl ?_; simp only [Act.put, List.setIfInBounds_toArray, List.set_cons_zero, List.set_cons_succ]; go_big_quiet_on) | (refine quiet_buildSh rfl c _ _ _ rfl ?_; simp only [Act.put, List.setIfInBounds_toArray, List.set_cons_zero, List.set_cons_succ]; go_big_quiet_on) | (refine quiet_loadAny (t := 30) rfl _ _ _ rfl (fun w hw => run_load_B (ov_B r2 w hw) Try.isAgg30 (by kernel_rfl)) (by rfl) ?_; simp only [Act.put, List.setIfInBounds_toArray, List.set_cons_zero, List.set_cons_succ]; go_big_quiet_on) | (refine quiet_loadAny (t := 64) rfl _ _ _ rfl (fun w hw => run_load_B (ov_B c3 w hw) Try.isAgg64 (by kernel_rfl)) (by rfl) ?_; simp only [Act.put, List.setIfInBounds_toArray, List.set_cons_zero, List.set_cons_succ]; go_big_quiet_on) | (refine quiet_loadPx rfl _ rfl (ov_px p9) ?_; simp only [Act.put, List.setIfInBounds_toArray, List.set_cons_zero, List.set_cons_succ]; go_big_quiet_on) | (refine quiet_loadAny (t := 66) rfl _ _ _ rfl (fun w hw => run_load_slp (imgC_u (ov_B m6 w hw))) (by first | rfl | omega) ?_; simp only [Act.put, List.setIfInBounds_toArray, List.set_cons_zero, List.set_cons_succ]; go_big_quiet_on) | (refine quiet_loadAny (t := 68) rfl _ _ _ rfl (fun w hw => run_load_img (ov_B m6 w hw)) (by first | rfl | omega) ?_; simp only [Act.put, List.setIfInBounds_toArray, List.set_cons_zero, List.set_cons_succ]; go_big_quiet_on) | (refine quiet_loadAny (t := 3) rfl _ _ _ rfl (fun w hw => run_load_int ((ov_B c3 w hw).cellL 0 rfl)) (by rfl) ?_; simp only [Act.put, List.setIfInBounds_toArray, List.set_cons_zero, List.set_cons_succ]; go_big_quiet_on) | (refine quiet_loadAny (t := 3) rfl _ _ _ rfl (fun w hw => run_load_int ((ov_B c3 w hw).cellL 1 rfl)) (by rfl) ?_; simp only [Act.put, List.setIfInBounds_toArray, List.set_cons_zero, List.set_cons_succ]; go_big_quiet_on) | (refine quiet_loadAny (t := 3) rfl _ _ _ rfl (fun w hw => run_load_int ((ov_B c3 w hw).cellL 2 rfl)) (by rfl) ?_; simp only [Act.put, List.setIfInBounds_toArray, List.set_cons_zero, List.set_cons_succ]; go_big_quiet_on) | (refine quiet_loadAny (t := 3) rfl _ _ _ rfl (fun w hw => run_load_int ((ov_B c3 w hw).cellL 3 rfl)) (by rfl) ?_; simp only [Act.put, List.setIfInBounds_toArray, List.set_cons_zero, List.set_cons_succ]; go_big_quiet_on) | (go_big_quiet_op; go_big_quiet_on)))
  refine wpQuiet_nil ?_
  refine wpList_callF (by first | rfl | simp [Region.wanted, yielded]) rfl (enters_of Try.func81 (by kernel_rfl) rfl) (by simp only [List.map_toArray, List.map_cons, List.map_nil, Act.eval, Array.getD_eq_getD_getElem?, List.getElem?_toArray, List.getElem?_cons_succ, List.getElem?_cons_zero, Option.getD_some]; rfl) ?_
  refine (R_fitsB c 0 _ hE).mono ?_
  rintro e wn ⟨rfl, hbn⟩
  have hsz := B.size
  have hzn := hbn.size
  replace B := B.trans (hbn.mono B.size)
  (try first | replace r2 := r2.of_eq (hbn.block _ r2.lt) | replace r2 := r2.below hbn)
  (try first | replace c3 := c3.of_eq (hbn.block _ c3.lt) | replace c3 := c3.below hbn)
  (try first | replace r4 := r4.of_eq (hbn.block _ r4.lt) | replace r4 := r4.below hbn)
  (try first | replace m6 := m6.of_eq (hbn.block _ m6.lt) | replace m6 := m6.below hbn)
  (try first | replace p9 := p9.of_eq (hbn.block _ p9.lt) | replace p9 := p9.below hbn)
  (try first | replace s1 := s1.of_eq (hbn.block _ s1.lt) | replace s1 := s1.below hbn)
  (try first | replace rs1 := rs1.of_eq (hbn.block _ rs1.lt) | replace rs1 := rs1.below hbn)
  refine ⟨_, rfl, ?_⟩
  simp only [Act.put, List.setIfInBounds_toArray, List.set_cons_zero, List.set_cons_succ]
  refine wpList_chunk 1 (by kernel_rfl) ?_
  simp only [List.take_succ_cons, List.take_zero, List.drop_succ_cons, List.drop_zero, Nat.reduceAdd]
  repeat (first | go_big_quiet_skip | (go_big_quiet_want; first | (refine quiet_buildIm rfl c rfl ?_; simp only [Act.put, List.setIfInBounds_toArray, List.set_cons_zero, List.set_cons_succ]; go_big_quiet_on) | (refine quiet_buildSh rfl c _ _ _ rfl ?_; simp only [Act.put, List.setIfInBounds_toArray, List.set_cons_zero, List.set_cons_succ]; go_big_quiet_on) | (refine quiet_loadAny (t := 30) rfl _ _ _ rfl (fun w hw => run_load_B (ov_B r2 w hw) Try.isAgg30 (by kernel_rfl)) (by rfl) ?_; simp only [Act.put, List.setIfInBounds_toArray, List.set_cons_zero, List.set_cons_succ]; go_big_quiet_on) | (refine quiet_loadAny (t := 64) rfl _ _ _ rfl (fun w hw => run_load_B (ov_B c3 w hw) Try.isAgg64 (by kernel_rfl)) (by rfl) ?_; simp only [Act.put, List.setIfInBounds_toArray, List.set_cons_zero, List.set_cons_succ]; go_big_quiet_on) | (refine quiet_loadPx rfl _ rfl (ov_px p9) ?_; simp only [Act.put, List.setIfInBounds_toArray, List.set_cons_zero, List.set_cons_succ]; go_big_quiet_on) | (refine quiet_loadAny (t := 66) rfl _ _ _ rfl (fun w hw => run_load_slp (imgC_u (ov_B m6 w hw))) (by first | rfl | omega) ?_; simp only [Act.put, List.setIfInBounds_toArray, List.set_cons_zero, List.set_cons_succ]; go_big_quiet_on) | (refine quiet_loadAny (t := 68) rfl _ _ _ rfl (fun w hw => run_load_img (ov_B m6 w hw)) (by first | rfl | omega) ?_; simp only [Act.put, List.setIfInBounds_toArray, List.set_cons_zero, List.set_cons_succ]; go_big_quiet_on) | (refine quiet_loadAny (t := 3) rfl _ _ _ rfl (fun w hw => run_load_int ((ov_B c3 w hw).cellL 0 rfl)) (by rfl) ?_; simp only [Act.put, List.setIfInBounds_toArray, List.set_cons_zero, List.set_cons_succ]; go_big_quiet_on) | (refine quiet_loadAny (t := 3) rfl _ _ _ rfl (fun w hw => run_load_int ((ov_B c3 w hw).cellL 1 rfl)) (by rfl) ?_; simp only [Act.put, List.setIfInBounds_toArray, List.set_cons_zero, List.set_cons_succ]; go_big_quiet_on) | (refine quiet_loadAny (t := 3) rfl _ _ _ rfl (fun w hw => run_load_int ((ov_B c3 w hw).cellL 2 rfl)) (by rfl) ?_; simp only [Act.put, List.setIfInBounds_toArray, List.set_cons_zero, List.set_cons_succ]; go_big_quiet_on) | (refine quiet_loadAny (t := 3) rfl _ _ _ rfl (fun w hw => run_load_int ((ov_B c3 w hw).cellL 3 rfl)) (by rfl) ?_; simp only [Act.put, List.setIfInBounds_toArray, List.set_cons_zero, List.set_cons_succ]; go_big_quiet_on) | (go_big_quiet_op; go_big_quiet_on)))
  refine wpQuiet_nil ?_
  refine wpList_nil ?_
  go_upto_region 4 with fail
  refine wp_region_lit ?_
  try simp only [List.getElem_toArray, List.getElem_cons_zero, List.getElem_cons_succ]
  refine wpList_chunk 1 (by kernel_rfl) ?_
  simp only [List.take_succ_cons, List.take_zero, List.drop_succ_cons, List.drop_zero, Nat.reduceAdd]
  repeat (first | go_big_quiet_skip | (go_big_quiet_want; first | (refine quiet_buildIm rfl c rfl ?_; simp only [Act.put, List.setIfInBounds_toArray, List.set_cons_zero, List.set_cons_succ]; go_big_quiet_on) | (refine quiet_buildSh rfl c _ _ _ rfl ?_; simp only [Act.put, List.setIfInBounds_toArray, List.set_cons_zero, List.set_cons_succ]; go_big_quiet_on) | (refine quiet_loadAny (t := 30) rfl _ _ _ rfl (fun w hw => run_load_B (ov_B r2 w hw) Try.isAgg30 (by kernel_rfl)) (by rfl) ?_; simp only [Act.put, List.setIfInBounds_toArray, List.set_cons_zero, List.set_cons_succ]; go_big_quiet_on) | (refine quiet_loadAny (t := 64) rfl _ _ _ rfl (fun w hw => run_load_B (ov_B c3 w hw) Try.isAgg64 (by kernel_rfl)) (by rfl) ?_; simp only [Act.put, List.setIfInBounds_toArray, List.set_cons_zero, List.set_cons_succ]; go_big_quiet_on) | (refine quiet_loadPx rfl _ rfl (ov_px p9) ?_; simp only [Act.put, List.setIfInBounds_toArray, List.set_cons_zero, List.set_cons_succ]; go_big_quiet_on) | (refine quiet_loadAny (t := 66) rfl _ _ _ rfl (fun w hw => run_load_slp (imgC_u (ov_B m6 w hw))) (by first | rfl | omega) ?_; simp only [Act.put, List.setIfInBounds_toArray, List.set_cons_zero, List.set_cons_succ]; go_big_quiet_on) | (refine quiet_loadAny (t := 68) rfl _ _ _ rfl (fun w hw => run_load_img (ov_B m6 w hw)) (by first | rfl | omega) ?_; simp only [Act.put, List.setIfInBounds_toArray, List.set_cons_zero, List.set_cons_succ]; go_big_quiet_on) | (refine quiet_loadAny (t := 3) rfl _ _ _ rfl (fun w hw => run_load_int ((ov_B c3 w hw).cellL 0 rfl)) (by rfl) ?_; simp only [Act.put, List.setIfInBounds_toArray, List.set_cons_zero, List.set_cons_succ]; go_big_quiet_on) | (refine quiet_loadAny (t := 3) rfl _ _ _ rfl (fun w hw => run_load_int ((ov_B c3 w hw).cellL 1 rfl)) (by rfl) ?_; simp only [Act.put, List.setIfInBounds_toArray, List.set_cons_zero, List.set_cons_succ]; go_big_quiet_on) | (refine quiet_loadAny (t := 3) rfl _ _ _ rfl (fun w hw => run_load_int ((ov_B c3 w hw).cellL 2 rfl)) (by rfl) ?_; simp only [Act.put, List.setIfInBounds_toArray, List.set_cons_zero, List.set_cons_succ]; go_big_quiet_on) | (refine quiet_loadAny (t := 3) rfl _ _ _ rfl (fun w hw => run_load_int ((ov_B c3 w hw).cellL 3 rfl)) (by rfl) ?_; simp only [Act.put, List.setIfInBounds_toArray, List.set_cons_zero, List.set_cons_succ]; go_big_quiet_on) | (go_big_quiet_op; go_big_quiet_on)))
  refine wpQuiet_nil ?_
  refine wpList_callF (by first | rfl | simp [Region.wanted, yielded]) rfl (enters_of Try.func70 (by kernel_rfl) rfl) (by simp only [List.map_toArray, List.map_cons, List.map_nil, Act.eval, Array.getD_eq_getD_getElem?, List.getElem?_toArray, List.getElem?_cons_succ, List.getElem?_cons_zero, Option.getD_some]; rfl) ?_
  refine ((HT.out _ B).1).mono ?_
  rintro e wn ⟨rfl, hbn⟩
  have hsz := B.size
  have hzn := hbn.size
  replace B := B.trans (hbn.mono B.size)
  (try first | replace r2 := r2.of_eq (hbn.block _ r2.lt) | replace r2 := r2.below hbn)
  (try first | replace c3 := c3.of_eq (hbn.block _ c3.lt) | replace c3 := c3.below hbn)
  (try first | replace r4 := r4.of_eq (hbn.block _ r4.lt) | replace r4 := r4.below hbn)
  (try first | replace m6 := m6.of_eq (hbn.block _ m6.lt) | replace m6 := m6.below hbn)
  (try first | replace p9 := p9.of_eq (hbn.block _ p9.lt) | replace p9 := p9.below hbn)
  (try first | replace s1 := s1.of_eq (hbn.block _ s1.lt) | replace s1 := s1.below hbn)
  (try first | replace rs1 := rs1.of_eq (hbn.block _ rs1.lt) | replace rs1 := rs1.below hbn)
  refine ⟨_, rfl, ?_⟩
  simp only [Act.put, List.setIfInBounds_toArray, List.set_cons_zero, List.set_cons_succ]
  (refine wpList_storeB (t := 30) rfl _ _ rfl _ rfl _ rfl r2 (by kernel_rfl) rfl (by simp [rcA, imgC, shC, Value.oneCell']) ?_; have r2o := r2; clear r2; intro wn ht hcn hzn; (try replace rs1 := rs1.chg r2o (by simp [rcA, imgC, shC]) hcn); have hsz := B.size; replace hzn := Nat.le_of_eq hzn.symm; replace B := Chg.below B hcn (by omega) B.size; (try replace c3 := c3.of_eq (hcn.block _ c3.lt (by omega))); (try replace r4 := r4.of_eq (hcn.block _ r4.lt (by omega))); (try replace m6 := m6.of_eq (hcn.block _ m6.lt (by omega))); (try replace p9 := p9.of_eq (hcn.block _ p9.lt (by omega))); (try replace s1 := s1.of_eq (hcn.block _ s1.lt (by omega))); (try replace rs1 := rs1.of_eq (hcn.block _ rs1.lt (by omega))); have r2 := ht; clear ht; simp only [Act.put, List.setIfInBounds_toArray, List.set_cons_zero, List.set_cons_succ])
  refine wpList_nil ?_
  go_upto_region 5 with fail
  refine wp_region_lit ?_
  try simp only [List.getElem_toArray, List.getElem_cons_zero, List.getElem_cons_succ]
  refine wpList_chunk 2 (by kernel_rfl) ?_
  simp only [List.take_succ_cons, List.take_zero, List.drop_succ_cons, List.drop_zero, Nat.reduceAdd]
  repeat (first | go_big_quiet_skip | (go_big_quiet_want; first | (refine quiet_buildIm rfl c rfl ?_; simp only [Act.put, List.setIfInBounds_toArray, List.set_cons_zero, List.set_cons_succ]; go_big_quiet_on) | (refine quiet_buildSh rfl c _ _ _ rfl ?_; simp only [Act.put, List.setIfInBounds_toArray, List.set_cons_zero, List.set_cons_succ]; go_big_quiet_on) | (refine quiet_loadAny (t := 30) rfl _ _ _ rfl (fun w hw => run_load_B (ov_B r2 w hw) Try.isAgg30 (by kernel_rfl)) (by rfl) ?_; simp only [Act.put, List.setIfInBounds_toArray, List.set_cons_zero, List.set_cons_succ]; go_big_quiet_on) | (refine quiet_loadAny (t := 64) rfl _ _ _ rfl (fun w hw => run_load_B (ov_B c3 w hw) Try.isAgg64 (by kernel_rfl)) (by rfl) ?_; simp only [Act.put, List.setIfInBounds_toArray, List.set_cons_zero, List.set_cons_succ]; go_big_quiet_on) | (refine quiet_loadPx rfl _ rfl (ov_px p9) ?_; simp only [Act.put, List.setIfInBounds_toArray, List.set_cons_zero, List.set_cons_succ]; go_big_quiet_on) | (refine quiet_loadAny (t := 66) rfl _ _ _ rfl (fun w hw => run_load_slp (imgC_u (ov_B m6 w hw))) (by first | rfl | omega) ?_; simp only [Act.put, List.setIfInBounds_toArray, List.set_cons_zero, List.set_cons_succ]; go_big_quiet_on) | (refine quiet_loadAny (t := 68) rfl _ _ _ rfl (fun w hw => run_load_img (ov_B m6 w hw)) (by first | rfl | omega) ?_; simp only [Act.put, List.setIfInBounds_toArray, List.set_cons_zero, List.set_cons_succ]; go_big_quiet_on) | (refine quiet_loadAny (t := 3) rfl _ _ _ rfl (fun w hw => run_load_int ((ov_B c3 w hw).cellL 0 rfl)) (by rfl) ?_; simp only [Act.put, List.setIfInBounds_toArray, List.set_cons_zero, List.set_cons_succ]; go_big_quiet_on) | (refine quiet_loadAny (t := 3) rfl _ _ _ rfl (fun w hw => run_load_int ((ov_B c3 w hw).cellL 1 rfl)) (by rfl) ?_; simp only [Act.put, List.setIfInBounds_toArray, List.set_cons_zero, List.set_cons_succ]; go_big_quiet_on) | (refine quiet_loadAny (t := 3) rfl _ _ _ rfl (fun w hw => run_load_int ((ov_B c3 w hw).cellL 2 rfl)) (by rfl) ?_; simp only [Act.put, List.setIfInBounds_toArray, List.set_cons_zero, List.set_cons_succ]; go_big_quiet_on) | (refine quiet_loadAny (t := 3) rfl _ _ _ rfl (fun w hw => run_load_int ((ov_B c3 w hw).cellL 3 rfl)) (by rfl) ?_; simp only [Act.put, List.setIfInBounds_toArray, List.set_cons_zero, List.set_cons_succ]; go_big_quiet_on) | (go_big_quiet_op; go_big_quiet_on)))
  refine wpQuiet_nil ?_
  (refine wpList_allocBk (t := 68) rfl _ (run_alloc_Im _ _ rfl) ?_; intro b_m6 wn hle hge ht hbn hzn; have hsz := B.size; replace B := B.trans (hbn.mono (by omega)); have hln := Nat.lt_of_lt_of_eq (Nat.lt_succ_self _) hzn.symm; clear hzn; (try first | (have hlt := r2.lt; replace r2 := r2.of_eq (hbn.block _ (by omega))) | replace r2 := r2.below (hbn.mono hle)); (try first | (have hlt := c3.lt; replace c3 := c3.of_eq (hbn.block _ (by omega))) | replace c3 := c3.below (hbn.mono hle)); (try first | (have hlt := r4.lt; replace r4 := r4.of_eq (hbn.block _ (by omega))) | replace r4 := r4.below (hbn.mono hle)); (try first | (have hlt := m6.lt; replace m6 := m6.of_eq (hbn.block _ (by omega))) | replace m6 := m6.below (hbn.mono hle)); (try first | (have hlt := p9.lt; replace p9 := p9.of_eq (hbn.block _ (by omega))) | replace p9 := p9.below (hbn.mono hle)); (try first | (have hlt := s1.lt; replace s1 := s1.of_eq (hbn.block _ (by omega))) | replace s1 := s1.below (hbn.mono hle)); (try first | (have hlt := rs1.lt; replace rs1 := rs1.of_eq (hbn.block _ (by omega))) | replace rs1 := rs1.below (hbn.mono hle)); have m6 := ht; clear ht; simp only [Act.put, List.setIfInBounds_toArray, List.set_cons_zero, List.set_cons_succ])
  (refine wpList_storeB (t := 68) rfl _ _ rfl _ rfl _ rfl m6 (by kernel_rfl) rfl (by simp [rcA, imgC, shC, Value.oneCell']) ?_; have m6o := m6; clear m6; intro wn ht hcn hzn; (try replace rs1 := rs1.chg m6o (by simp [rcA, imgC, shC]) hcn); have hsz := B.size; replace hzn := Nat.le_of_eq hzn.symm; replace B := Chg.below B hcn (by omega) B.size; (try replace r2 := r2.of_eq (hcn.block _ r2.lt (by omega))); (try replace c3 := c3.of_eq (hcn.block _ c3.lt (by omega))); (try replace r4 := r4.of_eq (hcn.block _ r4.lt (by omega))); (try replace p9 := p9.of_eq (hcn.block _ p9.lt (by omega))); (try replace s1 := s1.of_eq (hcn.block _ s1.lt (by omega))); (try replace rs1 := rs1.of_eq (hcn.block _ rs1.lt (by omega))); have m6 := ht; clear ht; simp only [Act.put, List.setIfInBounds_toArray, List.set_cons_zero, List.set_cons_succ])
  refine wpList_nil ?_
  replace m6 : AtB 68 _ b_m6 (imgC c (.slice none 0 0)) := m6
  have qm6 := m6.lt
  have k1 : w.heap.size ≤ b_r2 := by omega
  have k2 : b_r2 < b_c3 := by have := r2.lt; omega
  have k3 : b_c3 < b_r4 := by have := c3.lt; omega
  have k4 : b_r4 < b_m6 := by have := r4.lt; omega
  obtain ⟨b0, hb0⟩ : ∃ n, n = wn.heap.size := ⟨_, rfl⟩
  have k5 : b_m6 < b0 := by omega
  have k6 : b0 ≤ wn.heap.size := by omega
  have od : OwnE pxE b0 (.slice none 0 0) ((imgL c ks).take 0) wn := OwnE.nil b0 wn
  clear hb0 qm6
  go_upto_region 6 with fail
  refine wp_region_lit ?_
  try simp only [List.getElem_toArray, List.getElem_cons_zero, List.getElem_cons_succ]
  refine wpList_chunk 3 (by kernel_rfl) ?_
  simp only [List.take_succ_cons, List.take_zero, List.drop_succ_cons, List.drop_zero, Nat.reduceAdd]
  repeat (first | go_big_quiet_skip | (go_big_quiet_want; first | (refine quiet_buildIm rfl c rfl ?_; simp only [Act.put, List.setIfInBounds_toArray, List.set_cons_zero, List.set_cons_succ]; go_big_quiet_on) | (refine quiet_buildSh rfl c _ _ _ rfl ?_; simp only [Act.put, List.setIfInBounds_toArray, List.set_cons_zero, List.set_cons_succ]; go_big_quiet_on) | (refine quiet_loadAny (t := 30) rfl _ _ _ rfl (fun w hw => run_load_B (ov_B r2 w hw) Try.isAgg30 (by kernel_rfl)) (by rfl) ?_; simp only [Act.put, List.setIfInBounds_toArray, List.set_cons_zero, List.set_cons_succ]; go_big_quiet_on) | (refine quiet_loadAny (t := 64) rfl _ _ _ rfl (fun w hw => run_load_B (ov_B c3 w hw) Try.isAgg64 (by kernel_rfl)) (by rfl) ?_; simp only [Act.put, List.setIfInBounds_toArray, List.set_cons_zero, List.set_cons_succ]; go_big_quiet_on) | (refine quiet_loadPx rfl _ rfl (ov_px p9) ?_; simp only [Act.put, List.setIfInBounds_toArray, List.set_cons_zero, List.set_cons_succ]; go_big_quiet_on) | (refine quiet_loadAny (t := 66) rfl _ _ _ rfl (fun w hw => run_load_slp (imgC_u (ov_B m6 w hw))) (by first | rfl | omega) ?_; simp only [Act.put, List.setIfInBounds_toArray, List.set_cons_zero, List.set_cons_succ]; go_big_quiet_on) | (refine quiet_loadAny (t := 68) rfl _ _ _ rfl (fun w hw => run_load_img (ov_B m6 w hw)) (by first | rfl | omega) ?_; simp only [Act.put, List.setIfInBounds_toArray, List.set_cons_zero, List.set_cons_succ]; go_big_quiet_on) | (refine quiet_loadAny (t := 3) rfl _ _ _ rfl (fun w hw => run_load_int ((ov_B c3 w hw).cellL 0 rfl)) (by rfl) ?_; simp only [Act.put, List.setIfInBounds_toArray, List.set_cons_zero, List.set_cons_succ]; go_big_quiet_on) | (refine quiet_loadAny (t := 3) rfl _ _ _ rfl (fun w hw => run_load_int ((ov_B c3 w hw).cellL 1 rfl)) (by rfl) ?_; simp only [Act.put, List.setIfInBounds_toArray, List.set_cons_zero, List.set_cons_succ]; go_big_quiet_on) | (refine quiet_loadAny (t := 3) rfl _ _ _ rfl (fun w hw => run_load_int ((ov_B c3 w hw).cellL 2 rfl)) (by rfl) ?_; simp only [Act.put, List.setIfInBounds_toArray, List.set_cons_zero, List.set_cons_succ]; go_big_quiet_on) | (refine quiet_loadAny (t := 3) rfl _ _ _ rfl (fun w hw => run_load_int ((ov_B c3 w hw).cellL 3 rfl)) (by rfl) ?_; simp only [Act.put, List.setIfInBounds_toArray, List.set_cons_zero, List.set_cons_succ]; go_big_quiet_on) | (go_big_quiet_op; go_big_quiet_on)))
  refine wpQuiet_nil ?_
  refine wpList_nil ?_
  go_wp2
  go_loopw [7, 8, 9] (fun yv _ _ wr => ∃ (k n cp : Nat) (ad : Option Addr), k ≤ H ∧ yv = .int .i64 (c.y0 + (k : Int)) ∧ n = W * k ∧ Below w.heap.size w wr ∧ b0 ≤ wr.heap.size ∧ AtB 30 wr b_r2 #[.slice a' ks.length c'] ∧ AtB 64 wr b_c3 (rcA c) ∧ AtB 72 wr b_r4 (shC Rc.zero (.slice none 0 0) 0) ∧ AtB 68 wr b_m6 (imgC c (.slice ad n cp)) ∧ OwnE pxE b0 (.slice ad n cp) ((imgL c ks).take n) wr) (fun yv _ _ _ => (c.y1 - intOf yv).toNat)
  case atStart => exact ⟨0, 0, 0, none, by omega, by simp, by simp, B, k6, r2, c3, r4, m6, od⟩
  case round =>
    clear B r2 c3 r4 m6 od k6
    obtain ⟨k, n, cp, ad, hk, rfl, hnk, B, k6, r2, c3, r4, m6, od⟩ := hrel
    by_cases hkH : k < H
    · have q1 : decide (c.y0 + (k : Int) < c.y1) = true := decide_eq_true (by omega)
      have hn2 : W * k + W ≤ W * H := by
        have := Nat.mul_le_mul_left W (show k + 1 ≤ H from hkH)
        rw [Nat.mul_succ] at this
        exact this
      have hYk := Lib.hid (rfl : k = k)
      go_upto_region 7 with fail
      refine wp_region_lit ?_
      try simp only [List.getElem_toArray, List.getElem_cons_zero, List.getElem_cons_succ]
      refine wpList_chunk 4 (by kernel_rfl) ?_
      simp only [List.take_succ_cons, List.take_zero, List.drop_succ_cons, List.drop_zero, Nat.reduceAdd]
      repeat (first | go_big_quiet_skip | (go_big_quiet_want; first | (refine quiet_buildIm rfl c rfl ?_; simp only [Act.put, List.setIfInBounds_toArray, List.set_cons_zero, List.set_cons_succ]; go_big_quiet_on) | (refine quiet_buildSh rfl c _ _ _ rfl ?_; simp only [Act.put, List.setIfInBounds_toArray, List.set_cons_zero, List.set_cons_succ]; go_big_quiet_on) | (refine quiet_loadAny (t := 30) rfl _ _ _ rfl (fun w hw => run_load_B (ov_B r2 w hw) Try.isAgg30 (by kernel_rfl)) (by rfl) ?_; simp only [Act.put, List.setIfInBounds_toArray, List.set_cons_zero, List.set_cons_succ]; go_big_quiet_on) | (refine quiet_loadAny (t := 64) rfl _ _ _ rfl (fun w hw => run_load_B (ov_B c3 w hw) Try.isAgg64 (by kernel_rfl)) (by rfl) ?_; simp only [Act.put, List.setIfInBounds_toArray, List.set_cons_zero, List.set_cons_succ]; go_big_quiet_on) | (refine quiet_loadPx rfl _ rfl (ov_px p9) ?_; simp only [Act.put, List.setIfInBounds_toArray, List.set_cons_zero, List.set_cons_succ]; go_big_quiet_on) | (refine quiet_loadAny (t := 66) rfl _ _ _ rfl (fun w hw => run_load_slp (imgC_u (ov_B m6 w hw))) (by first | rfl | omega) ?_; simp only [Act.put, List.setIfInBounds_toArray, List.set_cons_zero, List.set_cons_succ]; go_big_quiet_on) | (refine quiet_loadAny (t := 68) rfl _ _ _ rfl (fun w hw => run_load_img (ov_B m6 w hw)) (by first | rfl | omega) ?_; simp only [Act.put, List.setIfInBounds_toArray, List.set_cons_zero, List.set_cons_succ]; go_big_quiet_on) | (refine quiet_loadAny (t := 3) rfl _ _ _ rfl (fun w hw => run_load_int ((ov_B c3 w hw).cellL 0 rfl)) (by rfl) ?_; simp only [Act.put, List.setIfInBounds_toArray, List.set_cons_zero, List.set_cons_succ]; go_big_quiet_on) | (refine quiet_loadAny (t := 3) rfl _ _ _ rfl (fun w hw => run_load_int ((ov_B c3 w hw).cellL 1 rfl)) (by rfl) ?_; simp only [Act.put, List.setIfInBounds_toArray, List.set_cons_zero, List.set_cons_succ]; go_big_quiet_on) | (refine quiet_loadAny (t := 3) rfl _ _ _ rfl (fun w hw => run_load_int ((ov_B c3 w hw).cellL 2 rfl)) (by rfl) ?_; simp only [Act.put, List.setIfInBounds_toArray, List.set_cons_zero, List.set_cons_succ]; go_big_quiet_on) | (refine quiet_loadAny (t := 3) rfl _ _ _ rfl (fun w hw => run_load_int ((ov_B c3 w hw).cellL 3 rfl)) (by rfl) ?_; simp only [Act.put, List.setIfInBounds_toArray, List.set_cons_zero, List.set_cons_succ]; go_big_quiet_on) | (go_big_quiet_op; go_big_quiet_on)))
      refine wpQuiet_nil ?_
      refine wpList_nil ?_
      go_upto_region 9 with fail
      refine wp_region_lit ?_
      try simp only [List.getElem_toArray, List.getElem_cons_zero, List.getElem_cons_succ]
      refine wpList_chunk 3 (by kernel_rfl) ?_
      simp only [List.take_succ_cons, List.take_zero, List.drop_succ_cons, List.drop_zero, Nat.reduceAdd]
      repeat (first | go_big_quiet_skip | (go_big_quiet_want; first | (refine quiet_buildIm rfl c rfl ?_; simp only [Act.put, List.setIfInBounds_toArray, List.set_cons_zero, List.set_cons_succ]; go_big_quiet_on) | (refine quiet_buildSh rfl c _ _ _ rfl ?_; simp only [Act.put, List.setIfInBounds_toArray, List.set_cons_zero, List.set_cons_succ]; go_big_quiet_on) | (refine quiet_loadAny (t := 30) rfl _ _ _ rfl (fun w hw => run_load_B (ov_B r2 w hw) Try.isAgg30 (by kernel_rfl)) (by rfl) ?_; simp only [Act.put, List.setIfInBounds_toArray, List.set_cons_zero, List.set_cons_succ]; go_big_quiet_on) | (refine quiet_loadAny (t := 64) rfl _ _ _ rfl (fun w hw => run_load_B (ov_B c3 w hw) Try.isAgg64 (by kernel_rfl)) (by rfl) ?_; simp only [Act.put, List.setIfInBounds_toArray, List.set_cons_zero, List.set_cons_succ]; go_big_quiet_on) | (refine quiet_loadPx rfl _ rfl (ov_px p9) ?_; simp only [Act.put, List.setIfInBounds_toArray, List.set_cons_zero, List.set_cons_succ]; go_big_quiet_on) | (refine quiet_loadAny (t := 66) rfl _ _ _ rfl (fun w hw => run_load_slp (imgC_u (ov_B m6 w hw))) (by first | rfl | omega) ?_; simp only [Act.put, List.setIfInBounds_toArray, List.set_cons_zero, List.set_cons_succ]; go_big_quiet_on) | (refine quiet_loadAny (t := 68) rfl _ _ _ rfl (fun w hw => run_load_img (ov_B m6 w hw)) (by first | rfl | omega) ?_; simp only [Act.put, List.setIfInBounds_toArray, List.set_cons_zero, List.set_cons_succ]; go_big_quiet_on) | (refine quiet_loadAny (t := 3) rfl _ _ _ rfl (fun w hw => run_load_int ((ov_B c3 w hw).cellL 0 rfl)) (by rfl) ?_; simp only [Act.put, List.setIfInBounds_toArray, List.set_cons_zero, List.set_cons_succ]; go_big_quiet_on) | (refine quiet_loadAny (t := 3) rfl _ _ _ rfl (fun w hw => run_load_int ((ov_B c3 w hw).cellL 1 rfl)) (by rfl) ?_; simp only [Act.put, List.setIfInBounds_toArray, List.set_cons_zero, List.set_cons_succ]; go_big_quiet_on) | (refine quiet_loadAny (t := 3) rfl _ _ _ rfl (fun w hw => run_load_int ((ov_B c3 w hw).cellL 2 rfl)) (by rfl) ?_; simp only [Act.put, List.setIfInBounds_toArray, List.set_cons_zero, List.set_cons_succ]; go_big_quiet_on) | (refine quiet_loadAny (t := 3) rfl _ _ _ rfl (fun w hw => run_load_int ((ov_B c3 w hw).cellL 3 rfl)) (by rfl) ?_; simp only [Act.put, List.setIfInBounds_toArray, List.set_cons_zero, List.set_cons_succ]; go_big_quiet_on) | (go_big_quiet_op; go_big_quiet_on)))
      refine wpQuiet_nil ?_
      refine wpList_nil ?_
      go_wp2
      go_loopw [8, 9] (fun xv _ wr => ∃ (j n cp : Nat) (ad : Option Addr), j ≤ W ∧ xv = .int .i64 (c.x0 + (j : Int)) ∧ n = W * k + j ∧ Below w.heap.size w wr ∧ b0 ≤ wr.heap.size ∧ AtB 30 wr b_r2 #[.slice a' ks.length c'] ∧ AtB 64 wr b_c3 (rcA c) ∧ AtB 72 wr b_r4 (shC Rc.zero (.slice none 0 0) 0) ∧ AtB 68 wr b_m6 (imgC c (.slice ad n cp)) ∧ OwnE pxE b0 (.slice ad n cp) ((imgL c ks).take n) wr) (fun xv _ _ => (c.x1 - intOf xv).toNat)
      case atStart => exact ⟨0, n, cp, ad, by omega, by simp, by omega, B, k6, r2, c3, r4, m6, od⟩
      case round =>
        clear B r2 c3 r4 m6 od k6 hnk
        obtain ⟨j, n, cp, ad, hj, rfl, hnj, B, k6, r2, c3, r4, m6, od⟩ := hrel
        by_cases hjW : j < W
        · have q2 : decide (c.x0 + (j : Int) < c.x1) = true := decide_eq_true (by omega)
          have hna : n < areaN c := by omega
          have hol : ((imgL c ks).take n).length = n := by rw [List.length_take, HLN.out]; omega
          have wX : (Lit.int .i64 (c.x0 + (j : Int))).wf = true := wf_mk (by omega) (by omega)
          have wY : (Lit.int .i64 (c.y0 + (k : Int))).wf = true := wf_mk (by omega) (by omega)
          have hpx := HR.out k j hjW
          have HNXT := Lib.hid (show (imgL c ks).take (n + 1) = (imgL c ks).take n ++ [getL ks (c.x0 + (j : Int)) (c.y0 + (k : Int))] by
            have := HNX.out n hna
            rw [hnj] at this ⊢
            rw [hpx.1, hpx.2] at this
            exact this)
          have rsk := (HT.out _ B).2
          clear hpx
          go_upto_region 10 with fail
          refine wp_region_lit ?_
          try simp only [List.getElem_toArray, List.getElem_cons_zero, List.getElem_cons_succ]
          refine wpList_chunk 4 (by kernel_rfl) ?_
          simp only [List.take_succ_cons, List.take_zero, List.drop_succ_cons, List.drop_zero, Nat.reduceAdd]
          repeat (first | go_big_quiet_skip | (go_big_quiet_want; first | (refine quiet_buildIm rfl c rfl ?_; simp only [Act.put, List.setIfInBounds_toArray, List.set_cons_zero, List.set_cons_succ]; go_big_quiet_on) | (refine quiet_buildSh rfl c _ _ _ rfl ?_; simp only [Act.put, List.setIfInBounds_toArray, List.set_cons_zero, List.set_cons_succ]; go_big_quiet_on) | (refine quiet_loadAny (t := 30) rfl _ _ _ rfl (fun w hw => run_load_B (ov_B r2 w hw) Try.isAgg30 (by kernel_rfl)) (by rfl) ?_; simp only [Act.put, List.setIfInBounds_toArray, List.set_cons_zero, List.set_cons_succ]; go_big_quiet_on) | (refine quiet_loadAny (t := 64) rfl _ _ _ rfl (fun w hw => run_load_B (ov_B c3 w hw) Try.isAgg64 (by kernel_rfl)) (by rfl) ?_; simp only [Act.put, List.setIfInBounds_toArray, List.set_cons_zero, List.set_cons_succ]; go_big_quiet_on) | (refine quiet_loadPx rfl _ rfl (ov_px p9) ?_; simp only [Act.put, List.setIfInBounds_toArray, List.set_cons_zero, List.set_cons_succ]; go_big_quiet_on) | (refine quiet_loadAny (t := 66) rfl _ _ _ rfl (fun w hw => run_load_slp (imgC_u (ov_B m6 w hw))) (by first | rfl | omega) ?_; simp only [Act.put, List.setIfInBounds_toArray, List.set_cons_zero, List.set_cons_succ]; go_big_quiet_on) | (refine quiet_loadAny (t := 68) rfl _ _ _ rfl (fun w hw => run_load_img (ov_B m6 w hw)) (by first | rfl | omega) ?_; simp only [Act.put, List.setIfInBounds_toArray, List.set_cons_zero, List.set_cons_succ]; go_big_quiet_on) | (refine quiet_loadAny (t := 3) rfl _ _ _ rfl (fun w hw => run_load_int ((ov_B c3 w hw).cellL 0 rfl)) (by rfl) ?_; simp only [Act.put, List.setIfInBounds_toArray, List.set_cons_zero, List.set_cons_succ]; go_big_quiet_on) | (refine quiet_loadAny (t := 3) rfl _ _ _ rfl (fun w hw => run_load_int ((ov_B c3 w hw).cellL 1 rfl)) (by rfl) ?_; simp only [Act.put, List.setIfInBounds_toArray, List.set_cons_zero, List.set_cons_succ]; go_big_quiet_on) | (refine quiet_loadAny (t := 3) rfl _ _ _ rfl (fun w hw => run_load_int ((ov_B c3 w hw).cellL 2 rfl)) (by rfl) ?_; simp only [Act.put, List.setIfInBounds_toArray, List.set_cons_zero, List.set_cons_succ]; go_big_quiet_on) | (refine quiet_loadAny (t := 3) rfl _ _ _ rfl (fun w hw => run_load_int ((ov_B c3 w hw).cellL 3 rfl)) (by rfl) ?_; simp only [Act.put, List.setIfInBounds_toArray, List.set_cons_zero, List.set_cons_succ]; go_big_quiet_on) | (go_big_quiet_op; go_big_quiet_on)))
          refine wpQuiet_nil ?_
          refine wpList_nil ?_
          go_upto_region 12 with fail
          refine wp_region_lit ?_
          try simp only [List.getElem_toArray, List.getElem_cons_zero, List.getElem_cons_succ]
          refine wpList_chunk 3 (by kernel_rfl) ?_
          simp only [List.take_succ_cons, List.take_zero, List.drop_succ_cons, List.drop_zero, Nat.reduceAdd]
          repeat (first | go_big_quiet_skip | (go_big_quiet_want; first | (refine quiet_buildIm rfl c rfl ?_; simp only [Act.put, List.setIfInBounds_toArray, List.set_cons_zero, List.set_cons_succ]; go_big_quiet_on) | (refine quiet_buildSh rfl c _ _ _ rfl ?_; simp only [Act.put, List.setIfInBounds_toArray, List.set_cons_zero, List.set_cons_succ]; go_big_quiet_on) | (refine quiet_loadAny (t := 30) rfl _ _ _ rfl (fun w hw => run_load_B (ov_B r2 w hw) Try.isAgg30 (by kernel_rfl)) (by rfl) ?_; simp only [Act.put, List.setIfInBounds_toArray, List.set_cons_zero, List.set_cons_succ]; go_big_quiet_on) | (refine quiet_loadAny (t := 64) rfl _ _ _ rfl (fun w hw => run_load_B (ov_B c3 w hw) Try.isAgg64 (by kernel_rfl)) (by rfl) ?_; simp only [Act.put, List.setIfInBounds_toArray, List.set_cons_zero, List.set_cons_succ]; go_big_quiet_on) | (refine quiet_loadPx rfl _ rfl (ov_px p9) ?_; simp only [Act.put, List.setIfInBounds_toArray, List.set_cons_zero, List.set_cons_succ]; go_big_quiet_on) | (refine quiet_loadAny (t := 66) rfl _ _ _ rfl (fun w hw => run_load_slp (imgC_u (ov_B m6 w hw))) (by first | rfl | omega) ?_; simp only [Act.put, List.setIfInBounds_toArray, List.set_cons_zero, List.set_cons_succ]; go_big_quiet_on) | (refine quiet_loadAny (t := 68) rfl _ _ _ rfl (fun w hw => run_load_img (ov_B m6 w hw)) (by first | rfl | omega) ?_; simp only [Act.put, List.setIfInBounds_toArray, List.set_cons_zero, List.set_cons_succ]; go_big_quiet_on) | (refine quiet_loadAny (t := 3) rfl _ _ _ rfl (fun w hw => run_load_int ((ov_B c3 w hw).cellL 0 rfl)) (by rfl) ?_; simp only [Act.put, List.setIfInBounds_toArray, List.set_cons_zero, List.set_cons_succ]; go_big_quiet_on) | (refine quiet_loadAny (t := 3) rfl _ _ _ rfl (fun w hw => run_load_int ((ov_B c3 w hw).cellL 1 rfl)) (by rfl) ?_; simp only [Act.put, List.setIfInBounds_toArray, List.set_cons_zero, List.set_cons_succ]; go_big_quiet_on) | (refine quiet_loadAny (t := 3) rfl _ _ _ rfl (fun w hw => run_load_int ((ov_B c3 w hw).cellL 2 rfl)) (by rfl) ?_; simp only [Act.put, List.setIfInBounds_toArray, List.set_cons_zero, List.set_cons_succ]; go_big_quiet_on) | (refine quiet_loadAny (t := 3) rfl _ _ _ rfl (fun w hw => run_load_int ((ov_B c3 w hw).cellL 3 rfl)) (by rfl) ?_; simp only [Act.put, List.setIfInBounds_toArray, List.set_cons_zero, List.set_cons_succ]; go_big_quiet_on) | (go_big_quiet_op; go_big_quiet_on)))
          refine wpQuiet_nil ?_
          refine wpList_callF (by first | rfl | simp [Region.wanted, yielded]) rfl (enters_of Try.func21 (by kernel_rfl) rfl) (by simp only [List.map_toArray, List.map_cons, List.map_nil, Act.eval, Array.getD_eq_getD_getElem?, List.getElem?_toArray, List.getElem?_cons_succ, List.getElem?_cons_zero, Option.getD_some]; rfl) ?_
          refine (R_GetR _ ks (c.x0 + (j : Int)) (c.y0 + (k : Int)) _ rsk (by unfold maxLen; omega) wX wY).mono ?_
          rintro e wn ⟨rfl, hbn⟩
          have hsz := B.size
          have hzn := hbn.size
          replace B := B.trans (hbn.mono B.size)
          (try first | replace r2 := r2.of_eq (hbn.block _ r2.lt) | replace r2 := r2.below hbn)
          (try first | replace c3 := c3.of_eq (hbn.block _ c3.lt) | replace c3 := c3.below hbn)
          (try first | replace r4 := r4.of_eq (hbn.block _ r4.lt) | replace r4 := r4.below hbn)
          (try first | replace m6 := m6.of_eq (hbn.block _ m6.lt) | replace m6 := m6.below hbn)
          replace od := od.below hbn
          refine ⟨_, rfl, ?_⟩
          simp only [Act.put, List.setIfInBounds_toArray, List.set_cons_zero, List.set_cons_succ]
          (refine wpList_allocPx' rfl rfl ?_; intro b_p9 wn hle hge ht hbn hzn; have HOB := Lib.hid od.ownltE; replace od := od.below (hbn.mono hle); have hsz := B.size; replace B := B.trans (hbn.mono (by omega)); have hln := Nat.lt_of_lt_of_eq (Nat.lt_succ_self _) hzn.symm; clear hzn; (try first | (have hlt := r2.lt; replace r2 := r2.of_eq (hbn.block _ (by omega))) | replace r2 := r2.below (hbn.mono hle)); (try first | (have hlt := c3.lt; replace c3 := c3.of_eq (hbn.block _ (by omega))) | replace c3 := c3.below (hbn.mono hle)); (try first | (have hlt := r4.lt; replace r4 := r4.of_eq (hbn.block _ (by omega))) | replace r4 := r4.below (hbn.mono hle)); (try first | (have hlt := m6.lt; replace m6 := m6.of_eq (hbn.block _ (by omega))) | replace m6 := m6.below (hbn.mono hle)); have p9 := ht; clear ht; simp only [Act.put, List.setIfInBounds_toArray, List.set_cons_zero, List.set_cons_succ])
          (refine wpList_storePx rfl _ _ rfl _ rfl (_) rfl p9 ?_; clear p9; intro wn ht hcn hzn; have hsz := B.size; replace hzn := Nat.le_of_eq hzn.symm; replace B := Chg.below B hcn (by omega) B.size; (try replace r2 := r2.of_eq (hcn.block _ r2.lt (by omega))); (try replace c3 := c3.of_eq (hcn.block _ c3.lt (by omega))); (try replace r4 := r4.of_eq (hcn.block _ r4.lt (by omega))); (try replace m6 := m6.of_eq (hcn.block _ m6.lt (by omega))); replace od := od.chgB hcn (fun kk hkk => by have := HOB.out kk hkk; omega); have p9 := ht; clear ht; simp only [Act.put, List.setIfInBounds_toArray, List.set_cons_zero, List.set_cons_succ])
          refine wpList_nil ?_
          go_upto_region 13 with fail
          refine wp_region_lit ?_
          try simp only [List.getElem_toArray, List.getElem_cons_zero, List.getElem_cons_succ]
          refine wpList_chunk 3 (by kernel_rfl) ?_
          simp only [List.take_succ_cons, List.take_zero, List.drop_succ_cons, List.drop_zero, Nat.reduceAdd]
          repeat (first | go_big_quiet_skip | (go_big_quiet_want; first | (refine quiet_buildIm rfl c rfl ?_; simp only [Act.put, List.setIfInBounds_toArray, List.set_cons_zero, List.set_cons_succ]; go_big_quiet_on) | (refine quiet_buildSh rfl c _ _ _ rfl ?_; simp only [Act.put, List.setIfInBounds_toArray, List.set_cons_zero, List.set_cons_succ]; go_big_quiet_on) | (refine quiet_loadAny (t := 30) rfl _ _ _ rfl (fun w hw => run_load_B (ov_B r2 w hw) Try.isAgg30 (by kernel_rfl)) (by rfl) ?_; simp only [Act.put, List.setIfInBounds_toArray, List.set_cons_zero, List.set_cons_succ]; go_big_quiet_on) | (refine quiet_loadAny (t := 64) rfl _ _ _ rfl (fun w hw => run_load_B (ov_B c3 w hw) Try.isAgg64 (by kernel_rfl)) (by rfl) ?_; simp only [Act.put, List.setIfInBounds_toArray, List.set_cons_zero, List.set_cons_succ]; go_big_quiet_on) | (refine quiet_loadPx rfl _ rfl (ov_px p9) ?_; simp only [Act.put, List.setIfInBounds_toArray, List.set_cons_zero, List.set_cons_succ]; go_big_quiet_on) | (refine quiet_loadAny (t := 66) rfl _ _ _ rfl (fun w hw => run_load_slp (imgC_u (ov_B m6 w hw))) (by first | rfl | omega) ?_; simp only [Act.put, List.setIfInBounds_toArray, List.set_cons_zero, List.set_cons_succ]; go_big_quiet_on) | (refine quiet_loadAny (t := 68) rfl _ _ _ rfl (fun w hw => run_load_img (ov_B m6 w hw)) (by first | rfl | omega) ?_; simp only [Act.put, List.setIfInBounds_toArray, List.set_cons_zero, List.set_cons_succ]; go_big_quiet_on) | (refine quiet_loadAny (t := 3) rfl _ _ _ rfl (fun w hw => run_load_int ((ov_B c3 w hw).cellL 0 rfl)) (by rfl) ?_; simp only [Act.put, List.setIfInBounds_toArray, List.set_cons_zero, List.set_cons_succ]; go_big_quiet_on) | (refine quiet_loadAny (t := 3) rfl _ _ _ rfl (fun w hw => run_load_int ((ov_B c3 w hw).cellL 1 rfl)) (by rfl) ?_; simp only [Act.put, List.setIfInBounds_toArray, List.set_cons_zero, List.set_cons_succ]; go_big_quiet_on) | (refine quiet_loadAny (t := 3) rfl _ _ _ rfl (fun w hw => run_load_int ((ov_B c3 w hw).cellL 2 rfl)) (by rfl) ?_; simp only [Act.put, List.setIfInBounds_toArray, List.set_cons_zero, List.set_cons_succ]; go_big_quiet_on) | (refine quiet_loadAny (t := 3) rfl _ _ _ rfl (fun w hw => run_load_int ((ov_B c3 w hw).cellL 3 rfl)) (by rfl) ?_; simp only [Act.put, List.setIfInBounds_toArray, List.set_cons_zero, List.set_cons_succ]; go_big_quiet_on) | (go_big_quiet_op; go_big_quiet_on)))
          refine wpQuiet_nil ?_
          (refine wpList_bs1E (E := pxE) rfl _ rfl (getL ks (c.x0 + (j : Int)) (c.y0 + (k : Int))) rfl (by omega) ?_; intro b_s1 wn hle hge ht hbn hzn; replace od := od.below (hbn.mono hle); have hsz := B.size; replace B := B.trans (hbn.mono (by omega)); have hln := Nat.lt_of_lt_of_eq (Nat.lt_succ_self _) hzn.symm; clear hzn; (try first | (have hlt := r2.lt; replace r2 := r2.of_eq (hbn.block _ (by omega))) | replace r2 := r2.below (hbn.mono hle)); (try first | (have hlt := c3.lt; replace c3 := c3.of_eq (hbn.block _ (by omega))) | replace c3 := c3.below (hbn.mono hle)); (try first | (have hlt := r4.lt; replace r4 := r4.of_eq (hbn.block _ (by omega))) | replace r4 := r4.below (hbn.mono hle)); (try first | (have hlt := m6.lt; replace m6 := m6.of_eq (hbn.block _ (by omega))) | replace m6 := m6.below (hbn.mono hle)); (try first | (have hlt := p9.lt; replace p9 := p9.of_eq (hbn.block _ (by omega))) | replace p9 := p9.below (hbn.mono hle)); have s1 := ht; clear ht; simp only [Act.put, List.setIfInBounds_toArray, List.set_cons_zero, List.set_cons_succ])
          (at_builtin; refine wpList_appendE rfl _ _ rfl _ _ rfl rfl od (RSE.one s1) (by simp only [List.length_cons, List.length_nil]; omega) (by omega) ?_; intro v_od wn ht hbn; have hsz := B.size; have hbz := hbn.size; replace B := B.trans (hbn.mono (by omega)); clear od; (try replace r2 := r2.of_eq (hbn.block _ (by omega))); (try replace c3 := c3.of_eq (hbn.block _ (by omega))); (try replace r4 := r4.of_eq (hbn.block _ (by omega))); (try replace m6 := m6.of_eq (hbn.block _ (by omega))); (try replace p9 := p9.of_eq (hbn.block _ (by omega))); have od := ht; clear ht; obtain ⟨a_od, c_od, hv, hco⟩ := od.len; rw [List.length_append, hol] at hv; subst hv; simp only [Act.put, List.setIfInBounds_toArray, List.set_cons_zero, List.set_cons_succ])
          refine wpList_chunk 1 (by kernel_rfl) ?_
          simp only [List.take_succ_cons, List.take_zero, List.drop_succ_cons, List.drop_zero, Nat.reduceAdd]
          repeat (first | go_big_quiet_skip | (go_big_quiet_want; first | (refine quiet_buildIm rfl c rfl ?_; simp only [Act.put, List.setIfInBounds_toArray, List.set_cons_zero, List.set_cons_succ]; go_big_quiet_on) | (refine quiet_buildSh rfl c _ _ _ rfl ?_; simp only [Act.put, List.setIfInBounds_toArray, List.set_cons_zero, List.set_cons_succ]; go_big_quiet_on) | (refine quiet_loadAny (t := 30) rfl _ _ _ rfl (fun w hw => run_load_B (ov_B r2 w hw) Try.isAgg30 (by kernel_rfl)) (by rfl) ?_; simp only [Act.put, List.setIfInBounds_toArray, List.set_cons_zero, List.set_cons_succ]; go_big_quiet_on) | (refine quiet_loadAny (t := 64) rfl _ _ _ rfl (fun w hw => run_load_B (ov_B c3 w hw) Try.isAgg64 (by kernel_rfl)) (by rfl) ?_; simp only [Act.put, List.setIfInBounds_toArray, List.set_cons_zero, List.set_cons_succ]; go_big_quiet_on) | (refine quiet_loadPx rfl _ rfl (ov_px p9) ?_; simp only [Act.put, List.setIfInBounds_toArray, List.set_cons_zero, List.set_cons_succ]; go_big_quiet_on) | (refine quiet_loadAny (t := 66) rfl _ _ _ rfl (fun w hw => run_load_slp (imgC_u (ov_B m6 w hw))) (by first | rfl | omega) ?_; simp only [Act.put, List.setIfInBounds_toArray, List.set_cons_zero, List.set_cons_succ]; go_big_quiet_on) | (refine quiet_loadAny (t := 68) rfl _ _ _ rfl (fun w hw => run_load_img (ov_B m6 w hw)) (by first | rfl | omega) ?_; simp only [Act.put, List.setIfInBounds_toArray, List.set_cons_zero, List.set_cons_succ]; go_big_quiet_on) | (refine quiet_loadAny (t := 3) rfl _ _ _ rfl (fun w hw => run_load_int ((ov_B c3 w hw).cellL 0 rfl)) (by rfl) ?_; simp only [Act.put, List.setIfInBounds_toArray, List.set_cons_zero, List.set_cons_succ]; go_big_quiet_on) | (refine quiet_loadAny (t := 3) rfl _ _ _ rfl (fun w hw => run_load_int ((ov_B c3 w hw).cellL 1 rfl)) (by rfl) ?_; simp only [Act.put, List.setIfInBounds_toArray, List.set_cons_zero, List.set_cons_succ]; go_big_quiet_on) | (refine quiet_loadAny (t := 3) rfl _ _ _ rfl (fun w hw => run_load_int ((ov_B c3 w hw).cellL 2 rfl)) (by rfl) ?_; simp only [Act.put, List.setIfInBounds_toArray, List.set_cons_zero, List.set_cons_succ]; go_big_quiet_on) | (refine quiet_loadAny (t := 3) rfl _ _ _ rfl (fun w hw => run_load_int ((ov_B c3 w hw).cellL 3 rfl)) (by rfl) ?_; simp only [Act.put, List.setIfInBounds_toArray, List.set_cons_zero, List.set_cons_succ]; go_big_quiet_on) | (go_big_quiet_op; go_big_quiet_on)))
          refine wpQuiet_nil ?_
          (refine wpList_storeU rfl _ _ rfl _ rfl _ _ _ rfl m6 ?_; clear m6; intro wn ht hcn hzn; have hsz := B.size; replace hzn := Nat.le_of_eq hzn.symm; replace B := Chg.below B hcn (by omega) B.size; (try replace r2 := r2.of_eq (hcn.block _ r2.lt (by omega))); (try replace c3 := c3.of_eq (hcn.block _ c3.lt (by omega))); (try replace r4 := r4.of_eq (hcn.block _ r4.lt (by omega))); (try replace p9 := p9.of_eq (hcn.block _ p9.lt (by omega))); replace od := od.chg hcn (by omega); have m6 := ht; clear ht; simp only [Act.put, List.setIfInBounds_toArray, List.set_cons_zero, List.set_cons_succ])
          refine wpList_nil ?_
          go_wp2
          go_roundw
          case rel => exact ⟨j + 1, n + 1, _, _, by omega, by go_num, by omega, B, by omega, r2, c3, r4, m6, by rw [HNXT.out]; exact od⟩
          case measure => simp [intOf]; omega
        · obtain rfl : j = W := by omega
          have q2 : decide (c.x0 + (j : Int) < c.x1) = false := decide_eq_false (by omega)
          go_upto_region 10 with fail
          refine wp_region_lit ?_
          try simp only [List.getElem_toArray, List.getElem_cons_zero, List.getElem_cons_succ]
          refine wpList_chunk 4 (by kernel_rfl) ?_
          simp only [List.take_succ_cons, List.take_zero, List.drop_succ_cons, List.drop_zero, Nat.reduceAdd]
          repeat (first | go_big_quiet_skip | (go_big_quiet_want; first | (refine quiet_buildIm rfl c rfl ?_; simp only [Act.put, List.setIfInBounds_toArray, List.set_cons_zero, List.set_cons_succ]; go_big_quiet_on) | (refine quiet_buildSh rfl c _ _ _ rfl ?_; simp only [Act.put, List.setIfInBounds_toArray, List.set_cons_zero, List.set_cons_succ]; go_big_quiet_on) | (refine quiet_loadAny (t := 30) rfl _ _ _ rfl (fun w hw => run_load_B (ov_B r2 w hw) Try.isAgg30 (by kernel_rfl)) (by rfl) ?_; simp only [Act.put, List.setIfInBounds_toArray, List.set_cons_zero, List.set_cons_succ]; go_big_quiet_on) | (refine quiet_loadAny (t := 64) rfl _ _ _ rfl (fun w hw => run_load_B (ov_B c3 w hw) Try.isAgg64 (by kernel_rfl)) (by rfl) ?_; simp only [Act.put, List.setIfInBounds_toArray, List.set_cons_zero, List.set_cons_succ]; go_big_quiet_on) | (refine quiet_loadPx rfl _ rfl (ov_px p9) ?_; simp only [Act.put, List.setIfInBounds_toArray, List.set_cons_zero, List.set_cons_succ]; go_big_quiet_on) | (refine quiet_loadAny (t := 66) rfl _ _ _ rfl (fun w hw => run_load_slp (imgC_u (ov_B m6 w hw))) (by first | rfl | omega) ?_; simp only [Act.put, List.setIfInBounds_toArray, List.set_cons_zero, List.set_cons_succ]; go_big_quiet_on) | (refine quiet_loadAny (t := 68) rfl _ _ _ rfl (fun w hw => run_load_img (ov_B m6 w hw)) (by first | rfl | omega) ?_; simp only [Act.put, List.setIfInBounds_toArray, List.set_cons_zero, List.set_cons_succ]; go_big_quiet_on) | (refine quiet_loadAny (t := 3) rfl _ _ _ rfl (fun w hw => run_load_int ((ov_B c3 w hw).cellL 0 rfl)) (by rfl) ?_; simp only [Act.put, List.setIfInBounds_toArray, List.set_cons_zero, List.set_cons_succ]; go_big_quiet_on) | (refine quiet_loadAny (t := 3) rfl _ _ _ rfl (fun w hw => run_load_int ((ov_B c3 w hw).cellL 1 rfl)) (by rfl) ?_; simp only [Act.put, List.setIfInBounds_toArray, List.set_cons_zero, List.set_cons_succ]; go_big_quiet_on) | (refine quiet_loadAny (t := 3) rfl _ _ _ rfl (fun w hw => run_load_int ((ov_B c3 w hw).cellL 2 rfl)) (by rfl) ?_; simp only [Act.put, List.setIfInBounds_toArray, List.set_cons_zero, List.set_cons_succ]; go_big_quiet_on) | (refine quiet_loadAny (t := 3) rfl _ _ _ rfl (fun w hw => run_load_int ((ov_B c3 w hw).cellL 3 rfl)) (by rfl) ?_; simp only [Act.put, List.setIfInBounds_toArray, List.set_cons_zero, List.set_cons_succ]; go_big_quiet_on) | (go_big_quiet_op; go_big_quiet_on)))
          refine wpQuiet_nil ?_
          refine wpList_nil ?_
          go_wp2
          go_roundw
          case rel => exact ⟨k + 1, n, cp, ad, by omega, by go_num, by rw [hnj, Nat.mul_succ], B, k6, r2, c3, r4, m6, od⟩
          case measure => simp [intOf]; omega
    · obtain rfl : k = H := by omega
      have q1 : decide (c.y0 + (k : Int) < c.y1) = false := decide_eq_false (by omega)
      go_upto_region 7 with fail
      refine wp_region_lit ?_
      try simp only [List.getElem_toArray, List.getElem_cons_zero, List.getElem_cons_succ]
      refine wpList_chunk 4 (by kernel_rfl) ?_
      simp only [List.take_succ_cons, List.take_zero, List.drop_succ_cons, List.drop_zero, Nat.reduceAdd]
      repeat (first | go_big_quiet_skip | (go_big_quiet_want; first | (refine quiet_buildIm rfl c rfl ?_; simp only [Act.put, List.setIfInBounds_toArray, List.set_cons_zero, List.set_cons_succ]; go_big_quiet_on) | (refine quiet_buildSh rfl c _ _ _ rfl ?_; simp only [Act.put, List.setIfInBounds_toArray, List.set_cons_zero, List.set_cons_succ]; go_big_quiet_on) | (refine quiet_loadAny (t := 30) rfl _ _ _ rfl (fun w hw => run_load_B (ov_B r2 w hw) Try.isAgg30 (by kernel_rfl)) (by rfl) ?_; simp only [Act.put, List.setIfInBounds_toArray, List.set_cons_zero, List.set_cons_succ]; go_big_quiet_on) | (refine quiet_loadAny (t := 64) rfl _ _ _ rfl (fun w hw => run_load_B (ov_B c3 w hw) Try.isAgg64 (by kernel_rfl)) (by rfl) ?_; simp only [Act.put, List.setIfInBounds_toArray, List.set_cons_zero, List.set_cons_succ]; go_big_quiet_on) | (refine quiet_loadPx rfl _ rfl (ov_px p9) ?_; simp only [Act.put, List.setIfInBounds_toArray, List.set_cons_zero, List.set_cons_succ]; go_big_quiet_on) | (refine quiet_loadAny (t := 66) rfl _ _ _ rfl (fun w hw => run_load_slp (imgC_u (ov_B m6 w hw))) (by first | rfl | omega) ?_; simp only [Act.put, List.setIfInBounds_toArray, List.set_cons_zero, List.set_cons_succ]; go_big_quiet_on) | (refine quiet_loadAny (t := 68) rfl _ _ _ rfl (fun w hw => run_load_img (ov_B m6 w hw)) (by first | rfl | omega) ?_; simp only [Act.put, List.setIfInBounds_toArray, List.set_cons_zero, List.set_cons_succ]; go_big_quiet_on) | (refine quiet_loadAny (t := 3) rfl _ _ _ rfl (fun w hw => run_load_int ((ov_B c3 w hw).cellL 0 rfl)) (by rfl) ?_; simp only [Act.put, List.setIfInBounds_toArray, List.set_cons_zero, List.set_cons_succ]; go_big_quiet_on) | (refine quiet_loadAny (t := 3) rfl _ _ _ rfl (fun w hw => run_load_int ((ov_B c3 w hw).cellL 1 rfl)) (by rfl) ?_; simp only [Act.put, List.setIfInBounds_toArray, List.set_cons_zero, List.set_cons_succ]; go_big_quiet_on) | (refine quiet_loadAny (t := 3) rfl _ _ _ rfl (fun w hw => run_load_int ((ov_B c3 w hw).cellL 2 rfl)) (by rfl) ?_; simp only [Act.put, List.setIfInBounds_toArray, List.set_cons_zero, List.set_cons_succ]; go_big_quiet_on) | (refine quiet_loadAny (t := 3) rfl _ _ _ rfl (fun w hw => run_load_int ((ov_B c3 w hw).cellL 3 rfl)) (by rfl) ?_; simp only [Act.put, List.setIfInBounds_toArray, List.set_cons_zero, List.set_cons_succ]; go_big_quiet_on) | (go_big_quiet_op; go_big_quiet_on)))
      refine wpQuiet_nil ?_
      refine wpList_nil ?_
      go_upto_region 14 with fail
      refine wp_region_lit ?_
      try simp only [List.getElem_toArray, List.getElem_cons_zero, List.getElem_cons_succ]
      refine wpList_chunk 2 (by kernel_rfl) ?_
      simp only [List.take_succ_cons, List.take_zero, List.drop_succ_cons, List.drop_zero, Nat.reduceAdd]
      repeat (first | go_big_quiet_skip | (go_big_quiet_want; first | (refine quiet_buildIm rfl c rfl ?_; simp only [Act.put, List.setIfInBounds_toArray, List.set_cons_zero, List.set_cons_succ]; go_big_quiet_on) | (refine quiet_buildSh rfl c _ _ _ rfl ?_; simp only [Act.put, List.setIfInBounds_toArray, List.set_cons_zero, List.set_cons_succ]; go_big_quiet_on) | (refine quiet_loadAny (t := 30) rfl _ _ _ rfl (fun w hw => run_load_B (ov_B r2 w hw) Try.isAgg30 (by kernel_rfl)) (by rfl) ?_; simp only [Act.put, List.setIfInBounds_toArray, List.set_cons_zero, List.set_cons_succ]; go_big_quiet_on) | (refine quiet_loadAny (t := 64) rfl _ _ _ rfl (fun w hw => run_load_B (ov_B c3 w hw) Try.isAgg64 (by kernel_rfl)) (by rfl) ?_; simp only [Act.put, List.setIfInBounds_toArray, List.set_cons_zero, List.set_cons_succ]; go_big_quiet_on) | (refine quiet_loadPx rfl _ rfl (ov_px p9) ?_; simp only [Act.put, List.setIfInBounds_toArray, List.set_cons_zero, List.set_cons_succ]; go_big_quiet_on) | (refine quiet_loadAny (t := 66) rfl _ _ _ rfl (fun w hw => run_load_slp (imgC_u (ov_B m6 w hw))) (by first | rfl | omega) ?_; simp only [Act.put, List.setIfInBounds_toArray, List.set_cons_zero, List.set_cons_succ]; go_big_quiet_on) | (refine quiet_loadAny (t := 68) rfl _ _ _ rfl (fun w hw => run_load_img (ov_B m6 w hw)) (by first | rfl | omega) ?_; simp only [Act.put, List.setIfInBounds_toArray, List.set_cons_zero, List.set_cons_succ]; go_big_quiet_on) | (refine quiet_loadAny (t := 3) rfl _ _ _ rfl (fun w hw => run_load_int ((ov_B c3 w hw).cellL 0 rfl)) (by rfl) ?_; simp only [Act.put, List.setIfInBounds_toArray, List.set_cons_zero, List.set_cons_succ]; go_big_quiet_on) | (refine quiet_loadAny (t := 3) rfl _ _ _ rfl (fun w hw => run_load_int ((ov_B c3 w hw).cellL 1 rfl)) (by rfl) ?_; simp only [Act.put, List.setIfInBounds_toArray, List.set_cons_zero, List.set_cons_succ]; go_big_quiet_on) | (refine quiet_loadAny (t := 3) rfl _ _ _ rfl (fun w hw => run_load_int ((ov_B c3 w hw).cellL 2 rfl)) (by rfl) ?_; simp only [Act.put, List.setIfInBounds_toArray, List.set_cons_zero, List.set_cons_succ]; go_big_quiet_on) | (refine quiet_loadAny (t := 3) rfl _ _ _ rfl (fun w hw => run_load_int ((ov_B c3 w hw).cellL 3 rfl)) (by rfl) ?_; simp only [Act.put, List.setIfInBounds_toArray, List.set_cons_zero, List.set_cons_succ]; go_big_quiet_on) | (go_big_quiet_op; go_big_quiet_on)))
      refine wpQuiet_nil ?_
      (refine wpList_storeB (t := 72) rfl _ _ rfl _ rfl _ rfl r4 (by kernel_rfl) rfl (by simp [rcA, imgC, shC, Value.oneCell']) ?_; have r4o := r4; clear r4; intro wn ht hcn hzn; (try replace rs1 := rs1.chg r4o (by simp [rcA, imgC, shC]) hcn); have hsz := B.size; replace hzn := Nat.le_of_eq hzn.symm; replace B := Chg.below B hcn (by omega) B.size; (try replace r2 := r2.of_eq (hcn.block _ r2.lt (by omega))); (try replace c3 := c3.of_eq (hcn.block _ c3.lt (by omega))); (try replace m6 := m6.of_eq (hcn.block _ m6.lt (by omega))); (try replace p9 := p9.of_eq (hcn.block _ p9.lt (by omega))); (try replace s1 := s1.of_eq (hcn.block _ s1.lt (by omega))); (try replace rs1 := rs1.of_eq (hcn.block _ rs1.lt (by omega))); replace od := od.chg hcn (by omega); have r4 := ht; clear ht; simp only [Act.put, List.setIfInBounds_toArray, List.set_cons_zero, List.set_cons_succ])
      refine wpList_nil ?_
      go_wp2
      refine bodyPost_ret (results_B (t := 72) rfl _ _ (b_r4) rfl r4 Try.isAgg72 (by kernel_rfl)) rfl ?_
      refine ⟨_, rfl, ?_, B⟩
      have e : (imgL c ks).take n = imgL c ks := List.take_of_length_le (by rw [HLN.out]; omega)
      rw [e] at od
      exact od.rs
end Go.Proofs.Ytppccnjckiedlaa
/- Image of both packages, whether the rectangle fits or not. -/
namespace Go.Proofs.Ytppccnjckiedlaa
open Go.RowKit Go.Shelf Pl
set_option linter.unusedVariables false
set_option linter.unusedSimpArgs false
set_option maxRecDepth 20000
def imR (c : Rc) : Rc := if fitsE c = 0 then c else Rc.zero
def imLs (c : Rc) (ks : List TA) : List Px := if fitsE c = 0 then imgL c ks else []
theorem imLs_len (c : Rc) (ks : List TA) : (imLs c ks).length ≤ 65536 := by
  unfold imLs
  split
  · rename_i h
    rw [imgL_len]
    exact (area_bd (fitsE_zero h)).2
  · simp
theorem P_ImageA (v : Value) (ls : List TA) (c : Rc) (w : World) (h : RS v ls w) (tk : TokL ls) (hn : ls.length ≤ maxLen) : Calls Try.prog 33 #[.agg #[v], Rc.v c] w fun e w' => ∃ a cp, e = .returned (.tuple #[.agg (imgC (imR c) (.slice a (imLs c (fineL ls)).length cp)), .int .i64 (fitsE c)]) ∧ RSE pxE (.slice a (imLs c (fineL ls)).length cp) (imLs c (fineL ls)) w' ∧ Below w.heap.size w w' := by
  by_cases hE : fitsE c = 0
  · refine (P_Image_ok v ls c w h tk hn hE).mono fun e w' ⟨u, he, hr, hb⟩ => ?_
    have e1 : imR c = c := if_pos hE
    have e2 : imLs c (fineL ls) = imgL c (fineL ls) := if_pos hE
    rw [imgPL_eq (fitsE_zero hE) (fineL_valid ls)] at hr
    rw [e1, e2, hE]
    obtain ⟨a, cp, rfl, _⟩ := hr.len
    exact ⟨a, cp, he, hr, hb⟩
  · refine (P_Image_no v ls c w h hE).mono fun e w' ⟨he, hb⟩ => ?_
    have e1 : imR c = Rc.zero := if_neg hE
    have e2 : imLs c (fineL ls) = [] := if_neg hE
    rw [e1, e2]
    exact ⟨none, 0, he, RSE.nil w', hb⟩
theorem R_ImageA (v : Value) (ls : List TA) (c : Rc) (w : World) (h : RS v ls w) (tk : TokL ls) (hn : ls.length ≤ maxLen) : Calls Try.prog 34 #[.agg #[v], Rc.v c] w fun e w' => ∃ a cp, e = .returned (.agg (shC (imR c) (.slice a (imLs c (fineL ls)).length cp) (fitsE c))) ∧ RSE pxE (.slice a (imLs c (fineL ls)).length cp) (imLs c (fineL ls)) w' ∧ Below w.heap.size w w' := by
  by_cases hE : fitsE c = 0
  · refine (R_Image_ok v ls c w h tk hn hE).mono fun e w' ⟨u, he, hr, hb⟩ => ?_
    have e1 : imR c = c := if_pos hE
    have e2 : imLs c (fineL ls) = imgL c (fineL ls) := if_pos hE
    rw [e1, e2, hE]
    obtain ⟨a, cp, rfl, _⟩ := hr.len
    exact ⟨a, cp, he, hr, hb⟩
  · refine (R_Image_no v ls c w h hE).mono fun e w' ⟨he, hb⟩ => ?_
    have e1 : imR c = Rc.zero := if_neg hE
    have e2 : imLs c (fineL ls) = [] := if_neg hE
    rw [e1, e2]
    exact ⟨none, 0, he, RSE.nil w', hb⟩
theorem near_fits (c : Rc) : fitsE (nearR c) = 0 := by
  have := nearR_bd c
  unfold fitsE
  rw [if_pos ((validR_iff _).2 ⟨⟨by omega, by omega⟩, by omega, by omega, by omega, by omega⟩), if_neg (by omega)]
theorem run_load_she {w : World} {b : Nat} {c : Rc} {u : Value} {n : Int} (h : AtB 72 w b (shC c u n)) : (Instr.loadAt 46 (.pointer (some ⟨b, 5, none⟩))).run Try.prog w = .ok (.int .i64 n) w := run_load_err (h.cell 5 rfl)
theorem run_load_shi {w : World} {b : Nat} {c : Rc} {u : Value} {n : Int} (h : AtB 72 w b (shC c u n)) : (Instr.loadAt 68 (.pointer (some ⟨b, 0, none⟩))).run Try.prog w = .ok (.agg (imgC c u)) w :=
  run_load_BP (cs' := imgC c u) h 0 Try.isAgg68 (by kernel_rfl) (fun j hj => by
    have hj : j < 5 := hj
    have hc : j = 0 ∨ j = 1 ∨ j = 2 ∨ j = 3 ∨ j = 4 := by omega
    rcases hc with rfl | rfl | rfl | rfl | rfl <;> rfl)
/-- The third coordinate of a rectangle stored. -/
theorem wpList_storeX1 {ops : Array Oper} {rest : List Oper} {o : Oper} {a : Act} {w : World} {Q : Exit → Act → World → Prop} (hg : o.guard = none) (x y : Operand) (ho : o.op = .store 3 x y) (b : Nat) (hx : a.eval x = .pointer (some ⟨b, 2, none⟩)) (n : Int) (hy : a.eval y = .int .i64 n) {c : Rc} (ht : AtB 64 w b (rcA c))
    (h : ∀ w', AtB 64 w' b (rcA ⟨c.x0, c.y0, n, c.y1⟩) → Chg b w w' → w'.heap.size = w.heap.size → wpList Try.prog ops Q rest (a.put o.dst undef) w') : wpList Try.prog ops Q (o :: rest) a w := by
  have e : AtB 64 (w.setCell ⟨b, 2, none⟩ (.int .i64 n)) b (rcA ⟨c.x0, c.y0, n, c.y1⟩) := by
    have e1 : (rcA c).setIfInBounds 2 (.int .i64 n) = rcA ⟨c.x0, c.y0, n, c.y1⟩ := rfl
    unfold AtB
    rw [← e1]
    exact heap_setCell_same _ _ _ _ _ _ ht
  refine wpList_storeAny hg x y ho _ ?_ (h _ e ((Chg.refl b w).setCell _) (by simp only [World.size_setCell]))
  rw [hx, hy]
  have c0 : w.cell? ⟨b, 2, none⟩ = some (.int .i64 c.x1) := ht.cell 2 rfl
  have f0 := ht.frozen 2
  simp [go_sem, c0, f0]
end Go.Proofs.Ytppccnjckiedlaa
/- The pixel at a column and a row of a rectangle. -/
namespace Go.Proofs.Ytppccnjckiedlaa
open Go.RowKit Go.Shelf Pl
theorem px_xy {c : Rc} (hf : Fits c) {X Y : Nat} (hX : (X : Int) < c.x1 - c.x0) (hY : (Y : Int) < c.y1 - c.y0) : ∃ k : Nat, (k : Int) = (Y : Int) * (c.x1 - c.x0) + (X : Int) ∧ k < areaN c ∧ pxX c k = c.x0 + X ∧ pxY c k = c.y0 + Y := by
  obtain ⟨ea, hw⟩ := area_wid hf
  have hwi : c.x1 - c.x0 = (widN c : Int) := by unfold widN; have := hf.h1; omega
  have hX' : X < widN c := by omega
  refine ⟨Y * widN c + X, by rw [hwi]; simp, ?_, ?_, ?_⟩
  · have h : (Y + 1) * widN c ≤ (c.y1 - c.y0).toNat * widN c := Nat.mul_le_mul_right _ (by omega)
    rw [Nat.add_mul, Nat.one_mul] at h
    rw [ea, Nat.mul_comm (widN c)]
    omega
  · unfold pxX
    rw [Nat.add_comm, Nat.add_mul_mod_self_right, Nat.mod_eq_of_lt hX']
  · unfold pxY
    rw [Nat.add_comm, Nat.add_mul_div_right _ _ hw, Nat.div_eq_of_lt hX', Nat.zero_add]
end Go.Proofs.Ytppccnjckiedlaa
/- RasterImage: for every raster and rectangle, Image agrees with the reference and with Get; the law returns true for every input, and its arguments read as they did. No condition. -/
namespace Go.Proofs.Ytppccnjckiedlaa
open Go.RowKit Go.Shelf Pl
set_option linter.unusedVariables false
set_option linter.unusedSimpArgs false
set_option maxRecDepth 20000
theorem R_AreaV (r : Rc) (w : World) (hv : validR r = true) : Calls Try.prog 36 #[.agg (rcA r)] w fun e w' => e = .returned (.int .i64 (areaR r)) ∧ Below w.heap.size w w' := R_Area r w hv
theorem R_ValidRB (r : Rc) (b : Bool) (w : World) (e : validR r = b) : Calls Try.prog 35 #[.agg (rcA r)] w fun e w' => e = .returned (.bool b) ∧ Below w.heap.size w w' := e ▸ R_ValidR r w
theorem P_GetB (v : Value) (ls : List TA) (x y : Int) (p : Px) (w : World) (h : RS v ls w) (hn : ls.length ≤ maxLen) (hx : (Lit.int .i64 x).wf = true) (hy : (Lit.int .i64 y).wf = true) (e1 : getL ls x y = p) : Calls Try.prog 20 #[.agg #[v], .int .i64 x, .int .i64 y] w fun e w' => e = .returned (Px.v p) ∧ Below w.heap.size w w' := e1 ▸ P_GetR v ls x y w h hn hx hy
theorem neqs_px (p : Px) (w : World) : (binOp .neq 37 (Px.v p) (Px.v p)).run Try.prog w = .ok (.bool false) w := by rw [neq_px, decide_eq_true rfl]; rfl
theorem tmod_nat {a b : Int} (ha : 0 ≤ a) (hb : 0 < b) : ∃ X : Nat, a.tmod b = X ∧ (X : Int) < b := by
  have e := Int.tmod_eq_emod_of_nonneg (b := b) ha
  have h1 := Int.emod_nonneg a (show b ≠ 0 by omega)
  have h2 := Int.emod_lt_of_pos a hb
  exact ⟨(a % b).toNat, by rw [e]; omega, by omega⟩
theorem P_ImageN (v : Value) (ls : List TA) (c : Rc) (w : World) (h : RS v ls w) (tk : TokL ls) (hn : ls.length ≤ maxLen) (hv : validL ls = true) (hE : fitsE c = 0) : Calls Try.prog 33 #[.agg #[v], .agg (rcA c)] w fun e w' => ∃ a cp, e = .returned (.tuple #[.agg (imgC c (.slice a (areaN c) cp)), .int .i64 0]) ∧ RSE pxE (.slice a (areaN c) cp) (imgL c ls) w' ∧ Below w.heap.size w w' := by
  refine (P_Image_ok v ls c w h tk hn hE).mono fun e w' ⟨u, he, hr, hb⟩ => ?_
  rw [imgPL_eq (fitsE_zero hE) (fineL_valid ls), fineL_of hv] at hr
  obtain ⟨a, cp, rfl, _⟩ := hr.len
  rw [imgL_len] at he hr
  exact ⟨a, cp, he, hr, hb⟩
def nu8 : Value → Bool
  | .int .u8 _ => false
  | _ => true
theorem RSE.chgS {v : Value} {L : List Px} {t : TypeId} {b : Nat} {cs : Array Value} {w w' : World} (h : RSE pxE v L w) (hb : AtB t w b cs) (hc : Chg b w w') (hs : cs.all nu8 = true) : RSE pxE v L w' := by
  rcases h with h | ⟨g, o, c, e, hl, sc⟩ | h
  · exact .inl h
  · refine .inr (.inl ⟨g, o, c, e, hl, fun hn => (sc hn).of_eq (hc.block _ (sc hn).lt ?_)⟩)
    rintro rfl
    have hx : L[0]? = some L[0] := List.getElem?_eq_getElem hn
    have h1 := (sc hn).2 0 _ hx 0 (by omega)
    simp only [Nat.zero_mul, Nat.add_zero] at h1
    rw [(cells_of_block hb).1] at h1
    have h2 : cs[o]? = some (.int .u8 L[0].r) := h1
    have h3 := Array.all_eq_true_iff_forall_mem.1 hs _ (Array.mem_of_getElem? h2)
    simp [nu8] at h3
  · exact .inr (.inr h)
set_option maxHeartbeats 16000000 in
theorem walk_RasterImage (q : RawQ) (vL vT : Value) (L T : List Int) (c : Rc) (x0 y0 : Int) (hc : (Lit.int .i64 c.x0).wf = true ∧ (Lit.int .i64 c.y0).wf = true ∧ (Lit.int .i64 c.x1).wf = true ∧ (Lit.int .i64 c.y1).wf = true) (hw : (Lit.int .i64 x0).wf = true ∧ (Lit.int .i64 y0).wf = true) (w : World) (hL : RSE inE vL L w) (hLn : L.length ≤ 17592186044416) (hT : RSE inE vT T w) (hTn : T.length ≤ 17592186044416) :
    Calls Try.prog 7 #[.agg #[vL, .int .i64 q.at_, .int .i64 q.px, .int .i64 q.py, vT, .int .i64 q.how], Rc.v c, .agg #[.int .i64 x0, .int .i64 y0]] w fun e w' => e = .returned (.bool true) ∧ Below w.heap.size w w' := by
  have B := Below.refl w.heap.size w
  have HL := Lib.hid hL
  have HT := Lib.hid hT
  clear hL hT
  have HN := Lib.hid (len_maxLen (Nat.le_trans (ofL_len q L T) (by omega)))
  have HM := Lib.hid (len_maxLen (Nat.le_trans (madeL_len L) (by omega)))
  simp only [Rc.v_A]
  go_enter Try.func7, Try.ntmps7
  go_upto_region 0 with fail
  refine wp_region_lit ?_
  try simp only [List.getElem_toArray, List.getElem_cons_zero, List.getElem_cons_succ]
  (refine wpList_boxB (t := 26) rfl _ rfl _ rfl ?_; intro b_q3 wn hle hge ht hbn hzn; have hsz := B.size; replace B := B.trans (hbn.mono (by omega)); have hln := Nat.lt_of_lt_of_eq (Nat.lt_succ_self _) hzn.symm; clear hzn; (try first | (have hlt := q3.lt; replace q3 := q3.of_eq (hbn.block _ (by omega))) | replace q3 := q3.below (hbn.mono hle)); (try first | (have hlt := c4.lt; replace c4 := c4.of_eq (hbn.block _ (by omega))) | replace c4 := c4.below (hbn.mono hle)); (try first | (have hlt := a5.lt; replace a5 := a5.of_eq (hbn.block _ (by omega))) | replace a5 := a5.below (hbn.mono hle)); (try first | (have hlt := r8.lt; replace r8 := r8.of_eq (hbn.block _ (by omega))) | replace r8 := r8.below (hbn.mono hle)); (try first | (have hlt := r9.lt; replace r9 := r9.of_eq (hbn.block _ (by omega))) | replace r9 := r9.below (hbn.mono hle)); (try first | (have hlt := d10.lt; replace d10 := d10.of_eq (hbn.block _ (by omega))) | replace d10 := d10.below (hbn.mono hle)); (try first | (have hlt := m11.lt; replace m11 := m11.of_eq (hbn.block _ (by omega))) | replace m11 := m11.below (hbn.mono hle)); (try first | (have hlt := g13.lt; replace g13 := g13.of_eq (hbn.block _ (by omega))) | replace g13 := g13.below (hbn.mono hle)); (try first | (have hlt := f14.lt; replace f14 := f14.of_eq (hbn.block _ (by omega))) | replace f14 := f14.below (hbn.mono hle)); (try first | (have hlt := w15.lt; replace w15 := w15.of_eq (hbn.block _ (by omega))) | replace w15 := w15.below (hbn.mono hle)); (try first | (have hlt := h17.lt; replace h17 := h17.of_eq (hbn.block _ (by omega))) | replace h17 := h17.below (hbn.mono hle)); (try first | (have hlt := n18.lt; replace n18 := n18.of_eq (hbn.block _ (by omega))) | replace n18 := n18.below (hbn.mono hle)); (try first | (have hlt := rs1.lt; replace rs1 := rs1.of_eq (hbn.block _ (by omega))) | replace rs1 := rs1.below (hbn.mono hle)); (try first | (have hlt := rs2.lt; replace rs2 := rs2.of_eq (hbn.block _ (by omega))) | replace rs2 := rs2.below (hbn.mono hle)); (try first | (have hlt := e1.lt; replace e1 := e1.of_eq (hbn.block _ (by omega))) | replace e1 := e1.below (hbn.mono hle)); (try first | (have hlt := e2.lt; replace e2 := e2.of_eq (hbn.block _ (by omega))) | replace e2 := e2.below (hbn.mono hle)); (try first | (have hlt := e3.lt; replace e3 := e3.of_eq (hbn.block _ (by omega))) | replace e3 := e3.below (hbn.mono hle)); (try first | (have hlt := e4.lt; replace e4 := e4.of_eq (hbn.block _ (by omega))) | replace e4 := e4.below (hbn.mono hle)); (try first | (have hlt := e5.lt; replace e5 := e5.of_eq (hbn.block _ (by omega))) | replace e5 := e5.below (hbn.mono hle)); have q3 := ht; clear ht; simp only [Act.put, List.setIfInBounds_toArray, List.set_cons_zero, List.set_cons_succ])
  (refine wpList_boxB (t := 64) rfl _ rfl _ rfl ?_; intro b_c4 wn hle hge ht hbn hzn; have hsz := B.size; replace B := B.trans (hbn.mono (by omega)); have hln := Nat.lt_of_lt_of_eq (Nat.lt_succ_self _) hzn.symm; clear hzn; (try first | (have hlt := q3.lt; replace q3 := q3.of_eq (hbn.block _ (by omega))) | replace q3 := q3.below (hbn.mono hle)); (try first | (have hlt := c4.lt; replace c4 := c4.of_eq (hbn.block _ (by omega))) | replace c4 := c4.below (hbn.mono hle)); (try first | (have hlt := a5.lt; replace a5 := a5.of_eq (hbn.block _ (by omega))) | replace a5 := a5.below (hbn.mono hle)); (try first | (have hlt := r8.lt; replace r8 := r8.of_eq (hbn.block _ (by omega))) | replace r8 := r8.below (hbn.mono hle)); (try first | (have hlt := r9.lt; replace r9 := r9.of_eq (hbn.block _ (by omega))) | replace r9 := r9.below (hbn.mono hle)); (try first | (have hlt := d10.lt; replace d10 := d10.of_eq (hbn.block _ (by omega))) | replace d10 := d10.below (hbn.mono hle)); (try first | (have hlt := m11.lt; replace m11 := m11.of_eq (hbn.block _ (by omega))) | replace m11 := m11.below (hbn.mono hle)); (try first | (have hlt := g13.lt; replace g13 := g13.of_eq (hbn.block _ (by omega))) | replace g13 := g13.below (hbn.mono hle)); (try first | (have hlt := f14.lt; replace f14 := f14.of_eq (hbn.block _ (by omega))) | replace f14 := f14.below (hbn.mono hle)); (try first | (have hlt := w15.lt; replace w15 := w15.of_eq (hbn.block _ (by omega))) | replace w15 := w15.below (hbn.mono hle)); (try first | (have hlt := h17.lt; replace h17 := h17.of_eq (hbn.block _ (by omega))) | replace h17 := h17.below (hbn.mono hle)); (try first | (have hlt := n18.lt; replace n18 := n18.of_eq (hbn.block _ (by omega))) | replace n18 := n18.below (hbn.mono hle)); (try first | (have hlt := rs1.lt; replace rs1 := rs1.of_eq (hbn.block _ (by omega))) | replace rs1 := rs1.below (hbn.mono hle)); (try first | (have hlt := rs2.lt; replace rs2 := rs2.of_eq (hbn.block _ (by omega))) | replace rs2 := rs2.below (hbn.mono hle)); (try first | (have hlt := e1.lt; replace e1 := e1.of_eq (hbn.block _ (by omega))) | replace e1 := e1.below (hbn.mono hle)); (try first | (have hlt := e2.lt; replace e2 := e2.of_eq (hbn.block _ (by omega))) | replace e2 := e2.below (hbn.mono hle)); (try first | (have hlt := e3.lt; replace e3 := e3.of_eq (hbn.block _ (by omega))) | replace e3 := e3.below (hbn.mono hle)); (try first | (have hlt := e4.lt; replace e4 := e4.of_eq (hbn.block _ (by omega))) | replace e4 := e4.below (hbn.mono hle)); (try first | (have hlt := e5.lt; replace e5 := e5.of_eq (hbn.block _ (by omega))) | replace e5 := e5.below (hbn.mono hle)); have c4 := ht; clear ht; simp only [Act.put, List.setIfInBounds_toArray, List.set_cons_zero, List.set_cons_succ])
  (refine wpList_boxB (t := 43) rfl _ rfl _ rfl ?_; intro b_a5 wn hle hge ht hbn hzn; have hsz := B.size; replace B := B.trans (hbn.mono (by omega)); have hln := Nat.lt_of_lt_of_eq (Nat.lt_succ_self _) hzn.symm; clear hzn; (try first | (have hlt := q3.lt; replace q3 := q3.of_eq (hbn.block _ (by omega))) | replace q3 := q3.below (hbn.mono hle)); (try first | (have hlt := c4.lt; replace c4 := c4.of_eq (hbn.block _ (by omega))) | replace c4 := c4.below (hbn.mono hle)); (try first | (have hlt := a5.lt; replace a5 := a5.of_eq (hbn.block _ (by omega))) | replace a5 := a5.below (hbn.mono hle)); (try first | (have hlt := r8.lt; replace r8 := r8.of_eq (hbn.block _ (by omega))) | replace r8 := r8.below (hbn.mono hle)); (try first | (have hlt := r9.lt; replace r9 := r9.of_eq (hbn.block _ (by omega))) | replace r9 := r9.below (hbn.mono hle)); (try first | (have hlt := d10.lt; replace d10 := d10.of_eq (hbn.block _ (by omega))) | replace d10 := d10.below (hbn.mono hle)); (try first | (have hlt := m11.lt; replace m11 := m11.of_eq (hbn.block _ (by omega))) | replace m11 := m11.below (hbn.mono hle)); (try first | (have hlt := g13.lt; replace g13 := g13.of_eq (hbn.block _ (by omega))) | replace g13 := g13.below (hbn.mono hle)); (try first | (have hlt := f14.lt; replace f14 := f14.of_eq (hbn.block _ (by omega))) | replace f14 := f14.below (hbn.mono hle)); (try first | (have hlt := w15.lt; replace w15 := w15.of_eq (hbn.block _ (by omega))) | replace w15 := w15.below (hbn.mono hle)); (try first | (have hlt := h17.lt; replace h17 := h17.of_eq (hbn.block _ (by omega))) | replace h17 := h17.below (hbn.mono hle)); (try first | (have hlt := n18.lt; replace n18 := n18.of_eq (hbn.block _ (by omega))) | replace n18 := n18.below (hbn.mono hle)); (try first | (have hlt := rs1.lt; replace rs1 := rs1.of_eq (hbn.block _ (by omega))) | replace rs1 := rs1.below (hbn.mono hle)); (try first | (have hlt := rs2.lt; replace rs2 := rs2.of_eq (hbn.block _ (by omega))) | replace rs2 := rs2.below (hbn.mono hle)); (try first | (have hlt := e1.lt; replace e1 := e1.of_eq (hbn.block _ (by omega))) | replace e1 := e1.below (hbn.mono hle)); (try first | (have hlt := e2.lt; replace e2 := e2.of_eq (hbn.block _ (by omega))) | replace e2 := e2.below (hbn.mono hle)); (try first | (have hlt := e3.lt; replace e3 := e3.of_eq (hbn.block _ (by omega))) | replace e3 := e3.below (hbn.mono hle)); (try first | (have hlt := e4.lt; replace e4 := e4.of_eq (hbn.block _ (by omega))) | replace e4 := e4.below (hbn.mono hle)); (try first | (have hlt := e5.lt; replace e5 := e5.of_eq (hbn.block _ (by omega))) | replace e5 := e5.below (hbn.mono hle)); have a5 := ht; clear ht; simp only [Act.put, List.setIfInBounds_toArray, List.set_cons_zero, List.set_cons_succ])
  refine wpList_chunk 1 (by kernel_rfl) ?_
  simp only [List.take_succ_cons, List.take_zero, List.drop_succ_cons, List.drop_zero, Nat.reduceAdd]
  repeat (first | go_big_quiet_skip | (go_big_quiet_want; first | (go_big_quiet_op; go_big_quiet_on)))
  refine wpQuiet_nil ?_
  refine wpList_nil ?_
  go_upto_region 1 with fail
  refine wp_region_lit ?_
  try simp only [List.getElem_toArray, List.getElem_cons_zero, List.getElem_cons_succ]
  refine wpList_callF (by first | rfl | simp [Region.wanted, yielded]) rfl (enters_of Try.func14 (by kernel_rfl) rfl) (by simp only [List.map_toArray, List.map_cons, List.map_nil, Act.eval, Array.getD_eq_getD_getElem?, List.getElem?_toArray, List.getElem?_cons_succ, List.getElem?_cons_zero, Option.getD_some]; rfl) ?_
  refine (sanity08 _).mono ?_
  rintro e wn ⟨rfl, hbn⟩
  have hsz := B.size
  have hzn := hbn.size
  replace B := B.trans (hbn.mono B.size)
  (try first | replace q3 := q3.of_eq (hbn.block _ q3.lt) | replace q3 := q3.below hbn)
  (try first | replace c4 := c4.of_eq (hbn.block _ c4.lt) | replace c4 := c4.below hbn)
  (try first | replace a5 := a5.of_eq (hbn.block _ a5.lt) | replace a5 := a5.below hbn)
  (try first | replace r8 := r8.of_eq (hbn.block _ r8.lt) | replace r8 := r8.below hbn)
  (try first | replace r9 := r9.of_eq (hbn.block _ r9.lt) | replace r9 := r9.below hbn)
  (try first | replace d10 := d10.of_eq (hbn.block _ d10.lt) | replace d10 := d10.below hbn)
  (try first | replace m11 := m11.of_eq (hbn.block _ m11.lt) | replace m11 := m11.below hbn)
  (try first | replace g13 := g13.of_eq (hbn.block _ g13.lt) | replace g13 := g13.below hbn)
  (try first | replace f14 := f14.of_eq (hbn.block _ f14.lt) | replace f14 := f14.below hbn)
  (try first | replace w15 := w15.of_eq (hbn.block _ w15.lt) | replace w15 := w15.below hbn)
  (try first | replace h17 := h17.of_eq (hbn.block _ h17.lt) | replace h17 := h17.below hbn)
  (try first | replace n18 := n18.of_eq (hbn.block _ n18.lt) | replace n18 := n18.below hbn)
  (try first | replace rs1 := rs1.of_eq (hbn.block _ rs1.lt) | replace rs1 := rs1.below hbn)
  (try first | replace rs2 := rs2.of_eq (hbn.block _ rs2.lt) | replace rs2 := rs2.below hbn)
  (try first | replace e1 := e1.of_eq (hbn.block _ e1.lt) | replace e1 := e1.below hbn)
  (try first | replace e2 := e2.of_eq (hbn.block _ e2.lt) | replace e2 := e2.below hbn)
  (try first | replace e3 := e3.of_eq (hbn.block _ e3.lt) | replace e3 := e3.below hbn)
  (try first | replace e4 := e4.of_eq (hbn.block _ e4.lt) | replace e4 := e4.below hbn)
  (try first | replace e5 := e5.of_eq (hbn.block _ e5.lt) | replace e5 := e5.below hbn)
  refine ⟨_, rfl, ?_⟩
  simp only [Act.put, List.setIfInBounds_toArray, List.set_cons_zero, List.set_cons_succ]
  refine wpList_chunk 1 (by kernel_rfl) ?_
  simp only [List.take_succ_cons, List.take_zero, List.drop_succ_cons, List.drop_zero, Nat.reduceAdd]
  repeat (first | go_big_quiet_skip | (go_big_quiet_want; first | (go_big_quiet_op; go_big_quiet_on)))
  refine wpQuiet_nil ?_
  refine wpList_nil ?_
  go_upto_region 2 with fail
  refine wp_region_lit ?_
  try simp only [List.getElem_toArray, List.getElem_cons_zero, List.getElem_cons_succ]
  refine wpList_chunk 1 (by kernel_rfl) ?_
  simp only [List.take_succ_cons, List.take_zero, List.drop_succ_cons, List.drop_zero, Nat.reduceAdd]
  repeat (first | go_big_quiet_skip | (go_big_quiet_want; first | (refine quiet_loadAny (t := 26) rfl _ _ _ rfl (fun w hw => run_load_B (ov_B q3 w hw) Try.isAgg26 (by kernel_rfl)) (by rfl) ?_; simp only [Act.put, List.setIfInBounds_toArray, List.set_cons_zero, List.set_cons_succ]; go_big_quiet_on) | (go_big_quiet_op; go_big_quiet_on)))
  refine wpQuiet_nil ?_
  refine wpList_callF (by first | rfl | simp [Region.wanted, yielded]) rfl (enters_of Try.func15 (by kernel_rfl) rfl) (by simp only [List.map_toArray, List.map_cons, List.map_nil, Act.eval, Array.getD_eq_getD_getElem?, List.getElem?_toArray, List.getElem?_cons_succ, List.getElem?_cons_zero, Option.getD_some]; rfl) ?_
  refine (L_ofO q _ _ L T _ (HL.out.below B) hLn (HT.out.below B) hTn).mono ?_
  rintro e wn ⟨a1, c1, rfl, rs1, hbn⟩
  have hsz := B.size
  have hzn := hbn.size
  replace B := B.trans (hbn.mono B.size)
  (try first | replace q3 := q3.of_eq (hbn.block _ q3.lt) | replace q3 := q3.below hbn)
  (try first | replace c4 := c4.of_eq (hbn.block _ c4.lt) | replace c4 := c4.below hbn)
  (try first | replace a5 := a5.of_eq (hbn.block _ a5.lt) | replace a5 := a5.below hbn)
  (try first | replace r8 := r8.of_eq (hbn.block _ r8.lt) | replace r8 := r8.below hbn)
  (try first | replace r9 := r9.of_eq (hbn.block _ r9.lt) | replace r9 := r9.below hbn)
  (try first | replace d10 := d10.of_eq (hbn.block _ d10.lt) | replace d10 := d10.below hbn)
  (try first | replace m11 := m11.of_eq (hbn.block _ m11.lt) | replace m11 := m11.below hbn)
  (try first | replace g13 := g13.of_eq (hbn.block _ g13.lt) | replace g13 := g13.below hbn)
  (try first | replace f14 := f14.of_eq (hbn.block _ f14.lt) | replace f14 := f14.below hbn)
  (try first | replace w15 := w15.of_eq (hbn.block _ w15.lt) | replace w15 := w15.below hbn)
  (try first | replace h17 := h17.of_eq (hbn.block _ h17.lt) | replace h17 := h17.below hbn)
  (try first | replace n18 := n18.of_eq (hbn.block _ n18.lt) | replace n18 := n18.below hbn)
  (try first | replace rs1 := rs1.of_eq (hbn.block _ rs1.lt) | replace rs1 := rs1.below hbn)
  (try first | replace rs2 := rs2.of_eq (hbn.block _ rs2.lt) | replace rs2 := rs2.below hbn)
  (try first | replace e1 := e1.of_eq (hbn.block _ e1.lt) | replace e1 := e1.below hbn)
  (try first | replace e2 := e2.of_eq (hbn.block _ e2.lt) | replace e2 := e2.below hbn)
  (try first | replace e3 := e3.of_eq (hbn.block _ e3.lt) | replace e3 := e3.below hbn)
  (try first | replace e4 := e4.of_eq (hbn.block _ e4.lt) | replace e4 := e4.below hbn)
  (try first | replace e5 := e5.of_eq (hbn.block _ e5.lt) | replace e5 := e5.below hbn)
  refine ⟨_, rfl, ?_⟩
  simp only [Act.put, List.setIfInBounds_toArray, List.set_cons_zero, List.set_cons_succ]
  (refine wpList_allocBk (t := 30) rfl _ (run_alloc_R _ _ rfl) ?_; intro b_r8 wn hle hge ht hbn hzn; have hsz := B.size; replace B := B.trans (hbn.mono (by omega)); have hln := Nat.lt_of_lt_of_eq (Nat.lt_succ_self _) hzn.symm; clear hzn; (try first | (have hlt := q3.lt; replace q3 := q3.of_eq (hbn.block _ (by omega))) | replace q3 := q3.below (hbn.mono hle)); (try first | (have hlt := c4.lt; replace c4 := c4.of_eq (hbn.block _ (by omega))) | replace c4 := c4.below (hbn.mono hle)); (try first | (have hlt := a5.lt; replace a5 := a5.of_eq (hbn.block _ (by omega))) | replace a5 := a5.below (hbn.mono hle)); (try first | (have hlt := r8.lt; replace r8 := r8.of_eq (hbn.block _ (by omega))) | replace r8 := r8.below (hbn.mono hle)); (try first | (have hlt := r9.lt; replace r9 := r9.of_eq (hbn.block _ (by omega))) | replace r9 := r9.below (hbn.mono hle)); (try first | (have hlt := d10.lt; replace d10 := d10.of_eq (hbn.block _ (by omega))) | replace d10 := d10.below (hbn.mono hle)); (try first | (have hlt := m11.lt; replace m11 := m11.of_eq (hbn.block _ (by omega))) | replace m11 := m11.below (hbn.mono hle)); (try first | (have hlt := g13.lt; replace g13 := g13.of_eq (hbn.block _ (by omega))) | replace g13 := g13.below (hbn.mono hle)); (try first | (have hlt := f14.lt; replace f14 := f14.of_eq (hbn.block _ (by omega))) | replace f14 := f14.below (hbn.mono hle)); (try first | (have hlt := w15.lt; replace w15 := w15.of_eq (hbn.block _ (by omega))) | replace w15 := w15.below (hbn.mono hle)); (try first | (have hlt := h17.lt; replace h17 := h17.of_eq (hbn.block _ (by omega))) | replace h17 := h17.below (hbn.mono hle)); (try first | (have hlt := n18.lt; replace n18 := n18.of_eq (hbn.block _ (by omega))) | replace n18 := n18.below (hbn.mono hle)); (try first | (have hlt := rs1.lt; replace rs1 := rs1.of_eq (hbn.block _ (by omega))) | replace rs1 := rs1.below (hbn.mono hle)); (try first | (have hlt := rs2.lt; replace rs2 := rs2.of_eq (hbn.block _ (by omega))) | replace rs2 := rs2.below (hbn.mono hle)); (try first | (have hlt := e1.lt; replace e1 := e1.of_eq (hbn.block _ (by omega))) | replace e1 := e1.below (hbn.mono hle)); (try first | (have hlt := e2.lt; replace e2 := e2.of_eq (hbn.block _ (by omega))) | replace e2 := e2.below (hbn.mono hle)); (try first | (have hlt := e3.lt; replace e3 := e3.of_eq (hbn.block _ (by omega))) | replace e3 := e3.below (hbn.mono hle)); (try first | (have hlt := e4.lt; replace e4 := e4.of_eq (hbn.block _ (by omega))) | replace e4 := e4.below (hbn.mono hle)); (try first | (have hlt := e5.lt; replace e5 := e5.of_eq (hbn.block _ (by omega))) | replace e5 := e5.below (hbn.mono hle)); have r8 := ht; clear ht; simp only [Act.put, List.setIfInBounds_toArray, List.set_cons_zero, List.set_cons_succ])
  (refine wpList_storeB (t := 30) rfl _ _ rfl _ rfl _ rfl r8 (by kernel_rfl) rfl (by simp [rcA, imgC, shC, Value.oneCell']) ?_; have r8o := r8; clear r8; intro wn ht hcn hzn; (try replace e5 := e5.chgS r8o hcn (by simp [rcA, imgC, shC, nu8])); (try replace e4 := e4.chgS r8o hcn (by simp [rcA, imgC, shC, nu8])); (try replace e3 := e3.chgS r8o hcn (by simp [rcA, imgC, shC, nu8])); (try replace e2 := e2.chgS r8o hcn (by simp [rcA, imgC, shC, nu8])); (try replace e1 := e1.chgS r8o hcn (by simp [rcA, imgC, shC, nu8])); (try replace rs1 := rs1.chg r8o (by simp [rcA, imgC, shC]) hcn); (try replace rs2 := rs2.chg r8o (by simp [rcA, imgC, shC]) hcn); have hsz := B.size; replace hzn := Nat.le_of_eq hzn.symm; replace B := Chg.below B hcn (by omega) B.size; (try replace q3 := q3.of_eq (hcn.block _ q3.lt (by omega))); (try replace c4 := c4.of_eq (hcn.block _ c4.lt (by omega))); (try replace a5 := a5.of_eq (hcn.block _ a5.lt (by omega))); (try replace r9 := r9.of_eq (hcn.block _ r9.lt (by omega))); (try replace d10 := d10.of_eq (hcn.block _ d10.lt (by omega))); (try replace m11 := m11.of_eq (hcn.block _ m11.lt (by omega))); (try replace g13 := g13.of_eq (hcn.block _ g13.lt (by omega))); (try replace f14 := f14.of_eq (hcn.block _ f14.lt (by omega))); (try replace w15 := w15.of_eq (hcn.block _ w15.lt (by omega))); (try replace h17 := h17.of_eq (hcn.block _ h17.lt (by omega))); (try replace n18 := n18.of_eq (hcn.block _ n18.lt (by omega))); (try replace rs1 := rs1.of_eq (hcn.block _ rs1.lt (by omega))); (try replace rs2 := rs2.of_eq (hcn.block _ rs2.lt (by omega))); (try replace e1 := e1.of_eq (hcn.block _ e1.lt (by omega))); (try replace e2 := e2.of_eq (hcn.block _ e2.lt (by omega))); (try replace e3 := e3.of_eq (hcn.block _ e3.lt (by omega))); (try replace e4 := e4.of_eq (hcn.block _ e4.lt (by omega))); (try replace e5 := e5.of_eq (hcn.block _ e5.lt (by omega))); have r8 := ht; clear ht; simp only [Act.put, List.setIfInBounds_toArray, List.set_cons_zero, List.set_cons_succ])
  refine wpList_nil ?_
  go_upto_region 3 with fail
  refine wp_region_lit ?_
  try simp only [List.getElem_toArray, List.getElem_cons_zero, List.getElem_cons_succ]
  refine wpList_chunk 2 (by kernel_rfl) ?_
  simp only [List.take_succ_cons, List.take_zero, List.drop_succ_cons, List.drop_zero, Nat.reduceAdd]
  repeat (first | go_big_quiet_skip | (go_big_quiet_want; first | (refine quiet_loadAny (t := 22) rfl _ _ _ rfl (fun w hw => run_load_sli ((ov_B q3 w hw).cell 0 rfl)) (by rfl) ?_; simp only [Act.put, List.setIfInBounds_toArray, List.set_cons_zero, List.set_cons_succ]; go_big_quiet_on) | (go_big_quiet_op; go_big_quiet_on)))
  refine wpQuiet_nil ?_
  refine wpList_callF (by first | rfl | simp [Region.wanted, yielded]) rfl (enters_of Try.func18 (by kernel_rfl) rfl) (by simp only [List.map_toArray, List.map_cons, List.map_nil, Act.eval, Array.getD_eq_getD_getElem?, List.getElem?_toArray, List.getElem?_cons_succ, List.getElem?_cons_zero, Option.getD_some]; rfl) ?_
  refine (R_Made8O _ L _ (HL.out.below B) hLn).mono ?_
  rintro e wn ⟨a2, c2, rfl, rs2, hbn⟩
  have hsz := B.size
  have hzn := hbn.size
  replace B := B.trans (hbn.mono B.size)
  (try first | replace q3 := q3.of_eq (hbn.block _ q3.lt) | replace q3 := q3.below hbn)
  (try first | replace c4 := c4.of_eq (hbn.block _ c4.lt) | replace c4 := c4.below hbn)
  (try first | replace a5 := a5.of_eq (hbn.block _ a5.lt) | replace a5 := a5.below hbn)
  (try first | replace r8 := r8.of_eq (hbn.block _ r8.lt) | replace r8 := r8.below hbn)
  (try first | replace r9 := r9.of_eq (hbn.block _ r9.lt) | replace r9 := r9.below hbn)
  (try first | replace d10 := d10.of_eq (hbn.block _ d10.lt) | replace d10 := d10.below hbn)
  (try first | replace m11 := m11.of_eq (hbn.block _ m11.lt) | replace m11 := m11.below hbn)
  (try first | replace g13 := g13.of_eq (hbn.block _ g13.lt) | replace g13 := g13.below hbn)
  (try first | replace f14 := f14.of_eq (hbn.block _ f14.lt) | replace f14 := f14.below hbn)
  (try first | replace w15 := w15.of_eq (hbn.block _ w15.lt) | replace w15 := w15.below hbn)
  (try first | replace h17 := h17.of_eq (hbn.block _ h17.lt) | replace h17 := h17.below hbn)
  (try first | replace n18 := n18.of_eq (hbn.block _ n18.lt) | replace n18 := n18.below hbn)
  (try first | replace rs1 := rs1.of_eq (hbn.block _ rs1.lt) | replace rs1 := rs1.below hbn)
  (try first | replace rs2 := rs2.of_eq (hbn.block _ rs2.lt) | replace rs2 := rs2.below hbn)
  (try first | replace e1 := e1.of_eq (hbn.block _ e1.lt) | replace e1 := e1.below hbn)
  (try first | replace e2 := e2.of_eq (hbn.block _ e2.lt) | replace e2 := e2.below hbn)
  (try first | replace e3 := e3.of_eq (hbn.block _ e3.lt) | replace e3 := e3.below hbn)
  (try first | replace e4 := e4.of_eq (hbn.block _ e4.lt) | replace e4 := e4.below hbn)
  (try first | replace e5 := e5.of_eq (hbn.block _ e5.lt) | replace e5 := e5.below hbn)
  refine ⟨_, rfl, ?_⟩
  simp only [Act.put, List.setIfInBounds_toArray, List.set_cons_zero, List.set_cons_succ]
  (refine wpList_allocBk (t := 30) rfl _ (run_alloc_R _ _ rfl) ?_; intro b_r9 wn hle hge ht hbn hzn; have hsz := B.size; replace B := B.trans (hbn.mono (by omega)); have hln := Nat.lt_of_lt_of_eq (Nat.lt_succ_self _) hzn.symm; clear hzn; (try first | (have hlt := q3.lt; replace q3 := q3.of_eq (hbn.block _ (by omega))) | replace q3 := q3.below (hbn.mono hle)); (try first | (have hlt := c4.lt; replace c4 := c4.of_eq (hbn.block _ (by omega))) | replace c4 := c4.below (hbn.mono hle)); (try first | (have hlt := a5.lt; replace a5 := a5.of_eq (hbn.block _ (by omega))) | replace a5 := a5.below (hbn.mono hle)); (try first | (have hlt := r8.lt; replace r8 := r8.of_eq (hbn.block _ (by omega))) | replace r8 := r8.below (hbn.mono hle)); (try first | (have hlt := r9.lt; replace r9 := r9.of_eq (hbn.block _ (by omega))) | replace r9 := r9.below (hbn.mono hle)); (try first | (have hlt := d10.lt; replace d10 := d10.of_eq (hbn.block _ (by omega))) | replace d10 := d10.below (hbn.mono hle)); (try first | (have hlt := m11.lt; replace m11 := m11.of_eq (hbn.block _ (by omega))) | replace m11 := m11.below (hbn.mono hle)); (try first | (have hlt := g13.lt; replace g13 := g13.of_eq (hbn.block _ (by omega))) | replace g13 := g13.below (hbn.mono hle)); (try first | (have hlt := f14.lt; replace f14 := f14.of_eq (hbn.block _ (by omega))) | replace f14 := f14.below (hbn.mono hle)); (try first | (have hlt := w15.lt; replace w15 := w15.of_eq (hbn.block _ (by omega))) | replace w15 := w15.below (hbn.mono hle)); (try first | (have hlt := h17.lt; replace h17 := h17.of_eq (hbn.block _ (by omega))) | replace h17 := h17.below (hbn.mono hle)); (try first | (have hlt := n18.lt; replace n18 := n18.of_eq (hbn.block _ (by omega))) | replace n18 := n18.below (hbn.mono hle)); (try first | (have hlt := rs1.lt; replace rs1 := rs1.of_eq (hbn.block _ (by omega))) | replace rs1 := rs1.below (hbn.mono hle)); (try first | (have hlt := rs2.lt; replace rs2 := rs2.of_eq (hbn.block _ (by omega))) | replace rs2 := rs2.below (hbn.mono hle)); (try first | (have hlt := e1.lt; replace e1 := e1.of_eq (hbn.block _ (by omega))) | replace e1 := e1.below (hbn.mono hle)); (try first | (have hlt := e2.lt; replace e2 := e2.of_eq (hbn.block _ (by omega))) | replace e2 := e2.below (hbn.mono hle)); (try first | (have hlt := e3.lt; replace e3 := e3.of_eq (hbn.block _ (by omega))) | replace e3 := e3.below (hbn.mono hle)); (try first | (have hlt := e4.lt; replace e4 := e4.of_eq (hbn.block _ (by omega))) | replace e4 := e4.below (hbn.mono hle)); (try first | (have hlt := e5.lt; replace e5 := e5.of_eq (hbn.block _ (by omega))) | replace e5 := e5.below (hbn.mono hle)); have r9 := ht; clear ht; simp only [Act.put, List.setIfInBounds_toArray, List.set_cons_zero, List.set_cons_succ])
  (refine wpList_storeB (t := 30) rfl _ _ rfl _ rfl _ rfl r9 (by kernel_rfl) rfl (by simp [rcA, imgC, shC, Value.oneCell']) ?_; have r9o := r9; clear r9; intro wn ht hcn hzn; (try replace e5 := e5.chgS r9o hcn (by simp [rcA, imgC, shC, nu8])); (try replace e4 := e4.chgS r9o hcn (by simp [rcA, imgC, shC, nu8])); (try replace e3 := e3.chgS r9o hcn (by simp [rcA, imgC, shC, nu8])); (try replace e2 := e2.chgS r9o hcn (by simp [rcA, imgC, shC, nu8])); (try replace e1 := e1.chgS r9o hcn (by simp [rcA, imgC, shC, nu8])); (try replace rs1 := rs1.chg r9o (by simp [rcA, imgC, shC]) hcn); (try replace rs2 := rs2.chg r9o (by simp [rcA, imgC, shC]) hcn); have hsz := B.size; replace hzn := Nat.le_of_eq hzn.symm; replace B := Chg.below B hcn (by omega) B.size; (try replace q3 := q3.of_eq (hcn.block _ q3.lt (by omega))); (try replace c4 := c4.of_eq (hcn.block _ c4.lt (by omega))); (try replace a5 := a5.of_eq (hcn.block _ a5.lt (by omega))); (try replace r8 := r8.of_eq (hcn.block _ r8.lt (by omega))); (try replace d10 := d10.of_eq (hcn.block _ d10.lt (by omega))); (try replace m11 := m11.of_eq (hcn.block _ m11.lt (by omega))); (try replace g13 := g13.of_eq (hcn.block _ g13.lt (by omega))); (try replace f14 := f14.of_eq (hcn.block _ f14.lt (by omega))); (try replace w15 := w15.of_eq (hcn.block _ w15.lt (by omega))); (try replace h17 := h17.of_eq (hcn.block _ h17.lt (by omega))); (try replace n18 := n18.of_eq (hcn.block _ n18.lt (by omega))); (try replace rs1 := rs1.of_eq (hcn.block _ rs1.lt (by omega))); (try replace rs2 := rs2.of_eq (hcn.block _ rs2.lt (by omega))); (try replace e1 := e1.of_eq (hcn.block _ e1.lt (by omega))); (try replace e2 := e2.of_eq (hcn.block _ e2.lt (by omega))); (try replace e3 := e3.of_eq (hcn.block _ e3.lt (by omega))); (try replace e4 := e4.of_eq (hcn.block _ e4.lt (by omega))); (try replace e5 := e5.of_eq (hcn.block _ e5.lt (by omega))); have r9 := ht; clear ht; simp only [Act.put, List.setIfInBounds_toArray, List.set_cons_zero, List.set_cons_succ])
  refine wpList_nil ?_
  go_upto_region 4 with fail
  refine wp_region_lit ?_
  try simp only [List.getElem_toArray, List.getElem_cons_zero, List.getElem_cons_succ]
  refine wpList_chunk 1 (by kernel_rfl) ?_
  simp only [List.take_succ_cons, List.take_zero, List.drop_succ_cons, List.drop_zero, Nat.reduceAdd]
  repeat (first | go_big_quiet_skip | (go_big_quiet_want; first | (refine quiet_loadAny (t := 64) rfl _ _ _ rfl (fun w hw => run_load_B (ov_B c4 w hw) Try.isAgg64 (by kernel_rfl)) (by rfl) ?_; simp only [Act.put, List.setIfInBounds_toArray, List.set_cons_zero, List.set_cons_succ]; go_big_quiet_on) | (refine quiet_loadAny (t := 64) rfl _ _ _ rfl (fun w hw => run_load_B (ov_B d10 w hw) Try.isAgg64 (by kernel_rfl)) (by rfl) ?_; simp only [Act.put, List.setIfInBounds_toArray, List.set_cons_zero, List.set_cons_succ]; go_big_quiet_on) | (refine quiet_loadAny (t := 64) rfl _ _ _ rfl (fun w hw => run_load_B (ov_B f14 w hw) Try.isAgg64 (by kernel_rfl)) (by rfl) ?_; simp only [Act.put, List.setIfInBounds_toArray, List.set_cons_zero, List.set_cons_succ]; go_big_quiet_on) | (go_big_quiet_op; go_big_quiet_on)))
  refine wpQuiet_nil ?_
  refine wpList_callF (by first | rfl | simp [Region.wanted, yielded]) rfl (enters_of Try.func32 (by kernel_rfl) rfl) (by simp only [List.map_toArray, List.map_cons, List.map_nil, Act.eval, Array.getD_eq_getD_getElem?, List.getElem?_toArray, List.getElem?_cons_succ, List.getElem?_cons_zero, Option.getD_some]; rfl) ?_
  refine (R_Near c _).mono ?_
  rintro e wn ⟨rfl, hbn⟩
  have hsz := B.size
  have hzn := hbn.size
  replace B := B.trans (hbn.mono B.size)
  (try first | replace q3 := q3.of_eq (hbn.block _ q3.lt) | replace q3 := q3.below hbn)
  (try first | replace c4 := c4.of_eq (hbn.block _ c4.lt) | replace c4 := c4.below hbn)
  (try first | replace a5 := a5.of_eq (hbn.block _ a5.lt) | replace a5 := a5.below hbn)
  (try first | replace r8 := r8.of_eq (hbn.block _ r8.lt) | replace r8 := r8.below hbn)
  (try first | replace r9 := r9.of_eq (hbn.block _ r9.lt) | replace r9 := r9.below hbn)
  (try first | replace d10 := d10.of_eq (hbn.block _ d10.lt) | replace d10 := d10.below hbn)
  (try first | replace m11 := m11.of_eq (hbn.block _ m11.lt) | replace m11 := m11.below hbn)
  (try first | replace g13 := g13.of_eq (hbn.block _ g13.lt) | replace g13 := g13.below hbn)
  (try first | replace f14 := f14.of_eq (hbn.block _ f14.lt) | replace f14 := f14.below hbn)
  (try first | replace w15 := w15.of_eq (hbn.block _ w15.lt) | replace w15 := w15.below hbn)
  (try first | replace h17 := h17.of_eq (hbn.block _ h17.lt) | replace h17 := h17.below hbn)
  (try first | replace n18 := n18.of_eq (hbn.block _ n18.lt) | replace n18 := n18.below hbn)
  (try first | replace rs1 := rs1.of_eq (hbn.block _ rs1.lt) | replace rs1 := rs1.below hbn)
  (try first | replace rs2 := rs2.of_eq (hbn.block _ rs2.lt) | replace rs2 := rs2.below hbn)
  (try first | replace e1 := e1.of_eq (hbn.block _ e1.lt) | replace e1 := e1.below hbn)
  (try first | replace e2 := e2.of_eq (hbn.block _ e2.lt) | replace e2 := e2.below hbn)
  (try first | replace e3 := e3.of_eq (hbn.block _ e3.lt) | replace e3 := e3.below hbn)
  (try first | replace e4 := e4.of_eq (hbn.block _ e4.lt) | replace e4 := e4.below hbn)
  (try first | replace e5 := e5.of_eq (hbn.block _ e5.lt) | replace e5 := e5.below hbn)
  refine ⟨_, rfl, ?_⟩
  simp only [Act.put, List.setIfInBounds_toArray, List.set_cons_zero, List.set_cons_succ]
  (refine wpList_allocBk (t := 64) rfl _ (run_alloc_Rc _ _ rfl) ?_; intro b_d10 wn hle hge ht hbn hzn; have hsz := B.size; replace B := B.trans (hbn.mono (by omega)); have hln := Nat.lt_of_lt_of_eq (Nat.lt_succ_self _) hzn.symm; clear hzn; (try first | (have hlt := q3.lt; replace q3 := q3.of_eq (hbn.block _ (by omega))) | replace q3 := q3.below (hbn.mono hle)); (try first | (have hlt := c4.lt; replace c4 := c4.of_eq (hbn.block _ (by omega))) | replace c4 := c4.below (hbn.mono hle)); (try first | (have hlt := a5.lt; replace a5 := a5.of_eq (hbn.block _ (by omega))) | replace a5 := a5.below (hbn.mono hle)); (try first | (have hlt := r8.lt; replace r8 := r8.of_eq (hbn.block _ (by omega))) | replace r8 := r8.below (hbn.mono hle)); (try first | (have hlt := r9.lt; replace r9 := r9.of_eq (hbn.block _ (by omega))) | replace r9 := r9.below (hbn.mono hle)); (try first | (have hlt := d10.lt; replace d10 := d10.of_eq (hbn.block _ (by omega))) | replace d10 := d10.below (hbn.mono hle)); (try first | (have hlt := m11.lt; replace m11 := m11.of_eq (hbn.block _ (by omega))) | replace m11 := m11.below (hbn.mono hle)); (try first | (have hlt := g13.lt; replace g13 := g13.of_eq (hbn.block _ (by omega))) | replace g13 := g13.below (hbn.mono hle)); (try first | (have hlt := f14.lt; replace f14 := f14.of_eq (hbn.block _ (by omega))) | replace f14 := f14.below (hbn.mono hle)); (try first | (have hlt := w15.lt; replace w15 := w15.of_eq (hbn.block _ (by omega))) | replace w15 := w15.below (hbn.mono hle)); (try first | (have hlt := h17.lt; replace h17 := h17.of_eq (hbn.block _ (by omega))) | replace h17 := h17.below (hbn.mono hle)); (try first | (have hlt := n18.lt; replace n18 := n18.of_eq (hbn.block _ (by omega))) | replace n18 := n18.below (hbn.mono hle)); (try first | (have hlt := rs1.lt; replace rs1 := rs1.of_eq (hbn.block _ (by omega))) | replace rs1 := rs1.below (hbn.mono hle)); (try first | (have hlt := rs2.lt; replace rs2 := rs2.of_eq (hbn.block _ (by omega))) | replace rs2 := rs2.below (hbn.mono hle)); (try first | (have hlt := e1.lt; replace e1 := e1.of_eq (hbn.block _ (by omega))) | replace e1 := e1.below (hbn.mono hle)); (try first | (have hlt := e2.lt; replace e2 := e2.of_eq (hbn.block _ (by omega))) | replace e2 := e2.below (hbn.mono hle)); (try first | (have hlt := e3.lt; replace e3 := e3.of_eq (hbn.block _ (by omega))) | replace e3 := e3.below (hbn.mono hle)); (try first | (have hlt := e4.lt; replace e4 := e4.of_eq (hbn.block _ (by omega))) | replace e4 := e4.below (hbn.mono hle)); (try first | (have hlt := e5.lt; replace e5 := e5.of_eq (hbn.block _ (by omega))) | replace e5 := e5.below (hbn.mono hle)); have d10 := ht; clear ht; simp only [Act.put, List.setIfInBounds_toArray, List.set_cons_zero, List.set_cons_succ])
  (refine wpList_storeB (t := 64) rfl _ _ rfl _ rfl _ rfl d10 (by kernel_rfl) rfl (by simp [rcA, imgC, shC, Value.oneCell']) ?_; have d10o := d10; clear d10; intro wn ht hcn hzn; (try replace e5 := e5.chgS d10o hcn (by simp [rcA, imgC, shC, nu8])); (try replace e4 := e4.chgS d10o hcn (by simp [rcA, imgC, shC, nu8])); (try replace e3 := e3.chgS d10o hcn (by simp [rcA, imgC, shC, nu8])); (try replace e2 := e2.chgS d10o hcn (by simp [rcA, imgC, shC, nu8])); (try replace e1 := e1.chgS d10o hcn (by simp [rcA, imgC, shC, nu8])); (try replace rs1 := rs1.chg d10o (by simp [rcA, imgC, shC]) hcn); (try replace rs2 := rs2.chg d10o (by simp [rcA, imgC, shC]) hcn); have hsz := B.size; replace hzn := Nat.le_of_eq hzn.symm; replace B := Chg.below B hcn (by omega) B.size; (try replace q3 := q3.of_eq (hcn.block _ q3.lt (by omega))); (try replace c4 := c4.of_eq (hcn.block _ c4.lt (by omega))); (try replace a5 := a5.of_eq (hcn.block _ a5.lt (by omega))); (try replace r8 := r8.of_eq (hcn.block _ r8.lt (by omega))); (try replace r9 := r9.of_eq (hcn.block _ r9.lt (by omega))); (try replace m11 := m11.of_eq (hcn.block _ m11.lt (by omega))); (try replace g13 := g13.of_eq (hcn.block _ g13.lt (by omega))); (try replace f14 := f14.of_eq (hcn.block _ f14.lt (by omega))); (try replace w15 := w15.of_eq (hcn.block _ w15.lt (by omega))); (try replace h17 := h17.of_eq (hcn.block _ h17.lt (by omega))); (try replace n18 := n18.of_eq (hcn.block _ n18.lt (by omega))); (try replace rs1 := rs1.of_eq (hcn.block _ rs1.lt (by omega))); (try replace rs2 := rs2.of_eq (hcn.block _ rs2.lt (by omega))); (try replace e1 := e1.of_eq (hcn.block _ e1.lt (by omega))); (try replace e2 := e2.of_eq (hcn.block _ e2.lt (by omega))); (try replace e3 := e3.of_eq (hcn.block _ e3.lt (by omega))); (try replace e4 := e4.of_eq (hcn.block _ e4.lt (by omega))); (try replace e5 := e5.of_eq (hcn.block _ e5.lt (by omega))); have d10 := ht; clear ht; simp only [Act.put, List.setIfInBounds_toArray, List.set_cons_zero, List.set_cons_succ])
  refine wpList_nil ?_
  replace d10 : AtB 64 _ b_d10 (rcA (nearR c)) := d10
  have hfit := Lib.hid (near_fits c)
  have HD := nearR_bd c
  generalize nearR c = D at *
  go_upto_region 5 with fail
  refine wp_region_lit ?_
  try simp only [List.getElem_toArray, List.getElem_cons_zero, List.getElem_cons_succ]
  refine wpList_chunk 2 (by kernel_rfl) ?_
  simp only [List.take_succ_cons, List.take_zero, List.drop_succ_cons, List.drop_zero, Nat.reduceAdd]
  repeat (first | go_big_quiet_skip | (go_big_quiet_want; first | (refine quiet_loadAny (t := 30) rfl _ _ _ rfl (fun w hw => run_load_B (ov_B r8 w hw) Try.isAgg30 (by kernel_rfl)) (by rfl) ?_; simp only [Act.put, List.setIfInBounds_toArray, List.set_cons_zero, List.set_cons_succ]; go_big_quiet_on) | (refine quiet_loadAny (t := 30) rfl _ _ _ rfl (fun w hw => run_load_B (ov_B r9 w hw) Try.isAgg30 (by kernel_rfl)) (by rfl) ?_; simp only [Act.put, List.setIfInBounds_toArray, List.set_cons_zero, List.set_cons_succ]; go_big_quiet_on) | (refine quiet_loadAny (t := 64) rfl _ _ _ rfl (fun w hw => run_load_B (ov_B c4 w hw) Try.isAgg64 (by kernel_rfl)) (by rfl) ?_; simp only [Act.put, List.setIfInBounds_toArray, List.set_cons_zero, List.set_cons_succ]; go_big_quiet_on) | (refine quiet_loadAny (t := 64) rfl _ _ _ rfl (fun w hw => run_load_B (ov_B d10 w hw) Try.isAgg64 (by kernel_rfl)) (by rfl) ?_; simp only [Act.put, List.setIfInBounds_toArray, List.set_cons_zero, List.set_cons_succ]; go_big_quiet_on) | (refine quiet_loadAny (t := 64) rfl _ _ _ rfl (fun w hw => run_load_B (ov_B f14 w hw) Try.isAgg64 (by kernel_rfl)) (by rfl) ?_; simp only [Act.put, List.setIfInBounds_toArray, List.set_cons_zero, List.set_cons_succ]; go_big_quiet_on) | (go_big_quiet_op; go_big_quiet_on)))
  refine wpQuiet_nil ?_
  refine wpList_callF (by first | rfl | simp [Region.wanted, yielded]) rfl (enters_of Try.func33 (by kernel_rfl) rfl) (by simp only [List.map_toArray, List.map_cons, List.map_nil, Act.eval, Array.getD_eq_getD_getElem?, List.getElem?_toArray, List.getElem?_cons_succ, List.getElem?_cons_zero, Option.getD_some]; rfl) ?_
  refine (P_ImageA _ (ofL q L T) (D) _ rs1 (ofL_tok q L T) HN.out).mono ?_
  rintro e wn ⟨a_e1, c_e1, rfl, e1, hbn⟩
  have hsz := B.size
  have hzn := hbn.size
  replace B := B.trans (hbn.mono B.size)
  (try first | replace q3 := q3.of_eq (hbn.block _ q3.lt) | replace q3 := q3.below hbn)
  (try first | replace c4 := c4.of_eq (hbn.block _ c4.lt) | replace c4 := c4.below hbn)
  (try first | replace a5 := a5.of_eq (hbn.block _ a5.lt) | replace a5 := a5.below hbn)
  (try first | replace r8 := r8.of_eq (hbn.block _ r8.lt) | replace r8 := r8.below hbn)
  (try first | replace r9 := r9.of_eq (hbn.block _ r9.lt) | replace r9 := r9.below hbn)
  (try first | replace d10 := d10.of_eq (hbn.block _ d10.lt) | replace d10 := d10.below hbn)
  (try first | replace m11 := m11.of_eq (hbn.block _ m11.lt) | replace m11 := m11.below hbn)
  (try first | replace g13 := g13.of_eq (hbn.block _ g13.lt) | replace g13 := g13.below hbn)
  (try first | replace f14 := f14.of_eq (hbn.block _ f14.lt) | replace f14 := f14.below hbn)
  (try first | replace w15 := w15.of_eq (hbn.block _ w15.lt) | replace w15 := w15.below hbn)
  (try first | replace h17 := h17.of_eq (hbn.block _ h17.lt) | replace h17 := h17.below hbn)
  (try first | replace n18 := n18.of_eq (hbn.block _ n18.lt) | replace n18 := n18.below hbn)
  (try first | replace rs1 := rs1.of_eq (hbn.block _ rs1.lt) | replace rs1 := rs1.below hbn)
  (try first | replace rs2 := rs2.of_eq (hbn.block _ rs2.lt) | replace rs2 := rs2.below hbn)
  (try first | replace e1 := e1.of_eq (hbn.block _ e1.lt) | replace e1 := e1.below hbn)
  (try first | replace e2 := e2.of_eq (hbn.block _ e2.lt) | replace e2 := e2.below hbn)
  (try first | replace e3 := e3.of_eq (hbn.block _ e3.lt) | replace e3 := e3.below hbn)
  (try first | replace e4 := e4.of_eq (hbn.block _ e4.lt) | replace e4 := e4.below hbn)
  (try first | replace e5 := e5.of_eq (hbn.block _ e5.lt) | replace e5 := e5.below hbn)
  refine ⟨_, rfl, ?_⟩
  simp only [Act.put, List.setIfInBounds_toArray, List.set_cons_zero, List.set_cons_succ]
  refine wpList_chunk 3 (by kernel_rfl) ?_
  simp only [List.take_succ_cons, List.take_zero, List.drop_succ_cons, List.drop_zero, Nat.reduceAdd]
  repeat (first | go_big_quiet_skip | (go_big_quiet_want; first | (go_big_quiet_op; go_big_quiet_on)))
  refine wpQuiet_nil ?_
  (refine wpList_allocBk (t := 68) rfl _ (run_alloc_Im _ _ rfl) ?_; intro b_m11 wn hle hge ht hbn hzn; have hsz := B.size; replace B := B.trans (hbn.mono (by omega)); have hln := Nat.lt_of_lt_of_eq (Nat.lt_succ_self _) hzn.symm; clear hzn; (try first | (have hlt := q3.lt; replace q3 := q3.of_eq (hbn.block _ (by omega))) | replace q3 := q3.below (hbn.mono hle)); (try first | (have hlt := c4.lt; replace c4 := c4.of_eq (hbn.block _ (by omega))) | replace c4 := c4.below (hbn.mono hle)); (try first | (have hlt := a5.lt; replace a5 := a5.of_eq (hbn.block _ (by omega))) | replace a5 := a5.below (hbn.mono hle)); (try first | (have hlt := r8.lt; replace r8 := r8.of_eq (hbn.block _ (by omega))) | replace r8 := r8.below (hbn.mono hle)); (try first | (have hlt := r9.lt; replace r9 := r9.of_eq (hbn.block _ (by omega))) | replace r9 := r9.below (hbn.mono hle)); (try first | (have hlt := d10.lt; replace d10 := d10.of_eq (hbn.block _ (by omega))) | replace d10 := d10.below (hbn.mono hle)); (try first | (have hlt := m11.lt; replace m11 := m11.of_eq (hbn.block _ (by omega))) | replace m11 := m11.below (hbn.mono hle)); (try first | (have hlt := g13.lt; replace g13 := g13.of_eq (hbn.block _ (by omega))) | replace g13 := g13.below (hbn.mono hle)); (try first | (have hlt := f14.lt; replace f14 := f14.of_eq (hbn.block _ (by omega))) | replace f14 := f14.below (hbn.mono hle)); (try first | (have hlt := w15.lt; replace w15 := w15.of_eq (hbn.block _ (by omega))) | replace w15 := w15.below (hbn.mono hle)); (try first | (have hlt := h17.lt; replace h17 := h17.of_eq (hbn.block _ (by omega))) | replace h17 := h17.below (hbn.mono hle)); (try first | (have hlt := n18.lt; replace n18 := n18.of_eq (hbn.block _ (by omega))) | replace n18 := n18.below (hbn.mono hle)); (try first | (have hlt := rs1.lt; replace rs1 := rs1.of_eq (hbn.block _ (by omega))) | replace rs1 := rs1.below (hbn.mono hle)); (try first | (have hlt := rs2.lt; replace rs2 := rs2.of_eq (hbn.block _ (by omega))) | replace rs2 := rs2.below (hbn.mono hle)); (try first | (have hlt := e1.lt; replace e1 := e1.of_eq (hbn.block _ (by omega))) | replace e1 := e1.below (hbn.mono hle)); (try first | (have hlt := e2.lt; replace e2 := e2.of_eq (hbn.block _ (by omega))) | replace e2 := e2.below (hbn.mono hle)); (try first | (have hlt := e3.lt; replace e3 := e3.of_eq (hbn.block _ (by omega))) | replace e3 := e3.below (hbn.mono hle)); (try first | (have hlt := e4.lt; replace e4 := e4.of_eq (hbn.block _ (by omega))) | replace e4 := e4.below (hbn.mono hle)); (try first | (have hlt := e5.lt; replace e5 := e5.of_eq (hbn.block _ (by omega))) | replace e5 := e5.below (hbn.mono hle)); have m11 := ht; clear ht; simp only [Act.put, List.setIfInBounds_toArray, List.set_cons_zero, List.set_cons_succ])
  (refine wpList_storeB (t := 68) rfl _ _ rfl _ rfl _ rfl m11 (by kernel_rfl) rfl (by simp [rcA, imgC, shC, Value.oneCell']) ?_; have m11o := m11; clear m11; intro wn ht hcn hzn; (try replace e5 := e5.chgS m11o hcn (by simp [rcA, imgC, shC, nu8])); (try replace e4 := e4.chgS m11o hcn (by simp [rcA, imgC, shC, nu8])); (try replace e3 := e3.chgS m11o hcn (by simp [rcA, imgC, shC, nu8])); (try replace e2 := e2.chgS m11o hcn (by simp [rcA, imgC, shC, nu8])); (try replace e1 := e1.chgS m11o hcn (by simp [rcA, imgC, shC, nu8])); (try replace rs1 := rs1.chg m11o (by simp [rcA, imgC, shC]) hcn); (try replace rs2 := rs2.chg m11o (by simp [rcA, imgC, shC]) hcn); have hsz := B.size; replace hzn := Nat.le_of_eq hzn.symm; replace B := Chg.below B hcn (by omega) B.size; (try replace q3 := q3.of_eq (hcn.block _ q3.lt (by omega))); (try replace c4 := c4.of_eq (hcn.block _ c4.lt (by omega))); (try replace a5 := a5.of_eq (hcn.block _ a5.lt (by omega))); (try replace r8 := r8.of_eq (hcn.block _ r8.lt (by omega))); (try replace r9 := r9.of_eq (hcn.block _ r9.lt (by omega))); (try replace d10 := d10.of_eq (hcn.block _ d10.lt (by omega))); (try replace g13 := g13.of_eq (hcn.block _ g13.lt (by omega))); (try replace f14 := f14.of_eq (hcn.block _ f14.lt (by omega))); (try replace w15 := w15.of_eq (hcn.block _ w15.lt (by omega))); (try replace h17 := h17.of_eq (hcn.block _ h17.lt (by omega))); (try replace n18 := n18.of_eq (hcn.block _ n18.lt (by omega))); (try replace rs1 := rs1.of_eq (hcn.block _ rs1.lt (by omega))); (try replace rs2 := rs2.of_eq (hcn.block _ rs2.lt (by omega))); (try replace e1 := e1.of_eq (hcn.block _ e1.lt (by omega))); (try replace e2 := e2.of_eq (hcn.block _ e2.lt (by omega))); (try replace e3 := e3.of_eq (hcn.block _ e3.lt (by omega))); (try replace e4 := e4.of_eq (hcn.block _ e4.lt (by omega))); (try replace e5 := e5.of_eq (hcn.block _ e5.lt (by omega))); have m11 := ht; clear ht; simp only [Act.put, List.setIfInBounds_toArray, List.set_cons_zero, List.set_cons_succ])
  refine wpList_chunk 1 (by kernel_rfl) ?_
  simp only [List.take_succ_cons, List.take_zero, List.drop_succ_cons, List.drop_zero, Nat.reduceAdd]
  repeat (first | go_big_quiet_skip | (go_big_quiet_want; first | (go_big_quiet_op; go_big_quiet_on)))
  refine wpQuiet_nil ?_
  refine wpList_nil ?_
  go_upto_region 6 with fail
  refine wp_region_lit ?_
  try simp only [List.getElem_toArray, List.getElem_cons_zero, List.getElem_cons_succ]
  refine wpList_chunk 2 (by kernel_rfl) ?_
  simp only [List.take_succ_cons, List.take_zero, List.drop_succ_cons, List.drop_zero, Nat.reduceAdd]
  repeat (first | go_big_quiet_skip | (go_big_quiet_want; first | (refine quiet_loadAny (t := 30) rfl _ _ _ rfl (fun w hw => run_load_B (ov_B r8 w hw) Try.isAgg30 (by kernel_rfl)) (by rfl) ?_; simp only [Act.put, List.setIfInBounds_toArray, List.set_cons_zero, List.set_cons_succ]; go_big_quiet_on) | (refine quiet_loadAny (t := 30) rfl _ _ _ rfl (fun w hw => run_load_B (ov_B r9 w hw) Try.isAgg30 (by kernel_rfl)) (by rfl) ?_; simp only [Act.put, List.setIfInBounds_toArray, List.set_cons_zero, List.set_cons_succ]; go_big_quiet_on) | (refine quiet_loadAny (t := 64) rfl _ _ _ rfl (fun w hw => run_load_B (ov_B c4 w hw) Try.isAgg64 (by kernel_rfl)) (by rfl) ?_; simp only [Act.put, List.setIfInBounds_toArray, List.set_cons_zero, List.set_cons_succ]; go_big_quiet_on) | (refine quiet_loadAny (t := 64) rfl _ _ _ rfl (fun w hw => run_load_B (ov_B d10 w hw) Try.isAgg64 (by kernel_rfl)) (by rfl) ?_; simp only [Act.put, List.setIfInBounds_toArray, List.set_cons_zero, List.set_cons_succ]; go_big_quiet_on) | (refine quiet_loadAny (t := 64) rfl _ _ _ rfl (fun w hw => run_load_B (ov_B f14 w hw) Try.isAgg64 (by kernel_rfl)) (by rfl) ?_; simp only [Act.put, List.setIfInBounds_toArray, List.set_cons_zero, List.set_cons_succ]; go_big_quiet_on) | (go_big_quiet_op; go_big_quiet_on)))
  refine wpQuiet_nil ?_
  refine wpList_callF (by first | rfl | simp [Region.wanted, yielded]) rfl (enters_of Try.func34 (by kernel_rfl) rfl) (by simp only [List.map_toArray, List.map_cons, List.map_nil, Act.eval, Array.getD_eq_getD_getElem?, List.getElem?_toArray, List.getElem?_cons_succ, List.getElem?_cons_zero, Option.getD_some]; rfl) ?_
  refine (R_ImageA _ (ofL q L T) (D) _ rs1 (ofL_tok q L T) HN.out).mono ?_
  rintro e wn ⟨a_e2, c_e2, rfl, e2, hbn⟩
  have hsz := B.size
  have hzn := hbn.size
  replace B := B.trans (hbn.mono B.size)
  (try first | replace q3 := q3.of_eq (hbn.block _ q3.lt) | replace q3 := q3.below hbn)
  (try first | replace c4 := c4.of_eq (hbn.block _ c4.lt) | replace c4 := c4.below hbn)
  (try first | replace a5 := a5.of_eq (hbn.block _ a5.lt) | replace a5 := a5.below hbn)
  (try first | replace r8 := r8.of_eq (hbn.block _ r8.lt) | replace r8 := r8.below hbn)
  (try first | replace r9 := r9.of_eq (hbn.block _ r9.lt) | replace r9 := r9.below hbn)
  (try first | replace d10 := d10.of_eq (hbn.block _ d10.lt) | replace d10 := d10.below hbn)
  (try first | replace m11 := m11.of_eq (hbn.block _ m11.lt) | replace m11 := m11.below hbn)
  (try first | replace g13 := g13.of_eq (hbn.block _ g13.lt) | replace g13 := g13.below hbn)
  (try first | replace f14 := f14.of_eq (hbn.block _ f14.lt) | replace f14 := f14.below hbn)
  (try first | replace w15 := w15.of_eq (hbn.block _ w15.lt) | replace w15 := w15.below hbn)
  (try first | replace h17 := h17.of_eq (hbn.block _ h17.lt) | replace h17 := h17.below hbn)
  (try first | replace n18 := n18.of_eq (hbn.block _ n18.lt) | replace n18 := n18.below hbn)
  (try first | replace rs1 := rs1.of_eq (hbn.block _ rs1.lt) | replace rs1 := rs1.below hbn)
  (try first | replace rs2 := rs2.of_eq (hbn.block _ rs2.lt) | replace rs2 := rs2.below hbn)
  (try first | replace e1 := e1.of_eq (hbn.block _ e1.lt) | replace e1 := e1.below hbn)
  (try first | replace e2 := e2.of_eq (hbn.block _ e2.lt) | replace e2 := e2.below hbn)
  (try first | replace e3 := e3.of_eq (hbn.block _ e3.lt) | replace e3 := e3.below hbn)
  (try first | replace e4 := e4.of_eq (hbn.block _ e4.lt) | replace e4 := e4.below hbn)
  (try first | replace e5 := e5.of_eq (hbn.block _ e5.lt) | replace e5 := e5.below hbn)
  refine ⟨_, rfl, ?_⟩
  simp only [Act.put, List.setIfInBounds_toArray, List.set_cons_zero, List.set_cons_succ]
  (refine wpList_allocBk (t := 72) rfl _ (run_alloc_Sh _ _ rfl) ?_; intro b_g13 wn hle hge ht hbn hzn; have hsz := B.size; replace B := B.trans (hbn.mono (by omega)); have hln := Nat.lt_of_lt_of_eq (Nat.lt_succ_self _) hzn.symm; clear hzn; (try first | (have hlt := q3.lt; replace q3 := q3.of_eq (hbn.block _ (by omega))) | replace q3 := q3.below (hbn.mono hle)); (try first | (have hlt := c4.lt; replace c4 := c4.of_eq (hbn.block _ (by omega))) | replace c4 := c4.below (hbn.mono hle)); (try first | (have hlt := a5.lt; replace a5 := a5.of_eq (hbn.block _ (by omega))) | replace a5 := a5.below (hbn.mono hle)); (try first | (have hlt := r8.lt; replace r8 := r8.of_eq (hbn.block _ (by omega))) | replace r8 := r8.below (hbn.mono hle)); (try first | (have hlt := r9.lt; replace r9 := r9.of_eq (hbn.block _ (by omega))) | replace r9 := r9.below (hbn.mono hle)); (try first | (have hlt := d10.lt; replace d10 := d10.of_eq (hbn.block _ (by omega))) | replace d10 := d10.below (hbn.mono hle)); (try first | (have hlt := m11.lt; replace m11 := m11.of_eq (hbn.block _ (by omega))) | replace m11 := m11.below (hbn.mono hle)); (try first | (have hlt := g13.lt; replace g13 := g13.of_eq (hbn.block _ (by omega))) | replace g13 := g13.below (hbn.mono hle)); (try first | (have hlt := f14.lt; replace f14 := f14.of_eq (hbn.block _ (by omega))) | replace f14 := f14.below (hbn.mono hle)); (try first | (have hlt := w15.lt; replace w15 := w15.of_eq (hbn.block _ (by omega))) | replace w15 := w15.below (hbn.mono hle)); (try first | (have hlt := h17.lt; replace h17 := h17.of_eq (hbn.block _ (by omega))) | replace h17 := h17.below (hbn.mono hle)); (try first | (have hlt := n18.lt; replace n18 := n18.of_eq (hbn.block _ (by omega))) | replace n18 := n18.below (hbn.mono hle)); (try first | (have hlt := rs1.lt; replace rs1 := rs1.of_eq (hbn.block _ (by omega))) | replace rs1 := rs1.below (hbn.mono hle)); (try first | (have hlt := rs2.lt; replace rs2 := rs2.of_eq (hbn.block _ (by omega))) | replace rs2 := rs2.below (hbn.mono hle)); (try first | (have hlt := e1.lt; replace e1 := e1.of_eq (hbn.block _ (by omega))) | replace e1 := e1.below (hbn.mono hle)); (try first | (have hlt := e2.lt; replace e2 := e2.of_eq (hbn.block _ (by omega))) | replace e2 := e2.below (hbn.mono hle)); (try first | (have hlt := e3.lt; replace e3 := e3.of_eq (hbn.block _ (by omega))) | replace e3 := e3.below (hbn.mono hle)); (try first | (have hlt := e4.lt; replace e4 := e4.of_eq (hbn.block _ (by omega))) | replace e4 := e4.below (hbn.mono hle)); (try first | (have hlt := e5.lt; replace e5 := e5.of_eq (hbn.block _ (by omega))) | replace e5 := e5.below (hbn.mono hle)); have g13 := ht; clear ht; simp only [Act.put, List.setIfInBounds_toArray, List.set_cons_zero, List.set_cons_succ])
  (refine wpList_storeB (t := 72) rfl _ _ rfl _ rfl _ rfl g13 (by kernel_rfl) rfl (by simp [rcA, imgC, shC, Value.oneCell']) ?_; have g13o := g13; clear g13; intro wn ht hcn hzn; (try replace e5 := e5.chgS g13o hcn (by simp [rcA, imgC, shC, nu8])); (try replace e4 := e4.chgS g13o hcn (by simp [rcA, imgC, shC, nu8])); (try replace e3 := e3.chgS g13o hcn (by simp [rcA, imgC, shC, nu8])); (try replace e2 := e2.chgS g13o hcn (by simp [rcA, imgC, shC, nu8])); (try replace e1 := e1.chgS g13o hcn (by simp [rcA, imgC, shC, nu8])); (try replace rs1 := rs1.chg g13o (by simp [rcA, imgC, shC]) hcn); (try replace rs2 := rs2.chg g13o (by simp [rcA, imgC, shC]) hcn); have hsz := B.size; replace hzn := Nat.le_of_eq hzn.symm; replace B := Chg.below B hcn (by omega) B.size; (try replace q3 := q3.of_eq (hcn.block _ q3.lt (by omega))); (try replace c4 := c4.of_eq (hcn.block _ c4.lt (by omega))); (try replace a5 := a5.of_eq (hcn.block _ a5.lt (by omega))); (try replace r8 := r8.of_eq (hcn.block _ r8.lt (by omega))); (try replace r9 := r9.of_eq (hcn.block _ r9.lt (by omega))); (try replace d10 := d10.of_eq (hcn.block _ d10.lt (by omega))); (try replace m11 := m11.of_eq (hcn.block _ m11.lt (by omega))); (try replace f14 := f14.of_eq (hcn.block _ f14.lt (by omega))); (try replace w15 := w15.of_eq (hcn.block _ w15.lt (by omega))); (try replace h17 := h17.of_eq (hcn.block _ h17.lt (by omega))); (try replace n18 := n18.of_eq (hcn.block _ n18.lt (by omega))); (try replace rs1 := rs1.of_eq (hcn.block _ rs1.lt (by omega))); (try replace rs2 := rs2.of_eq (hcn.block _ rs2.lt (by omega))); (try replace e1 := e1.of_eq (hcn.block _ e1.lt (by omega))); (try replace e2 := e2.of_eq (hcn.block _ e2.lt (by omega))); (try replace e3 := e3.of_eq (hcn.block _ e3.lt (by omega))); (try replace e4 := e4.of_eq (hcn.block _ e4.lt (by omega))); (try replace e5 := e5.of_eq (hcn.block _ e5.lt (by omega))); have g13 := ht; clear ht; simp only [Act.put, List.setIfInBounds_toArray, List.set_cons_zero, List.set_cons_succ])
  refine wpList_nil ?_
  go_upto_region 7 with fail
  refine wp_region_lit ?_
  try simp only [List.getElem_toArray, List.getElem_cons_zero, List.getElem_cons_succ]
  refine wpList_chunk 1 (by kernel_rfl) ?_
  simp only [List.take_succ_cons, List.take_zero, List.drop_succ_cons, List.drop_zero, Nat.reduceAdd]
  repeat (first | go_big_quiet_skip | (go_big_quiet_want; first | (refine quiet_loadAny (t := 64) rfl _ _ _ rfl (fun w hw => run_load_B (ov_B c4 w hw) Try.isAgg64 (by kernel_rfl)) (by rfl) ?_; simp only [Act.put, List.setIfInBounds_toArray, List.set_cons_zero, List.set_cons_succ]; go_big_quiet_on) | (refine quiet_loadAny (t := 64) rfl _ _ _ rfl (fun w hw => run_load_B (ov_B d10 w hw) Try.isAgg64 (by kernel_rfl)) (by rfl) ?_; simp only [Act.put, List.setIfInBounds_toArray, List.set_cons_zero, List.set_cons_succ]; go_big_quiet_on) | (refine quiet_loadAny (t := 64) rfl _ _ _ rfl (fun w hw => run_load_B (ov_B f14 w hw) Try.isAgg64 (by kernel_rfl)) (by rfl) ?_; simp only [Act.put, List.setIfInBounds_toArray, List.set_cons_zero, List.set_cons_succ]; go_big_quiet_on) | (go_big_quiet_op; go_big_quiet_on)))
  refine wpQuiet_nil ?_
  (refine wpList_allocBk (t := 64) rfl _ (run_alloc_Rc _ _ rfl) ?_; intro b_f14 wn hle hge ht hbn hzn; have hsz := B.size; replace B := B.trans (hbn.mono (by omega)); have hln := Nat.lt_of_lt_of_eq (Nat.lt_succ_self _) hzn.symm; clear hzn; (try first | (have hlt := q3.lt; replace q3 := q3.of_eq (hbn.block _ (by omega))) | replace q3 := q3.below (hbn.mono hle)); (try first | (have hlt := c4.lt; replace c4 := c4.of_eq (hbn.block _ (by omega))) | replace c4 := c4.below (hbn.mono hle)); (try first | (have hlt := a5.lt; replace a5 := a5.of_eq (hbn.block _ (by omega))) | replace a5 := a5.below (hbn.mono hle)); (try first | (have hlt := r8.lt; replace r8 := r8.of_eq (hbn.block _ (by omega))) | replace r8 := r8.below (hbn.mono hle)); (try first | (have hlt := r9.lt; replace r9 := r9.of_eq (hbn.block _ (by omega))) | replace r9 := r9.below (hbn.mono hle)); (try first | (have hlt := d10.lt; replace d10 := d10.of_eq (hbn.block _ (by omega))) | replace d10 := d10.below (hbn.mono hle)); (try first | (have hlt := m11.lt; replace m11 := m11.of_eq (hbn.block _ (by omega))) | replace m11 := m11.below (hbn.mono hle)); (try first | (have hlt := g13.lt; replace g13 := g13.of_eq (hbn.block _ (by omega))) | replace g13 := g13.below (hbn.mono hle)); (try first | (have hlt := f14.lt; replace f14 := f14.of_eq (hbn.block _ (by omega))) | replace f14 := f14.below (hbn.mono hle)); (try first | (have hlt := w15.lt; replace w15 := w15.of_eq (hbn.block _ (by omega))) | replace w15 := w15.below (hbn.mono hle)); (try first | (have hlt := h17.lt; replace h17 := h17.of_eq (hbn.block _ (by omega))) | replace h17 := h17.below (hbn.mono hle)); (try first | (have hlt := n18.lt; replace n18 := n18.of_eq (hbn.block _ (by omega))) | replace n18 := n18.below (hbn.mono hle)); (try first | (have hlt := rs1.lt; replace rs1 := rs1.of_eq (hbn.block _ (by omega))) | replace rs1 := rs1.below (hbn.mono hle)); (try first | (have hlt := rs2.lt; replace rs2 := rs2.of_eq (hbn.block _ (by omega))) | replace rs2 := rs2.below (hbn.mono hle)); (try first | (have hlt := e1.lt; replace e1 := e1.of_eq (hbn.block _ (by omega))) | replace e1 := e1.below (hbn.mono hle)); (try first | (have hlt := e2.lt; replace e2 := e2.of_eq (hbn.block _ (by omega))) | replace e2 := e2.below (hbn.mono hle)); (try first | (have hlt := e3.lt; replace e3 := e3.of_eq (hbn.block _ (by omega))) | replace e3 := e3.below (hbn.mono hle)); (try first | (have hlt := e4.lt; replace e4 := e4.of_eq (hbn.block _ (by omega))) | replace e4 := e4.below (hbn.mono hle)); (try first | (have hlt := e5.lt; replace e5 := e5.of_eq (hbn.block _ (by omega))) | replace e5 := e5.below (hbn.mono hle)); have f14 := ht; clear ht; simp only [Act.put, List.setIfInBounds_toArray, List.set_cons_zero, List.set_cons_succ])
  (refine wpList_storeB (t := 64) rfl _ _ rfl _ rfl _ rfl f14 (by kernel_rfl) rfl (by simp [rcA, imgC, shC, Value.oneCell']) ?_; have f14o := f14; clear f14; intro wn ht hcn hzn; (try replace e5 := e5.chgS f14o hcn (by simp [rcA, imgC, shC, nu8])); (try replace e4 := e4.chgS f14o hcn (by simp [rcA, imgC, shC, nu8])); (try replace e3 := e3.chgS f14o hcn (by simp [rcA, imgC, shC, nu8])); (try replace e2 := e2.chgS f14o hcn (by simp [rcA, imgC, shC, nu8])); (try replace e1 := e1.chgS f14o hcn (by simp [rcA, imgC, shC, nu8])); (try replace rs1 := rs1.chg f14o (by simp [rcA, imgC, shC]) hcn); (try replace rs2 := rs2.chg f14o (by simp [rcA, imgC, shC]) hcn); have hsz := B.size; replace hzn := Nat.le_of_eq hzn.symm; replace B := Chg.below B hcn (by omega) B.size; (try replace q3 := q3.of_eq (hcn.block _ q3.lt (by omega))); (try replace c4 := c4.of_eq (hcn.block _ c4.lt (by omega))); (try replace a5 := a5.of_eq (hcn.block _ a5.lt (by omega))); (try replace r8 := r8.of_eq (hcn.block _ r8.lt (by omega))); (try replace r9 := r9.of_eq (hcn.block _ r9.lt (by omega))); (try replace d10 := d10.of_eq (hcn.block _ d10.lt (by omega))); (try replace m11 := m11.of_eq (hcn.block _ m11.lt (by omega))); (try replace g13 := g13.of_eq (hcn.block _ g13.lt (by omega))); (try replace w15 := w15.of_eq (hcn.block _ w15.lt (by omega))); (try replace h17 := h17.of_eq (hcn.block _ h17.lt (by omega))); (try replace n18 := n18.of_eq (hcn.block _ n18.lt (by omega))); (try replace rs1 := rs1.of_eq (hcn.block _ rs1.lt (by omega))); (try replace rs2 := rs2.of_eq (hcn.block _ rs2.lt (by omega))); (try replace e1 := e1.of_eq (hcn.block _ e1.lt (by omega))); (try replace e2 := e2.of_eq (hcn.block _ e2.lt (by omega))); (try replace e3 := e3.of_eq (hcn.block _ e3.lt (by omega))); (try replace e4 := e4.of_eq (hcn.block _ e4.lt (by omega))); (try replace e5 := e5.of_eq (hcn.block _ e5.lt (by omega))); have f14 := ht; clear ht; simp only [Act.put, List.setIfInBounds_toArray, List.set_cons_zero, List.set_cons_succ])
  refine wpList_nil ?_
  replace f14 : AtB 64 _ b_f14 (rcA c) := f14
  go_upto_region 8 with fail
  go_cut [47] from 41 to 46 (fun s wx => ∃ b : Bool, s = .bool b ∧ (b = true → -65536 ≤ c.x0 ∧ c.x0 ≤ 65536) ∧ Below w.heap.size w wx ∧ AtB 43 wx b_a5 #[.int .i64 x0, .int .i64 y0] ∧ AtB 30 wx b_r8 #[.slice a1 (ofL q L T).length c1] ∧ AtB 30 wx b_r9 #[.slice a2 (madeL L).length c2] ∧ AtB 64 wx b_d10 (rcA D) ∧ AtB 68 wx b_m11 (imgC (imR D) (.slice a_e1 (imLs D (fineL (ofL q L T))).length c_e1)) ∧ AtB 72 wx b_g13 (shC (imR D) (.slice a_e2 (imLs D (fineL (ofL q L T))).length c_e2) (fitsE D)) ∧ AtB 64 wx b_f14 (rcA c) ∧ RS (.slice a1 (ofL q L T).length c1) (ofL q L T) wx ∧ RS (.slice a2 (madeL L).length c2) (madeL L) wx ∧ RSE pxE (.slice a_e1 (imLs D (fineL (ofL q L T))).length c_e1) (imLs D (fineL (ofL q L T))) wx ∧ RSE pxE (.slice a_e2 (imLs D (fineL (ofL q L T))).length c_e2) (imLs D (fineL (ofL q L T))) wx)
  case first =>
    by_cases hv : validR c = true
    · obtain ⟨v1, v2⟩ := (validR_iff c).1 hv
      by_cases ha : 10000 < areaR c
      · have q1 : decide (10000 < areaR c) = true := decide_eq_true ha
        refine wp_region_lit ?_
        try simp only [List.getElem_toArray, List.getElem_cons_zero, List.getElem_cons_succ]
        refine wpList_chunk 1 (by kernel_rfl) ?_
        simp only [List.take_succ_cons, List.take_zero, List.drop_succ_cons, List.drop_zero, Nat.reduceAdd]
        repeat (first | go_big_quiet_skip | (go_big_quiet_want; first | (refine quiet_loadAny (t := 64) rfl _ _ _ rfl (fun w hw => run_load_B (ov_B c4 w hw) Try.isAgg64 (by kernel_rfl)) (by rfl) ?_; simp only [Act.put, List.setIfInBounds_toArray, List.set_cons_zero, List.set_cons_succ]; go_big_quiet_on) | (refine quiet_loadAny (t := 64) rfl _ _ _ rfl (fun w hw => run_load_B (ov_B d10 w hw) Try.isAgg64 (by kernel_rfl)) (by rfl) ?_; simp only [Act.put, List.setIfInBounds_toArray, List.set_cons_zero, List.set_cons_succ]; go_big_quiet_on) | (refine quiet_loadAny (t := 64) rfl _ _ _ rfl (fun w hw => run_load_B (ov_B f14 w hw) Try.isAgg64 (by kernel_rfl)) (by rfl) ?_; simp only [Act.put, List.setIfInBounds_toArray, List.set_cons_zero, List.set_cons_succ]; go_big_quiet_on) | (go_big_quiet_op; go_big_quiet_on)))
        refine wpQuiet_nil ?_
        refine wpList_callF (by first | rfl | simp [Region.wanted, yielded]) rfl (enters_of Try.func35 (by kernel_rfl) rfl) (by simp only [List.map_toArray, List.map_cons, List.map_nil, Act.eval, Array.getD_eq_getD_getElem?, List.getElem?_toArray, List.getElem?_cons_succ, List.getElem?_cons_zero, Option.getD_some]; rfl) ?_
        refine (R_ValidRB c true _ hv).mono ?_
        rintro e wn ⟨rfl, hbn⟩
        have hsz := B.size
        have hzn := hbn.size
        replace B := B.trans (hbn.mono B.size)
        (try first | replace q3 := q3.of_eq (hbn.block _ q3.lt) | replace q3 := q3.below hbn)
        (try first | replace c4 := c4.of_eq (hbn.block _ c4.lt) | replace c4 := c4.below hbn)
        (try first | replace a5 := a5.of_eq (hbn.block _ a5.lt) | replace a5 := a5.below hbn)
        (try first | replace r8 := r8.of_eq (hbn.block _ r8.lt) | replace r8 := r8.below hbn)
        (try first | replace r9 := r9.of_eq (hbn.block _ r9.lt) | replace r9 := r9.below hbn)
        (try first | replace d10 := d10.of_eq (hbn.block _ d10.lt) | replace d10 := d10.below hbn)
        (try first | replace m11 := m11.of_eq (hbn.block _ m11.lt) | replace m11 := m11.below hbn)
        (try first | replace g13 := g13.of_eq (hbn.block _ g13.lt) | replace g13 := g13.below hbn)
        (try first | replace f14 := f14.of_eq (hbn.block _ f14.lt) | replace f14 := f14.below hbn)
        (try first | replace w15 := w15.of_eq (hbn.block _ w15.lt) | replace w15 := w15.below hbn)
        (try first | replace h17 := h17.of_eq (hbn.block _ h17.lt) | replace h17 := h17.below hbn)
        (try first | replace n18 := n18.of_eq (hbn.block _ n18.lt) | replace n18 := n18.below hbn)
        (try first | replace rs1 := rs1.of_eq (hbn.block _ rs1.lt) | replace rs1 := rs1.below hbn)
        (try first | replace rs2 := rs2.of_eq (hbn.block _ rs2.lt) | replace rs2 := rs2.below hbn)
        (try first | replace e1 := e1.of_eq (hbn.block _ e1.lt) | replace e1 := e1.below hbn)
        (try first | replace e2 := e2.of_eq (hbn.block _ e2.lt) | replace e2 := e2.below hbn)
        (try first | replace e3 := e3.of_eq (hbn.block _ e3.lt) | replace e3 := e3.below hbn)
        (try first | replace e4 := e4.of_eq (hbn.block _ e4.lt) | replace e4 := e4.below hbn)
        (try first | replace e5 := e5.of_eq (hbn.block _ e5.lt) | replace e5 := e5.below hbn)
        refine ⟨_, rfl, ?_⟩
        simp only [Act.put, List.setIfInBounds_toArray, List.set_cons_zero, List.set_cons_succ]
        refine wpList_chunk 2 (by kernel_rfl) ?_
        simp only [List.take_succ_cons, List.take_zero, List.drop_succ_cons, List.drop_zero, Nat.reduceAdd]
        repeat (first | go_big_quiet_skip | (go_big_quiet_want; first | (refine quiet_loadAny (t := 64) rfl _ _ _ rfl (fun w hw => run_load_B (ov_B c4 w hw) Try.isAgg64 (by kernel_rfl)) (by rfl) ?_; simp only [Act.put, List.setIfInBounds_toArray, List.set_cons_zero, List.set_cons_succ]; go_big_quiet_on) | (refine quiet_loadAny (t := 64) rfl _ _ _ rfl (fun w hw => run_load_B (ov_B d10 w hw) Try.isAgg64 (by kernel_rfl)) (by rfl) ?_; simp only [Act.put, List.setIfInBounds_toArray, List.set_cons_zero, List.set_cons_succ]; go_big_quiet_on) | (refine quiet_loadAny (t := 64) rfl _ _ _ rfl (fun w hw => run_load_B (ov_B f14 w hw) Try.isAgg64 (by kernel_rfl)) (by rfl) ?_; simp only [Act.put, List.setIfInBounds_toArray, List.set_cons_zero, List.set_cons_succ]; go_big_quiet_on) | (go_big_quiet_op; go_big_quiet_on)))
        refine wpQuiet_nil ?_
        refine wpList_callF (by first | rfl | simp [Region.wanted, yielded]) rfl (enters_of Try.func36 (by kernel_rfl) rfl) (by simp only [List.map_toArray, List.map_cons, List.map_nil, Act.eval, Array.getD_eq_getD_getElem?, List.getElem?_toArray, List.getElem?_cons_succ, List.getElem?_cons_zero, Option.getD_some]; rfl) ?_
        refine (R_AreaV c _ hv).mono ?_
        rintro e wn ⟨rfl, hbn⟩
        have hsz := B.size
        have hzn := hbn.size
        replace B := B.trans (hbn.mono B.size)
        (try first | replace q3 := q3.of_eq (hbn.block _ q3.lt) | replace q3 := q3.below hbn)
        (try first | replace c4 := c4.of_eq (hbn.block _ c4.lt) | replace c4 := c4.below hbn)
        (try first | replace a5 := a5.of_eq (hbn.block _ a5.lt) | replace a5 := a5.below hbn)
        (try first | replace r8 := r8.of_eq (hbn.block _ r8.lt) | replace r8 := r8.below hbn)
        (try first | replace r9 := r9.of_eq (hbn.block _ r9.lt) | replace r9 := r9.below hbn)
        (try first | replace d10 := d10.of_eq (hbn.block _ d10.lt) | replace d10 := d10.below hbn)
        (try first | replace m11 := m11.of_eq (hbn.block _ m11.lt) | replace m11 := m11.below hbn)
        (try first | replace g13 := g13.of_eq (hbn.block _ g13.lt) | replace g13 := g13.below hbn)
        (try first | replace f14 := f14.of_eq (hbn.block _ f14.lt) | replace f14 := f14.below hbn)
        (try first | replace w15 := w15.of_eq (hbn.block _ w15.lt) | replace w15 := w15.below hbn)
        (try first | replace h17 := h17.of_eq (hbn.block _ h17.lt) | replace h17 := h17.below hbn)
        (try first | replace n18 := n18.of_eq (hbn.block _ n18.lt) | replace n18 := n18.below hbn)
        (try first | replace rs1 := rs1.of_eq (hbn.block _ rs1.lt) | replace rs1 := rs1.below hbn)
        (try first | replace rs2 := rs2.of_eq (hbn.block _ rs2.lt) | replace rs2 := rs2.below hbn)
        (try first | replace e1 := e1.of_eq (hbn.block _ e1.lt) | replace e1 := e1.below hbn)
        (try first | replace e2 := e2.of_eq (hbn.block _ e2.lt) | replace e2 := e2.below hbn)
        (try first | replace e3 := e3.of_eq (hbn.block _ e3.lt) | replace e3 := e3.below hbn)
        (try first | replace e4 := e4.of_eq (hbn.block _ e4.lt) | replace e4 := e4.below hbn)
        (try first | replace e5 := e5.of_eq (hbn.block _ e5.lt) | replace e5 := e5.below hbn)
        refine ⟨_, rfl, ?_⟩
        simp only [Act.put, List.setIfInBounds_toArray, List.set_cons_zero, List.set_cons_succ]
        refine wpList_chunk 2 (by kernel_rfl) ?_
        simp only [List.take_succ_cons, List.take_zero, List.drop_succ_cons, List.drop_zero, Nat.reduceAdd]
        repeat (first | go_big_quiet_skip | (go_big_quiet_want; first | (go_big_quiet_op; go_big_quiet_on)))
        refine wpQuiet_nil ?_
        refine wpList_nil ?_
        go_wp2
        go_meet
        exact ⟨true, rfl, fun _ => by omega, B, a5, r8, r9, d10, m11, g13, f14, rs1, rs2, e1, e2⟩
      · have q1 : decide (10000 < areaR c) = false := decide_eq_false ha
        refine wp_region_lit ?_
        try simp only [List.getElem_toArray, List.getElem_cons_zero, List.getElem_cons_succ]
        refine wpList_chunk 1 (by kernel_rfl) ?_
        simp only [List.take_succ_cons, List.take_zero, List.drop_succ_cons, List.drop_zero, Nat.reduceAdd]
        repeat (first | go_big_quiet_skip | (go_big_quiet_want; first | (refine quiet_loadAny (t := 64) rfl _ _ _ rfl (fun w hw => run_load_B (ov_B c4 w hw) Try.isAgg64 (by kernel_rfl)) (by rfl) ?_; simp only [Act.put, List.setIfInBounds_toArray, List.set_cons_zero, List.set_cons_succ]; go_big_quiet_on) | (refine quiet_loadAny (t := 64) rfl _ _ _ rfl (fun w hw => run_load_B (ov_B d10 w hw) Try.isAgg64 (by kernel_rfl)) (by rfl) ?_; simp only [Act.put, List.setIfInBounds_toArray, List.set_cons_zero, List.set_cons_succ]; go_big_quiet_on) | (refine quiet_loadAny (t := 64) rfl _ _ _ rfl (fun w hw => run_load_B (ov_B f14 w hw) Try.isAgg64 (by kernel_rfl)) (by rfl) ?_; simp only [Act.put, List.setIfInBounds_toArray, List.set_cons_zero, List.set_cons_succ]; go_big_quiet_on) | (go_big_quiet_op; go_big_quiet_on)))
        refine wpQuiet_nil ?_
        refine wpList_callF (by first | rfl | simp [Region.wanted, yielded]) rfl (enters_of Try.func35 (by kernel_rfl) rfl) (by simp only [List.map_toArray, List.map_cons, List.map_nil, Act.eval, Array.getD_eq_getD_getElem?, List.getElem?_toArray, List.getElem?_cons_succ, List.getElem?_cons_zero, Option.getD_some]; rfl) ?_
        refine (R_ValidRB c true _ hv).mono ?_
        rintro e wn ⟨rfl, hbn⟩
        have hsz := B.size
        have hzn := hbn.size
        replace B := B.trans (hbn.mono B.size)
        (try first | replace q3 := q3.of_eq (hbn.block _ q3.lt) | replace q3 := q3.below hbn)
        (try first | replace c4 := c4.of_eq (hbn.block _ c4.lt) | replace c4 := c4.below hbn)
        (try first | replace a5 := a5.of_eq (hbn.block _ a5.lt) | replace a5 := a5.below hbn)
        (try first | replace r8 := r8.of_eq (hbn.block _ r8.lt) | replace r8 := r8.below hbn)
        (try first | replace r9 := r9.of_eq (hbn.block _ r9.lt) | replace r9 := r9.below hbn)
        (try first | replace d10 := d10.of_eq (hbn.block _ d10.lt) | replace d10 := d10.below hbn)
        (try first | replace m11 := m11.of_eq (hbn.block _ m11.lt) | replace m11 := m11.below hbn)
        (try first | replace g13 := g13.of_eq (hbn.block _ g13.lt) | replace g13 := g13.below hbn)
        (try first | replace f14 := f14.of_eq (hbn.block _ f14.lt) | replace f14 := f14.below hbn)
        (try first | replace w15 := w15.of_eq (hbn.block _ w15.lt) | replace w15 := w15.below hbn)
        (try first | replace h17 := h17.of_eq (hbn.block _ h17.lt) | replace h17 := h17.below hbn)
        (try first | replace n18 := n18.of_eq (hbn.block _ n18.lt) | replace n18 := n18.below hbn)
        (try first | replace rs1 := rs1.of_eq (hbn.block _ rs1.lt) | replace rs1 := rs1.below hbn)
        (try first | replace rs2 := rs2.of_eq (hbn.block _ rs2.lt) | replace rs2 := rs2.below hbn)
        (try first | replace e1 := e1.of_eq (hbn.block _ e1.lt) | replace e1 := e1.below hbn)
        (try first | replace e2 := e2.of_eq (hbn.block _ e2.lt) | replace e2 := e2.below hbn)
        (try first | replace e3 := e3.of_eq (hbn.block _ e3.lt) | replace e3 := e3.below hbn)
        (try first | replace e4 := e4.of_eq (hbn.block _ e4.lt) | replace e4 := e4.below hbn)
        (try first | replace e5 := e5.of_eq (hbn.block _ e5.lt) | replace e5 := e5.below hbn)
        refine ⟨_, rfl, ?_⟩
        simp only [Act.put, List.setIfInBounds_toArray, List.set_cons_zero, List.set_cons_succ]
        refine wpList_chunk 2 (by kernel_rfl) ?_
        simp only [List.take_succ_cons, List.take_zero, List.drop_succ_cons, List.drop_zero, Nat.reduceAdd]
        repeat (first | go_big_quiet_skip | (go_big_quiet_want; first | (refine quiet_loadAny (t := 64) rfl _ _ _ rfl (fun w hw => run_load_B (ov_B c4 w hw) Try.isAgg64 (by kernel_rfl)) (by rfl) ?_; simp only [Act.put, List.setIfInBounds_toArray, List.set_cons_zero, List.set_cons_succ]; go_big_quiet_on) | (refine quiet_loadAny (t := 64) rfl _ _ _ rfl (fun w hw => run_load_B (ov_B d10 w hw) Try.isAgg64 (by kernel_rfl)) (by rfl) ?_; simp only [Act.put, List.setIfInBounds_toArray, List.set_cons_zero, List.set_cons_succ]; go_big_quiet_on) | (refine quiet_loadAny (t := 64) rfl _ _ _ rfl (fun w hw => run_load_B (ov_B f14 w hw) Try.isAgg64 (by kernel_rfl)) (by rfl) ?_; simp only [Act.put, List.setIfInBounds_toArray, List.set_cons_zero, List.set_cons_succ]; go_big_quiet_on) | (go_big_quiet_op; go_big_quiet_on)))
        refine wpQuiet_nil ?_
        refine wpList_callF (by first | rfl | simp [Region.wanted, yielded]) rfl (enters_of Try.func36 (by kernel_rfl) rfl) (by simp only [List.map_toArray, List.map_cons, List.map_nil, Act.eval, Array.getD_eq_getD_getElem?, List.getElem?_toArray, List.getElem?_cons_succ, List.getElem?_cons_zero, Option.getD_some]; rfl) ?_
        refine (R_AreaV c _ hv).mono ?_
        rintro e wn ⟨rfl, hbn⟩
        have hsz := B.size
        have hzn := hbn.size
        replace B := B.trans (hbn.mono B.size)
        (try first | replace q3 := q3.of_eq (hbn.block _ q3.lt) | replace q3 := q3.below hbn)
        (try first | replace c4 := c4.of_eq (hbn.block _ c4.lt) | replace c4 := c4.below hbn)
        (try first | replace a5 := a5.of_eq (hbn.block _ a5.lt) | replace a5 := a5.below hbn)
        (try first | replace r8 := r8.of_eq (hbn.block _ r8.lt) | replace r8 := r8.below hbn)
        (try first | replace r9 := r9.of_eq (hbn.block _ r9.lt) | replace r9 := r9.below hbn)
        (try first | replace d10 := d10.of_eq (hbn.block _ d10.lt) | replace d10 := d10.below hbn)
        (try first | replace m11 := m11.of_eq (hbn.block _ m11.lt) | replace m11 := m11.below hbn)
        (try first | replace g13 := g13.of_eq (hbn.block _ g13.lt) | replace g13 := g13.below hbn)
        (try first | replace f14 := f14.of_eq (hbn.block _ f14.lt) | replace f14 := f14.below hbn)
        (try first | replace w15 := w15.of_eq (hbn.block _ w15.lt) | replace w15 := w15.below hbn)
        (try first | replace h17 := h17.of_eq (hbn.block _ h17.lt) | replace h17 := h17.below hbn)
        (try first | replace n18 := n18.of_eq (hbn.block _ n18.lt) | replace n18 := n18.below hbn)
        (try first | replace rs1 := rs1.of_eq (hbn.block _ rs1.lt) | replace rs1 := rs1.below hbn)
        (try first | replace rs2 := rs2.of_eq (hbn.block _ rs2.lt) | replace rs2 := rs2.below hbn)
        (try first | replace e1 := e1.of_eq (hbn.block _ e1.lt) | replace e1 := e1.below hbn)
        (try first | replace e2 := e2.of_eq (hbn.block _ e2.lt) | replace e2 := e2.below hbn)
        (try first | replace e3 := e3.of_eq (hbn.block _ e3.lt) | replace e3 := e3.below hbn)
        (try first | replace e4 := e4.of_eq (hbn.block _ e4.lt) | replace e4 := e4.below hbn)
        (try first | replace e5 := e5.of_eq (hbn.block _ e5.lt) | replace e5 := e5.below hbn)
        refine ⟨_, rfl, ?_⟩
        simp only [Act.put, List.setIfInBounds_toArray, List.set_cons_zero, List.set_cons_succ]
        refine wpList_chunk 2 (by kernel_rfl) ?_
        simp only [List.take_succ_cons, List.take_zero, List.drop_succ_cons, List.drop_zero, Nat.reduceAdd]
        repeat (first | go_big_quiet_skip | (go_big_quiet_want; first | (go_big_quiet_op; go_big_quiet_on)))
        refine wpQuiet_nil ?_
        refine wpList_nil ?_
        go_wp2
        go_meet
        exact ⟨false, rfl, fun h => absurd h (by decide), B, a5, r8, r9, d10, m11, g13, f14, rs1, rs2, e1, e2⟩
    · have hv' : validR c = false := by simpa using hv
      refine wp_region_lit ?_
      try simp only [List.getElem_toArray, List.getElem_cons_zero, List.getElem_cons_succ]
      refine wpList_chunk 1 (by kernel_rfl) ?_
      simp only [List.take_succ_cons, List.take_zero, List.drop_succ_cons, List.drop_zero, Nat.reduceAdd]
      repeat (first | go_big_quiet_skip | (go_big_quiet_want; first | (refine quiet_loadAny (t := 64) rfl _ _ _ rfl (fun w hw => run_load_B (ov_B c4 w hw) Try.isAgg64 (by kernel_rfl)) (by rfl) ?_; simp only [Act.put, List.setIfInBounds_toArray, List.set_cons_zero, List.set_cons_succ]; go_big_quiet_on) | (refine quiet_loadAny (t := 64) rfl _ _ _ rfl (fun w hw => run_load_B (ov_B d10 w hw) Try.isAgg64 (by kernel_rfl)) (by rfl) ?_; simp only [Act.put, List.setIfInBounds_toArray, List.set_cons_zero, List.set_cons_succ]; go_big_quiet_on) | (refine quiet_loadAny (t := 64) rfl _ _ _ rfl (fun w hw => run_load_B (ov_B f14 w hw) Try.isAgg64 (by kernel_rfl)) (by rfl) ?_; simp only [Act.put, List.setIfInBounds_toArray, List.set_cons_zero, List.set_cons_succ]; go_big_quiet_on) | (go_big_quiet_op; go_big_quiet_on)))
      refine wpQuiet_nil ?_
      refine wpList_callF (by first | rfl | simp [Region.wanted, yielded]) rfl (enters_of Try.func35 (by kernel_rfl) rfl) (by simp only [List.map_toArray, List.map_cons, List.map_nil, Act.eval, Array.getD_eq_getD_getElem?, List.getElem?_toArray, List.getElem?_cons_succ, List.getElem?_cons_zero, Option.getD_some]; rfl) ?_
      refine (R_ValidRB c false _ hv').mono ?_
      rintro e wn ⟨rfl, hbn⟩
      have hsz := B.size
      have hzn := hbn.size
      replace B := B.trans (hbn.mono B.size)
      (try first | replace q3 := q3.of_eq (hbn.block _ q3.lt) | replace q3 := q3.below hbn)
      (try first | replace c4 := c4.of_eq (hbn.block _ c4.lt) | replace c4 := c4.below hbn)
      (try first | replace a5 := a5.of_eq (hbn.block _ a5.lt) | replace a5 := a5.below hbn)
      (try first | replace r8 := r8.of_eq (hbn.block _ r8.lt) | replace r8 := r8.below hbn)
      (try first | replace r9 := r9.of_eq (hbn.block _ r9.lt) | replace r9 := r9.below hbn)
      (try first | replace d10 := d10.of_eq (hbn.block _ d10.lt) | replace d10 := d10.below hbn)
      (try first | replace m11 := m11.of_eq (hbn.block _ m11.lt) | replace m11 := m11.below hbn)
      (try first | replace g13 := g13.of_eq (hbn.block _ g13.lt) | replace g13 := g13.below hbn)
      (try first | replace f14 := f14.of_eq (hbn.block _ f14.lt) | replace f14 := f14.below hbn)
      (try first | replace w15 := w15.of_eq (hbn.block _ w15.lt) | replace w15 := w15.below hbn)
      (try first | replace h17 := h17.of_eq (hbn.block _ h17.lt) | replace h17 := h17.below hbn)
      (try first | replace n18 := n18.of_eq (hbn.block _ n18.lt) | replace n18 := n18.below hbn)
      (try first | replace rs1 := rs1.of_eq (hbn.block _ rs1.lt) | replace rs1 := rs1.below hbn)
      (try first | replace rs2 := rs2.of_eq (hbn.block _ rs2.lt) | replace rs2 := rs2.below hbn)
      (try first | replace e1 := e1.of_eq (hbn.block _ e1.lt) | replace e1 := e1.below hbn)
      (try first | replace e2 := e2.of_eq (hbn.block _ e2.lt) | replace e2 := e2.below hbn)
      (try first | replace e3 := e3.of_eq (hbn.block _ e3.lt) | replace e3 := e3.below hbn)
      (try first | replace e4 := e4.of_eq (hbn.block _ e4.lt) | replace e4 := e4.below hbn)
      (try first | replace e5 := e5.of_eq (hbn.block _ e5.lt) | replace e5 := e5.below hbn)
      refine ⟨_, rfl, ?_⟩
      simp only [Act.put, List.setIfInBounds_toArray, List.set_cons_zero, List.set_cons_succ]
      refine wpList_chunk 2 (by kernel_rfl) ?_
      simp only [List.take_succ_cons, List.take_zero, List.drop_succ_cons, List.drop_zero, Nat.reduceAdd]
      repeat (first | go_big_quiet_skip | (go_big_quiet_want; first | (refine quiet_loadAny (t := 64) rfl _ _ _ rfl (fun w hw => run_load_B (ov_B c4 w hw) Try.isAgg64 (by kernel_rfl)) (by rfl) ?_; simp only [Act.put, List.setIfInBounds_toArray, List.set_cons_zero, List.set_cons_succ]; go_big_quiet_on) | (refine quiet_loadAny (t := 64) rfl _ _ _ rfl (fun w hw => run_load_B (ov_B d10 w hw) Try.isAgg64 (by kernel_rfl)) (by rfl) ?_; simp only [Act.put, List.setIfInBounds_toArray, List.set_cons_zero, List.set_cons_succ]; go_big_quiet_on) | (refine quiet_loadAny (t := 64) rfl _ _ _ rfl (fun w hw => run_load_B (ov_B f14 w hw) Try.isAgg64 (by kernel_rfl)) (by rfl) ?_; simp only [Act.put, List.setIfInBounds_toArray, List.set_cons_zero, List.set_cons_succ]; go_big_quiet_on) | (go_big_quiet_op; go_big_quiet_on)))
      refine wpQuiet_nil ?_
      refine wpList_skip (by first | rfl | simp [Region.wanted, yielded]) ?_
      simp only [Act.put, List.setIfInBounds_toArray, List.set_cons_zero, List.set_cons_succ]
      refine wpList_chunk 2 (by kernel_rfl) ?_
      simp only [List.take_succ_cons, List.take_zero, List.drop_succ_cons, List.drop_zero, Nat.reduceAdd]
      repeat (first | go_big_quiet_skip | (go_big_quiet_want; first | (go_big_quiet_op; go_big_quiet_on)))
      refine wpQuiet_nil ?_
      refine wpList_nil ?_
      go_wp2
      go_meet
      exact ⟨false, rfl, fun h => absurd h (by decide), B, a5, r8, r9, d10, m11, g13, f14, rs1, rs2, e1, e2⟩
  case rest =>
    clear B a5 r8 r9 d10 m11 g13 f14 rs1 rs2 e1 e2
    obtain ⟨b, rfl, hb, B, a5, r8, r9, d10, m11, g13, f14, rs1, rs2, e1, e2⟩ := hcut
    go_upto_if 47 with fail
    go_cut [] from 47 to 51 (fun wx => ∃ FR : Rc, Below w.heap.size w wx ∧ AtB 43 wx b_a5 #[.int .i64 x0, .int .i64 y0] ∧ AtB 30 wx b_r8 #[.slice a1 (ofL q L T).length c1] ∧ AtB 30 wx b_r9 #[.slice a2 (madeL L).length c2] ∧ AtB 64 wx b_d10 (rcA D) ∧ AtB 68 wx b_m11 (imgC (imR D) (.slice a_e1 (imLs D (fineL (ofL q L T))).length c_e1)) ∧ AtB 72 wx b_g13 (shC (imR D) (.slice a_e2 (imLs D (fineL (ofL q L T))).length c_e2) (fitsE D)) ∧ AtB 64 wx b_f14 (rcA FR) ∧ RS (.slice a1 (ofL q L T).length c1) (ofL q L T) wx ∧ RS (.slice a2 (madeL L).length c2) (madeL L) wx ∧ RSE pxE (.slice a_e1 (imLs D (fineL (ofL q L T))).length c_e1) (imLs D (fineL (ofL q L T))) wx ∧ RSE pxE (.slice a_e2 (imLs D (fineL (ofL q L T))).length c_e2) (imLs D (fineL (ofL q L T))) wx)
    case first =>
      cases b with
      | true =>
        have hb2 := hb rfl
        go_upto_region 9 with fail
        refine wp_region_lit ?_
        try simp only [List.getElem_toArray, List.getElem_cons_zero, List.getElem_cons_succ]
        refine wpList_chunk 4 (by kernel_rfl) ?_
        simp only [List.take_succ_cons, List.take_zero, List.drop_succ_cons, List.drop_zero, Nat.reduceAdd]
        repeat (first | go_big_quiet_skip | (go_big_quiet_want; first | (refine quiet_loadAny (t := 3) rfl _ _ _ rfl (fun w hw => run_load_int ((ov_B d10 w hw).cellL 0 rfl)) (by rfl) ?_; simp only [Act.put, List.setIfInBounds_toArray, List.set_cons_zero, List.set_cons_succ]; go_big_quiet_on) | (refine quiet_loadAny (t := 3) rfl _ _ _ rfl (fun w hw => run_load_int ((ov_B d10 w hw).cellL 1 rfl)) (by rfl) ?_; simp only [Act.put, List.setIfInBounds_toArray, List.set_cons_zero, List.set_cons_succ]; go_big_quiet_on) | (refine quiet_loadAny (t := 3) rfl _ _ _ rfl (fun w hw => run_load_int ((ov_B d10 w hw).cellL 2 rfl)) (by rfl) ?_; simp only [Act.put, List.setIfInBounds_toArray, List.set_cons_zero, List.set_cons_succ]; go_big_quiet_on) | (refine quiet_loadAny (t := 3) rfl _ _ _ rfl (fun w hw => run_load_int ((ov_B d10 w hw).cellL 3 rfl)) (by rfl) ?_; simp only [Act.put, List.setIfInBounds_toArray, List.set_cons_zero, List.set_cons_succ]; go_big_quiet_on) | (refine quiet_loadAny (t := 3) rfl _ _ _ rfl (fun w hw => run_load_int ((ov_B f14 w hw).cellL 0 rfl)) (by rfl) ?_; simp only [Act.put, List.setIfInBounds_toArray, List.set_cons_zero, List.set_cons_succ]; go_big_quiet_on) | (refine quiet_loadAny (t := 3) rfl _ _ _ rfl (fun w hw => run_load_int ((ov_B f14 w hw).cellL 1 rfl)) (by rfl) ?_; simp only [Act.put, List.setIfInBounds_toArray, List.set_cons_zero, List.set_cons_succ]; go_big_quiet_on) | (refine quiet_loadAny (t := 3) rfl _ _ _ rfl (fun w hw => run_load_int ((ov_B f14 w hw).cellL 2 rfl)) (by rfl) ?_; simp only [Act.put, List.setIfInBounds_toArray, List.set_cons_zero, List.set_cons_succ]; go_big_quiet_on) | (refine quiet_loadAny (t := 3) rfl _ _ _ rfl (fun w hw => run_load_int ((ov_B f14 w hw).cellL 3 rfl)) (by rfl) ?_; simp only [Act.put, List.setIfInBounds_toArray, List.set_cons_zero, List.set_cons_succ]; go_big_quiet_on) | (refine quiet_loadAny (t := 3) rfl _ _ _ rfl (fun w hw => run_load_int ((ov_B a5 w hw).cellL 0 rfl)) (by rfl) ?_; simp only [Act.put, List.setIfInBounds_toArray, List.set_cons_zero, List.set_cons_succ]; go_big_quiet_on) | (refine quiet_loadAny (t := 3) rfl _ _ _ rfl (fun w hw => run_load_int ((ov_B a5 w hw).cellL 1 rfl)) (by rfl) ?_; simp only [Act.put, List.setIfInBounds_toArray, List.set_cons_zero, List.set_cons_succ]; go_big_quiet_on) | (go_big_quiet_op; go_big_quiet_on)))
        refine wpQuiet_nil ?_
        (refine wpList_storeX1 rfl _ _ rfl _ rfl _ rfl f14 ?_; have f14o := f14; clear f14; intro wn ht hcn hzn; (try replace e5 := e5.chgS f14o hcn (by simp [rcA, nu8])); (try replace e4 := e4.chgS f14o hcn (by simp [rcA, nu8])); (try replace e3 := e3.chgS f14o hcn (by simp [rcA, nu8])); (try replace e2 := e2.chgS f14o hcn (by simp [rcA, nu8])); (try replace e1 := e1.chgS f14o hcn (by simp [rcA, nu8])); (try replace rs1 := rs1.chg f14o (by simp [rcA]) hcn); (try replace rs2 := rs2.chg f14o (by simp [rcA]) hcn); have hsz := B.size; replace hzn := Nat.le_of_eq hzn.symm; replace B := Chg.below B hcn (by omega) B.size; (try replace q3 := q3.of_eq (hcn.block _ q3.lt (by omega))); (try replace c4 := c4.of_eq (hcn.block _ c4.lt (by omega))); (try replace a5 := a5.of_eq (hcn.block _ a5.lt (by omega))); (try replace r8 := r8.of_eq (hcn.block _ r8.lt (by omega))); (try replace r9 := r9.of_eq (hcn.block _ r9.lt (by omega))); (try replace d10 := d10.of_eq (hcn.block _ d10.lt (by omega))); (try replace m11 := m11.of_eq (hcn.block _ m11.lt (by omega))); (try replace g13 := g13.of_eq (hcn.block _ g13.lt (by omega))); (try replace w15 := w15.of_eq (hcn.block _ w15.lt (by omega))); (try replace h17 := h17.of_eq (hcn.block _ h17.lt (by omega))); (try replace n18 := n18.of_eq (hcn.block _ n18.lt (by omega))); (try replace rs1 := rs1.of_eq (hcn.block _ rs1.lt (by omega))); (try replace rs2 := rs2.of_eq (hcn.block _ rs2.lt (by omega))); (try replace e1 := e1.of_eq (hcn.block _ e1.lt (by omega))); (try replace e2 := e2.of_eq (hcn.block _ e2.lt (by omega))); (try replace e3 := e3.of_eq (hcn.block _ e3.lt (by omega))); (try replace e4 := e4.of_eq (hcn.block _ e4.lt (by omega))); (try replace e5 := e5.of_eq (hcn.block _ e5.lt (by omega))); have f14 := ht; clear ht; simp only [Act.put, List.setIfInBounds_toArray, List.set_cons_zero, List.set_cons_succ])
        refine wpList_nil ?_
        go_wp2
        go_meet
        exact ⟨_, B, a5, r8, r9, d10, m11, g13, f14, rs1, rs2, e1, e2⟩
      | false =>
        go_wp2
        go_meet
        exact ⟨_, B, a5, r8, r9, d10, m11, g13, f14, rs1, rs2, e1, e2⟩
    case rest =>
      clear B a5 r8 r9 d10 m11 g13 f14 rs1 rs2 e1 e2 hb
      obtain ⟨FR, B, a5, r8, r9, d10, m11, g13, f14, rs1, rs2, e1, e2⟩ := hcut
      replace f14 : AtB 64 _ b_f14 (rcA FR) := f14
      go_upto_region 10 with fail
      refine wp_region_lit ?_
      try simp only [List.getElem_toArray, List.getElem_cons_zero, List.getElem_cons_succ]
      refine wpList_chunk 2 (by kernel_rfl) ?_
      simp only [List.take_succ_cons, List.take_zero, List.drop_succ_cons, List.drop_zero, Nat.reduceAdd]
      repeat (first | go_big_quiet_skip | (go_big_quiet_want; first | (refine quiet_loadAny (t := 30) rfl _ _ _ rfl (fun w hw => run_load_B (ov_B r8 w hw) Try.isAgg30 (by kernel_rfl)) (by rfl) ?_; simp only [Act.put, List.setIfInBounds_toArray, List.set_cons_zero, List.set_cons_succ]; go_big_quiet_on) | (refine quiet_loadAny (t := 30) rfl _ _ _ rfl (fun w hw => run_load_B (ov_B r9 w hw) Try.isAgg30 (by kernel_rfl)) (by rfl) ?_; simp only [Act.put, List.setIfInBounds_toArray, List.set_cons_zero, List.set_cons_succ]; go_big_quiet_on) | (refine quiet_loadAny (t := 64) rfl _ _ _ rfl (fun w hw => run_load_B (ov_B c4 w hw) Try.isAgg64 (by kernel_rfl)) (by rfl) ?_; simp only [Act.put, List.setIfInBounds_toArray, List.set_cons_zero, List.set_cons_succ]; go_big_quiet_on) | (refine quiet_loadAny (t := 64) rfl _ _ _ rfl (fun w hw => run_load_B (ov_B d10 w hw) Try.isAgg64 (by kernel_rfl)) (by rfl) ?_; simp only [Act.put, List.setIfInBounds_toArray, List.set_cons_zero, List.set_cons_succ]; go_big_quiet_on) | (refine quiet_loadAny (t := 64) rfl _ _ _ rfl (fun w hw => run_load_B (ov_B f14 w hw) Try.isAgg64 (by kernel_rfl)) (by rfl) ?_; simp only [Act.put, List.setIfInBounds_toArray, List.set_cons_zero, List.set_cons_succ]; go_big_quiet_on) | (go_big_quiet_op; go_big_quiet_on)))
      refine wpQuiet_nil ?_
      refine wpList_callF (by first | rfl | simp [Region.wanted, yielded]) rfl (enters_of Try.func33 (by kernel_rfl) rfl) (by simp only [List.map_toArray, List.map_cons, List.map_nil, Act.eval, Array.getD_eq_getD_getElem?, List.getElem?_toArray, List.getElem?_cons_succ, List.getElem?_cons_zero, Option.getD_some]; rfl) ?_
      refine (P_ImageA _ (ofL q L T) (FR) _ rs1 (ofL_tok q L T) HN.out).mono ?_
      rintro e wn ⟨a_e3, c_e3, rfl, e3, hbn⟩
      have hsz := B.size
      have hzn := hbn.size
      replace B := B.trans (hbn.mono B.size)
      (try first | replace q3 := q3.of_eq (hbn.block _ q3.lt) | replace q3 := q3.below hbn)
      (try first | replace c4 := c4.of_eq (hbn.block _ c4.lt) | replace c4 := c4.below hbn)
      (try first | replace a5 := a5.of_eq (hbn.block _ a5.lt) | replace a5 := a5.below hbn)
      (try first | replace r8 := r8.of_eq (hbn.block _ r8.lt) | replace r8 := r8.below hbn)
      (try first | replace r9 := r9.of_eq (hbn.block _ r9.lt) | replace r9 := r9.below hbn)
      (try first | replace d10 := d10.of_eq (hbn.block _ d10.lt) | replace d10 := d10.below hbn)
      (try first | replace m11 := m11.of_eq (hbn.block _ m11.lt) | replace m11 := m11.below hbn)
      (try first | replace g13 := g13.of_eq (hbn.block _ g13.lt) | replace g13 := g13.below hbn)
      (try first | replace f14 := f14.of_eq (hbn.block _ f14.lt) | replace f14 := f14.below hbn)
      (try first | replace w15 := w15.of_eq (hbn.block _ w15.lt) | replace w15 := w15.below hbn)
      (try first | replace h17 := h17.of_eq (hbn.block _ h17.lt) | replace h17 := h17.below hbn)
      (try first | replace n18 := n18.of_eq (hbn.block _ n18.lt) | replace n18 := n18.below hbn)
      (try first | replace rs1 := rs1.of_eq (hbn.block _ rs1.lt) | replace rs1 := rs1.below hbn)
      (try first | replace rs2 := rs2.of_eq (hbn.block _ rs2.lt) | replace rs2 := rs2.below hbn)
      (try first | replace e1 := e1.of_eq (hbn.block _ e1.lt) | replace e1 := e1.below hbn)
      (try first | replace e2 := e2.of_eq (hbn.block _ e2.lt) | replace e2 := e2.below hbn)
      (try first | replace e3 := e3.of_eq (hbn.block _ e3.lt) | replace e3 := e3.below hbn)
      (try first | replace e4 := e4.of_eq (hbn.block _ e4.lt) | replace e4 := e4.below hbn)
      (try first | replace e5 := e5.of_eq (hbn.block _ e5.lt) | replace e5 := e5.below hbn)
      refine ⟨_, rfl, ?_⟩
      simp only [Act.put, List.setIfInBounds_toArray, List.set_cons_zero, List.set_cons_succ]
      refine wpList_chunk 3 (by kernel_rfl) ?_
      simp only [List.take_succ_cons, List.take_zero, List.drop_succ_cons, List.drop_zero, Nat.reduceAdd]
      repeat (first | go_big_quiet_skip | (go_big_quiet_want; first | (go_big_quiet_op; go_big_quiet_on)))
      refine wpQuiet_nil ?_
      (refine wpList_allocBk (t := 68) rfl _ (run_alloc_Im _ _ rfl) ?_; intro b_w15 wn hle hge ht hbn hzn; have hsz := B.size; replace B := B.trans (hbn.mono (by omega)); have hln := Nat.lt_of_lt_of_eq (Nat.lt_succ_self _) hzn.symm; clear hzn; (try first | (have hlt := q3.lt; replace q3 := q3.of_eq (hbn.block _ (by omega))) | replace q3 := q3.below (hbn.mono hle)); (try first | (have hlt := c4.lt; replace c4 := c4.of_eq (hbn.block _ (by omega))) | replace c4 := c4.below (hbn.mono hle)); (try first | (have hlt := a5.lt; replace a5 := a5.of_eq (hbn.block _ (by omega))) | replace a5 := a5.below (hbn.mono hle)); (try first | (have hlt := r8.lt; replace r8 := r8.of_eq (hbn.block _ (by omega))) | replace r8 := r8.below (hbn.mono hle)); (try first | (have hlt := r9.lt; replace r9 := r9.of_eq (hbn.block _ (by omega))) | replace r9 := r9.below (hbn.mono hle)); (try first | (have hlt := d10.lt; replace d10 := d10.of_eq (hbn.block _ (by omega))) | replace d10 := d10.below (hbn.mono hle)); (try first | (have hlt := m11.lt; replace m11 := m11.of_eq (hbn.block _ (by omega))) | replace m11 := m11.below (hbn.mono hle)); (try first | (have hlt := g13.lt; replace g13 := g13.of_eq (hbn.block _ (by omega))) | replace g13 := g13.below (hbn.mono hle)); (try first | (have hlt := f14.lt; replace f14 := f14.of_eq (hbn.block _ (by omega))) | replace f14 := f14.below (hbn.mono hle)); (try first | (have hlt := w15.lt; replace w15 := w15.of_eq (hbn.block _ (by omega))) | replace w15 := w15.below (hbn.mono hle)); (try first | (have hlt := h17.lt; replace h17 := h17.of_eq (hbn.block _ (by omega))) | replace h17 := h17.below (hbn.mono hle)); (try first | (have hlt := n18.lt; replace n18 := n18.of_eq (hbn.block _ (by omega))) | replace n18 := n18.below (hbn.mono hle)); (try first | (have hlt := rs1.lt; replace rs1 := rs1.of_eq (hbn.block _ (by omega))) | replace rs1 := rs1.below (hbn.mono hle)); (try first | (have hlt := rs2.lt; replace rs2 := rs2.of_eq (hbn.block _ (by omega))) | replace rs2 := rs2.below (hbn.mono hle)); (try first | (have hlt := e1.lt; replace e1 := e1.of_eq (hbn.block _ (by omega))) | replace e1 := e1.below (hbn.mono hle)); (try first | (have hlt := e2.lt; replace e2 := e2.of_eq (hbn.block _ (by omega))) | replace e2 := e2.below (hbn.mono hle)); (try first | (have hlt := e3.lt; replace e3 := e3.of_eq (hbn.block _ (by omega))) | replace e3 := e3.below (hbn.mono hle)); (try first | (have hlt := e4.lt; replace e4 := e4.of_eq (hbn.block _ (by omega))) | replace e4 := e4.below (hbn.mono hle)); (try first | (have hlt := e5.lt; replace e5 := e5.of_eq (hbn.block _ (by omega))) | replace e5 := e5.below (hbn.mono hle)); have w15 := ht; clear ht; simp only [Act.put, List.setIfInBounds_toArray, List.set_cons_zero, List.set_cons_succ])
      (refine wpList_storeB (t := 68) rfl _ _ rfl _ rfl _ rfl w15 (by kernel_rfl) rfl (by simp [rcA, imgC, shC, Value.oneCell']) ?_; have w15o := w15; clear w15; intro wn ht hcn hzn; (try replace e5 := e5.chgS w15o hcn (by simp [rcA, imgC, shC, nu8])); (try replace e4 := e4.chgS w15o hcn (by simp [rcA, imgC, shC, nu8])); (try replace e3 := e3.chgS w15o hcn (by simp [rcA, imgC, shC, nu8])); (try replace e2 := e2.chgS w15o hcn (by simp [rcA, imgC, shC, nu8])); (try replace e1 := e1.chgS w15o hcn (by simp [rcA, imgC, shC, nu8])); (try replace rs1 := rs1.chg w15o (by simp [rcA, imgC, shC]) hcn); (try replace rs2 := rs2.chg w15o (by simp [rcA, imgC, shC]) hcn); have hsz := B.size; replace hzn := Nat.le_of_eq hzn.symm; replace B := Chg.below B hcn (by omega) B.size; (try replace q3 := q3.of_eq (hcn.block _ q3.lt (by omega))); (try replace c4 := c4.of_eq (hcn.block _ c4.lt (by omega))); (try replace a5 := a5.of_eq (hcn.block _ a5.lt (by omega))); (try replace r8 := r8.of_eq (hcn.block _ r8.lt (by omega))); (try replace r9 := r9.of_eq (hcn.block _ r9.lt (by omega))); (try replace d10 := d10.of_eq (hcn.block _ d10.lt (by omega))); (try replace m11 := m11.of_eq (hcn.block _ m11.lt (by omega))); (try replace g13 := g13.of_eq (hcn.block _ g13.lt (by omega))); (try replace f14 := f14.of_eq (hcn.block _ f14.lt (by omega))); (try replace h17 := h17.of_eq (hcn.block _ h17.lt (by omega))); (try replace n18 := n18.of_eq (hcn.block _ n18.lt (by omega))); (try replace rs1 := rs1.of_eq (hcn.block _ rs1.lt (by omega))); (try replace rs2 := rs2.of_eq (hcn.block _ rs2.lt (by omega))); (try replace e1 := e1.of_eq (hcn.block _ e1.lt (by omega))); (try replace e2 := e2.of_eq (hcn.block _ e2.lt (by omega))); (try replace e3 := e3.of_eq (hcn.block _ e3.lt (by omega))); (try replace e4 := e4.of_eq (hcn.block _ e4.lt (by omega))); (try replace e5 := e5.of_eq (hcn.block _ e5.lt (by omega))); have w15 := ht; clear ht; simp only [Act.put, List.setIfInBounds_toArray, List.set_cons_zero, List.set_cons_succ])
      refine wpList_chunk 1 (by kernel_rfl) ?_
      simp only [List.take_succ_cons, List.take_zero, List.drop_succ_cons, List.drop_zero, Nat.reduceAdd]
      repeat (first | go_big_quiet_skip | (go_big_quiet_want; first | (go_big_quiet_op; go_big_quiet_on)))
      refine wpQuiet_nil ?_
      refine wpList_nil ?_
      go_upto_region 11 with fail
      refine wp_region_lit ?_
      try simp only [List.getElem_toArray, List.getElem_cons_zero, List.getElem_cons_succ]
      refine wpList_chunk 2 (by kernel_rfl) ?_
      simp only [List.take_succ_cons, List.take_zero, List.drop_succ_cons, List.drop_zero, Nat.reduceAdd]
      repeat (first | go_big_quiet_skip | (go_big_quiet_want; first | (refine quiet_loadAny (t := 30) rfl _ _ _ rfl (fun w hw => run_load_B (ov_B r8 w hw) Try.isAgg30 (by kernel_rfl)) (by rfl) ?_; simp only [Act.put, List.setIfInBounds_toArray, List.set_cons_zero, List.set_cons_succ]; go_big_quiet_on) | (refine quiet_loadAny (t := 30) rfl _ _ _ rfl (fun w hw => run_load_B (ov_B r9 w hw) Try.isAgg30 (by kernel_rfl)) (by rfl) ?_; simp only [Act.put, List.setIfInBounds_toArray, List.set_cons_zero, List.set_cons_succ]; go_big_quiet_on) | (refine quiet_loadAny (t := 64) rfl _ _ _ rfl (fun w hw => run_load_B (ov_B c4 w hw) Try.isAgg64 (by kernel_rfl)) (by rfl) ?_; simp only [Act.put, List.setIfInBounds_toArray, List.set_cons_zero, List.set_cons_succ]; go_big_quiet_on) | (refine quiet_loadAny (t := 64) rfl _ _ _ rfl (fun w hw => run_load_B (ov_B d10 w hw) Try.isAgg64 (by kernel_rfl)) (by rfl) ?_; simp only [Act.put, List.setIfInBounds_toArray, List.set_cons_zero, List.set_cons_succ]; go_big_quiet_on) | (refine quiet_loadAny (t := 64) rfl _ _ _ rfl (fun w hw => run_load_B (ov_B f14 w hw) Try.isAgg64 (by kernel_rfl)) (by rfl) ?_; simp only [Act.put, List.setIfInBounds_toArray, List.set_cons_zero, List.set_cons_succ]; go_big_quiet_on) | (go_big_quiet_op; go_big_quiet_on)))
      refine wpQuiet_nil ?_
      refine wpList_callF (by first | rfl | simp [Region.wanted, yielded]) rfl (enters_of Try.func34 (by kernel_rfl) rfl) (by simp only [List.map_toArray, List.map_cons, List.map_nil, Act.eval, Array.getD_eq_getD_getElem?, List.getElem?_toArray, List.getElem?_cons_succ, List.getElem?_cons_zero, Option.getD_some]; rfl) ?_
      refine (R_ImageA _ (ofL q L T) (FR) _ rs1 (ofL_tok q L T) HN.out).mono ?_
      rintro e wn ⟨a_e4, c_e4, rfl, e4, hbn⟩
      have hsz := B.size
      have hzn := hbn.size
      replace B := B.trans (hbn.mono B.size)
      (try first | replace q3 := q3.of_eq (hbn.block _ q3.lt) | replace q3 := q3.below hbn)
      (try first | replace c4 := c4.of_eq (hbn.block _ c4.lt) | replace c4 := c4.below hbn)
      (try first | replace a5 := a5.of_eq (hbn.block _ a5.lt) | replace a5 := a5.below hbn)
      (try first | replace r8 := r8.of_eq (hbn.block _ r8.lt) | replace r8 := r8.below hbn)
      (try first | replace r9 := r9.of_eq (hbn.block _ r9.lt) | replace r9 := r9.below hbn)
      (try first | replace d10 := d10.of_eq (hbn.block _ d10.lt) | replace d10 := d10.below hbn)
      (try first | replace m11 := m11.of_eq (hbn.block _ m11.lt) | replace m11 := m11.below hbn)
      (try first | replace g13 := g13.of_eq (hbn.block _ g13.lt) | replace g13 := g13.below hbn)
      (try first | replace f14 := f14.of_eq (hbn.block _ f14.lt) | replace f14 := f14.below hbn)
      (try first | replace w15 := w15.of_eq (hbn.block _ w15.lt) | replace w15 := w15.below hbn)
      (try first | replace h17 := h17.of_eq (hbn.block _ h17.lt) | replace h17 := h17.below hbn)
      (try first | replace n18 := n18.of_eq (hbn.block _ n18.lt) | replace n18 := n18.below hbn)
      (try first | replace rs1 := rs1.of_eq (hbn.block _ rs1.lt) | replace rs1 := rs1.below hbn)
      (try first | replace rs2 := rs2.of_eq (hbn.block _ rs2.lt) | replace rs2 := rs2.below hbn)
      (try first | replace e1 := e1.of_eq (hbn.block _ e1.lt) | replace e1 := e1.below hbn)
      (try first | replace e2 := e2.of_eq (hbn.block _ e2.lt) | replace e2 := e2.below hbn)
      (try first | replace e3 := e3.of_eq (hbn.block _ e3.lt) | replace e3 := e3.below hbn)
      (try first | replace e4 := e4.of_eq (hbn.block _ e4.lt) | replace e4 := e4.below hbn)
      (try first | replace e5 := e5.of_eq (hbn.block _ e5.lt) | replace e5 := e5.below hbn)
      refine ⟨_, rfl, ?_⟩
      simp only [Act.put, List.setIfInBounds_toArray, List.set_cons_zero, List.set_cons_succ]
      (refine wpList_allocBk (t := 72) rfl _ (run_alloc_Sh _ _ rfl) ?_; intro b_h17 wn hle hge ht hbn hzn; have hsz := B.size; replace B := B.trans (hbn.mono (by omega)); have hln := Nat.lt_of_lt_of_eq (Nat.lt_succ_self _) hzn.symm; clear hzn; (try first | (have hlt := q3.lt; replace q3 := q3.of_eq (hbn.block _ (by omega))) | replace q3 := q3.below (hbn.mono hle)); (try first | (have hlt := c4.lt; replace c4 := c4.of_eq (hbn.block _ (by omega))) | replace c4 := c4.below (hbn.mono hle)); (try first | (have hlt := a5.lt; replace a5 := a5.of_eq (hbn.block _ (by omega))) | replace a5 := a5.below (hbn.mono hle)); (try first | (have hlt := r8.lt; replace r8 := r8.of_eq (hbn.block _ (by omega))) | replace r8 := r8.below (hbn.mono hle)); (try first | (have hlt := r9.lt; replace r9 := r9.of_eq (hbn.block _ (by omega))) | replace r9 := r9.below (hbn.mono hle)); (try first | (have hlt := d10.lt; replace d10 := d10.of_eq (hbn.block _ (by omega))) | replace d10 := d10.below (hbn.mono hle)); (try first | (have hlt := m11.lt; replace m11 := m11.of_eq (hbn.block _ (by omega))) | replace m11 := m11.below (hbn.mono hle)); (try first | (have hlt := g13.lt; replace g13 := g13.of_eq (hbn.block _ (by omega))) | replace g13 := g13.below (hbn.mono hle)); (try first | (have hlt := f14.lt; replace f14 := f14.of_eq (hbn.block _ (by omega))) | replace f14 := f14.below (hbn.mono hle)); (try first | (have hlt := w15.lt; replace w15 := w15.of_eq (hbn.block _ (by omega))) | replace w15 := w15.below (hbn.mono hle)); (try first | (have hlt := h17.lt; replace h17 := h17.of_eq (hbn.block _ (by omega))) | replace h17 := h17.below (hbn.mono hle)); (try first | (have hlt := n18.lt; replace n18 := n18.of_eq (hbn.block _ (by omega))) | replace n18 := n18.below (hbn.mono hle)); (try first | (have hlt := rs1.lt; replace rs1 := rs1.of_eq (hbn.block _ (by omega))) | replace rs1 := rs1.below (hbn.mono hle)); (try first | (have hlt := rs2.lt; replace rs2 := rs2.of_eq (hbn.block _ (by omega))) | replace rs2 := rs2.below (hbn.mono hle)); (try first | (have hlt := e1.lt; replace e1 := e1.of_eq (hbn.block _ (by omega))) | replace e1 := e1.below (hbn.mono hle)); (try first | (have hlt := e2.lt; replace e2 := e2.of_eq (hbn.block _ (by omega))) | replace e2 := e2.below (hbn.mono hle)); (try first | (have hlt := e3.lt; replace e3 := e3.of_eq (hbn.block _ (by omega))) | replace e3 := e3.below (hbn.mono hle)); (try first | (have hlt := e4.lt; replace e4 := e4.of_eq (hbn.block _ (by omega))) | replace e4 := e4.below (hbn.mono hle)); (try first | (have hlt := e5.lt; replace e5 := e5.of_eq (hbn.block _ (by omega))) | replace e5 := e5.below (hbn.mono hle)); have h17 := ht; clear ht; simp only [Act.put, List.setIfInBounds_toArray, List.set_cons_zero, List.set_cons_succ])
      (refine wpList_storeB (t := 72) rfl _ _ rfl _ rfl _ rfl h17 (by kernel_rfl) rfl (by simp [rcA, imgC, shC, Value.oneCell']) ?_; have h17o := h17; clear h17; intro wn ht hcn hzn; (try replace e5 := e5.chgS h17o hcn (by simp [rcA, imgC, shC, nu8])); (try replace e4 := e4.chgS h17o hcn (by simp [rcA, imgC, shC, nu8])); (try replace e3 := e3.chgS h17o hcn (by simp [rcA, imgC, shC, nu8])); (try replace e2 := e2.chgS h17o hcn (by simp [rcA, imgC, shC, nu8])); (try replace e1 := e1.chgS h17o hcn (by simp [rcA, imgC, shC, nu8])); (try replace rs1 := rs1.chg h17o (by simp [rcA, imgC, shC]) hcn); (try replace rs2 := rs2.chg h17o (by simp [rcA, imgC, shC]) hcn); have hsz := B.size; replace hzn := Nat.le_of_eq hzn.symm; replace B := Chg.below B hcn (by omega) B.size; (try replace q3 := q3.of_eq (hcn.block _ q3.lt (by omega))); (try replace c4 := c4.of_eq (hcn.block _ c4.lt (by omega))); (try replace a5 := a5.of_eq (hcn.block _ a5.lt (by omega))); (try replace r8 := r8.of_eq (hcn.block _ r8.lt (by omega))); (try replace r9 := r9.of_eq (hcn.block _ r9.lt (by omega))); (try replace d10 := d10.of_eq (hcn.block _ d10.lt (by omega))); (try replace m11 := m11.of_eq (hcn.block _ m11.lt (by omega))); (try replace g13 := g13.of_eq (hcn.block _ g13.lt (by omega))); (try replace f14 := f14.of_eq (hcn.block _ f14.lt (by omega))); (try replace w15 := w15.of_eq (hcn.block _ w15.lt (by omega))); (try replace n18 := n18.of_eq (hcn.block _ n18.lt (by omega))); (try replace rs1 := rs1.of_eq (hcn.block _ rs1.lt (by omega))); (try replace rs2 := rs2.of_eq (hcn.block _ rs2.lt (by omega))); (try replace e1 := e1.of_eq (hcn.block _ e1.lt (by omega))); (try replace e2 := e2.of_eq (hcn.block _ e2.lt (by omega))); (try replace e3 := e3.of_eq (hcn.block _ e3.lt (by omega))); (try replace e4 := e4.of_eq (hcn.block _ e4.lt (by omega))); (try replace e5 := e5.of_eq (hcn.block _ e5.lt (by omega))); have h17 := ht; clear ht; simp only [Act.put, List.setIfInBounds_toArray, List.set_cons_zero, List.set_cons_succ])
      refine wpList_nil ?_
      go_upto_region 12 with fail
      refine wp_region_lit ?_
      try simp only [List.getElem_toArray, List.getElem_cons_zero, List.getElem_cons_succ]
      refine wpList_chunk 2 (by kernel_rfl) ?_
      simp only [List.take_succ_cons, List.take_zero, List.drop_succ_cons, List.drop_zero, Nat.reduceAdd]
      repeat (first | go_big_quiet_skip | (go_big_quiet_want; first | (refine quiet_loadAny (t := 30) rfl _ _ _ rfl (fun w hw => run_load_B (ov_B r8 w hw) Try.isAgg30 (by kernel_rfl)) (by rfl) ?_; simp only [Act.put, List.setIfInBounds_toArray, List.set_cons_zero, List.set_cons_succ]; go_big_quiet_on) | (refine quiet_loadAny (t := 30) rfl _ _ _ rfl (fun w hw => run_load_B (ov_B r9 w hw) Try.isAgg30 (by kernel_rfl)) (by rfl) ?_; simp only [Act.put, List.setIfInBounds_toArray, List.set_cons_zero, List.set_cons_succ]; go_big_quiet_on) | (refine quiet_loadAny (t := 64) rfl _ _ _ rfl (fun w hw => run_load_B (ov_B c4 w hw) Try.isAgg64 (by kernel_rfl)) (by rfl) ?_; simp only [Act.put, List.setIfInBounds_toArray, List.set_cons_zero, List.set_cons_succ]; go_big_quiet_on) | (refine quiet_loadAny (t := 64) rfl _ _ _ rfl (fun w hw => run_load_B (ov_B d10 w hw) Try.isAgg64 (by kernel_rfl)) (by rfl) ?_; simp only [Act.put, List.setIfInBounds_toArray, List.set_cons_zero, List.set_cons_succ]; go_big_quiet_on) | (refine quiet_loadAny (t := 64) rfl _ _ _ rfl (fun w hw => run_load_B (ov_B f14 w hw) Try.isAgg64 (by kernel_rfl)) (by rfl) ?_; simp only [Act.put, List.setIfInBounds_toArray, List.set_cons_zero, List.set_cons_succ]; go_big_quiet_on) | (go_big_quiet_op; go_big_quiet_on)))
      refine wpQuiet_nil ?_
      refine wpList_callF (by first | rfl | simp [Region.wanted, yielded]) rfl (enters_of Try.func33 (by kernel_rfl) rfl) (by simp only [List.map_toArray, List.map_cons, List.map_nil, Act.eval, Array.getD_eq_getD_getElem?, List.getElem?_toArray, List.getElem?_cons_succ, List.getElem?_cons_zero, Option.getD_some]; rfl) ?_
      refine (P_ImageN _ (madeL L) D _ rs2 (madeL_tok L) HM.out (madeL_valid L) hfit.out).mono ?_
      rintro e wn ⟨a_e5, c_e5, rfl, e5, hbn⟩
      have hsz := B.size
      have hzn := hbn.size
      replace B := B.trans (hbn.mono B.size)
      (try first | replace q3 := q3.of_eq (hbn.block _ q3.lt) | replace q3 := q3.below hbn)
      (try first | replace c4 := c4.of_eq (hbn.block _ c4.lt) | replace c4 := c4.below hbn)
      (try first | replace a5 := a5.of_eq (hbn.block _ a5.lt) | replace a5 := a5.below hbn)
      (try first | replace r8 := r8.of_eq (hbn.block _ r8.lt) | replace r8 := r8.below hbn)
      (try first | replace r9 := r9.of_eq (hbn.block _ r9.lt) | replace r9 := r9.below hbn)
      (try first | replace d10 := d10.of_eq (hbn.block _ d10.lt) | replace d10 := d10.below hbn)
      (try first | replace m11 := m11.of_eq (hbn.block _ m11.lt) | replace m11 := m11.below hbn)
      (try first | replace g13 := g13.of_eq (hbn.block _ g13.lt) | replace g13 := g13.below hbn)
      (try first | replace f14 := f14.of_eq (hbn.block _ f14.lt) | replace f14 := f14.below hbn)
      (try first | replace w15 := w15.of_eq (hbn.block _ w15.lt) | replace w15 := w15.below hbn)
      (try first | replace h17 := h17.of_eq (hbn.block _ h17.lt) | replace h17 := h17.below hbn)
      (try first | replace n18 := n18.of_eq (hbn.block _ n18.lt) | replace n18 := n18.below hbn)
      (try first | replace rs1 := rs1.of_eq (hbn.block _ rs1.lt) | replace rs1 := rs1.below hbn)
      (try first | replace rs2 := rs2.of_eq (hbn.block _ rs2.lt) | replace rs2 := rs2.below hbn)
      (try first | replace e1 := e1.of_eq (hbn.block _ e1.lt) | replace e1 := e1.below hbn)
      (try first | replace e2 := e2.of_eq (hbn.block _ e2.lt) | replace e2 := e2.below hbn)
      (try first | replace e3 := e3.of_eq (hbn.block _ e3.lt) | replace e3 := e3.below hbn)
      (try first | replace e4 := e4.of_eq (hbn.block _ e4.lt) | replace e4 := e4.below hbn)
      (try first | replace e5 := e5.of_eq (hbn.block _ e5.lt) | replace e5 := e5.below hbn)
      refine ⟨_, rfl, ?_⟩
      simp only [Act.put, List.setIfInBounds_toArray, List.set_cons_zero, List.set_cons_succ]
      refine wpList_chunk 3 (by kernel_rfl) ?_
      simp only [List.take_succ_cons, List.take_zero, List.drop_succ_cons, List.drop_zero, Nat.reduceAdd]
      repeat (first | go_big_quiet_skip | (go_big_quiet_want; first | (go_big_quiet_op; go_big_quiet_on)))
      refine wpQuiet_nil ?_
      (refine wpList_allocBk (t := 68) rfl _ (run_alloc_Im _ _ rfl) ?_; intro b_n18 wn hle hge ht hbn hzn; have hsz := B.size; replace B := B.trans (hbn.mono (by omega)); have hln := Nat.lt_of_lt_of_eq (Nat.lt_succ_self _) hzn.symm; clear hzn; (try first | (have hlt := q3.lt; replace q3 := q3.of_eq (hbn.block _ (by omega))) | replace q3 := q3.below (hbn.mono hle)); (try first | (have hlt := c4.lt; replace c4 := c4.of_eq (hbn.block _ (by omega))) | replace c4 := c4.below (hbn.mono hle)); (try first | (have hlt := a5.lt; replace a5 := a5.of_eq (hbn.block _ (by omega))) | replace a5 := a5.below (hbn.mono hle)); (try first | (have hlt := r8.lt; replace r8 := r8.of_eq (hbn.block _ (by omega))) | replace r8 := r8.below (hbn.mono hle)); (try first | (have hlt := r9.lt; replace r9 := r9.of_eq (hbn.block _ (by omega))) | replace r9 := r9.below (hbn.mono hle)); (try first | (have hlt := d10.lt; replace d10 := d10.of_eq (hbn.block _ (by omega))) | replace d10 := d10.below (hbn.mono hle)); (try first | (have hlt := m11.lt; replace m11 := m11.of_eq (hbn.block _ (by omega))) | replace m11 := m11.below (hbn.mono hle)); (try first | (have hlt := g13.lt; replace g13 := g13.of_eq (hbn.block _ (by omega))) | replace g13 := g13.below (hbn.mono hle)); (try first | (have hlt := f14.lt; replace f14 := f14.of_eq (hbn.block _ (by omega))) | replace f14 := f14.below (hbn.mono hle)); (try first | (have hlt := w15.lt; replace w15 := w15.of_eq (hbn.block _ (by omega))) | replace w15 := w15.below (hbn.mono hle)); (try first | (have hlt := h17.lt; replace h17 := h17.of_eq (hbn.block _ (by omega))) | replace h17 := h17.below (hbn.mono hle)); (try first | (have hlt := n18.lt; replace n18 := n18.of_eq (hbn.block _ (by omega))) | replace n18 := n18.below (hbn.mono hle)); (try first | (have hlt := rs1.lt; replace rs1 := rs1.of_eq (hbn.block _ (by omega))) | replace rs1 := rs1.below (hbn.mono hle)); (try first | (have hlt := rs2.lt; replace rs2 := rs2.of_eq (hbn.block _ (by omega))) | replace rs2 := rs2.below (hbn.mono hle)); (try first | (have hlt := e1.lt; replace e1 := e1.of_eq (hbn.block _ (by omega))) | replace e1 := e1.below (hbn.mono hle)); (try first | (have hlt := e2.lt; replace e2 := e2.of_eq (hbn.block _ (by omega))) | replace e2 := e2.below (hbn.mono hle)); (try first | (have hlt := e3.lt; replace e3 := e3.of_eq (hbn.block _ (by omega))) | replace e3 := e3.below (hbn.mono hle)); (try first | (have hlt := e4.lt; replace e4 := e4.of_eq (hbn.block _ (by omega))) | replace e4 := e4.below (hbn.mono hle)); (try first | (have hlt := e5.lt; replace e5 := e5.of_eq (hbn.block _ (by omega))) | replace e5 := e5.below (hbn.mono hle)); have n18 := ht; clear ht; simp only [Act.put, List.setIfInBounds_toArray, List.set_cons_zero, List.set_cons_succ])
      (refine wpList_storeB (t := 68) rfl _ _ rfl _ rfl _ rfl n18 (by kernel_rfl) rfl (by simp [rcA, imgC, shC, Value.oneCell']) ?_; have n18o := n18; clear n18; intro wn ht hcn hzn; (try replace e5 := e5.chgS n18o hcn (by simp [rcA, imgC, shC, nu8])); (try replace e4 := e4.chgS n18o hcn (by simp [rcA, imgC, shC, nu8])); (try replace e3 := e3.chgS n18o hcn (by simp [rcA, imgC, shC, nu8])); (try replace e2 := e2.chgS n18o hcn (by simp [rcA, imgC, shC, nu8])); (try replace e1 := e1.chgS n18o hcn (by simp [rcA, imgC, shC, nu8])); (try replace rs1 := rs1.chg n18o (by simp [rcA, imgC, shC]) hcn); (try replace rs2 := rs2.chg n18o (by simp [rcA, imgC, shC]) hcn); have hsz := B.size; replace hzn := Nat.le_of_eq hzn.symm; replace B := Chg.below B hcn (by omega) B.size; (try replace q3 := q3.of_eq (hcn.block _ q3.lt (by omega))); (try replace c4 := c4.of_eq (hcn.block _ c4.lt (by omega))); (try replace a5 := a5.of_eq (hcn.block _ a5.lt (by omega))); (try replace r8 := r8.of_eq (hcn.block _ r8.lt (by omega))); (try replace r9 := r9.of_eq (hcn.block _ r9.lt (by omega))); (try replace d10 := d10.of_eq (hcn.block _ d10.lt (by omega))); (try replace m11 := m11.of_eq (hcn.block _ m11.lt (by omega))); (try replace g13 := g13.of_eq (hcn.block _ g13.lt (by omega))); (try replace f14 := f14.of_eq (hcn.block _ f14.lt (by omega))); (try replace w15 := w15.of_eq (hcn.block _ w15.lt (by omega))); (try replace h17 := h17.of_eq (hcn.block _ h17.lt (by omega))); (try replace rs1 := rs1.of_eq (hcn.block _ rs1.lt (by omega))); (try replace rs2 := rs2.of_eq (hcn.block _ rs2.lt (by omega))); (try replace e1 := e1.of_eq (hcn.block _ e1.lt (by omega))); (try replace e2 := e2.of_eq (hcn.block _ e2.lt (by omega))); (try replace e3 := e3.of_eq (hcn.block _ e3.lt (by omega))); (try replace e4 := e4.of_eq (hcn.block _ e4.lt (by omega))); (try replace e5 := e5.of_eq (hcn.block _ e5.lt (by omega))); have n18 := ht; clear ht; simp only [Act.put, List.setIfInBounds_toArray, List.set_cons_zero, List.set_cons_succ])
      refine wpList_chunk 1 (by kernel_rfl) ?_
      simp only [List.take_succ_cons, List.take_zero, List.drop_succ_cons, List.drop_zero, Nat.reduceAdd]
      repeat (first | go_big_quiet_skip | (go_big_quiet_want; first | (go_big_quiet_op; go_big_quiet_on)))
      refine wpQuiet_nil ?_
      refine wpList_nil ?_
      obtain ⟨d0, d1, d2, d3⟩ := D
      simp only at HD
      obtain ⟨k1, k2, k3, k4, k5, k6, k7, k8⟩ := HD
      obtain ⟨X, hX, hX2⟩ := tmod_nat (a := bits BinOp.and IntKind.i64 x0 65535) (b := d2 - d0) (by rw [bits_and65535]; omega) (by omega)
      obtain ⟨Y, hY, hY2⟩ := tmod_nat (a := bits BinOp.and IntKind.i64 y0 65535) (b := d3 - d1) (by rw [bits_and65535]; omega) (by omega)
      go_upto_region 13 with fail
      refine wp_region_lit ?_
      try simp only [List.getElem_toArray, List.getElem_cons_zero, List.getElem_cons_succ]
      refine wpList_chunk 10 (by kernel_rfl) ?_
      simp only [List.take_succ_cons, List.take_zero, List.drop_succ_cons, List.drop_zero, Nat.reduceAdd]
      repeat (first | go_big_quiet_skip | (go_big_quiet_want; first | (refine quiet_loadAny (t := 3) rfl _ _ _ rfl (fun w hw => run_load_int ((ov_B d10 w hw).cellL 0 rfl)) (by rfl) ?_; simp only [Act.put, List.setIfInBounds_toArray, List.set_cons_zero, List.set_cons_succ]; go_big_quiet_on) | (refine quiet_loadAny (t := 3) rfl _ _ _ rfl (fun w hw => run_load_int ((ov_B d10 w hw).cellL 1 rfl)) (by rfl) ?_; simp only [Act.put, List.setIfInBounds_toArray, List.set_cons_zero, List.set_cons_succ]; go_big_quiet_on) | (refine quiet_loadAny (t := 3) rfl _ _ _ rfl (fun w hw => run_load_int ((ov_B d10 w hw).cellL 2 rfl)) (by rfl) ?_; simp only [Act.put, List.setIfInBounds_toArray, List.set_cons_zero, List.set_cons_succ]; go_big_quiet_on) | (refine quiet_loadAny (t := 3) rfl _ _ _ rfl (fun w hw => run_load_int ((ov_B d10 w hw).cellL 3 rfl)) (by rfl) ?_; simp only [Act.put, List.setIfInBounds_toArray, List.set_cons_zero, List.set_cons_succ]; go_big_quiet_on) | (refine quiet_loadAny (t := 3) rfl _ _ _ rfl (fun w hw => run_load_int ((ov_B f14 w hw).cellL 0 rfl)) (by rfl) ?_; simp only [Act.put, List.setIfInBounds_toArray, List.set_cons_zero, List.set_cons_succ]; go_big_quiet_on) | (refine quiet_loadAny (t := 3) rfl _ _ _ rfl (fun w hw => run_load_int ((ov_B f14 w hw).cellL 1 rfl)) (by rfl) ?_; simp only [Act.put, List.setIfInBounds_toArray, List.set_cons_zero, List.set_cons_succ]; go_big_quiet_on) | (refine quiet_loadAny (t := 3) rfl _ _ _ rfl (fun w hw => run_load_int ((ov_B f14 w hw).cellL 2 rfl)) (by rfl) ?_; simp only [Act.put, List.setIfInBounds_toArray, List.set_cons_zero, List.set_cons_succ]; go_big_quiet_on) | (refine quiet_loadAny (t := 3) rfl _ _ _ rfl (fun w hw => run_load_int ((ov_B f14 w hw).cellL 3 rfl)) (by rfl) ?_; simp only [Act.put, List.setIfInBounds_toArray, List.set_cons_zero, List.set_cons_succ]; go_big_quiet_on) | (refine quiet_loadAny (t := 3) rfl _ _ _ rfl (fun w hw => run_load_int ((ov_B a5 w hw).cellL 0 rfl)) (by rfl) ?_; simp only [Act.put, List.setIfInBounds_toArray, List.set_cons_zero, List.set_cons_succ]; go_big_quiet_on) | (refine quiet_loadAny (t := 3) rfl _ _ _ rfl (fun w hw => run_load_int ((ov_B a5 w hw).cellL 1 rfl)) (by rfl) ?_; simp only [Act.put, List.setIfInBounds_toArray, List.set_cons_zero, List.set_cons_succ]; go_big_quiet_on) | (go_big_quiet_op; go_big_quiet_on)))
      refine wpQuiet_nil ?_
      refine wpList_nil ?_
      go_upto_region 14 with fail
      refine wp_region_lit ?_
      try simp only [List.getElem_toArray, List.getElem_cons_zero, List.getElem_cons_succ]
      refine wpList_chunk 10 (by kernel_rfl) ?_
      simp only [List.take_succ_cons, List.take_zero, List.drop_succ_cons, List.drop_zero, Nat.reduceAdd]
      repeat (first | go_big_quiet_skip | (go_big_quiet_want; first | (refine quiet_loadAny (t := 3) rfl _ _ _ rfl (fun w hw => run_load_int ((ov_B d10 w hw).cellL 0 rfl)) (by rfl) ?_; simp only [Act.put, List.setIfInBounds_toArray, List.set_cons_zero, List.set_cons_succ]; go_big_quiet_on) | (refine quiet_loadAny (t := 3) rfl _ _ _ rfl (fun w hw => run_load_int ((ov_B d10 w hw).cellL 1 rfl)) (by rfl) ?_; simp only [Act.put, List.setIfInBounds_toArray, List.set_cons_zero, List.set_cons_succ]; go_big_quiet_on) | (refine quiet_loadAny (t := 3) rfl _ _ _ rfl (fun w hw => run_load_int ((ov_B d10 w hw).cellL 2 rfl)) (by rfl) ?_; simp only [Act.put, List.setIfInBounds_toArray, List.set_cons_zero, List.set_cons_succ]; go_big_quiet_on) | (refine quiet_loadAny (t := 3) rfl _ _ _ rfl (fun w hw => run_load_int ((ov_B d10 w hw).cellL 3 rfl)) (by rfl) ?_; simp only [Act.put, List.setIfInBounds_toArray, List.set_cons_zero, List.set_cons_succ]; go_big_quiet_on) | (refine quiet_loadAny (t := 3) rfl _ _ _ rfl (fun w hw => run_load_int ((ov_B f14 w hw).cellL 0 rfl)) (by rfl) ?_; simp only [Act.put, List.setIfInBounds_toArray, List.set_cons_zero, List.set_cons_succ]; go_big_quiet_on) | (refine quiet_loadAny (t := 3) rfl _ _ _ rfl (fun w hw => run_load_int ((ov_B f14 w hw).cellL 1 rfl)) (by rfl) ?_; simp only [Act.put, List.setIfInBounds_toArray, List.set_cons_zero, List.set_cons_succ]; go_big_quiet_on) | (refine quiet_loadAny (t := 3) rfl _ _ _ rfl (fun w hw => run_load_int ((ov_B f14 w hw).cellL 2 rfl)) (by rfl) ?_; simp only [Act.put, List.setIfInBounds_toArray, List.set_cons_zero, List.set_cons_succ]; go_big_quiet_on) | (refine quiet_loadAny (t := 3) rfl _ _ _ rfl (fun w hw => run_load_int ((ov_B f14 w hw).cellL 3 rfl)) (by rfl) ?_; simp only [Act.put, List.setIfInBounds_toArray, List.set_cons_zero, List.set_cons_succ]; go_big_quiet_on) | (refine quiet_loadAny (t := 3) rfl _ _ _ rfl (fun w hw => run_load_int ((ov_B a5 w hw).cellL 0 rfl)) (by rfl) ?_; simp only [Act.put, List.setIfInBounds_toArray, List.set_cons_zero, List.set_cons_succ]; go_big_quiet_on) | (refine quiet_loadAny (t := 3) rfl _ _ _ rfl (fun w hw => run_load_int ((ov_B a5 w hw).cellL 1 rfl)) (by rfl) ?_; simp only [Act.put, List.setIfInBounds_toArray, List.set_cons_zero, List.set_cons_succ]; go_big_quiet_on) | (go_big_quiet_op; go_big_quiet_on)))
      refine wpQuiet_nil ?_
      refine wpList_nil ?_
      have z1 : 0 ≤ (Y : Int) * (d2 - d0) := Int.mul_nonneg (by omega) (by omega)
      have z2 : (Y : Int) * (d2 - d0) ≤ 32 * 32 := Int.mul_le_mul (by omega) (by omega) (by omega) (by omega)
      go_upto_region 15 with fail
      refine wp_region_lit ?_
      try simp only [List.getElem_toArray, List.getElem_cons_zero, List.getElem_cons_succ]
      refine wpList_chunk 10 (by kernel_rfl) ?_
      simp only [List.take_succ_cons, List.take_zero, List.drop_succ_cons, List.drop_zero, Nat.reduceAdd]
      repeat (first | go_big_quiet_skip | (go_big_quiet_want; first | (refine quiet_loadAny (t := 3) rfl _ _ _ rfl (fun w hw => run_load_int ((ov_B d10 w hw).cellL 0 rfl)) (by rfl) ?_; simp only [Act.put, List.setIfInBounds_toArray, List.set_cons_zero, List.set_cons_succ]; go_big_quiet_on) | (refine quiet_loadAny (t := 3) rfl _ _ _ rfl (fun w hw => run_load_int ((ov_B d10 w hw).cellL 1 rfl)) (by rfl) ?_; simp only [Act.put, List.setIfInBounds_toArray, List.set_cons_zero, List.set_cons_succ]; go_big_quiet_on) | (refine quiet_loadAny (t := 3) rfl _ _ _ rfl (fun w hw => run_load_int ((ov_B d10 w hw).cellL 2 rfl)) (by rfl) ?_; simp only [Act.put, List.setIfInBounds_toArray, List.set_cons_zero, List.set_cons_succ]; go_big_quiet_on) | (refine quiet_loadAny (t := 3) rfl _ _ _ rfl (fun w hw => run_load_int ((ov_B d10 w hw).cellL 3 rfl)) (by rfl) ?_; simp only [Act.put, List.setIfInBounds_toArray, List.set_cons_zero, List.set_cons_succ]; go_big_quiet_on) | (refine quiet_loadAny (t := 3) rfl _ _ _ rfl (fun w hw => run_load_int ((ov_B f14 w hw).cellL 0 rfl)) (by rfl) ?_; simp only [Act.put, List.setIfInBounds_toArray, List.set_cons_zero, List.set_cons_succ]; go_big_quiet_on) | (refine quiet_loadAny (t := 3) rfl _ _ _ rfl (fun w hw => run_load_int ((ov_B f14 w hw).cellL 1 rfl)) (by rfl) ?_; simp only [Act.put, List.setIfInBounds_toArray, List.set_cons_zero, List.set_cons_succ]; go_big_quiet_on) | (refine quiet_loadAny (t := 3) rfl _ _ _ rfl (fun w hw => run_load_int ((ov_B f14 w hw).cellL 2 rfl)) (by rfl) ?_; simp only [Act.put, List.setIfInBounds_toArray, List.set_cons_zero, List.set_cons_succ]; go_big_quiet_on) | (refine quiet_loadAny (t := 3) rfl _ _ _ rfl (fun w hw => run_load_int ((ov_B f14 w hw).cellL 3 rfl)) (by rfl) ?_; simp only [Act.put, List.setIfInBounds_toArray, List.set_cons_zero, List.set_cons_succ]; go_big_quiet_on) | (refine quiet_loadAny (t := 3) rfl _ _ _ rfl (fun w hw => run_load_int ((ov_B a5 w hw).cellL 0 rfl)) (by rfl) ?_; simp only [Act.put, List.setIfInBounds_toArray, List.set_cons_zero, List.set_cons_succ]; go_big_quiet_on) | (refine quiet_loadAny (t := 3) rfl _ _ _ rfl (fun w hw => run_load_int ((ov_B a5 w hw).cellL 1 rfl)) (by rfl) ?_; simp only [Act.put, List.setIfInBounds_toArray, List.set_cons_zero, List.set_cons_succ]; go_big_quiet_on) | (go_big_quiet_op; go_big_quiet_on)))
      refine wpQuiet_nil ?_
      refine wpList_nil ?_
      obtain ⟨k, ek, hk, ex, ey⟩ := px_xy (fitsE_zero hfit.out) (X := X) (Y := Y) hX2 hY2
      have hpx := imgL_at ⟨d0, d1, d2, d3⟩ (madeL L) hk
      rw [ex, ey] at hpx
      simp only at ek hpx
      rw [← ek]
      clear ek
      have l1 : decide ((areaN ⟨d0, d1, d2, d3⟩ : Int) ≤ (k : Int)) = false := decide_eq_false (by omega)
      have l2 : decide (areaN ⟨d0, d1, d2, d3⟩ ≤ k) = false := decide_eq_false (by omega)
      obtain ⟨g5, o5, rfl, ce5⟩ := e5.at (by rw [imgL_len]; omega)
      have wX : (Lit.int .i64 (d0 + (X : Int))).wf = true := wf_mk (by omega) (by omega)
      have wY : (Lit.int .i64 (d1 + (Y : Int))).wf = true := wf_mk (by omega) (by omega)
      have hq := neqs_px (getL (madeL L) (d0 + (X : Int)) (d1 + (Y : Int)))
      go_upto_region 16 with fail
      try simp only [List.getElem_toArray, List.getElem_cons_zero, List.getElem_cons_succ]
      try have lx_q3 := q3.lt
      try have lx_c4 := c4.lt
      try have lx_a5 := a5.lt
      try have lx_r8 := r8.lt
      try have lx_r9 := r9.lt
      try have lx_d10 := d10.lt
      try have lx_m11 := m11.lt
      try have lx_g13 := g13.lt
      try have lx_f14 := f14.lt
      try have lx_w15 := w15.lt
      try have lx_h17 := h17.lt
      try have lx_n18 := n18.lt
      try have lx_rs1 := rs1.lt
      try have lx_rs2 := rs2.lt
      try have lx_e1 := e1.lt
      try have lx_e2 := e2.lt
      try have lx_e3 := e3.lt
      try have lx_e4 := e4.lt
      try have lx_e5 := e5.lt
      refine wp_region_RL 27 [(6, detS ?v1_6), (24, detS ?v1_24)] (by kernel_rfl) (by kernel_rfl) (by kernel_rfl) ?_
      rotate_left 2
      simp only [List.take_succ_cons, List.take_zero, List.drop_succ_cons, List.drop_zero, Nat.reduceAdd]
      refine wpRL_chunk 6 (by kernel_rfl) ?_
      simp only [List.take_succ_cons, List.take_zero, List.drop_succ_cons, List.drop_zero, Nat.reduceAdd]
      repeat (first | go_big_quiet_skip | (go_big_quiet_want; first | (refine quiet_loadAny (t := 66) rfl _ _ _ rfl (fun w hw => run_load_slp (imgC_u (ov_B n18 w hw))) (by first | rfl | omega) ?_; simp only [Act.put, List.setIfInBounds_toArray, List.set_cons_zero, List.set_cons_succ]; go_big_quiet_on) | (go_big_quiet_op; go_big_quiet_on)))
      refine wpQuiet_nil ?_
      refine wpRL_callB (by rfl) (by first | rfl | simp [Region.wanted, yielded]) ?_ ?_
      · intro wn hbn hE Kx hKx
        have hsz := B.size
        have hzn := hbn.size
        replace B := B.trans (hbn.mono B.size)
        (try first | replace q3 := q3.of_eq (hbn.block _ q3.lt) | replace q3 := q3.below hbn)
        (try first | replace c4 := c4.of_eq (hbn.block _ c4.lt) | replace c4 := c4.below hbn)
        (try first | replace a5 := a5.of_eq (hbn.block _ a5.lt) | replace a5 := a5.below hbn)
        (try first | replace r8 := r8.of_eq (hbn.block _ r8.lt) | replace r8 := r8.below hbn)
        (try first | replace r9 := r9.of_eq (hbn.block _ r9.lt) | replace r9 := r9.below hbn)
        (try first | replace d10 := d10.of_eq (hbn.block _ d10.lt) | replace d10 := d10.below hbn)
        (try first | replace m11 := m11.of_eq (hbn.block _ m11.lt) | replace m11 := m11.below hbn)
        (try first | replace g13 := g13.of_eq (hbn.block _ g13.lt) | replace g13 := g13.below hbn)
        (try first | replace f14 := f14.of_eq (hbn.block _ f14.lt) | replace f14 := f14.below hbn)
        (try first | replace w15 := w15.of_eq (hbn.block _ w15.lt) | replace w15 := w15.below hbn)
        (try first | replace h17 := h17.of_eq (hbn.block _ h17.lt) | replace h17 := h17.below hbn)
        (try first | replace n18 := n18.of_eq (hbn.block _ n18.lt) | replace n18 := n18.below hbn)
        (try first | replace rs1 := rs1.of_eq (hbn.block _ rs1.lt) | replace rs1 := rs1.below hbn)
        (try first | replace rs2 := rs2.of_eq (hbn.block _ rs2.lt) | replace rs2 := rs2.below hbn)
        (try first | replace e1 := e1.of_eq (hbn.block _ e1.lt) | replace e1 := e1.below hbn)
        (try first | replace e2 := e2.of_eq (hbn.block _ e2.lt) | replace e2 := e2.below hbn)
        (try first | replace e3 := e3.of_eq (hbn.block _ e3.lt) | replace e3 := e3.below hbn)
        (try first | replace e4 := e4.of_eq (hbn.block _ e4.lt) | replace e4 := e4.below hbn)
        (try first | replace e5 := e5.of_eq (hbn.block _ e5.lt) | replace e5 := e5.below hbn)
        refine wp_lenS rfl Try.underlying66 rfl ?_
        exact hKx () _ trivial (Below.refl _ _)
      rintro ⟨⟩
      dsimp only [detS]
      simp only [Act.put, List.setIfInBounds_toArray, List.set_cons_zero, List.set_cons_succ]
      refine wpRL_chunk 17 (by kernel_rfl) ?_
      simp only [List.take_succ_cons, List.take_zero, List.drop_succ_cons, List.drop_zero, Nat.reduceAdd]
      repeat (first | go_big_quiet_skip | (go_big_quiet_want; first | (refine quiet_loadAny (t := 30) rfl _ _ _ rfl (fun w hw => run_load_B (ov_B r8 w hw) Try.isAgg30 (by kernel_rfl)) (by rfl) ?_; simp only [Act.put, List.setIfInBounds_toArray, List.set_cons_zero, List.set_cons_succ]; go_big_quiet_on) | (refine quiet_loadAny (t := 30) rfl _ _ _ rfl (fun w hw => run_load_B (ov_B r9 w hw) Try.isAgg30 (by kernel_rfl)) (by rfl) ?_; simp only [Act.put, List.setIfInBounds_toArray, List.set_cons_zero, List.set_cons_succ]; go_big_quiet_on) | (refine quiet_loadAny (t := 66) rfl _ _ _ rfl (fun w hw => run_load_slp (imgC_u (ov_B n18 w hw))) (by first | rfl | omega) ?_; simp only [Act.put, List.setIfInBounds_toArray, List.set_cons_zero, List.set_cons_succ]; go_big_quiet_on) | (refine quiet_loadAny (t := 3) rfl _ _ _ rfl (fun w hw => run_load_int ((ov_B d10 w hw).cellL 0 rfl)) (by rfl) ?_; simp only [Act.put, List.setIfInBounds_toArray, List.set_cons_zero, List.set_cons_succ]; go_big_quiet_on) | (refine quiet_loadAny (t := 3) rfl _ _ _ rfl (fun w hw => run_load_int ((ov_B d10 w hw).cellL 1 rfl)) (by rfl) ?_; simp only [Act.put, List.setIfInBounds_toArray, List.set_cons_zero, List.set_cons_succ]; go_big_quiet_on) | (refine quiet_loadAny (t := 3) rfl _ _ _ rfl (fun w hw => run_load_int ((ov_B d10 w hw).cellL 2 rfl)) (by rfl) ?_; simp only [Act.put, List.setIfInBounds_toArray, List.set_cons_zero, List.set_cons_succ]; go_big_quiet_on) | (refine quiet_loadAny (t := 3) rfl _ _ _ rfl (fun w hw => run_load_int ((ov_B d10 w hw).cellL 3 rfl)) (by rfl) ?_; simp only [Act.put, List.setIfInBounds_toArray, List.set_cons_zero, List.set_cons_succ]; go_big_quiet_on) | (refine quiet_loadAny (t := 3) rfl _ _ _ rfl (fun w hw => run_load_int ((ov_B f14 w hw).cellL 0 rfl)) (by rfl) ?_; simp only [Act.put, List.setIfInBounds_toArray, List.set_cons_zero, List.set_cons_succ]; go_big_quiet_on) | (refine quiet_loadAny (t := 3) rfl _ _ _ rfl (fun w hw => run_load_int ((ov_B f14 w hw).cellL 1 rfl)) (by rfl) ?_; simp only [Act.put, List.setIfInBounds_toArray, List.set_cons_zero, List.set_cons_succ]; go_big_quiet_on) | (refine quiet_loadAny (t := 3) rfl _ _ _ rfl (fun w hw => run_load_int ((ov_B f14 w hw).cellL 2 rfl)) (by rfl) ?_; simp only [Act.put, List.setIfInBounds_toArray, List.set_cons_zero, List.set_cons_succ]; go_big_quiet_on) | (refine quiet_loadAny (t := 3) rfl _ _ _ rfl (fun w hw => run_load_int ((ov_B f14 w hw).cellL 3 rfl)) (by rfl) ?_; simp only [Act.put, List.setIfInBounds_toArray, List.set_cons_zero, List.set_cons_succ]; go_big_quiet_on) | (refine quiet_loadAny (t := 3) rfl _ _ _ rfl (fun w hw => run_load_int ((ov_B a5 w hw).cellL 0 rfl)) (by rfl) ?_; simp only [Act.put, List.setIfInBounds_toArray, List.set_cons_zero, List.set_cons_succ]; go_big_quiet_on) | (refine quiet_loadAny (t := 3) rfl _ _ _ rfl (fun w hw => run_load_int ((ov_B a5 w hw).cellL 1 rfl)) (by rfl) ?_; simp only [Act.put, List.setIfInBounds_toArray, List.set_cons_zero, List.set_cons_succ]; go_big_quiet_on) | (refine quiet_loadAny (t := 37) rfl _ _ _ rfl (fun w hw => rce_px (ov_rce ce5 w hw) hpx) (by first | rfl | omega) ?_; simp only [Act.put, List.setIfInBounds_toArray, List.set_cons_zero, List.set_cons_succ]; go_big_quiet_on) | (go_big_quiet_op; go_big_quiet_on)))
      refine wpQuiet_nil ?_
      refine wpRL_callB (by rfl) (by first | rfl | simp [Region.wanted, yielded]) ?_ ?_
      · intro wn hbn hE Kx hKx
        have hsz := B.size
        have hzn := hbn.size
        replace B := B.trans (hbn.mono B.size)
        (try first | replace q3 := q3.of_eq (hbn.block _ q3.lt) | replace q3 := q3.below hbn)
        (try first | replace c4 := c4.of_eq (hbn.block _ c4.lt) | replace c4 := c4.below hbn)
        (try first | replace a5 := a5.of_eq (hbn.block _ a5.lt) | replace a5 := a5.below hbn)
        (try first | replace r8 := r8.of_eq (hbn.block _ r8.lt) | replace r8 := r8.below hbn)
        (try first | replace r9 := r9.of_eq (hbn.block _ r9.lt) | replace r9 := r9.below hbn)
        (try first | replace d10 := d10.of_eq (hbn.block _ d10.lt) | replace d10 := d10.below hbn)
        (try first | replace m11 := m11.of_eq (hbn.block _ m11.lt) | replace m11 := m11.below hbn)
        (try first | replace g13 := g13.of_eq (hbn.block _ g13.lt) | replace g13 := g13.below hbn)
        (try first | replace f14 := f14.of_eq (hbn.block _ f14.lt) | replace f14 := f14.below hbn)
        (try first | replace w15 := w15.of_eq (hbn.block _ w15.lt) | replace w15 := w15.below hbn)
        (try first | replace h17 := h17.of_eq (hbn.block _ h17.lt) | replace h17 := h17.below hbn)
        (try first | replace n18 := n18.of_eq (hbn.block _ n18.lt) | replace n18 := n18.below hbn)
        (try first | replace rs1 := rs1.of_eq (hbn.block _ rs1.lt) | replace rs1 := rs1.below hbn)
        (try first | replace rs2 := rs2.of_eq (hbn.block _ rs2.lt) | replace rs2 := rs2.below hbn)
        (try first | replace e1 := e1.of_eq (hbn.block _ e1.lt) | replace e1 := e1.below hbn)
        (try first | replace e2 := e2.of_eq (hbn.block _ e2.lt) | replace e2 := e2.below hbn)
        (try first | replace e3 := e3.of_eq (hbn.block _ e3.lt) | replace e3 := e3.below hbn)
        (try first | replace e4 := e4.of_eq (hbn.block _ e4.lt) | replace e4 := e4.below hbn)
        (try first | replace e5 := e5.of_eq (hbn.block _ e5.lt) | replace e5 := e5.below hbn)
        refine wp_callF rfl (enters_of Try.func20 (by kernel_rfl) rfl) (by simp only [List.map_toArray, List.map_cons, List.map_nil, Act.eval, Array.getD_eq_getD_getElem?, List.getElem?_toArray, List.getElem?_cons_succ, List.getElem?_cons_zero, Option.getD_some]; rfl) ?_
        refine (P_GetB _ (madeL L) (d0 + (X : Int)) (d1 + (Y : Int)) _ wn rs2 HM.out wX wY rfl).mono ?_
        rintro e wm ⟨rfl, hbm⟩
        refine ⟨_, rfl, ?_⟩
        have hz := hKx () wm trivial hbm
        dsimp only [detS] at hz
        exact hz
      rintro ⟨⟩
      dsimp only [detS]
      simp only [Act.put, List.setIfInBounds_toArray, List.set_cons_zero, List.set_cons_succ]
      refine wpRL_chunk 2 (by kernel_rfl) ?_
      simp only [List.take_succ_cons, List.take_zero, List.drop_succ_cons, List.drop_zero, Nat.reduceAdd]
      repeat (first | go_big_quiet_skip | (go_big_quiet_want; first | (go_big_quiet_op; go_big_quiet_on)))
      refine wpQuiet_nil ?_
      refine wpRL_nil ?_
      intro wn hbn hE
      have hsz := B.size
      have hzn := hbn.size
      replace B := B.trans (hbn.mono B.size)
      (try first | replace q3 := q3.of_eq (hbn.block _ q3.lt) | replace q3 := q3.below hbn)
      (try first | replace c4 := c4.of_eq (hbn.block _ c4.lt) | replace c4 := c4.below hbn)
      (try first | replace a5 := a5.of_eq (hbn.block _ a5.lt) | replace a5 := a5.below hbn)
      (try first | replace r8 := r8.of_eq (hbn.block _ r8.lt) | replace r8 := r8.below hbn)
      (try first | replace r9 := r9.of_eq (hbn.block _ r9.lt) | replace r9 := r9.below hbn)
      (try first | replace d10 := d10.of_eq (hbn.block _ d10.lt) | replace d10 := d10.below hbn)
      (try first | replace m11 := m11.of_eq (hbn.block _ m11.lt) | replace m11 := m11.below hbn)
      (try first | replace g13 := g13.of_eq (hbn.block _ g13.lt) | replace g13 := g13.below hbn)
      (try first | replace f14 := f14.of_eq (hbn.block _ f14.lt) | replace f14 := f14.below hbn)
      (try first | replace w15 := w15.of_eq (hbn.block _ w15.lt) | replace w15 := w15.below hbn)
      (try first | replace h17 := h17.of_eq (hbn.block _ h17.lt) | replace h17 := h17.below hbn)
      (try first | replace n18 := n18.of_eq (hbn.block _ n18.lt) | replace n18 := n18.below hbn)
      (try first | replace rs1 := rs1.of_eq (hbn.block _ rs1.lt) | replace rs1 := rs1.below hbn)
      (try first | replace rs2 := rs2.of_eq (hbn.block _ rs2.lt) | replace rs2 := rs2.below hbn)
      (try first | replace e1 := e1.of_eq (hbn.block _ e1.lt) | replace e1 := e1.below hbn)
      (try first | replace e2 := e2.of_eq (hbn.block _ e2.lt) | replace e2 := e2.below hbn)
      (try first | replace e3 := e3.of_eq (hbn.block _ e3.lt) | replace e3 := e3.below hbn)
      (try first | replace e4 := e4.of_eq (hbn.block _ e4.lt) | replace e4 := e4.below hbn)
      (try first | replace e5 := e5.of_eq (hbn.block _ e5.lt) | replace e5 := e5.below hbn)
      clear hE
      try simp only [List.drop_succ_cons, List.drop_zero]
      refine NoPan.normal ?_
      go_upto_region 18 with fail
      refine wp_region_lit ?_
      try simp only [List.getElem_toArray, List.getElem_cons_zero, List.getElem_cons_succ]
      refine wpList_chunk 11 (by kernel_rfl) ?_
      simp only [List.take_succ_cons, List.take_zero, List.drop_succ_cons, List.drop_zero, Nat.reduceAdd]
      repeat (first | go_big_quiet_skip | (go_big_quiet_want; first | (refine quiet_loadAny (t := 68) rfl _ _ _ rfl (fun w hw => run_load_img (ov_B m11 w hw)) (by first | rfl | omega) ?_; simp only [Act.put, List.setIfInBounds_toArray, List.set_cons_zero, List.set_cons_succ]; go_big_quiet_on) | (refine quiet_loadAny (t := 68) rfl _ _ _ rfl (fun w hw => run_load_img (ov_B w15 w hw)) (by first | rfl | omega) ?_; simp only [Act.put, List.setIfInBounds_toArray, List.set_cons_zero, List.set_cons_succ]; go_big_quiet_on) | (refine quiet_loadAny (t := 68) rfl _ _ _ rfl (fun w hw => run_load_img (ov_B n18 w hw)) (by first | rfl | omega) ?_; simp only [Act.put, List.setIfInBounds_toArray, List.set_cons_zero, List.set_cons_succ]; go_big_quiet_on) | (refine quiet_loadAny (t := 46) rfl _ _ _ rfl (fun w hw => run_load_she (ov_B g13 w hw)) (by first | rfl | omega) ?_; simp only [Act.put, List.setIfInBounds_toArray, List.set_cons_zero, List.set_cons_succ]; go_big_quiet_on) | (refine quiet_loadAny (t := 46) rfl _ _ _ rfl (fun w hw => run_load_she (ov_B h17 w hw)) (by first | rfl | omega) ?_; simp only [Act.put, List.setIfInBounds_toArray, List.set_cons_zero, List.set_cons_succ]; go_big_quiet_on) | (refine quiet_loadAny (t := 68) rfl _ _ _ rfl (fun w hw => run_load_shi (ov_B g13 w hw)) (by first | rfl | omega) ?_; simp only [Act.put, List.setIfInBounds_toArray, List.set_cons_zero, List.set_cons_succ]; go_big_quiet_on) | (refine quiet_loadAny (t := 68) rfl _ _ _ rfl (fun w hw => run_load_shi (ov_B h17 w hw)) (by first | rfl | omega) ?_; simp only [Act.put, List.setIfInBounds_toArray, List.set_cons_zero, List.set_cons_succ]; go_big_quiet_on) | (go_big_quiet_op; go_big_quiet_on)))
      refine wpQuiet_nil ?_
      refine wpList_callF (by first | rfl | simp [Region.wanted, yielded]) rfl (enters_of Try.func37 (by kernel_rfl) rfl) (by simp only [List.map_toArray, List.map_cons, List.map_nil, Act.eval, Array.getD_eq_getD_getElem?, List.getElem?_toArray, List.getElem?_cons_succ, List.getElem?_cons_zero, Option.getD_some]; rfl) ?_
      refine (R_SameS (imR ⟨d0, d1, d2, d3⟩) _ _ _ wn e1 e2 (Nat.le_trans (imLs_len _ _) (by omega))).mono ?_
      rintro e wn ⟨rfl, hbn⟩
      have hsz := B.size
      have hzn := hbn.size
      replace B := B.trans (hbn.mono B.size)
      (try first | replace q3 := q3.of_eq (hbn.block _ q3.lt) | replace q3 := q3.below hbn)
      (try first | replace c4 := c4.of_eq (hbn.block _ c4.lt) | replace c4 := c4.below hbn)
      (try first | replace a5 := a5.of_eq (hbn.block _ a5.lt) | replace a5 := a5.below hbn)
      (try first | replace r8 := r8.of_eq (hbn.block _ r8.lt) | replace r8 := r8.below hbn)
      (try first | replace r9 := r9.of_eq (hbn.block _ r9.lt) | replace r9 := r9.below hbn)
      (try first | replace d10 := d10.of_eq (hbn.block _ d10.lt) | replace d10 := d10.below hbn)
      (try first | replace m11 := m11.of_eq (hbn.block _ m11.lt) | replace m11 := m11.below hbn)
      (try first | replace g13 := g13.of_eq (hbn.block _ g13.lt) | replace g13 := g13.below hbn)
      (try first | replace f14 := f14.of_eq (hbn.block _ f14.lt) | replace f14 := f14.below hbn)
      (try first | replace w15 := w15.of_eq (hbn.block _ w15.lt) | replace w15 := w15.below hbn)
      (try first | replace h17 := h17.of_eq (hbn.block _ h17.lt) | replace h17 := h17.below hbn)
      (try first | replace n18 := n18.of_eq (hbn.block _ n18.lt) | replace n18 := n18.below hbn)
      (try first | replace rs1 := rs1.of_eq (hbn.block _ rs1.lt) | replace rs1 := rs1.below hbn)
      (try first | replace rs2 := rs2.of_eq (hbn.block _ rs2.lt) | replace rs2 := rs2.below hbn)
      (try first | replace e1 := e1.of_eq (hbn.block _ e1.lt) | replace e1 := e1.below hbn)
      (try first | replace e2 := e2.of_eq (hbn.block _ e2.lt) | replace e2 := e2.below hbn)
      (try first | replace e3 := e3.of_eq (hbn.block _ e3.lt) | replace e3 := e3.below hbn)
      (try first | replace e4 := e4.of_eq (hbn.block _ e4.lt) | replace e4 := e4.below hbn)
      (try first | replace e5 := e5.of_eq (hbn.block _ e5.lt) | replace e5 := e5.below hbn)
      refine ⟨_, rfl, ?_⟩
      simp only [Act.put, List.setIfInBounds_toArray, List.set_cons_zero, List.set_cons_succ]
      refine wpList_chunk 11 (by kernel_rfl) ?_
      simp only [List.take_succ_cons, List.take_zero, List.drop_succ_cons, List.drop_zero, Nat.reduceAdd]
      repeat (first | go_big_quiet_skip | (go_big_quiet_want; first | (refine quiet_loadAny (t := 68) rfl _ _ _ rfl (fun w hw => run_load_img (ov_B m11 w hw)) (by first | rfl | omega) ?_; simp only [Act.put, List.setIfInBounds_toArray, List.set_cons_zero, List.set_cons_succ]; go_big_quiet_on) | (refine quiet_loadAny (t := 68) rfl _ _ _ rfl (fun w hw => run_load_img (ov_B w15 w hw)) (by first | rfl | omega) ?_; simp only [Act.put, List.setIfInBounds_toArray, List.set_cons_zero, List.set_cons_succ]; go_big_quiet_on) | (refine quiet_loadAny (t := 68) rfl _ _ _ rfl (fun w hw => run_load_img (ov_B n18 w hw)) (by first | rfl | omega) ?_; simp only [Act.put, List.setIfInBounds_toArray, List.set_cons_zero, List.set_cons_succ]; go_big_quiet_on) | (refine quiet_loadAny (t := 46) rfl _ _ _ rfl (fun w hw => run_load_she (ov_B g13 w hw)) (by first | rfl | omega) ?_; simp only [Act.put, List.setIfInBounds_toArray, List.set_cons_zero, List.set_cons_succ]; go_big_quiet_on) | (refine quiet_loadAny (t := 46) rfl _ _ _ rfl (fun w hw => run_load_she (ov_B h17 w hw)) (by first | rfl | omega) ?_; simp only [Act.put, List.setIfInBounds_toArray, List.set_cons_zero, List.set_cons_succ]; go_big_quiet_on) | (refine quiet_loadAny (t := 68) rfl _ _ _ rfl (fun w hw => run_load_shi (ov_B g13 w hw)) (by first | rfl | omega) ?_; simp only [Act.put, List.setIfInBounds_toArray, List.set_cons_zero, List.set_cons_succ]; go_big_quiet_on) | (refine quiet_loadAny (t := 68) rfl _ _ _ rfl (fun w hw => run_load_shi (ov_B h17 w hw)) (by first | rfl | omega) ?_; simp only [Act.put, List.setIfInBounds_toArray, List.set_cons_zero, List.set_cons_succ]; go_big_quiet_on) | (go_big_quiet_op; go_big_quiet_on)))
      refine wpQuiet_nil ?_
      refine wpList_callF (by first | rfl | simp [Region.wanted, yielded]) rfl (enters_of Try.func37 (by kernel_rfl) rfl) (by simp only [List.map_toArray, List.map_cons, List.map_nil, Act.eval, Array.getD_eq_getD_getElem?, List.getElem?_toArray, List.getElem?_cons_succ, List.getElem?_cons_zero, Option.getD_some]; rfl) ?_
      refine (R_SameS (imR FR) _ _ _ wn e3 e4 (Nat.le_trans (imLs_len _ _) (by omega))).mono ?_
      rintro e wn ⟨rfl, hbn⟩
      have hsz := B.size
      have hzn := hbn.size
      replace B := B.trans (hbn.mono B.size)
      (try first | replace q3 := q3.of_eq (hbn.block _ q3.lt) | replace q3 := q3.below hbn)
      (try first | replace c4 := c4.of_eq (hbn.block _ c4.lt) | replace c4 := c4.below hbn)
      (try first | replace a5 := a5.of_eq (hbn.block _ a5.lt) | replace a5 := a5.below hbn)
      (try first | replace r8 := r8.of_eq (hbn.block _ r8.lt) | replace r8 := r8.below hbn)
      (try first | replace r9 := r9.of_eq (hbn.block _ r9.lt) | replace r9 := r9.below hbn)
      (try first | replace d10 := d10.of_eq (hbn.block _ d10.lt) | replace d10 := d10.below hbn)
      (try first | replace m11 := m11.of_eq (hbn.block _ m11.lt) | replace m11 := m11.below hbn)
      (try first | replace g13 := g13.of_eq (hbn.block _ g13.lt) | replace g13 := g13.below hbn)
      (try first | replace f14 := f14.of_eq (hbn.block _ f14.lt) | replace f14 := f14.below hbn)
      (try first | replace w15 := w15.of_eq (hbn.block _ w15.lt) | replace w15 := w15.below hbn)
      (try first | replace h17 := h17.of_eq (hbn.block _ h17.lt) | replace h17 := h17.below hbn)
      (try first | replace n18 := n18.of_eq (hbn.block _ n18.lt) | replace n18 := n18.below hbn)
      (try first | replace rs1 := rs1.of_eq (hbn.block _ rs1.lt) | replace rs1 := rs1.below hbn)
      (try first | replace rs2 := rs2.of_eq (hbn.block _ rs2.lt) | replace rs2 := rs2.below hbn)
      (try first | replace e1 := e1.of_eq (hbn.block _ e1.lt) | replace e1 := e1.below hbn)
      (try first | replace e2 := e2.of_eq (hbn.block _ e2.lt) | replace e2 := e2.below hbn)
      (try first | replace e3 := e3.of_eq (hbn.block _ e3.lt) | replace e3 := e3.below hbn)
      (try first | replace e4 := e4.of_eq (hbn.block _ e4.lt) | replace e4 := e4.below hbn)
      (try first | replace e5 := e5.of_eq (hbn.block _ e5.lt) | replace e5 := e5.below hbn)
      refine ⟨_, rfl, ?_⟩
      simp only [Act.put, List.setIfInBounds_toArray, List.set_cons_zero, List.set_cons_succ]
      refine wpList_chunk 2 (by kernel_rfl) ?_
      simp only [List.take_succ_cons, List.take_zero, List.drop_succ_cons, List.drop_zero, Nat.reduceAdd]
      repeat (first | go_big_quiet_skip | (go_big_quiet_want; first | (go_big_quiet_op; go_big_quiet_on)))
      refine wpQuiet_nil ?_
      refine wpList_nil ?_
      go_wp2
      go_ret
      exact ⟨rfl, B⟩
namespace rasterImage
open Go.ChangeShapes Go.WideShapes Go.ChangeAt Go.RowKit
open Go.ChangeMaps (open_string shut_string)
set_option maxRecDepth 100000 in
theorem lifted (os : Os) (started : os.Started) (H : Type) (enc : TypeId × Value → H) :
    ReturnsInHanded {} Try.checked os 7 .any (Rows.rasterImageSpec.pre6 enc Try.prog Try.f7 Rows.rasterImageRow.domain false) (Rows.rasterImageSpec.post enc Try.prog Try.f7 false true false false) := by
  refine returnsInHanded_of_change_sized (C := Try.checked) own started (by kernel_rfl) Try.func7
    (ChangeSpec.witness6 (enc := enc) (C := Try.checked) false ⟨#[], #[.agg #[.slice none 0 0, .int .i64 0, .int .i64 0, .int .i64 0, .slice none 0 0, .int .i64 0], .agg #[.int .i64 0, .int .i64 0, .int .i64 0, .int .i64 0], .agg #[.int .i64 0, .int .i64 0]], []⟩ 8 (by kernel_rfl) (by kernel_rfl) (by kernel_rfl) (by kernel_rfl)) ?_
  intro W base args ds gs before hval0 hW hcnd hsz0 _
  have hval : ∀ (j : Nat) t v, Try.f7.params[j]? = some t → args[j]? = some v → Value.okWide Try.prog W .any base t v := hval0
  have hW' := hW
  obtain ⟨p, q, hA0, hV, rfl, hfz, hnd⟩ := hW
  have hA : DataW.TrodAll enc Try.prog W 0 (fun _ => true) true Try.f7.params.toList args.toList ds p := hA0
  rw [Try.params7] at hA hval hsz0
  obtain ⟨v0, vs0, d0, ds0, p0, q0, hargs, rfl, rfl, h0, r0⟩ := trodAll_cons hA
  obtain ⟨v1, vs1, d1, ds1, p1, q1, rfl, rfl, rfl, h1, r1⟩ := trodAll_cons r0
  obtain ⟨v2, vs2, d2, ds2, p2, q2, rfl, rfl, rfl, h2, r2⟩ := trodAll_cons r1
  obtain ⟨rfl, rfl, rfl⟩ := trodAll_nil r2
  obtain rfl : args = #[v0, v1, v2] := by cases args; simp_all
  obtain ⟨rfl, rfl⟩ := trodVars_none hV
  have hwt0 : ∀ n ∈ DataW.weights Try.prog 26 d0, n ≤ reachBytes := fun n hn => by simpa using List.all_eq_true.1 hsz0 n (DataW.weights_mem_each (j := 0) rfl rfl n hn)
  have k0 := h0
  have lt0 : ∀ x ∈ p0, x.block < W.heap.size := by obtain ⟨m, hm⟩ := k0; exact DataW.trod_lt m _ _ _ hm
  have k1 := h1
  have lt1 : ∀ x ∈ p1, x.block < W.heap.size := by obtain ⟨m, hm⟩ := k1; exact DataW.trod_lt m _ _ _ hm
  have k2 := h2
  have lt2 : ∀ x ∈ p2, x.block < W.heap.size := by obtain ⟨m, hm⟩ := k2; exact DataW.trod_lt m _ _ _ hm
  obtain ⟨a0, vl0, vt0, L0, T0, rfl, hL0, hLn0, hT0, hTn0⟩ := open_raw (hval 0 26 v0 rfl rfl) h0 hwt0
  obtain ⟨c1, rfl, wc1⟩ := open_rect (hval 1 64 v1 rfl rfl) h1
  obtain ⟨a2, b2, rfl, w2⟩ := open_int2 (hval 2 43 v2 rfl rfl) h2
  clear hA0 hval0
  refine (walk_RasterImage a0 vl0 vt0 L0 T0 c1 a2 b2  wc1 w2 W hL0 hLn0 hT0 hTn0).mono fun e W' ⟨he, bel⟩ => ?_
  subst he
  exact ⟨_, rfl, _, _, _, [], _, [], hW', trodAll_mk1 (shut_bool Try.underlying4 _), (trodAll_cons_mk (Below.trod laidOut (by kernel_rfl) (of_decide_eq_true (by kernel_rfl)) k0 bel lt0) (trodAll_cons_mk (Below.trod laidOut (by kernel_rfl) (of_decide_eq_true (by kernel_rfl)) k1 bel lt1) (trodAll_cons_mk (Below.trod laidOut (by kernel_rfl) (of_decide_eq_true (by kernel_rfl)) k2 bel lt2) trodAll_mk0))), rfl, bel.frame _, fun h => by cases h⟩
theorem over : Rows.rasterImageRow.holds Try.pinned (OpenSpec.ofChange Rows.rasterImageSpec) :=
  OpenClaim.holds_of_wide 7 Try.f7 rfl rfl rfl rfl rfl rfl rfl ⟨rfl, rfl, rfl, rfl, rfl⟩ rfl rfl rfl rfl rfl (by kernel_rfl) Try.func7 (by kernel_rfl)
    (of_decide_eq_true (by kernel_rfl)) (by unfold Func.isWrapper; first | (rw [if_pos (by decide +kernel)]; kernel_rfl) | (rw [if_neg (by decide +kernel)]; exact ⟨rfl, rfl⟩))
    (fun os started H enc _ => lifted os started H enc)
/-- THE STATEMENT: RasterImage returns true for every input, and its arguments read as they did. -/
theorem proved : Rows.RasterImageSaid := over
end rasterImage
end Go.Proofs.Ytppccnjckiedlaa
