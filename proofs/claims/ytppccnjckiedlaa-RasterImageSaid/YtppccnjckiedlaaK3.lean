import Derived.Test.YtppccnjckiedlaaK2
import Derived.Deep.MidRow
import Derived.Deep.Upon
import Derived.Test.YtppccnjckiedlaaFr
import Derived.SizedLaws
import Derived.ChangeSlices
import Derived.Test.YtppccnjckiedlaaRo
import Derived.Test.YtppccnjckiedlaaK1
import Derived.Test.YtppccnjckiedlaaRb
import Derived.Test.YtppccnjckiedlaaAg
import Derived.Shelf.Abstract

/- Stores into a row of tiles at positions. -/
namespace Go.Proofs.Ytppccnjckiedlaa
open Go.RowKit Go.Shelf Pl
set_option linter.unusedVariables false
set_option linter.unusedSimpArgs false
set_option maxRecDepth 20000

theorem aT_set (ls : List TA) (i k : Nat) (e : TA) (hi : i < ls.length) : aT (ls.set i e) k = if k = i then e else aT ls k := by
  unfold aT
  rw [List.getD_eq_getElem?_getD, List.getD_eq_getElem?_getD, List.getElem?_set]
  by_cases h : i = k
  · subst h; simp [hi]
  · rw [if_neg h, if_neg (Ne.symm h)]
theorem sz_setCells (b : Nat) : ∀ (vs : List Value) (o : Nat) (w : World), (w.setCells b o vs).heap.size = w.heap.size
  | [], _, _ => rfl
  | v :: r, o, w => by
    show ((w.setCell ⟨b, o, none⟩ v).setCells b (o + 1) r).heap.size = _
    rw [sz_setCells b r, World.size_setCell]
theorem RCells.put {g o i s : Nat} {ls : List TA} {w : World} {vs : List Value} (h : RCells g o ls w) (e' : TA) (hi : i < ls.length) (hs : s + vs.length ≤ 258)
    (he : ∀ j, j < 258 → (taC e')[j]? = if s ≤ j ∧ j < s + vs.length then vs[j - s]? else (taC (aT ls i))[j]?) : RCells g o (ls.set i e') (w.setCells g (o + i * 258 + s) vs) := by
  refine ⟨by rw [sz_setCells]; exact h.1, fun k hk j hj => ?_⟩
  rw [List.length_set] at hk
  rw [aT_set ls i k e' hi]
  have hsome : ∀ j, j < vs.length → (w.cell? ⟨g, o + i * 258 + s + j, none⟩).isSome = true := fun j hj => by
    have := h.2 i hi (s + j) (by omega)
    rw [show o + i * 258 + s + j = o + (i * 258 + (s + j)) by omega, this, Array.getElem?_eq_getElem (by rw [size_taC]; omega)]
    rfl
  by_cases hki : k = i
  · subst hki
    rw [if_pos rfl, he j hj]
    by_cases hj2 : s ≤ j ∧ j < s + vs.length
    · rw [if_pos hj2, show o + (k * 258 + j) = o + k * 258 + s + (j - s) by omega, World.cell?_setCells_in g vs _ w hsome (j - s) (by omega), List.getElem?_eq_getElem]
    · rw [if_neg hj2, World.cell?_setCells_out g vs _ w _ (fun _ _ => by show o + (k * 258 + j) < o + k * 258 + s ∨ o + k * 258 + s + vs.length ≤ o + (k * 258 + j); omega)]
      exact h.2 k hk j hj
  · rw [if_neg hki, World.cell?_setCells_out g vs _ w _ (fun _ _ => by
      show o + (k * 258 + j) < o + i * 258 + s ∨ o + i * 258 + s + vs.length ≤ o + (k * 258 + j)
      rcases Nat.lt_or_gt_of_ne hki with hh | hh
      · left; have : (k + 1) * 258 ≤ i * 258 := Nat.mul_le_mul_right _ hh; omega
      · right; have : (i + 1) * 258 ≤ k * 258 := Nat.mul_le_mul_right _ hh; omega)]
    exact h.2 k hk j hj
/-- An owned row of tiles: its cells may be written. -/
theorem OwnT.row {B : Nat} {v : Value} {ls : List TA} {w : World} (h : OwnT B v ls w) (hl : 0 < ls.length) : ∃ g c, v = .slice (some ⟨g, 0, none⟩) ls.length c ∧ B ≤ g ∧ RCells g 0 ls w ∧ ∀ j, w.frozen? ⟨g, j, none⟩ = false := by
  have hr := h.rs
  obtain ⟨h1, h2⟩ := h
  rcases h2 with ⟨rfl, h0⟩ | ⟨g, cap, cur, rfl, hb, hg, hn, hm, hs, ht⟩
  · exact absurd hl (by omega)
  · obtain ⟨g', o', e, rc⟩ := hr.at hl
    injection e with e
    injection e with e1 e2
    subst e1; subst e2
    exact ⟨g, cap, rfl, hb, rc, fun j => AtB.frozen (t := 79) hg j⟩
theorem RCells.there {g o : Nat} {ls : List TA} {w : World} (h : RCells g o ls w) (hf : ∀ j, w.frozen? ⟨g, j, none⟩ = false) {i s n : Nat} (hi : i < ls.length) (hs : s + n ≤ 258) : w.there g (o + i * 258 + s) n := fun j hj => by
  refine ⟨?_, hf _⟩
  have := h.2 i hi (s + j) (by omega)
  rw [show o + i * 258 + s + j = o + (i * 258 + (s + j)) by omega, this, Array.getElem?_eq_getElem (by rw [size_taC]; omega)]
  rfl
theorem setCells_chg (g o : Nat) (vs : List Value) (w : World) : Chg g w (w.setCells g o vs) := by
  induction vs generalizing o w with
  | nil => exact Chg.refl g w
  | cons v r ih =>
    show Chg g w ((w.setCell ⟨g, o, none⟩ v).setCells g (o + 1) r)
    exact ((Chg.refl g w).setCell _).trans (ih (o + 1) _)
section
variable {ops : Array Oper} {rest : List Oper} {o : Oper} {a : Act} {w : World} {Q : Exit → Act → World → Prop} {ls : List TA} {g : Nat}
/-- A part of an element of an owned row is stored. -/
theorem wpList_storeEl {t : TypeId} (hg : o.guard = none) (x y : Operand) (ho : o.op = .store t x y) (off : Nat) (hx : a.eval x = .pointer (some ⟨g, off, none⟩)) (cells : Array Value) (hy : a.eval y = .agg cells)
    (rc : RCells g 0 ls w) (hf : ∀ j, w.frozen? ⟨g, j, none⟩ = false) (i s : Nat) (hi : i < ls.length) (hoff : off = 0 + i * 258 + s) (hs : s + cells.size ≤ 258) (hinfo : (Try.prog.info? t).map (·.size) = some cells.size) (h1 : cells.all (·.oneCell') = true)
    (e' : TA) (he : ∀ j, j < 258 → (taC e')[j]? = if s ≤ j ∧ j < s + cells.toList.length then cells.toList[j - s]? else (taC (aT ls i))[j]?)
    (h : ∀ w', RCells g 0 (ls.set i e') w' → Chg g w w' → w'.heap.size = w.heap.size → wpList Try.prog ops Q rest (a.put o.dst undef) w') : wpList Try.prog ops Q (o :: rest) a w := by
  subst hoff
  refine wpList_store_mid hg t x y ho g _ cells hx hy (rc.there hf hi hs) hinfo h1 ?_
  exact h _ (rc.put e' hi (by rw [Array.length_toList]; exact hs) he) (setCells_chg _ _ _ _) (sz_setCells _ _ _ _)
theorem taC_at3 (e : TA) (j : Nat) : (taC e)[j]? = if j = 0 then some (.int .i64 e.x) else if j = 1 then some (.int .i64 e.y) else (tileC e.t)[j - 2]? := by
  match j with
  | 0 => exact taC_x e
  | 1 => exact taC_y e
  | j + 2 =>
    rw [if_neg (by omega), if_neg (by omega), Nat.add_comm j 2, Nat.add_sub_cancel_left]
    exact taC_t e j
theorem wpList_storePos (hg : o.guard = none) (x y : Operand) (ho : o.op = .store 24 x y) (off : Nat) (hx : a.eval x = .pointer (some ⟨g, off, none⟩)) (m n : Int) (hy : a.eval y = .agg #[.int .i64 m, .int .i64 n])
    (rc : RCells g 0 ls w) (hf : ∀ j, w.frozen? ⟨g, j, none⟩ = false) (i : Nat) (hi : i < ls.length) (hoff : off = i * 258)
    (h : ∀ w', RCells g 0 (ls.set i ⟨m, n, (aT ls i).t⟩) w' → Chg g w w' → w'.heap.size = w.heap.size → wpList Try.prog ops Q rest (a.put o.dst undef) w') : wpList Try.prog ops Q (o :: rest) a w := by
  refine wpList_storeEl hg x y ho off hx _ hy rc hf i 0 hi (by omega) (by simp) (by kernel_rfl) (by simp [Value.oneCell']) ⟨m, n, (aT ls i).t⟩ (fun j hj => ?_) h
  match j with
  | 0 => rw [taC_at3]; rfl
  | 1 => rw [taC_at3]; rfl
  | j + 2 => rw [if_neg (by simp), taC_at3, taC_at3, if_neg (by omega), if_neg (by omega), if_neg (by omega), if_neg (by omega)]
theorem wpList_storeTl (hg : o.guard = none) (x y : Operand) (ho : o.op = .store 40 x y) (off : Nat) (hx : a.eval x = .pointer (some ⟨g, off, none⟩)) (f : Nat → Px) (hy : a.eval y = Tile.v f)
    (rc : RCells g 0 ls w) (hf : ∀ j, w.frozen? ⟨g, j, none⟩ = false) (i : Nat) (hi : i < ls.length) (hoff : off = i * 258 + 2)
    (h : ∀ w', RCells g 0 (ls.set i ⟨(aT ls i).x, (aT ls i).y, f⟩) w' → Chg g w w' → w'.heap.size = w.heap.size → wpList Try.prog ops Q rest (a.put o.dst undef) w') : wpList Try.prog ops Q (o :: rest) a w := by
  refine wpList_storeEl hg x y ho off hx (tileC f) hy rc hf i 2 hi (by omega) (by rw [size_tileC]; omega) (tile_size f) (tile_oneCell f) ⟨(aT ls i).x, (aT ls i).y, f⟩ (fun j hj => ?_) h
  match j with
  | 0 => rw [if_neg (by omega), taC_at3, taC_at3]; rfl
  | 1 => rw [if_neg (by omega), taC_at3, taC_at3]; rfl
  | j + 2 => rw [if_pos (by rw [Array.length_toList, size_tileC]; omega), taC_at3, if_neg (by omega), if_neg (by omega), Array.getElem?_toList]
end
end Go.Proofs.Ytppccnjckiedlaa
/- Contract of `of` of the law package of rasters. -/
namespace Go.Proofs.Ytppccnjckiedlaa
open Go.RowKit Go.Shelf Pl
set_option linter.unusedVariables false
set_option linter.unusedSimpArgs false
set_option maxRecDepth 20000

/-- What Raw describes (its two slices aside). -/
structure RawQ where
  at_ : Int
  px : Int
  py : Int
  how : Int
def ninT (t : Nat → Px) : Nat → Px := upd t 5 ⟨9, (t 5).g, (t 5).b, (t 5).a⟩
def turnA (q : RawQ) (T : List Int) (e : TA) : TA :=
  if q.how % 8 = 1 then ⟨q.px, q.py, e.t⟩ else if q.how % 8 = 2 then ⟨e.x, e.y, madeT T⟩ else if q.how % 8 = 3 then ⟨e.x, e.y, ninT e.t⟩ else e
def ofI (q : RawQ) (n : Nat) : Nat := (q.at_ % 65536).toNat % n
def ofR (q : RawQ) (T : List Int) (r : List TA) : List TA :=
  if r.length = 0 then r else if q.how % 8 = 4 then r ++ [aT r (ofI q r.length)] else r.set (ofI q r.length) (turnA q T (aT r (ofI q r.length)))
def ofL (q : RawQ) (L T : List Int) : List TA := ofR q T (madeL L)
theorem ninT_tok {t : Nat → Px} (h : Tok t) : Tok (ninT t) := fun i hi => by
  unfold ninT upd
  split
  · have := h 5 (by omega)
    obtain ⟨_, h2, h3, h4⟩ := this
    exact ⟨⟨by simp, by simp⟩, h2, h3, h4⟩
  · exact h i hi
theorem turnA_tok (q : RawQ) (T : List Int) {e : TA} (h : Tok e.t) : Tok (turnA q T e).t := by
  unfold turnA
  split
  · exact h
  · split
    · exact madeT_tok T
    · split
      · exact ninT_tok h
      · exact h
theorem ofI_lt (q : RawQ) {n : Nat} (h : 0 < n) : ofI q n < n := Nat.mod_lt _ h
theorem ofR_tok (q : RawQ) (T : List Int) {r : List TA} (h : TokL r) : TokL (ofR q T r) := by
  unfold ofR
  split
  · exact h
  · rename_i h0
    have hi := ofI_lt q (n := r.length) (by omega)
    split
    · exact h.append fun e he => by rw [List.mem_singleton.1 he]; exact h.at hi
    · intro e he
      rcases List.mem_or_eq_of_mem_set he with he | rfl
      · exact h e he
      · exact turnA_tok q T (h.at hi)
theorem madeL_tok (L : List Int) : TokL (madeL L) := madeK_tok L 40
theorem madeL_valid (L : List Int) : validL (madeL L) = true := madeK_valid L 40
theorem madeL_len (L : List Int) : (madeL L).length ≤ 1024 := madeK_len L 40
theorem ofL_tok (q : RawQ) (L T : List Int) : TokL (ofL q L T) := ofR_tok q T (madeL_tok L)
theorem ofL_len (q : RawQ) (L T : List Int) : (ofL q L T).length ≤ 1025 := by
  have := madeL_len L
  unfold ofL ofR
  split
  · omega
  · split
    · rw [List.length_append]; simp; omega
    · rw [List.length_set]; omega
theorem run_load_sli {w : World} {b j : Nat} {v : Value} (h : w.cell? ⟨b, j, none⟩ = some v) : (Instr.loadAt 22 (.pointer (some ⟨b, j, none⟩))).run Try.prog w = .ok v w := by
  simp [go_sem, h]
theorem run_load_ps {w : World} {b j : Nat} {x y : Int} (h : w.cell? ⟨b, j, none⟩ = some (.int .i64 x)) (h' : w.cell? ⟨b, j + 1, none⟩ = some (.int .i64 y)) : (Instr.loadAt 24 (.pointer (some ⟨b, j, none⟩))).run Try.prog w = .ok (.agg #[.int .i64 x, .int .i64 y]) w := by
  simp [go_sem, h, h']
theorem R_Made8O (v : Value) (L : List Int) (w : World) (h : RSE inE v L w) (hn : L.length ≤ 17592186044416) : Calls Try.prog 18 #[v] w fun e w' => ∃ a c, e = .returned (.agg #[.slice a (madeL L).length c]) ∧ RS (.slice a (madeL L).length c) (madeL L) w' ∧ Below w.heap.size w w' :=
  (R_Made8 v L w h hn).mono fun e w' ⟨v', he, hr, hb⟩ => by
    obtain ⟨a, c, rfl, _⟩ := hr.len
    exact ⟨a, c, he, hr, hb⟩
theorem nin_cells (e : TA) (j : Nat) (hj : j < 258) : (taC ⟨e.x, e.y, ninT e.t⟩)[j]? = if 22 ≤ j ∧ j < 22 + [Value.int .u8 9].length then [Value.int .u8 9][j - 22]? else (taC e)[j]? := by
  by_cases h : j = 22
  · subst h
    rw [if_pos (by simp), taC_at3, if_neg (by omega), if_neg (by omega), get_tileC, if_pos (by omega)]
    rfl
  · rw [if_neg (by simp; omega), taC_at3, taC_at3]
    simp only
    split
    · rfl
    · split
      · rfl
      · rw [get_tileC, get_tileC, if_pos (by omega), if_pos (by omega)]
        by_cases h5 : (j - 2) / 4 = 5
        · have : (j - 2) % 4 = 1 ∨ (j - 2) % 4 = 2 ∨ (j - 2) % 4 = 3 := by omega
          rw [h5]
          rcases this with e' | e' | e' <;> rw [e'] <;> rfl
        · show some (pxC (ninT e.t ((j - 2) / 4)) _) = _
          unfold ninT upd
          rw [if_neg h5]
theorem wpList_storeNin {ops : Array Oper} {rest : List Oper} {o : Oper} {a : Act} {w : World} {Q : Exit → Act → World → Prop} {ls : List TA} {g : Nat} (hg : o.guard = none) (x y : Operand) (ho : o.op = .store 5 x y) (off : Nat) (hx : a.eval x = .pointer (some ⟨g, off, none⟩)) (hy : a.eval y = .int .u8 9)
    (rc : RCells g 0 ls w) (hf : ∀ j, w.frozen? ⟨g, j, none⟩ = false) (i : Nat) (hi : i < ls.length) (hoff : off = 0 + i * 258 + 22)
    (h : ∀ w', RCells g 0 (ls.set i ⟨(aT ls i).x, (aT ls i).y, ninT (aT ls i).t⟩) w' → Chg g w w' → w'.heap.size = w.heap.size → wpList Try.prog ops Q rest (a.put o.dst undef) w') : wpList Try.prog ops Q (o :: rest) a w := by
  subst hoff
  refine wpList_storeAny hg x y ho (w.setCells g (0 + i * 258 + 22) [.int .u8 9]) ?_ (h _ (rc.put _ hi (by simp) (nin_cells (aT ls i))) (setCells_chg _ _ _ _) (sz_setCells _ _ _ _))
  rw [hx, hy]
  have hc := (rc.there hf hi (s := 22) (n := 1) (by omega)) 0 (by omega)
  rw [Nat.add_zero] at hc
  obtain ⟨u, hu⟩ := Option.isSome_iff_exists.1 hc.1
  have hff := hc.2
  show _ = Result.ok () (w.setCell ⟨g, 0 + i * 258 + 22, none⟩ (.int .u8 9))
  simp only [Nat.zero_add] at hu hff ⊢
  simp [go_sem, hu, hff]
end Go.Proofs.Ytppccnjckiedlaa
/- Contract of `of` of the law package of rasters: the walk. -/
namespace Go.Proofs.Ytppccnjckiedlaa
open Go.RowKit Go.Shelf Pl
set_option linter.unusedVariables false
set_option linter.unusedSimpArgs false
set_option maxRecDepth 20000

theorem OwnT.frz {B g c : Nat} {ls : List TA} {w : World} (h : OwnT B (.slice (some ⟨g, 0, none⟩) ls.length c) ls w) (hl : 0 < ls.length) : ∀ j, w.frozen? ⟨g, j, none⟩ = false := by
  obtain ⟨g', c', e, _, _, hf⟩ := h.row hl
  injection e with e
  injection e with e
  injection e with e1
  subst e1
  exact hf
set_option maxHeartbeats 2000000 in
theorem L_of0 (q : RawQ) (vL vT : Value) (T : List Int) (r : List TA) (w : World) (hr : r.length ≤ 1024) (hT : RSE inE vT T w) (hTn : T.length ≤ 17592186044416)
    (hMD : ∀ w', Below w.heap.size w w' → Calls Try.prog 18 #[vL] w' fun e w'' => ∃ a c, e = .returned (.agg #[.slice a r.length c]) ∧ RS (.slice a r.length c) r w'' ∧ Below w'.heap.size w' w'') :
    Calls Try.prog 15 #[.agg #[vL, .int .i64 q.at_, .int .i64 q.px, .int .i64 q.py, vT, .int .i64 q.how]] w fun e w' => ∃ v', e = .returned (.agg #[v']) ∧ RS v' (ofR q T r) w' ∧ Below w.heap.size w w' := by
  have B := Below.refl w.heap.size w
  have MD := Lib.hid hMD
  have HT := Lib.hid hT
  clear hMD hT
  by_cases h0 : r.length = 0
  · obtain rfl := List.eq_nil_of_length_eq_zero h0
    have E := Lib.hid (show ofR q T [] = [] by unfold ofR; rw [if_pos h0])
    go_enter Try.func15, Try.ntmps15
    go_wp2_with (first | (refine wpList_storeB (t := 30) rfl _ _ rfl _ rfl _ rfl r2 (by kernel_rfl) rfl (by simp [Value.oneCell']) ?_; have r2o := r2; clear r2; intro wn ht hcn hzn; (try replace rs1 := rs1.chg r2o (by simp) hcn); have hsz := B.size; replace hzn := Nat.le_of_eq hzn.symm; replace B := Chg.below B hcn (by omega) B.size; (try replace q1 := q1.of_eq (hcn.block _ q1.lt (by omega))); (try replace r3 := r3.of_eq (hcn.block _ r3.lt (by omega))); (try replace rc := rc.of_eq (hcn.block _ rc.lt (by omega))); have r2 := ht; clear ht; simp only [Act.put, List.setIfInBounds_toArray, List.set_cons_zero, List.set_cons_succ]) | (refine wpList_loadAny (t := 30) rfl _ rfl _ _ _ rfl (run_load_B r3 Try.isAgg30 (by kernel_rfl)) (by rfl) ?_; simp only [Act.put, List.setIfInBounds_toArray, List.set_cons_zero, List.set_cons_succ]) | (refine wpList_loadAny (t := 28) rfl _ rfl _ _ _ rfl (run_load_sl r3.cell0) (by rfl) ?_; simp only [Act.put, List.setIfInBounds_toArray, List.set_cons_zero, List.set_cons_succ]) | (refine wpList_loadAny (t := 22) rfl _ rfl _ _ _ rfl (run_load_sli (q1.cell 0 rfl)) (by rfl) ?_; simp only [Act.put, List.setIfInBounds_toArray, List.set_cons_zero, List.set_cons_succ]) | (go_at_call 18; refine (MD.out _ B).mono ?_; rintro e wn ⟨a1, c1, rfl, rs1, hbn⟩; have hsz := B.size; have hzn := hbn.size; replace B := B.trans (hbn.mono B.size); (try first | replace q1 := q1.of_eq (hbn.block _ q1.lt) | replace q1 := q1.below hbn); (try first | replace r2 := r2.of_eq (hbn.block _ r2.lt) | replace r2 := r2.below hbn); (try first | replace r3 := r3.of_eq (hbn.block _ r3.lt) | replace r3 := r3.below hbn)) | (refine wpList_storeB (t := 30) rfl _ _ rfl _ rfl _ rfl r3 (by kernel_rfl) rfl (by simp [Value.oneCell']) ?_; have r3o := r3; clear r3; intro wn ht hcn hzn; (try replace rs1 := rs1.chg r3o (by simp) hcn); have hsz := B.size; replace hzn := Nat.le_of_eq hzn.symm; replace B := Chg.below B hcn (by omega) B.size; (try replace q1 := q1.of_eq (hcn.block _ q1.lt (by omega))); (try replace r2 := r2.of_eq (hcn.block _ r2.lt (by omega))); have r3 := ht; clear ht; simp only [Act.put, List.setIfInBounds_toArray, List.set_cons_zero, List.set_cons_succ]) | (have _ := rs1; refine wpList_allocBk (t := 30) rfl _ (run_alloc_R _ _ rfl) ?_; intro b_r3 wn hle hge ht hbn hzn; have hsz := B.size; replace B := B.trans (hbn.mono (by omega)); have hln := Nat.lt_of_lt_of_eq (Nat.lt_succ_self _) hzn.symm; clear hzn; (try first | (have hlt := q1.lt; replace q1 := q1.of_eq (hbn.block _ (by omega))) | replace q1 := q1.below (hbn.mono hle)); (try first | (have hlt := r2.lt; replace r2 := r2.of_eq (hbn.block _ (by omega))) | replace r2 := r2.below (hbn.mono hle)); (try first | (have hlt := r3.lt; replace r3 := r3.of_eq (hbn.block _ (by omega))) | replace r3 := r3.below (hbn.mono hle)); (try first | (have hlt := rs1.lt; replace rs1 := rs1.of_eq (hbn.block _ (by omega))) | replace rs1 := rs1.below (hbn.mono hle)); have r3 := ht; clear ht; simp only [Act.put, List.setIfInBounds_toArray, List.set_cons_zero, List.set_cons_succ]) | (have _ := q1; refine wpList_allocBk (t := 30) rfl _ (run_alloc_R _ _ rfl) ?_; intro b_r2 wn hle hge ht hbn hzn; have hsz := B.size; replace B := B.trans (hbn.mono (by omega)); have hln := Nat.lt_of_lt_of_eq (Nat.lt_succ_self _) hzn.symm; clear hzn; (try first | (have hlt := q1.lt; replace q1 := q1.of_eq (hbn.block _ (by omega))) | replace q1 := q1.below (hbn.mono hle)); (try first | (have hlt := r2.lt; replace r2 := r2.of_eq (hbn.block _ (by omega))) | replace r2 := r2.below (hbn.mono hle)); (try first | (have hlt := r3.lt; replace r3 := r3.of_eq (hbn.block _ (by omega))) | replace r3 := r3.below (hbn.mono hle)); have r2 := ht; clear ht; simp only [Act.put, List.setIfInBounds_toArray, List.set_cons_zero, List.set_cons_succ]) | (refine wpList_boxB (t := 26) rfl _ rfl _ rfl ?_; intro b_q1 wn hle hge ht hbn hzn; have hsz := B.size; replace B := B.trans (hbn.mono (by omega)); have hln := Nat.lt_of_lt_of_eq (Nat.lt_succ_self _) hzn.symm; clear hzn; (try first | (have hlt := q1.lt; replace q1 := q1.of_eq (hbn.block _ (by omega))) | replace q1 := q1.below (hbn.mono hle)); (try first | (have hlt := r2.lt; replace r2 := r2.of_eq (hbn.block _ (by omega))) | replace r2 := r2.below (hbn.mono hle)); (try first | (have hlt := r3.lt; replace r3 := r3.of_eq (hbn.block _ (by omega))) | replace r3 := r3.below (hbn.mono hle)); have q1 := ht; clear ht; simp only [Act.put, List.setIfInBounds_toArray, List.set_cons_zero, List.set_cons_succ]) | fail)
    refine bodyPost_ret (results_B (t := 30) rfl _ _ (b_r2) rfl r2 Try.isAgg30 (by kernel_rfl)) rfl ?_
    exact ⟨_, rfl, by rw [E.out]; exact rs1, B⟩
  · have hi := ofI_lt q (n := r.length) (by omega)
    obtain ⟨m, hm⟩ : ∃ m : Nat, q.at_ % 65536 = (m : Int) := ⟨(q.at_ % 65536).toNat, by omega⟩
    have hm2 : m < 65536 := by omega
    have hmi : m % r.length = ofI q r.length := by unfold ofI; rw [hm]; rfl
    have b4 := bits_and65535 q.at_
    rw [hm] at b4
    have b7 := bits_and7 q.how
    have HI := Lib.hid hmi
    clear hm hmi
    go_enter Try.func15, Try.ntmps15
    go_upto_region 6 with (first | (at_builtin; refine wpList_appendT rfl _ _ rfl _ _ rfl rfl od (rs1) (by simp only [List.length_nil]; omega) (by omega) ?_; intro v_od wn ht hbn; have hsz := B.size; have hzn := hbn.size; replace B := B.trans (hbn.mono (by omega)); clear od; (try replace q1 := q1.of_eq (hbn.block _ (by omega))); (try replace r2 := r2.of_eq (hbn.block _ (by omega))); (try replace r3 := r3.of_eq (hbn.block _ (by omega))); (try replace rs1 := rs1.of_eq (hbn.block _ (by omega))); have od := ht; clear ht; simp only [Act.put, List.setIfInBounds_toArray, List.set_cons_zero, List.set_cons_succ]) | (refine wpList_bsET rfl rfl ?_; intro b_od wn hle hge ht hbn hzn; have hsz := B.size; replace B := B.trans (hbn.mono (by omega)); have od := ht; clear ht; (try first | (have hlt := q1.lt; replace q1 := q1.of_eq (hbn.block _ (by omega))) | replace q1 := q1.below (hbn.mono hle)); (try first | (have hlt := r2.lt; replace r2 := r2.of_eq (hbn.block _ (by omega))) | replace r2 := r2.below (hbn.mono hle)); (try first | (have hlt := r3.lt; replace r3 := r3.of_eq (hbn.block _ (by omega))) | replace r3 := r3.below (hbn.mono hle)); (try first | (have hlt := rs1.lt; replace rs1 := rs1.of_eq (hbn.block _ (by omega))) | replace rs1 := rs1.below (hbn.mono hle)); simp only [Act.put, List.setIfInBounds_toArray, List.set_cons_zero, List.set_cons_succ]) | (refine wpList_loadAny (t := 3) rfl _ rfl _ _ _ rfl (run_load_int (q1.cell 1 rfl)) (by rfl) ?_; simp only [Act.put, List.setIfInBounds_toArray, List.set_cons_zero, List.set_cons_succ]) | (refine wpList_loadAny (t := 28) rfl _ rfl _ _ _ rfl (run_load_sl r3.cell0) (by rfl) ?_; simp only [Act.put, List.setIfInBounds_toArray, List.set_cons_zero, List.set_cons_succ]) | (refine wpList_loadAny (t := 22) rfl _ rfl _ _ _ rfl (run_load_sli (q1.cell 0 rfl)) (by rfl) ?_; simp only [Act.put, List.setIfInBounds_toArray, List.set_cons_zero, List.set_cons_succ]) | (go_at_call 18; refine (MD.out _ B).mono ?_; rintro e wn ⟨a1, c1, rfl, rs1, hbn⟩; have hsz := B.size; have hzn := hbn.size; replace B := B.trans (hbn.mono B.size); (try first | replace q1 := q1.of_eq (hbn.block _ q1.lt) | replace q1 := q1.below hbn); (try first | replace r2 := r2.of_eq (hbn.block _ r2.lt) | replace r2 := r2.below hbn); (try first | replace r3 := r3.of_eq (hbn.block _ r3.lt) | replace r3 := r3.below hbn)) | (refine wpList_storeB (t := 30) rfl _ _ rfl _ rfl _ rfl r3 (by kernel_rfl) rfl (by simp [Value.oneCell']) ?_; have r3o := r3; clear r3; intro wn ht hcn hzn; (try replace rs1 := rs1.chg r3o (by simp) hcn); have hsz := B.size; replace hzn := Nat.le_of_eq hzn.symm; replace B := Chg.below B hcn (by omega) B.size; (try replace q1 := q1.of_eq (hcn.block _ q1.lt (by omega))); (try replace r2 := r2.of_eq (hcn.block _ r2.lt (by omega))); have r3 := ht; clear ht; simp only [Act.put, List.setIfInBounds_toArray, List.set_cons_zero, List.set_cons_succ]) | (have _ := rs1; refine wpList_allocBk (t := 30) rfl _ (run_alloc_R _ _ rfl) ?_; intro b_r3 wn hle hge ht hbn hzn; have hsz := B.size; replace B := B.trans (hbn.mono (by omega)); have hln := Nat.lt_of_lt_of_eq (Nat.lt_succ_self _) hzn.symm; clear hzn; (try first | (have hlt := q1.lt; replace q1 := q1.of_eq (hbn.block _ (by omega))) | replace q1 := q1.below (hbn.mono hle)); (try first | (have hlt := r2.lt; replace r2 := r2.of_eq (hbn.block _ (by omega))) | replace r2 := r2.below (hbn.mono hle)); (try first | (have hlt := r3.lt; replace r3 := r3.of_eq (hbn.block _ (by omega))) | replace r3 := r3.below (hbn.mono hle)); (try first | (have hlt := rs1.lt; replace rs1 := rs1.of_eq (hbn.block _ (by omega))) | replace rs1 := rs1.below (hbn.mono hle)); have r3 := ht; clear ht; simp only [Act.put, List.setIfInBounds_toArray, List.set_cons_zero, List.set_cons_succ]) | (have _ := q1; refine wpList_allocBk (t := 30) rfl _ (run_alloc_R _ _ rfl) ?_; intro b_r2 wn hle hge ht hbn hzn; have hsz := B.size; replace B := B.trans (hbn.mono (by omega)); have hln := Nat.lt_of_lt_of_eq (Nat.lt_succ_self _) hzn.symm; clear hzn; (try first | (have hlt := q1.lt; replace q1 := q1.of_eq (hbn.block _ (by omega))) | replace q1 := q1.below (hbn.mono hle)); (try first | (have hlt := r2.lt; replace r2 := r2.of_eq (hbn.block _ (by omega))) | replace r2 := r2.below (hbn.mono hle)); (try first | (have hlt := r3.lt; replace r3 := r3.of_eq (hbn.block _ (by omega))) | replace r3 := r3.below (hbn.mono hle)); have r2 := ht; clear ht; simp only [Act.put, List.setIfInBounds_toArray, List.set_cons_zero, List.set_cons_succ]) | (refine wpList_boxB (t := 26) rfl _ rfl _ rfl ?_; intro b_q1 wn hle hge ht hbn hzn; have hsz := B.size; replace B := B.trans (hbn.mono (by omega)); have hln := Nat.lt_of_lt_of_eq (Nat.lt_succ_self _) hzn.symm; clear hzn; (try first | (have hlt := q1.lt; replace q1 := q1.of_eq (hbn.block _ (by omega))) | replace q1 := q1.below (hbn.mono hle)); (try first | (have hlt := r2.lt; replace r2 := r2.of_eq (hbn.block _ (by omega))) | replace r2 := r2.below (hbn.mono hle)); (try first | (have hlt := r3.lt; replace r3 := r3.of_eq (hbn.block _ (by omega))) | replace r3 := r3.below (hbn.mono hle)); have q1 := ht; clear ht; simp only [Act.put, List.setIfInBounds_toArray, List.set_cons_zero, List.set_cons_succ]) | fail)
    have hx : (m : Int) % (r.length : Int) = ((ofI q r.length : Nat) : Int) := by rw [← HI.out]; rfl
    rw [hx]
    clear hx
    obtain ⟨i, hie⟩ : ∃ i, ofI q r.length = i := ⟨_, rfl⟩
    rw [hie] at hi ⊢
    have HIE := Lib.hid hie
    clear hie
    rw [List.nil_append] at od
    obtain ⟨g, cg, rfl, hBg, rc, hf⟩ := od.row (by omega)
    have HF := Lib.hid hf
    clear hf
    have hcg : r.length ≤ cg := by
      obtain ⟨_, _, e, hh⟩ := od.len
      injection e with _ _ e3
      omega
    have hod := b_od
    have q8 : 0 ≤ q.how % 8 ∧ q.how % 8 < 8 := by omega
    have RES : Hid (∀ (ks : List TA) (wx : World), ks.length = r.length → RCells g 0 ks wx → RS (.slice (some ⟨g, 0, none⟩) r.length cg) ks wx) := Lib.hid fun ks wx e rcx => .inr ⟨g, 0, cg, by rw [e], by omega, fun _ => rcx⟩
    by_cases h1 : q.how % 8 = 1
    · have E := Lib.hid (show ofR q T r = r.set i (turnA q T (aT r i)) by unfold ofR; rw [if_neg h0, if_neg (by omega), HIE.out])
      have E2 := Lib.hid (show turnA q T (aT r i) = ⟨q.px, q.py, (aT r i).t⟩ by unfold turnA; rw [if_pos h1])
      rw [h1] at b7
      go_wp2_with (first | (refine wpList_storeB (t := 30) rfl _ _ rfl _ rfl _ rfl r2 (by kernel_rfl) rfl (by simp [Value.oneCell']) ?_; have r2o := r2; clear r2; intro wn ht hcn hzn; (try replace rs1 := rs1.chg r2o (by simp) hcn); have hsz := B.size; replace hzn := Nat.le_of_eq hzn.symm; replace B := Chg.below B hcn (by omega) B.size; (try replace q1 := q1.of_eq (hcn.block _ q1.lt (by omega))); (try replace r3 := r3.of_eq (hcn.block _ r3.lt (by omega))); (try replace rc := rc.of_eq (hcn.block _ rc.lt (by omega))); have r2 := ht; clear ht; simp only [Act.put, List.setIfInBounds_toArray, List.set_cons_zero, List.set_cons_succ]) | (refine wpList_storePos rfl _ _ rfl _ rfl _ _ rfl rc HF.out i hi (by first | with_reducible rfl | omega) ?_; clear rc; intro wn ht hcn hzn; have hsz := B.size; replace hzn := Nat.le_of_eq hzn.symm; replace B := Chg.below B hcn (by omega) B.size; (try replace q1 := q1.of_eq (hcn.block _ q1.lt (by omega))); (try replace r2 := r2.of_eq (hcn.block _ r2.lt (by omega))); (try replace r3 := r3.of_eq (hcn.block _ r3.lt (by omega))); have rc := ht; clear ht; simp only [Act.put, List.setIfInBounds_toArray, List.set_cons_zero, List.set_cons_succ]) | (refine wpList_loadAny (t := 24) rfl _ rfl _ _ _ rfl (run_load_ps (q1.cell 2 rfl) (q1.cell 3 rfl)) (by rfl) ?_; simp only [Act.put, List.setIfInBounds_toArray, List.set_cons_zero, List.set_cons_succ]) | (refine wpList_loadAny (t := 3) rfl _ rfl _ _ _ rfl (run_load_int (q1.cell 5 rfl)) (by rfl) ?_; simp only [Act.put, List.setIfInBounds_toArray, List.set_cons_zero, List.set_cons_succ]) | fail)
      refine bodyPost_ret (results_B (t := 30) rfl _ _ (b_r2) rfl r2 Try.isAgg30 (by kernel_rfl)) rfl ?_
      exact ⟨_, rfl, by rw [E.out, E2.out]; exact RES.out _ _ (List.length_set ..) rc, B⟩
    by_cases h2 : q.how % 8 = 2
    · have E := Lib.hid (show ofR q T r = r.set i (turnA q T (aT r i)) by unfold ofR; rw [if_neg h0, if_neg (by omega), HIE.out])
      have E2 := Lib.hid (show turnA q T (aT r i) = ⟨(aT r i).x, (aT r i).y, madeT T⟩ by unfold turnA; rw [if_neg (by omega), if_pos h2])
      rw [h2] at b7
      go_wp2_with (first | (refine wpList_storeB (t := 30) rfl _ _ rfl _ rfl _ rfl r2 (by kernel_rfl) rfl (by simp [Value.oneCell']) ?_; have r2o := r2; clear r2; intro wn ht hcn hzn; (try replace rs1 := rs1.chg r2o (by simp) hcn); have hsz := B.size; replace hzn := Nat.le_of_eq hzn.symm; replace B := Chg.below B hcn (by omega) B.size; (try replace q1 := q1.of_eq (hcn.block _ q1.lt (by omega))); (try replace r3 := r3.of_eq (hcn.block _ r3.lt (by omega))); (try replace rc := rc.of_eq (hcn.block _ rc.lt (by omega))); have r2 := ht; clear ht; simp only [Act.put, List.setIfInBounds_toArray, List.set_cons_zero, List.set_cons_succ]) | (refine wpList_storeTl rfl _ _ rfl _ rfl _ rfl rc HF.out i hi (by first | with_reducible rfl | omega) ?_; clear rc; intro wn ht hcn hzn; have hsz := B.size; replace hzn := Nat.le_of_eq hzn.symm; replace B := Chg.below B hcn (by omega) B.size; (try replace q1 := q1.of_eq (hcn.block _ q1.lt (by omega))); (try replace r2 := r2.of_eq (hcn.block _ r2.lt (by omega))); (try replace r3 := r3.of_eq (hcn.block _ r3.lt (by omega))); have rc := ht; clear ht; simp only [Act.put, List.setIfInBounds_toArray, List.set_cons_zero, List.set_cons_succ]) | (go_at_call 25; refine (R_Made7 _ T _ (HT.out.below B) hTn).mono ?_; rintro e wn ⟨rfl, hbn⟩; have hsz := B.size; have hzn := hbn.size; replace B := B.trans (hbn.mono B.size); replace od := od.below hbn; have HF := Lib.hid (od.frz (by omega)); (try first | replace q1 := q1.of_eq (hbn.block _ q1.lt) | replace q1 := q1.below hbn); (try first | replace r2 := r2.of_eq (hbn.block _ r2.lt) | replace r2 := r2.below hbn); (try first | replace r3 := r3.of_eq (hbn.block _ r3.lt) | replace r3 := r3.below hbn); (try first | replace rc := rc.of_eq (hbn.block _ rc.lt) | replace rc := rc.below hbn)) | (refine wpList_loadAny (t := 22) rfl _ rfl _ _ _ rfl (run_load_sli (q1.cell 4 rfl)) (by rfl) ?_; simp only [Act.put, List.setIfInBounds_toArray, List.set_cons_zero, List.set_cons_succ]) | (refine wpList_loadAny (t := 3) rfl _ rfl _ _ _ rfl (run_load_int (q1.cell 5 rfl)) (by rfl) ?_; simp only [Act.put, List.setIfInBounds_toArray, List.set_cons_zero, List.set_cons_succ]) | fail)
      refine bodyPost_ret (results_B (t := 30) rfl _ _ (b_r2) rfl r2 Try.isAgg30 (by kernel_rfl)) rfl ?_
      exact ⟨_, rfl, by rw [E.out, E2.out]; exact RES.out _ _ (List.length_set ..) rc, B⟩
    by_cases h3 : q.how % 8 = 3
    · have E := Lib.hid (show ofR q T r = r.set i (turnA q T (aT r i)) by unfold ofR; rw [if_neg h0, if_neg (by omega), HIE.out])
      have E2 := Lib.hid (show turnA q T (aT r i) = ⟨(aT r i).x, (aT r i).y, ninT (aT r i).t⟩ by unfold turnA; rw [if_neg (by omega), if_neg (by omega), if_pos h3])
      rw [h3] at b7
      go_wp2_with (first | (refine wpList_storeB (t := 30) rfl _ _ rfl _ rfl _ rfl r2 (by kernel_rfl) rfl (by simp [Value.oneCell']) ?_; have r2o := r2; clear r2; intro wn ht hcn hzn; (try replace rs1 := rs1.chg r2o (by simp) hcn); have hsz := B.size; replace hzn := Nat.le_of_eq hzn.symm; replace B := Chg.below B hcn (by omega) B.size; (try replace q1 := q1.of_eq (hcn.block _ q1.lt (by omega))); (try replace r3 := r3.of_eq (hcn.block _ r3.lt (by omega))); (try replace rc := rc.of_eq (hcn.block _ rc.lt (by omega))); have r2 := ht; clear ht; simp only [Act.put, List.setIfInBounds_toArray, List.set_cons_zero, List.set_cons_succ]) | (refine wpList_storeNin rfl _ _ rfl _ rfl rfl rc HF.out i hi (by first | with_reducible rfl | omega) ?_; clear rc; intro wn ht hcn hzn; have hsz := B.size; replace hzn := Nat.le_of_eq hzn.symm; replace B := Chg.below B hcn (by omega) B.size; (try replace q1 := q1.of_eq (hcn.block _ q1.lt (by omega))); (try replace r2 := r2.of_eq (hcn.block _ r2.lt (by omega))); (try replace r3 := r3.of_eq (hcn.block _ r3.lt (by omega))); have rc := ht; clear ht; simp only [Act.put, List.setIfInBounds_toArray, List.set_cons_zero, List.set_cons_succ]) | (refine wpList_loadAny (t := 3) rfl _ rfl _ _ _ rfl (run_load_int (q1.cell 5 rfl)) (by rfl) ?_; simp only [Act.put, List.setIfInBounds_toArray, List.set_cons_zero, List.set_cons_succ]) | fail)
      refine bodyPost_ret (results_B (t := 30) rfl _ _ (b_r2) rfl r2 Try.isAgg30 (by kernel_rfl)) rfl ?_
      exact ⟨_, rfl, by rw [E.out, E2.out]; exact RES.out _ _ (List.length_set ..) rc, B⟩
    by_cases h4 : q.how % 8 = 4
    · have E := Lib.hid (show ofR q T r = r ++ [aT r i] by unfold ofR; rw [if_neg h0, if_pos h4, HIE.out])
      rw [h4] at b7
      go_wp2_with (first | (refine wpList_storeB (t := 30) rfl _ _ rfl _ rfl _ rfl r2 (by kernel_rfl) rfl (by simp [Value.oneCell']) ?_; clear r2; intro wn ht hcn hzn; have hsz := B.size; replace hzn := Nat.le_of_eq hzn.symm; replace B := Chg.below B hcn (by omega) B.size; (try replace q1 := q1.of_eq (hcn.block _ q1.lt (by omega))); (try replace r3 := r3.of_eq (hcn.block _ r3.lt (by omega))); replace od := od.chg hcn (by omega); have r2 := ht; clear ht; simp only [Act.put, List.setIfInBounds_toArray, List.set_cons_zero, List.set_cons_succ]) | (at_builtin; refine wpList_appendT rfl _ _ rfl _ _ rfl rfl od ((RS.one s1)) (by simp only [List.length_cons, List.length_nil]; omega) (by omega) ?_; intro v_od wn ht hbn; have hsz := B.size; have hzn := hbn.size; replace B := B.trans (hbn.mono (by omega)); clear od; (try replace q1 := q1.of_eq (hbn.block _ (by omega))); (try replace r2 := r2.of_eq (hbn.block _ (by omega))); (try replace r3 := r3.of_eq (hbn.block _ (by omega))); have od := ht; clear ht; obtain ⟨a_od, c_od, hv, hco⟩ := od.len; (try simp only [List.length_append, List.length_cons, List.length_nil, Nat.zero_add] at hv hco); subst hv; simp only [Act.put, List.setIfInBounds_toArray, List.set_cons_zero, List.set_cons_succ]) | (refine wpList_bs1T rfl _ rfl (aT r i) (by rfl) ?_; intro b_s1 wn hle hge ht hbn hzn; have hsz := B.size; replace B := B.trans (hbn.mono (by omega)); have hln := Nat.lt_of_lt_of_eq (Nat.lt_succ_self _) hzn.symm; clear hzn; (try first | (have hlt := q1.lt; replace q1 := q1.of_eq (hbn.block _ (by omega))) | replace q1 := q1.below (hbn.mono hle)); (try first | (have hlt := r2.lt; replace r2 := r2.of_eq (hbn.block _ (by omega))) | replace r2 := r2.below (hbn.mono hle)); (try first | (have hlt := r3.lt; replace r3 := r3.of_eq (hbn.block _ (by omega))) | replace r3 := r3.below (hbn.mono hle)); (try first | (have hlt := od.lt; replace od := od.of_eq (hbn.block _ (by omega))) | replace od := od.below (hbn.mono hle)); (try first | (have hlt := rc.lt; replace rc := rc.of_eq (hbn.block _ (by omega))) | replace rc := rc.below (hbn.mono hle)); have s1 := ht; clear ht; simp only [Act.put, List.setIfInBounds_toArray, List.set_cons_zero, List.set_cons_succ]) | (refine wpList_loadAny (t := 79) rfl _ rfl _ _ _ rfl (rc_ta rc hi rfl) (by first | with_reducible rfl | omega) ?_; simp only [Act.put, List.setIfInBounds_toArray, List.set_cons_zero, List.set_cons_succ]) | (refine wpList_loadAny (t := 3) rfl _ rfl _ _ _ rfl (run_load_int (q1.cell 5 rfl)) (by rfl) ?_; simp only [Act.put, List.setIfInBounds_toArray, List.set_cons_zero, List.set_cons_succ]) | fail)
      refine bodyPost_ret (results_B (t := 30) rfl _ _ (b_r2) rfl r2 Try.isAgg30 (by kernel_rfl)) rfl ?_
      exact ⟨_, rfl, by rw [E.out]; exact od.rs, B⟩
    · have E := Lib.hid (show ofR q T r = r by
        have hsame : r.set i (aT r i) = r := by
          apply List.ext_getElem?
          intro k
          rw [List.getElem?_set]
          by_cases hk : i = k
          · subst hk; rw [if_pos rfl, if_pos hi, aT_at hi]
          · rw [if_neg hk]
        unfold ofR turnA
        rw [if_neg h0, if_neg h4, if_neg h1, if_neg h2, if_neg h3, HIE.out, hsame])
      have d1 : (q.how % 8 == 1) = false := by simpa using h1
      have d2 : (q.how % 8 == 2) = false := by simpa using h2
      have d3 : (q.how % 8 == 3) = false := by simpa using h3
      have d4 : (q.how % 8 == 4) = false := by simpa using h4
      go_wp2_with (first | (refine wpList_storeB (t := 30) rfl _ _ rfl _ rfl _ rfl r2 (by kernel_rfl) rfl (by simp [Value.oneCell']) ?_; have r2o := r2; clear r2; intro wn ht hcn hzn; (try replace rs1 := rs1.chg r2o (by simp) hcn); have hsz := B.size; replace hzn := Nat.le_of_eq hzn.symm; replace B := Chg.below B hcn (by omega) B.size; (try replace q1 := q1.of_eq (hcn.block _ q1.lt (by omega))); (try replace r3 := r3.of_eq (hcn.block _ r3.lt (by omega))); (try replace rc := rc.of_eq (hcn.block _ rc.lt (by omega))); have r2 := ht; clear ht; simp only [Act.put, List.setIfInBounds_toArray, List.set_cons_zero, List.set_cons_succ]) | (refine wpList_loadAny (t := 3) rfl _ rfl _ _ _ rfl (run_load_int (q1.cell 5 rfl)) (by rfl) ?_; simp only [Act.put, List.setIfInBounds_toArray, List.set_cons_zero, List.set_cons_succ]) | fail)
      refine bodyPost_ret (results_B (t := 30) rfl _ _ (b_r2) rfl r2 Try.isAgg30 (by kernel_rfl)) rfl ?_
      exact ⟨_, rfl, by rw [E.out]; exact RES.out _ _ rfl rc, B⟩
end Go.Proofs.Ytppccnjckiedlaa
/- Contracts of `of` of the law package whole. -/
namespace Go.Proofs.Ytppccnjckiedlaa
open Go.RowKit Go.Shelf Pl
set_option linter.unusedVariables false
set_option linter.unusedSimpArgs false
set_option maxRecDepth 20000
theorem L_of (q : RawQ) (vL vT : Value) (L T : List Int) (w : World) (hL : RSE inE vL L w) (hLn : L.length ≤ 17592186044416) (hT : RSE inE vT T w) (hTn : T.length ≤ 17592186044416) :
    Calls Try.prog 15 #[.agg #[vL, .int .i64 q.at_, .int .i64 q.px, .int .i64 q.py, vT, .int .i64 q.how]] w fun e w' => ∃ v', e = .returned (.agg #[v']) ∧ RS v' (ofL q L T) w' ∧ Below w.heap.size w w' :=
  L_of0 q vL vT T (madeL L) w (madeL_len L) hT hTn fun w' hb => R_Made8O vL L w' (hL.below hb) hLn
end Go.Proofs.Ytppccnjckiedlaa
/- How this seat's arguments are opened: slices of integers, rectangles, generated rasters. -/
namespace Go.Proofs.Ytppccnjckiedlaa
open Go.ChangeShapes Go.WideShapes Go.ChangeAt Go.RowKit Pl
set_option linter.unusedVariables false
set_option linter.unusedSimpArgs false
set_option maxRecDepth 20000

theorem reach_44 : reachBytes ≤ 140737488351232 := by decide
section
variable {H : Type} {enc : TypeId × Value → H} {w : World} {base : Nat} {spare : Nat → Bool} {held : Bool}
theorem addr_add0 (b off n : Nat) : (Addr.add ⟨b, off, none⟩ n) = ⟨b, off + n, none⟩ := by
  unfold Addr.add; split
  · rename_i h; subst h; rfl
  · rfl
theorem trod_ints {fuel : Nat} {cs : List Value} {x : DataW H × List MemPlace} (h : DataW.trod enc Try.prog w base spare held fuel 22 cs = some x) (hw : ∀ n ∈ x.1.weights Try.prog 22, n ≤ reachBytes) :
    ∃ v L, cs = [v] ∧ RSE inE v L w ∧ L.length ≤ 17592186044416 := by
  have hC : Try.prog.cellsOf 3 = 1 := by kernel_rfl
  have hB : Try.prog.bytesOf 3 = 8 := by kernel_rfl
  rcases open_ints Try.underlying22 Try.underlying3 hC h with ⟨rfl, rfl⟩ | ⟨a, len, cap, zs, rfl, _, hl, hcap, hz, rfl, hcell, _⟩
  · exact ⟨_, [], rfl, RSE.nil w, by simp⟩
  · have hzl : len ≤ zs.length := by rw [hz]; split <;> omega
    have htl : (zs.take len).length = len := by rw [List.length_take, Nat.min_eq_left hzl]
    refine ⟨_, zs.take len, rfl, ?_, ?_⟩
    · by_cases h0 : len = 0
      · subst h0; exact .inr (.inr ⟨a, cap, rfl, by simp⟩)
      · obtain ⟨b, off, spot⟩ := a
        have c0 := hcell 0 (by omega)
        have hspot : spot = none := by simpa [Addr.add] using World.cell?_spot c0
        subst hspot
        simp only [addr_add0] at hcell c0
        refine .inr (.inl ⟨b, off, cap, by rw [htl], by rw [htl]; exact hl, fun _ => ⟨World.block_lt_of_cell? w _ c0, fun i x hi j hj => ?_⟩⟩)
        obtain rfl : j = 0 := by omega
        have hil : i < len := by rw [← htl]; exact (List.getElem?_eq_some_iff.1 hi).1
        rw [List.getElem?_take_of_lt hil] at hi
        rw [Nat.mul_one, Nat.add_zero, hcell i (by omega), List.getD_eq_getElem?_getD, hi]
        rfl
    · rw [htl]
      have := hw ((len + (zs.length - len)) * 8) (by simp [DataW.weights, Try.underlying22, hB, lits, Nat.min_eq_left hzl])
      have := reach_44
      omega
theorem open_ints1 {r : Reach} {b0 : Nat} {v : Value} {d : DataW H} {p : List MemPlace} (hv : Value.okWide Try.prog w r b0 22 v)
    (h : DataW.Trod enc Try.prog w base spare held 22 v d p) (hw : ∀ n ∈ d.weights Try.prog 22, n ≤ reachBytes) : ∃ L, RSE inE v L w ∧ L.length ≤ 17592186044416 := by
  obtain ⟨a0, len, cap, rfl⟩ := okWide_slice Try.underlying22 hv
  obtain ⟨fuel, hf⟩ := h
  obtain ⟨v', L, e, h1, h2⟩ := trod_ints hf hw
  simp [Value.cells] at e
  subst e
  exact ⟨L, h1, h2⟩
theorem trod_int1 {fuel : Nat} {cs : List Value} {x : DataW H × List MemPlace} (h : DataW.trod enc Try.prog w base spare held fuel 3 cs = some x) : ∃ n : Int, cs = [.int .i64 n] ∧ (Lit.int .i64 n).wf = true := by
  obtain ⟨n, e, _, wf⟩ := DataW.trod_int Try.underlying3 h
  exact ⟨n, e, wf⟩
theorem trod_tpos {fuel : Nat} {c0 c1 : Value} {x : DataW H × List MemPlace} (h : DataW.trod enc Try.prog w base spare held fuel 24 [c0, c1] = some x) :
    ∃ a b : Int, c0 = .int .i64 a ∧ c1 = .int .i64 b ∧ (Lit.int .i64 a).wf = true ∧ (Lit.int .i64 b).wf = true := by
  have hC : Try.prog.cellsOf 3 = 1 := by kernel_rfl
  obtain ⟨y0, y1, n, _, _, h0, h1⟩ := trod_struct2 Try.underlying24 h
  simp only [hC, List.drop_zero, List.drop_succ_cons, List.take_succ_cons, List.take_zero] at h0 h1
  obtain ⟨a, ea, wa⟩ := trod_int1 h0
  obtain ⟨b, eb, wb⟩ := trod_int1 h1
  simp at ea eb
  exact ⟨a, b, ea, eb, wa, wb⟩
theorem array6 {α : Type} {cs : Array α} (h : cs.size = 6) : ∃ c0 c1 c2 c3 c4 c5, cs = #[c0, c1, c2, c3, c4, c5] := by
  obtain ⟨l⟩ := cs
  match l, h with
  | [c0, c1, c2, c3, c4, c5], _ => exact ⟨c0, c1, c2, c3, c4, c5, rfl⟩
theorem open_raw {r : Reach} {b0 : Nat} {v : Value} {d : DataW H} {p : List MemPlace} (hv : Value.okWide Try.prog w r b0 26 v)
    (h : DataW.Trod enc Try.prog w base spare held 26 v d p) (hw : ∀ n ∈ d.weights Try.prog 26, n ≤ reachBytes) :
    ∃ (q : RawQ) (vL vT : Value) (L T : List Int), v = .agg #[vL, .int .i64 q.at_, .int .i64 q.px, .int .i64 q.py, vT, .int .i64 q.how] ∧ RSE inE vL L w ∧ L.length ≤ 17592186044416 ∧ RSE inE vT T w ∧ T.length ≤ 17592186044416 := by
  obtain ⟨cs, rfl, hsz⟩ := okWide_struct Try.underlying26 hv
  have hC : Try.prog.cellsOf 3 = 1 := by kernel_rfl
  have hC2 : Try.prog.cellsOf 24 = 2 := by kernel_rfl
  have hCs : Try.prog.cellsOf 22 = 1 := by kernel_rfl
  have hCR : Try.prog.cellsOf 26 = 6 := by kernel_rfl
  obtain ⟨c0, c1, c2, c3, c4, c5, rfl⟩ := array6 (hsz.trans hCR)
  obtain ⟨fuel, hf⟩ := h
  obtain ⟨xs, n, _, hx, hl, hlen, hfs⟩ := DataW.trod_struct Try.underlying26 hf
  match xs, hlen with
  | [y0, y1, y2, y3, y4], _ =>
    have h0 := hfs 0 _ rfl
    have h1 := hfs 1 _ rfl
    have h2 := hfs 2 _ rfl
    have h3 := hfs 3 _ rfl
    have h4 := hfs 4 _ rfl
    simp only [Value.cells, hC, hC2, hCs, List.drop_zero, List.drop_succ_cons, List.take_succ_cons, List.take_zero, List.getElem_toArray, List.getElem_cons_zero, List.getElem_cons_succ] at h0 h1 h2 h3 h4
    have hd : d = .agg [y0.1, y1.1, y2.1, y3.1, y4.1] := (Prod.mk.inj hx).1
    have hww : ∀ n, n ∈ y0.1.weights Try.prog 22 ∨ n ∈ y3.1.weights Try.prog 22 → n ≤ reachBytes := fun n hn => by
      refine hw n ?_
      rw [hd]
      simp only [DataW.weights, Try.underlying26]
      simp only [List.map_cons, List.map_nil, DataW.weightsEach, List.mem_append]
      rcases hn with hn | hn
      · exact .inl hn
      · exact .inr (.inr (.inr (.inl hn)))
    obtain ⟨vL, L, eL, rL, lL⟩ := trod_ints h0 fun n hn => hww n (.inl hn)
    obtain ⟨at_, ea, _⟩ := trod_int1 h1
    obtain ⟨px, py, e2, e3, _, _⟩ := trod_tpos h2
    obtain ⟨vT, T, eT, rT, lT⟩ := trod_ints h3 fun n hn => hww n (.inr hn)
    obtain ⟨how, eh, _⟩ := trod_int1 h4
    simp at eL ea eT eh
    subst eL; subst ea; subst e2; subst e3; subst eT; subst eh
    exact ⟨⟨at_, px, py, how⟩, _, _, L, T, rfl, rL, lL, rT, lT⟩
theorem open_rect {r : Reach} {b0 : Nat} {v : Value} {d : DataW H} {p : List MemPlace} (hv : Value.okWide Try.prog w r b0 64 v)
    (h : DataW.Trod enc Try.prog w base spare held 64 v d p) : ∃ c : Rc, v = Rc.v c ∧ ((Lit.int .i64 c.x0).wf = true ∧ (Lit.int .i64 c.y0).wf = true ∧ (Lit.int .i64 c.x1).wf = true ∧ (Lit.int .i64 c.y1).wf = true) := by
  obtain ⟨cs, rfl, hsz⟩ := okWide_struct Try.underlying64 hv
  have hC : Try.prog.cellsOf 3 = 1 := by kernel_rfl
  have hC4 : Try.prog.cellsOf 64 = 4 := by kernel_rfl
  obtain ⟨c0, c1, c2, c3, rfl⟩ := Joins.array4 (hsz.trans hC4)
  obtain ⟨fuel, hf⟩ := h
  obtain ⟨y0, y1, y2, y3, n, hx, _, h0, h1, h2, h3⟩ := Joins.trod_struct4 Try.underlying64 hf
  simp only [Value.cells, hC, List.drop_zero, List.drop_succ_cons, List.take_succ_cons, List.take_zero] at h0 h1 h2 h3
  obtain ⟨a, ea, wa⟩ := trod_int1 h0
  obtain ⟨b, eb, wb⟩ := trod_int1 h1
  obtain ⟨c, ec, wc⟩ := trod_int1 h2
  obtain ⟨e, ee, we⟩ := trod_int1 h3
  simp at ea eb ec ee
  subst ea; subst eb; subst ec; subst ee
  exact ⟨⟨a, b, c, e⟩, rfl, wa, wb, wc, we⟩
end
end Go.Proofs.Ytppccnjckiedlaa
/- Contract of gouacheref08.Full. -/
namespace Go.Proofs.Ytppccnjckiedlaa
open Go.RowKit Go.Shelf Pl
set_option linter.unusedVariables false
set_option linter.unusedSimpArgs false
set_option maxRecDepth 20000

def fullA (i : Nat) : TA := ⟨(i : Int) % 40, (i : Int) / 40, fillT ⟨(i : Int) % 256, 0, 0, 255⟩⟩
def fullL (n : Nat) : List TA := (List.range n).map fullA
theorem fullL_len (n : Nat) : (fullL n).length = n := by unfold fullL; rw [List.length_map, List.length_range]
theorem fullL_next (n : Nat) : fullL (n + 1) = fullL n ++ [fullA n] := by unfold fullL; rw [List.range_succ, List.map_append]; rfl
theorem owp_buildTA {o : Oper} {a : Act} {w : World} {Q : Exit → Act → World → Prop} {K : Act → World → Prop} (p q : Operand) (ho : o.op = .build 79 #[(0, p), (1, q)]) (x y : Int) (t : Nat → Px) (hp : a.eval p = Ps.v x y) (hq : a.eval q = Tile.v t)
    (h : K (a.put o.dst (.agg (taC ⟨x, y, t⟩))) w) : o.wp Try.prog a w K Q := by
  unfold Oper.wp
  rw [run_build_TA w o p q ho _ x y t hp hq]
  exact h
set_option maxHeartbeats 2000000 in
theorem R_Full (n : Nat) (hn : n ≤ 1100) (w : World) : Calls Try.prog 19 #[.int .i64 n] w fun e w' => ∃ v', e = .returned (.agg #[v']) ∧ RS v' (fullL n) w' ∧ Below w.heap.size w w' := by
  have B := Below.refl w.heap.size w
  go_enter Try.func19, Try.ntmps19
  go_wp2_with (first | (refine wpList_storeB (t := 30) rfl _ _ rfl _ rfl _ rfl r3 (by kernel_rfl) rfl (by simp [Value.oneCell']) ?_; clear r3; intro wn ht hcn hzn; have hsz := B.size; replace hzn := Nat.le_of_eq hzn.symm; replace B := Chg.below B hcn (by omega) B.size; (try replace r2 := r2.of_eq (hcn.block _ r2.lt (by omega))); (try replace od := od.of_eq (hcn.block _ od.lt (by omega))); have r3 := ht; clear ht; simp only [Act.put, List.setIfInBounds_toArray, List.set_cons_zero, List.set_cons_succ]) | (have _ := r2; refine wpList_allocBk (t := 30) rfl _ (run_alloc_R _ _ rfl) ?_; intro b_r3 wn hle hge ht hbn hzn; have hsz := B.size; replace B := B.trans (hbn.mono (by omega)); have hln := Nat.lt_of_lt_of_eq (Nat.lt_succ_self _) hzn.symm; clear hzn; (try first | (have hlt := r2.lt; replace r2 := r2.of_eq (hbn.block _ (by omega))) | replace r2 := r2.below (hbn.mono hle)); (try first | (have hlt := r3.lt; replace r3 := r3.of_eq (hbn.block _ (by omega))) | replace r3 := r3.below (hbn.mono hle)); (try first | (have hlt := od.lt; replace od := od.of_eq (hbn.block _ (by omega))) | replace od := od.below (hbn.mono hle)); have r3 := ht; clear ht; simp only [Act.put, List.setIfInBounds_toArray, List.set_cons_zero, List.set_cons_succ]) | (refine wpList_allocBk (t := 30) rfl _ (run_alloc_R _ _ rfl) ?_; intro b_r2 wn hle hge ht hbn hzn; have hsz := B.size; replace B := B.trans (hbn.mono (by omega)); have hln := Nat.lt_of_lt_of_eq (Nat.lt_succ_self _) hzn.symm; clear hzn; (try first | (have hlt := r2.lt; replace r2 := r2.of_eq (hbn.block _ (by omega))) | replace r2 := r2.below (hbn.mono hle)); (try first | (have hlt := r3.lt; replace r3 := r3.of_eq (hbn.block _ (by omega))) | replace r3 := r3.below (hbn.mono hle)); (try first | (have hlt := od.lt; replace od := od.of_eq (hbn.block _ (by omega))) | replace od := od.below (hbn.mono hle)); have r2 := ht; clear ht; simp only [Act.put, List.setIfInBounds_toArray, List.set_cons_zero, List.set_cons_succ]) | fail)
  have hb3 := r3.lt
  obtain ⟨wz, hwz⟩ : ∃ u : Nat, u = b_r3 + 1 := ⟨_, rfl⟩
  go_loopw [4] (fun i wr => ∃ (k : Nat) (a0 : Option Addr) (c0 : Nat), k ≤ n ∧ i = .int .i64 k ∧ Below w.heap.size w wr ∧ wz ≤ wr.heap.size ∧ AtB 30 wr b_r2 #[.slice none 0 0] ∧ AtB 30 wr b_r3 #[.slice a0 k c0] ∧ OwnT wz (.slice a0 k c0) (fullL k) wr) (fun i _ => ((n : Int) - intOf i).toNat)
  case atStart => exact ⟨0, none, 0, by omega, rfl, B, by omega, r2, r3, OwnT.nil _ _⟩
  case round =>
    clear B r2 r3
    obtain ⟨i, a0, c0, hi, rfl, B, hwzs, r2, r3, od⟩ := hrel
    by_cases hlt' : i < n
    · have d1 : decide ((i : Int) < (n : Int)) = true := decide_eq_true (by omega)
      go_wp2
      refine wp_region_X 10 13 #[true, true, true, true, true, true, true, true, true, true, false, false, false, false, false, false] (by kernel_rfl) (by kernel_rfl) ?_
      simp only [List.length_cons, List.length_nil, Nat.reduceAdd, Nat.reduceSub, List.take_succ_cons, List.take_zero]
      repeat (first | go_big_quiet_skip | (go_big_quiet_want; first | (refine quiet_loadAny (t := 28) rfl _ _ _ rfl (fun w hw => run_load_sl (ov_B r3 w hw).cell0) (by rfl) ?_; simp only [Act.put, List.setIfInBounds_toArray, List.set_cons_zero, List.set_cons_succ]; go_big_quiet_on) | (go_big_quiet_op; go_big_quiet_on)))
      refine wpQuiet_nil ?_
      intro wn hbn
      have hX := hbn
      have hsz := B.size
      have hzn := hbn.size
      replace B := B.trans (hbn.mono B.size)
      try first | replace r2 := r2.of_eq (hbn.block _ r2.lt) | replace r2 := r2.below hbn
      try first | replace r3 := r3.of_eq (hbn.block _ r3.lt) | replace r3 := r3.below hbn
      try first | replace od := od.of_eq (hbn.block _ od.lt) | replace od := od.below hbn
      refine anyX_next 10 rfl (by kernel_rfl) rfl (fun K hK => ?_)
      try simp only [List.getElem_toArray, List.getElem_cons_zero, List.getElem_cons_succ]
      go_simp
      go_at_call 62
      refine (R_Fill ⟨(i : Int) % 256, 0, 0, 255⟩ _).mono ?_
      rintro e wn ⟨rfl, hbn⟩
      have hsz := B.size
      have hzn := hbn.size
      have hsx := hX.size
      replace B := B.trans (hbn.mono B.size)
      replace hX := hX.trans (hbn.mono hX.size)
      try first | replace r2 := r2.of_eq (hbn.block _ r2.lt) | replace r2 := r2.below hbn
      try first | replace r3 := r3.of_eq (hbn.block _ r3.lt) | replace r3 := r3.below hbn
      try first | replace od := od.of_eq (hbn.block _ od.lt) | replace od := od.below hbn
      refine hK _ _ ⟨fun _ => ⟨_, ov_of hX⟩, ?_⟩
      clear hK K
      try simp only [List.getElem_toArray, List.getElem_cons_zero, List.getElem_cons_succ]
      simp only [Act.put, List.setIfInBounds_toArray, List.set_cons_zero, List.set_cons_succ]
      refine anyX_next 11 rfl (by kernel_rfl) rfl (fun K hK => ?_)
      try simp only [List.getElem_toArray, List.getElem_cons_zero, List.getElem_cons_succ]
      refine owp_buildTA _ _ rfl ((i : Int) % 40) ((i : Int) / 40) (fillT ⟨(i : Int) % 256, 0, 0, 255⟩) (by rfl) (by rfl) ?_
      refine hK _ _ ⟨fun _ => ⟨_, ov_of hX⟩, ?_⟩
      clear hK K
      try simp only [List.getElem_toArray, List.getElem_cons_zero, List.getElem_cons_succ]
      simp only [Act.put, List.setIfInBounds_toArray, List.set_cons_zero, List.set_cons_succ]
      refine anyX_next 12 rfl (by kernel_rfl) rfl (fun K hK => ?_)
      try simp only [List.getElem_toArray, List.getElem_cons_zero, List.getElem_cons_succ]
      refine owp_bs1T _ rfl (fullA i) (by rfl) ?_
      intro b_s1 wn hle hge ht hbn hzn
      have hsz := B.size
      have hsx := hX.size
      replace B := B.trans (hbn.mono (by omega))
      replace hX := hX.trans (hbn.mono (by omega))
      try first | (have hlt := r2.lt; replace r2 := r2.of_eq (hbn.block _ (by omega))) | replace r2 := r2.below (hbn.mono hle)
      try first | (have hlt := r3.lt; replace r3 := r3.of_eq (hbn.block _ (by omega))) | replace r3 := r3.below (hbn.mono hle)
      try first | (have hlt := od.lt; replace od := od.of_eq (hbn.block _ (by omega))) | replace od := od.below (hbn.mono hle)
      have s1 := ht
      clear ht
      refine hK _ _ ⟨fun _ => ⟨_, ov_of hX⟩, ?_⟩
      clear hK K
      try simp only [List.getElem_toArray, List.getElem_cons_zero, List.getElem_cons_succ]
      simp only [Act.put, List.setIfInBounds_toArray, List.set_cons_zero, List.set_cons_succ]
      refine anyX_seq (by kernel_rfl) (by kernel_rfl) ?_
      simp only [List.drop_succ_cons, List.drop_zero]
      have hfl := fullL_len i
      go_wp2_with (first | (refine wpList_storeO rfl _ _ rfl _ rfl _ _ _ rfl r3 ?_; clear r3; intro wn ht hcn hzn; have hsz := B.size; replace hzn := Nat.le_of_eq hzn.symm; replace B := Chg.below B hcn (by omega) B.size; (try replace r2 := r2.of_eq (hcn.block _ r2.lt (by omega))); replace od := od.chg hcn (by omega); have r3 := ht; clear ht; simp only [Act.put, List.setIfInBounds_toArray, List.set_cons_zero, List.set_cons_succ]) | (at_builtin; refine wpList_appendT rfl _ _ rfl _ _ rfl rfl od ((RS.one s1)) (by simp only [List.length_cons, List.length_nil]; omega) (by omega) ?_; intro v_od wn ht hbn; have hsz := B.size; have hzn := hbn.size; replace B := B.trans (hbn.mono (by omega)); clear od; (try replace r2 := r2.of_eq (hbn.block _ (by omega))); (try replace r3 := r3.of_eq (hbn.block _ (by omega))); have od := ht; clear ht; obtain ⟨a_od, c_od, hv, hco⟩ := od.len; (try simp only [List.length_append, List.length_cons, List.length_nil, Nat.zero_add] at hv hco); subst hv; simp only [Act.put, List.setIfInBounds_toArray, List.set_cons_zero, List.set_cons_succ]) | fail)
      refine NoPan.normal ?_
      go_wp2
      go_roundw
      case rel => exact ⟨i + 1, _, _, by omega, by go_num, B, by omega, r2, by rw [fullL_len] at r3; exact r3, by rw [fullL_next]; rw [fullL_len] at od; exact od⟩
      case measure => simp [intOf]; omega
    · obtain rfl : i = n := by omega
      have d1 : decide ((i : Int) < (i : Int)) = false := decide_eq_false (by omega)
      go_wp2_with (first | (refine wpList_storeB (t := 30) rfl _ _ rfl _ rfl _ rfl r2 (by kernel_rfl) rfl (by simp [Value.oneCell']) ?_; clear r2; intro wn ht hcn hzn; have hsz := B.size; replace hzn := Nat.le_of_eq hzn.symm; replace B := Chg.below B hcn (by omega) B.size; (try replace r3 := r3.of_eq (hcn.block _ r3.lt (by omega))); replace od := od.chg hcn (by omega); have r2 := ht; clear ht; simp only [Act.put, List.setIfInBounds_toArray, List.set_cons_zero, List.set_cons_succ]) | (refine wpList_loadAny (t := 30) rfl _ rfl _ _ _ rfl (run_load_B r3 Try.isAgg30 (by kernel_rfl)) (by rfl) ?_; simp only [Act.put, List.setIfInBounds_toArray, List.set_cons_zero, List.set_cons_succ]) | fail)
      refine bodyPost_ret (results_B (t := 30) rfl _ _ (b_r2) rfl r2 Try.isAgg30 (by kernel_rfl)) rfl ?_
      exact ⟨_, rfl, od.rs, B⟩
end Go.Proofs.Ytppccnjckiedlaa
/- Plain laws of rasters: cropping, bounds. -/
namespace Go.Proofs.Ytppccnjckiedlaa
open Go.RowKit Pl
set_option linter.unusedVariables false
set_option linter.unusedSimpArgs false

/-- A tile cropped. -/
def cropT (c : Rc) (x y : Int) (t : Nat → Px) : Nat → Px := fun i => if i < 64 then (if hasR c (x * 8 + (i : Int) % 8) (y * 8 + (i : Int) / 8) = true then t i else Px.zero) else t i
theorem runT_crop (c : Rc) (e : TA) : ∀ k, ∀ i, (runT (cropF c) e k ()).2 i = if i < k then (if hasR c (e.x * 8 + (i : Int) % 8) (e.y * 8 + (i : Int) / 8) = true then e.t i else Px.zero) else e.t i
  | 0, i => by rw [if_neg (by omega)]; rfl
  | k + 1, i => by
    show upd (runT (cropF c) e k ()).2 k (if hasR c (e.x * 8 + (k : Int) % 8) (e.y * 8 + (k : Int) / 8) = true then e.t k else Px.zero) i = _
    unfold upd
    by_cases h : i = k
    · subst h
      rw [if_pos rfl, if_pos (Nat.lt_succ_self _)]
    · rw [if_neg h, runT_crop c e k i]
      by_cases h2 : i < k
      · rw [if_pos h2, if_pos (Nat.lt_succ_of_lt h2)]
      · rw [if_neg h2, if_neg (show ¬ i < k + 1 from by omega)]
theorem runT_crop64 (c : Rc) (e : TA) : (runT (cropF c) e 64 ()).2 = cropT c e.x e.y e.t := funext fun i => runT_crop c e 64 i
def cropE (c : Rc) (e : TA) : List TA := newA e.x e.y (cropT c e.x e.y e.t)
theorem mapK_crop (c : Rc) (ls : List TA) : ∀ k, k ≤ ls.length → (mapK (cropF c) ls () k).2 = (ls.take k).flatMap (cropE c)
  | 0, _ => rfl
  | k + 1, hk => by
    show (mapK (cropF c) ls () k).2 ++ newA (aT ls k).x (aT ls k).y (runT (cropF c) (aT ls k) 64 ()).2 = _
    rw [mapK_crop c ls k (by omega), List.take_add_one, aT_at (show k < ls.length from hk), List.flatMap_append, runT_crop64]
    simp [cropE]
theorem cropL_eq (c : Rc) (ls : List TA) : cropL c ls = ls.flatMap (cropE c) := by
  unfold cropL
  rw [mapK_crop c ls _ (Nat.le_refl _), List.take_length]
theorem hasR_iff (r : Rc) (x y : Int) : hasR r x y = true ↔ (r.x0 ≤ x ∧ x < r.x1 ∧ r.y0 ≤ y ∧ y < r.y1) := by unfold hasR; exact decide_eq_true_iff
theorem emptyR_iff (r : Rc) : emptyR r = true ↔ (r.x1 ≤ r.x0 ∨ r.y1 ≤ r.y0) := by unfold emptyR; exact decide_eq_true_iff
theorem emptyR_not (r : Rc) : emptyR r = false ↔ (r.x0 < r.x1 ∧ r.y0 < r.y1) := by
  rw [← Bool.not_eq_true, emptyR_iff]; omega
theorem hasR_norm (r : Rc) (x y : Int) : hasR (normR r) x y = hasR r x y := by
  unfold normR
  split
  · rename_i h
    have h := (emptyR_iff r).1 h
    rw [Bool.eq_iff_iff, hasR_iff, hasR_iff]
    unfold Rc.zero
    simp only
    omega
  · rfl
theorem hasR_inter (c d : Rc) (x y : Int) : hasR (interR c d) x y = (hasR c x y && hasR d x y) := by
  unfold interR
  rw [hasR_norm, Bool.eq_iff_iff, Bool.and_eq_true, hasR_iff, hasR_iff, hasR_iff]
  simp only
  omega
theorem cropT_twice (c d : Rc) (x y : Int) (t : Nat → Px) : cropT d x y (cropT c x y t) = cropT (interR c d) x y t := by
  funext i
  unfold cropT
  by_cases hi : i < 64
  · rw [if_pos hi, if_pos hi, if_pos hi, hasR_inter]
    cases hasR c (x * 8 + (i : Int) % 8) (y * 8 + (i : Int) / 8) <;> cases hasR d (x * 8 + (i : Int) % 8) (y * 8 + (i : Int) / 8) <;> rfl
  · rw [if_neg hi, if_neg hi, if_neg hi]
theorem zeroB_iff (t : Nat → Px) : zeroB t = true ↔ ∀ i, i < 64 → (t i).a = 0 := by
  unfold zeroB
  rw [decide_eq_true_iff]
  exact ⟨fun h i hi => h i (List.mem_range.2 hi), fun h i hi => h i (List.mem_range.1 hi)⟩
theorem zeroB_crop {c d : Rc} {x y : Int} {t : Nat → Px} (h : zeroB (cropT c x y t) = true) : zeroB (cropT (interR c d) x y t) = true := by
  rw [zeroB_iff] at h ⊢
  intro i hi
  have := h i hi
  unfold cropT at this ⊢
  rw [if_pos hi] at this ⊢
  rw [hasR_inter]
  cases hc : hasR c (x * 8 + (i : Int) % 8) (y * 8 + (i : Int) / 8)
  · rfl
  · rw [hc, if_pos rfl] at this
    cases hasR d (x * 8 + (i : Int) % 8) (y * 8 + (i : Int) / 8)
    · rfl
    · exact this
theorem cropE_twice (c d : Rc) (e : TA) : (cropE c e).flatMap (cropE d) = cropE (interR c d) e := by
  unfold cropE newA
  cases hz : zeroB (cropT c e.x e.y e.t)
  · rw [if_neg (by decide)]
    simp only [List.flatMap_cons, List.flatMap_nil, List.append_nil, cropT_twice]
  · rw [if_pos rfl, if_pos (zeroB_crop hz)]
    rfl
theorem cropL_twice (c d : Rc) (ls : List TA) : cropL d (cropL c ls) = cropL (interR c d) ls := by
  rw [cropL_eq, cropL_eq, cropL_eq, List.flatMap_assoc]
  exact congrArg (fun f => ls.flatMap f) (funext fun e => cropE_twice c d e)
theorem cropE_mem {c : Rc} {e k : TA} (h : k ∈ cropE c e) : k = ⟨e.x, e.y, cropT c e.x e.y e.t⟩ ∧ zeroB (cropT c e.x e.y e.t) = false := by
  unfold cropE newA at h
  split at h
  · cases h
  · rename_i hz
    exact ⟨List.mem_singleton.1 h, Bool.eq_false_iff.2 hz⟩
theorem goodA_iff (e : TA) : goodA e = true ↔ withinB e.x e.y = true ∧ zeroB e.t = false ∧ eqT (cleanT e.t) e.t = true := by
  unfold goodA
  rw [Bool.and_eq_true, Bool.and_eq_true, Bool.not_eq_true']
theorem eqT_at {t u : Nat → Px} (h : eqT t u = true) {i : Nat} (hi : i < 64) : t i = u i := by
  unfold eqT at h
  exact of_decide_eq_true h i (List.mem_range.2 hi)
theorem cleanP_zero : cleanP Px.zero = Px.zero := rfl
theorem cropL_len (c : Rc) (ls : List TA) : (cropL c ls).length ≤ ls.length := mapK_length _ _ _ _
theorem cropL_valid {ls : List TA} (h : validL ls = true) (c : Rc) : validL (cropL c ls) = true := by
  refine validL_mk (Nat.le_trans (cropL_len c ls) (validL_iff.1 h).1) ?_ ?_
  · intro k hk
    rw [cropL_eq] at hk
    obtain ⟨e, he, hk⟩ := List.mem_flatMap.1 hk
    obtain ⟨rfl, hz⟩ := cropE_mem hk
    obtain ⟨g1, g2, g3⟩ := (goodA_iff e).1 (validL_good h e he)
    refine (goodA_iff _).2 ⟨g1, hz, eqT_true fun j hj => ?_⟩
    have := eqT_at g3 hj
    unfold cleanT at this ⊢
    show cleanP (cropT c e.x e.y e.t j) = cropT c e.x e.y e.t j
    unfold cropT
    rw [if_pos hj]
    split
    · exact this
    · rfl
  · rw [cropL_eq]
    unfold Srt
    rw [List.pairwise_flatMap]
    refine ⟨fun e _ => ?_, (validL_srt h).imp fun {a b} hab x hx y hy => ?_⟩
    · unfold cropE newA
      split
      · exact List.Pairwise.nil
      · exact List.pairwise_singleton _ _
    · rw [(cropE_mem hx).1, (cropE_mem hy).1]
      exact hab
theorem cropL_tok {ls : List TA} (h : TokL ls) (c : Rc) : TokL (cropL c ls) := by
  intro k hk
  rw [cropL_eq] at hk
  obtain ⟨e, he, hk⟩ := List.mem_flatMap.1 hk
  obtain ⟨rfl, _⟩ := cropE_mem hk
  intro i hi
  show (cropT c e.x e.y e.t i).ok
  unfold cropT
  rw [if_pos hi]
  split
  · exact h e he i hi
  · exact Px.zero_ok
theorem eqA_refl (e : TA) : eqA e e = true := by
  unfold eqA eqB
  rw [eqT_refl, decide_eq_true ⟨rfl, rfl⟩]
  rfl
theorem eqL_refl (ls : List TA) : eqL ls ls = true := eqL_yes rfl fun j _ => eqA_refl _

/-! ### Bounds -/
/-- A pixel that is not transparent. -/
def Vis (ls : List TA) (x y : Int) : Prop := ∃ e, e ∈ ls ∧ ∃ i : Nat, i < 64 ∧ 0 < (e.t i).a ∧ x = e.x * 8 + (i : Int) % 8 ∧ y = e.y * 8 + (i : Int) / 8
/-- The least rectangle around V. -/
def Tight (V : Int → Int → Prop) (r : Rc) : Prop := (r = Rc.zero ∧ ∀ x y, ¬ V x y) ∨ (emptyR r = false ∧ (∀ x y, V x y → hasR r x y = true) ∧ (∃ y, V r.x0 y) ∧ (∃ x, V x r.y0) ∧ (∃ y, V (r.x1 - 1) y) ∧ ∃ x, V x (r.y1 - 1))
theorem Tight.iff {V V' : Int → Int → Prop} {r : Rc} (h : Tight V r) (k : ∀ x y, V x y ↔ V' x y) : Tight V' r := by
  have e : V = V' := funext fun x => funext fun y => propext (k x y)
  rw [← e]; exact h
theorem Tight.add {V : Int → Int → Prop} {r : Rc} (h : Tight V r) (x y : Int) : Tight (fun a b => V a b ∨ (a = x ∧ b = y)) (unionR r ⟨x, y, x + 1, y + 1⟩) := by
  have h1 : emptyR ⟨x, y, x + 1, y + 1⟩ = false := (emptyR_not _).2 ⟨by show x < x + 1; omega, by show y < y + 1; omega⟩
  rcases h with ⟨rfl, hn⟩ | ⟨he, hin, ⟨ya, ha⟩, ⟨xb, hb⟩, ⟨yc, hc⟩, ⟨xd, hd⟩⟩
  · have e : unionR Rc.zero ⟨x, y, x + 1, y + 1⟩ = ⟨x, y, x + 1, y + 1⟩ := by
      unfold unionR normR
      rw [if_pos (by decide), h1]
      rfl
    rw [e]
    refine .inr ⟨h1, fun a b hv => ?_, ⟨y, .inr ⟨rfl, rfl⟩⟩, ⟨x, .inr ⟨rfl, rfl⟩⟩, ⟨y, .inr ⟨by show x + 1 - 1 = x; omega, rfl⟩⟩, ⟨x, .inr ⟨rfl, by show y + 1 - 1 = y; omega⟩⟩⟩
    rcases hv with hv | ⟨rfl, rfl⟩
    · exact absurd hv (hn a b)
    · rw [hasR_iff]; simp only; omega
  · have e : unionR r ⟨x, y, x + 1, y + 1⟩ = ⟨min r.x0 x, min r.y0 y, max r.x1 (x + 1), max r.y1 (y + 1)⟩ := by
      unfold unionR
      rw [he, h1, if_neg (by decide), if_neg (by decide)]
    rw [e]
    have hen := (emptyR_not r).1 he
    refine .inr ⟨(emptyR_not _).2 ⟨by show min r.x0 x < max r.x1 (x + 1); omega, by show min r.y0 y < max r.y1 (y + 1); omega⟩, fun a b hv => ?_, ?_, ?_, ?_, ?_⟩
    · rw [hasR_iff]
      simp only
      rcases hv with hv | ⟨rfl, rfl⟩
      · have := (hasR_iff r a b).1 (hin a b hv)
        omega
      · omega
    · show ∃ b, V (min r.x0 x) b ∨ (min r.x0 x = x ∧ b = y)
      by_cases hh : r.x0 ≤ x
      · exact ⟨ya, .inl (by rw [Int.min_eq_left hh]; exact ha)⟩
      · exact ⟨y, .inr ⟨by omega, rfl⟩⟩
    · show ∃ a, V a (min r.y0 y) ∨ (a = x ∧ min r.y0 y = y)
      by_cases hh : r.y0 ≤ y
      · exact ⟨xb, .inl (by rw [Int.min_eq_left hh]; exact hb)⟩
      · exact ⟨x, .inr ⟨rfl, by omega⟩⟩
    · show ∃ b, V (max r.x1 (x + 1) - 1) b ∨ (max r.x1 (x + 1) - 1 = x ∧ b = y)
      by_cases hh : x + 1 ≤ r.x1
      · exact ⟨yc, .inl (by rw [Int.max_eq_left hh]; exact hc)⟩
      · exact ⟨y, .inr ⟨by omega, rfl⟩⟩
    · show ∃ a, V a (max r.y1 (y + 1) - 1) ∨ (a = x ∧ max r.y1 (y + 1) - 1 = y)
      by_cases hh : y + 1 ≤ r.y1
      · exact ⟨xd, .inl (by rw [Int.max_eq_left hh]; exact hd)⟩
      · exact ⟨x, .inr ⟨rfl, by omega⟩⟩
theorem runT_bound (e : TA) {V : Int → Int → Prop} {s : Rc} (h : Tight V s) : ∀ k, Tight (fun a b => V a b ∨ ∃ i : Nat, i < k ∧ 0 < (e.t i).a ∧ a = e.x * 8 + (i : Int) % 8 ∧ b = e.y * 8 + (i : Int) / 8) (runT boundF e k s).1
  | 0 => h.iff fun a b => ⟨.inl, fun hv => by
      rcases hv with hv | ⟨i, hi, _⟩
      · exact hv
      · omega⟩
  | k + 1 => by
    have ih := runT_bound e h k
    show Tight _ (if 0 < (e.t k).a then unionR (runT boundF e k s).1 ⟨e.x * 8 + (k : Int) % 8, e.y * 8 + (k : Int) / 8, e.x * 8 + (k : Int) % 8 + 1, e.y * 8 + (k : Int) / 8 + 1⟩ else (runT boundF e k s).1)
    by_cases ha : 0 < (e.t k).a
    · rw [if_pos ha]
      refine (ih.add _ _).iff fun a b => ⟨fun hv => ?_, fun hv => ?_⟩
      · rcases hv with (hv | ⟨i, hi, hr⟩) | ⟨rfl, rfl⟩
        · exact .inl hv
        · exact .inr ⟨i, by omega, hr⟩
        · exact .inr ⟨k, by omega, ha, rfl, rfl⟩
      · rcases hv with hv | ⟨i, hi, hr⟩
        · exact .inl (.inl hv)
        · by_cases hik : i = k
          · subst hik; exact .inr hr.2
          · exact .inl (.inr ⟨i, by omega, hr⟩)
    · rw [if_neg ha]
      refine ih.iff fun a b => ⟨fun hv => ?_, fun hv => ?_⟩
      · rcases hv with hv | ⟨i, hi, hr⟩
        · exact .inl hv
        · exact .inr ⟨i, by omega, hr⟩
      · rcases hv with hv | ⟨i, hi, hr⟩
        · exact .inl hv
        · by_cases hik : i = k
          · subst hik; exact absurd hr.1 ha
          · exact .inr ⟨i, by omega, hr⟩
theorem mapK_bound (ls : List TA) : ∀ k, k ≤ ls.length → Tight (Vis (ls.take k)) (mapK boundF ls Rc.zero k).1
  | 0, _ => .inl ⟨rfl, fun x y ⟨e, he, _⟩ => by simp at he⟩
  | k + 1, hk => by
    refine (runT_bound (aT ls k) (mapK_bound ls k (by omega)) 64).iff fun a b => ?_
    rw [List.take_add_one, aT_at (show k < ls.length from hk)]
    unfold Vis
    constructor
    · rintro (⟨e, he, hr⟩ | ⟨i, hi, hr⟩)
      · exact ⟨e, List.mem_append_left _ he, hr⟩
      · exact ⟨aT ls k, List.mem_append_right _ (by simp), i, hi, hr⟩
    · rintro ⟨e, he, i, hi, hr⟩
      rcases List.mem_append.1 he with he | he
      · exact .inl ⟨e, he, i, hi, hr⟩
      · obtain rfl : e = aT ls k := by simpa using he
        exact .inr ⟨i, hi, hr⟩
theorem boundL_tight (ls : List TA) : Tight (Vis ls) (boundL ls) := by
  have := mapK_bound ls ls.length (Nat.le_refl _)
  rw [List.take_length] at this
  exact this
theorem tileL_some (ls : List TA) (x y : Int) : tileL ls x y = zT ∨ ∃ e, e ∈ ls ∧ e.x = x ∧ e.y = y ∧ tileL ls x y = e.t := by
  induction ls with
  | nil => exact .inl rfl
  | cons e r ih =>
    unfold tileL
    by_cases h : eqB e.x e.y x y = true
    · rw [if_pos h]
      have := of_decide_eq_true h
      exact .inr ⟨e, List.mem_cons_self .., this.1, this.2, rfl⟩
    · rw [if_neg h]
      rcases ih with ih | ⟨k, hk, hr⟩
      · exact .inl ih
      · exact .inr ⟨k, List.mem_cons_of_mem _ hk, hr⟩
theorem getL_vis {ls : List TA} {x y : Int} (h : 0 < (getL ls x y).a) : Vis ls x y := by
  unfold getL at h
  rcases tileL_some ls (x / 8) (y / 8) with e | ⟨e, he, e1, e2, e3⟩
  · rw [e] at h
    have h : (0 : Int) < 0 := h
    omega
  · rw [e3] at h
    exact ⟨e, he, (8 * (y % 8) + x % 8).toNat, by omega, h, by omega, by omega⟩
theorem boundL_has {ls : List TA} {x y : Int} (h : Vis ls x y) : hasR (boundL ls) x y = true := by
  rcases boundL_tight ls with ⟨_, hn⟩ | ⟨_, hin, _⟩
  · exact absurd h (hn x y)
  · exact hin x y h
theorem cropL_side {ls : List TA} {c : Rc} {x y : Int} (h : Vis ls x y) (k : hasR c x y = true) : 0 < (cropL c ls).length := by
  obtain ⟨e, he, i, hi, ha, rfl, rfl⟩ := h
  have hz : zeroB (cropT c e.x e.y e.t) = false := by
    rw [← Bool.not_eq_true, zeroB_iff]
    intro hz
    have := hz i hi
    unfold cropT at this
    rw [if_pos hi, if_pos k] at this
    omega
  have hm : (⟨e.x, e.y, cropT c e.x e.y e.t⟩ : TA) ∈ cropL c ls := by
    rw [cropL_eq]
    refine List.mem_flatMap.2 ⟨e, he, ?_⟩
    unfold cropE newA
    rw [hz]
    exact List.mem_singleton.2 rfl
  exact List.length_pos_of_mem hm
theorem valid_vis {ls : List TA} (h : validL ls = true) (tk : TokL ls) (hl : 0 < ls.length) : ∃ x y, Vis ls x y := by
  have hm : aT ls 0 ∈ ls := List.mem_iff_getElem?.2 ⟨0, aT_at hl⟩
  obtain ⟨_, g2, _⟩ := (goodA_iff _).1 (validL_good h _ hm)
  rw [← Bool.not_eq_true, zeroB_iff] at g2
  obtain ⟨i, hi⟩ := Classical.not_forall.1 g2
  obtain ⟨hi, ha⟩ := Classical.not_imp.1 hi
  obtain ⟨_, _, _, hp, _⟩ := tk _ hm i hi
  exact ⟨_, _, aT ls 0, hm, i, hi, by omega, rfl, rfl⟩
/-- Each side of the bounds has a pixel that is not transparent. -/
theorem boundL_sides {ls : List TA} (h : validL ls = true) (tk : TokL ls) (hl : 0 < ls.length) :
    0 < (cropL ⟨(boundL ls).x0, (boundL ls).y0, (boundL ls).x0 + 1, (boundL ls).y1⟩ ls).length ∧ 0 < (cropL ⟨(boundL ls).x1 - 1, (boundL ls).y0, (boundL ls).x1, (boundL ls).y1⟩ ls).length ∧
    0 < (cropL ⟨(boundL ls).x0, (boundL ls).y0, (boundL ls).x1, (boundL ls).y0 + 1⟩ ls).length ∧ 0 < (cropL ⟨(boundL ls).x0, (boundL ls).y1 - 1, (boundL ls).x1, (boundL ls).y1⟩ ls).length := by
  rcases boundL_tight ls with ⟨_, hn⟩ | ⟨_, hin, ⟨ya, ha⟩, ⟨xb, hb⟩, ⟨yc, hc⟩, ⟨xd, hd⟩⟩
  · obtain ⟨x, y, hv⟩ := valid_vis h tk hl
    exact absurd hv (hn x y)
  · have ka := (hasR_iff _ _ _).1 (hin _ _ ha)
    have kb := (hasR_iff _ _ _).1 (hin _ _ hb)
    have kc := (hasR_iff _ _ _).1 (hin _ _ hc)
    have kd := (hasR_iff _ _ _).1 (hin _ _ hd)
    refine ⟨cropL_side ha ?_, cropL_side hc ?_, cropL_side hb ?_, cropL_side hd ?_⟩ <;> rw [hasR_iff] <;> simp only <;> omega
theorem boundL_nil : boundL [] = Rc.zero := rfl
/-- Cropped to its bounds a valid raster is what it was. -/
theorem cropL_bound {ls : List TA} (h : validL ls = true) (tk : TokL ls) : cropL (boundL ls) ls = ls := by
  rw [cropL_eq]
  generalize hb : boundL ls = b
  have key : ∀ e, e ∈ ls → cropE b e = [e] := fun e he => by
    obtain ⟨_, g2, g3⟩ := (goodA_iff _).1 (validL_good h _ he)
    have ht : cropT b e.x e.y e.t = e.t := by
      funext i
      unfold cropT
      by_cases hi : i < 64
      · rw [if_pos hi]
        by_cases ha : 0 < (e.t i).a
        · rw [if_pos (by rw [← hb]; exact boundL_has ⟨e, he, i, hi, ha, rfl, rfl⟩)]
        · obtain ⟨_, _, _, hp, _⟩ := tk _ he i hi
          have hz : (e.t i).a = 0 := by omega
          have hc := eqT_at g3 hi
          unfold cleanT cleanP at hc
          rw [if_pos hz] at hc
          split
          · rfl
          · exact hc
      · rw [if_neg hi]
    unfold cropE newA
    rw [ht, g2]
    rfl
  clear hb h tk
  induction ls with
  | nil => rfl
  | cons e r ih =>
    rw [List.flatMap_cons, key e (List.mem_cons_self ..), ih fun k hk => key k (List.mem_cons_of_mem _ hk)]
    rfl
end Go.Proofs.Ytppccnjckiedlaa
/- Regions that draw their order, some of whose operations hand back values that are known by a fact alone: one walk in the order of the text serves for all orders. -/
namespace Go.Proofs.Ytppccnjckiedlaa
open Go.RowKit
set_option linter.unusedVariables false
set_option linter.unusedSimpArgs false

/-- What is known of an operation's value: its shape, a fact that lasts. -/
structure NSpec where
  α : Type
  ne : Nonempty α
  f : α → Value
  F : α → World → Prop
  mono : ∀ x w w', Below w.heap.size w w' → F x w → F x w'
theorem put_same {a b : Act} {d : Option Tmp} {u v : Value} (hs : b.tmps.size = a.tmps.size) (h : a.put d u = a.put d v) : b.put d u = b.put d v := by
  cases d with
  | none => rfl
  | some d =>
    have h1 : a.tmps.setIfInBounds d u = a.tmps.setIfInBounds d v := congrArg Act.tmps h
    show ({ b with tmps := b.tmps.setIfInBounds d u } : Act) = { b with tmps := b.tmps.setIfInBounds d v }
    by_cases hd : d < a.tmps.size
    · have h2 := congrArg (fun t : Array Value => t[d]?) h1
      simp [hd] at h2
      rw [h2]
    · have hd1 : a.tmps.size ≤ d := Nat.le_of_not_lt hd
      have hd2 : b.tmps.size ≤ d := hs ▸ hd1
      rw [Array.setIfInBounds_eq_of_size_le hd2, Array.setIfInBounds_eq_of_size_le hd2]
theorem put_size (a : Act) (d : Option Tmp) (v : Value) : (a.put d v).tmps.size = a.tmps.size := by
  cases d with
  | none => rfl
  | some d => show (a.tmps.setIfInBounds d v).size = _; simp
def envS (E : Nat → World → Prop) (k : Nat) (G : World → Prop) : Nat → World → Prop := fun j => if j = k then G else E j
theorem envS_comm (E : Nat → World → Prop) {k i : Nat} (h : k ≠ i) (A B : World → Prop) : envS (envS E k A) i B = envS (envS E i B) k A := by
  funext j
  unfold envS
  by_cases h1 : j = i
  · rw [if_pos h1, if_neg (by omega), if_pos h1]
  · rw [if_neg h1]
    by_cases h2 : j = k
    · rw [if_pos h2, if_pos h2]
    · rw [if_neg h2, if_neg h2, if_neg h1]
theorem envS_ne (E : Nat → World → Prop) {k j : Nat} (h : j ≠ k) (A : World → Prop) : envS E k A j = E j := if_neg h
section
variable {P : Program} {ops : Array Oper} {Q : Exit → Act → World → Prop} {md : Region.Mode} {C : World → Prop} {S : Nat → Option NSpec} {L : (Nat → World → Prop) → Act → Prop}
/-- The operation number k hands back a value as its specification says, wherever those it waits for have come. -/
def stepR (P : Program) (ops : Array Oper) (md : Region.Mode) (Q : Exit → Act → World → Prop) (C : World → Prop) (E : Nat → World → Prop) (k : Nat) (o : Oper) (a : Act) (s : NSpec) : Prop :=
  ∀ w, C w → (∀ j, Region.waitsFor md ops k j = true → E j w) → o.wp P a w (fun a' w' => ∃ x, a' = a.put o.dst (s.f x) ∧ s.F x w' ∧ Below w.heap.size w w') (NoPan Q)
theorem stepR_of {E : Nat → World → Prop} {k : Nat} {o : Oper} {a : Act} {s : NSpec}
    (h : ∀ w, C w → (∀ j, Region.waitsFor md ops k j = true → E j w) → ∀ K : Act → World → Prop, (∀ x w', s.F x w' → Below w.heap.size w w' → K (a.put o.dst (s.f x)) w') → o.wp P a w K (NoPan Q)) : stepR P ops md Q C E k o a s :=
  fun w hC hE => h w hC hE _ fun x w' h1 h2 => ⟨x, rfl, h1, h2⟩
theorem stepR_move {E E' : Nat → World → Prop} {k : Nat} {o : Oper} {a b : Act} {s : NSpec} (he : execOp b.eval o = execOp a.eval o) (hs : b.tmps.size = a.tmps.size) (hE : ∀ j w, Region.waitsFor md ops k j = true → E' j w → E j w)
    (h : stepR P ops md Q C E k o a s) : stepR P ops md Q C E' k o b s := by
  intro w hC hE'
  have h1 := h w hC fun j hj => hE j w hj (hE' j hj)
  unfold Oper.wp at *
  rw [he]
  generalize (execOp a.eval o).run P w = r at *
  cases r with
  | ok n w' =>
    cases n <;> simp only [Oper.upon] at h1 ⊢
    case value u => obtain ⟨x, h2, h3⟩ := h1; exact ⟨x, put_same hs h2, h3⟩
    case skip => obtain ⟨x, h2, h3⟩ := h1; exact ⟨x, put_same hs h2, h3⟩
    case defer d =>
      obtain ⟨x, h2, h3⟩ := h1
      have h4 := congrArg (fun y : Act => y.defers.length) h2
      cases ho : o.dst <;> rw [ho] at h4 <;> simp [Act.put] at h4
    case enter f args =>
      refine Calls.mono h1 fun e w'' he => ?_
      cases e with
      | returned u => obtain ⟨x, h2, h3⟩ := he; exact ⟨x, put_same hs h2, h3⟩
      | panicked c => exact he
      | outgrown => exact he
    case row row args => exact Rows.mono h1 fun u w'' ⟨x, h2, h3⟩ => ⟨x, put_same hs h2, h3⟩
  | halt x w' =>
    cases x <;> simp only [Oper.upon] at h1 ⊢
    case panic u => exact h1
/-- The walk in the order of the text. -/
def wpR (P : Program) (md : Region.Mode) (ops : Array Oper) (Q : Exit → Act → World → Prop) (C : World → Prop) (S : Nat → Option NSpec) (L : (Nat → World → Prop) → Act → Prop) : List Nat → (Nat → World → Prop) → Act → Prop
  | [], E, a => L E a
  | k :: r, E, a => match ops[k]? with
    | none => False
    | some o =>
      if Region.wanted o (yielded ops a.tmps) = true then
        match S k with
        | none => ∃ v, (∀ w, C w → (execOp a.eval o).run P w = .ok (.value v) w) ∧ wpR P md ops Q C S L r E (a.put o.dst v)
        | some s => stepR P ops md Q C E k o a s ∧ ∀ x, wpR P md ops Q C S L r (envS E k (s.F x)) (a.put o.dst (s.f x))
      else wpR P md ops Q C S L r E (a.put o.dst undef)
theorem wpR_swap {k i : Nat} {ok oi : Oper} {r : List Nat} (hk : ops[k]? = some ok) (hi : ops[i]? = some oi) (hap : ok.apart ops oi = true) (hsk : ∀ cs b, ok.op ≠ .select cs b) (hsi : ∀ cs b, oi.op ≠ .select cs b)
    (hne : k ≠ i) (hik : Region.waitsFor md ops i k = false) (hki : Region.waitsFor md ops k i = false) (hC : ∃ w, C w) {E : Nat → World → Prop} {a : Act}
    (h : wpR P md ops Q C S L (k :: i :: r) E a) : wpR P md ops Q C S L (i :: k :: r) E a := by
  obtain ⟨h1, h2, h3⟩ := Oper.apart_spec hap
  have ei : ∀ u, execOp (a.put ok.dst u).eval oi = execOp a.eval oi := fun u => execOp_put oi hsi a ok.dst u h1
  have ek : ∀ u, execOp (a.put oi.dst u).eval ok = execOp a.eval ok := fun u => execOp_put ok hsk a oi.dst u h3
  have wi : ∀ u, Region.wanted oi (yielded ops (a.put ok.dst u).tmps) = Region.wanted oi (yielded ops a.tmps) := fun u => wanted_put oi a ok.dst u h1
  have wk : ∀ u, Region.wanted ok (yielded ops (a.put oi.dst u).tmps) = Region.wanted ok (yielded ops a.tmps) := fun u => wanted_put ok a oi.dst u h3
  have pc : ∀ u v, (a.put ok.dst u).put oi.dst v = (a.put oi.dst v).put ok.dst u := fun u v => Act.put_comm a u v h2
  have Ek : ∀ (s : NSpec) x j w, Region.waitsFor md ops i j = true → E j w → envS E k (s.F x) j w := fun s x j w hj he => by
    rw [envS_ne]; exact he
    intro e; rw [e, hik] at hj; cases hj
  have Ek' : ∀ (s : NSpec) x j w, Region.waitsFor md ops i j = true → envS E k (s.F x) j w → E j w := fun s x j w hj he => by
    rw [envS_ne] at he; exact he
    intro e; rw [e, hik] at hj; cases hj
  have Ei' : ∀ (s : NSpec) x j w, Region.waitsFor md ops k j = true → envS E i (s.F x) j w → E j w := fun s x j w hj he => by
    rw [envS_ne] at he; exact he
    intro e; rw [e, hki] at hj; cases hj
  unfold wpR at h ⊢
  rw [hk] at h
  rw [hi]
  simp only at h ⊢
  -- the second's part of what the first leaves
  by_cases Wk : Region.wanted ok (yielded ops a.tmps) = true
  · rw [if_pos Wk] at h
    cases Sk : S k with
    | none =>
      rw [Sk] at h
      obtain ⟨v, hv, h⟩ := h
      unfold wpR at h
      rw [hi] at h
      simp only at h
      rw [wi] at h
      by_cases Wi : Region.wanted oi (yielded ops a.tmps) = true
      · rw [if_pos Wi] at h ⊢
        cases Si : S i with
        | none =>
          rw [Si] at h
          obtain ⟨u, hu, h⟩ := h
          refine ⟨u, fun w hw => by rw [← ei v]; exact hu w hw, ?_⟩
          unfold wpR
          rw [hk]
          simp only
          rw [wk, if_pos Wk, Sk]
          exact ⟨v, fun w hw => by rw [ek u]; exact hv w hw, by rw [← pc]; exact h⟩
        | some s =>
          rw [Si] at h
          obtain ⟨hs, h⟩ := h
          refine ⟨stepR_move (ei v).symm (put_size _ _ _).symm (fun _ _ _ he => he) hs, fun y => ?_⟩
          unfold wpR
          rw [hk]
          simp only
          rw [wk, if_pos Wk, Sk]
          exact ⟨v, fun w hw => by rw [ek]; exact hv w hw, by rw [← pc]; exact h y⟩
      · rw [if_neg Wi] at h ⊢
        unfold wpR
        rw [hk]
        simp only
        rw [wk, if_pos Wk, Sk]
        exact ⟨v, fun w hw => by rw [ek]; exact hv w hw, by rw [← pc]; exact h⟩
    | some s =>
      rw [Sk] at h
      obtain ⟨hs, h⟩ := h
      obtain ⟨x0⟩ := s.ne
      by_cases Wi : Region.wanted oi (yielded ops a.tmps) = true
      · rw [if_pos Wi]
        cases Si : S i with
        | none =>
          have hx : ∀ x, ∃ v, (∀ w, C w → (execOp a.eval oi).run P w = .ok (.value v) w) ∧ wpR P md ops Q C S L r (envS E k (s.F x)) ((a.put ok.dst (s.f x)).put oi.dst v) := fun x => by
            have h := h x
            unfold wpR at h
            rw [hi] at h
            simp only at h
            rw [wi, if_pos Wi, Si] at h
            obtain ⟨v, hv, h⟩ := h
            exact ⟨v, fun w hw => by rw [← ei (s.f x)]; exact hv w hw, h⟩
          obtain ⟨v, hv, _⟩ := hx x0
          refine ⟨v, hv, ?_⟩
          unfold wpR
          rw [hk]
          simp only
          rw [wk, if_pos Wk, Sk]
          refine ⟨stepR_move (ek v) (put_size _ _ _) (fun _ _ _ he => he) hs, fun x => ?_⟩
          obtain ⟨v', hv', h'⟩ := hx x
          obtain ⟨w, hw⟩ := hC
          have e := (hv w hw).symm.trans (hv' w hw)
          injection e with e _
          injection e with e
          rw [← pc, e]
          exact h'
        | some t =>
          have hx : ∀ x, stepR P ops md Q C (envS E k (s.F x)) i oi (a.put ok.dst (s.f x)) t ∧ ∀ y, wpR P md ops Q C S L r (envS (envS E k (s.F x)) i (t.F y)) ((a.put ok.dst (s.f x)).put oi.dst (t.f y)) := fun x => by
            have h := h x
            unfold wpR at h
            rw [hi] at h
            simp only at h
            rw [wi, if_pos Wi, Si] at h
            exact h
          refine ⟨stepR_move (ei (s.f x0)).symm (put_size _ _ _).symm (Ek s x0) (hx x0).1, fun y => ?_⟩
          unfold wpR
          rw [hk]
          simp only
          rw [wk, if_pos Wk, Sk]
          refine ⟨stepR_move (ek _) (put_size _ _ _) (Ei' t y) hs, fun x => ?_⟩
          rw [← pc, ← envS_comm E hne]
          exact (hx x).2 y
      · rw [if_neg Wi]
        unfold wpR
        rw [hk]
        simp only
        rw [wk, if_pos Wk, Sk]
        refine ⟨stepR_move (ek _) (put_size _ _ _) (fun _ _ _ he => he) hs, fun x => ?_⟩
        have h := h x
        unfold wpR at h
        rw [hi] at h
        simp only at h
        rw [wi, if_neg Wi] at h
        rw [← pc]
        exact h
  · rw [if_neg Wk] at h
    unfold wpR at h
    rw [hi] at h
    simp only at h
    rw [wi] at h
    by_cases Wi : Region.wanted oi (yielded ops a.tmps) = true
    · rw [if_pos Wi] at h ⊢
      cases Si : S i with
      | none =>
        rw [Si] at h
        obtain ⟨u, hu, h⟩ := h
        refine ⟨u, fun w hw => by rw [← ei undef]; exact hu w hw, ?_⟩
        unfold wpR
        rw [hk]
        simp only
        rw [wk, if_neg Wk, ← pc]
        exact h
      | some s =>
        rw [Si] at h
        obtain ⟨hs, h⟩ := h
        refine ⟨stepR_move (ei undef).symm (put_size _ _ _).symm (fun _ _ _ he => he) hs, fun y => ?_⟩
        unfold wpR
        rw [hk]
        simp only
        rw [wk, if_neg Wk, ← pc]
        exact h y
    · rw [if_neg Wi] at h ⊢
      unfold wpR
      rw [hk]
      simp only
      rw [wk, if_neg Wk, ← pc]
      exact h
theorem wpR_cons {k : Nat} {r r' : List Nat} {E : Nat → World → Prop} {a : Act} (hr : ∀ E a, wpR P md ops Q C S L r E a → wpR P md ops Q C S L r' E a) (h : wpR P md ops Q C S L (k :: r) E a) : wpR P md ops Q C S L (k :: r') E a := by
  unfold wpR at h ⊢
  cases hk : ops[k]? with
  | none => rw [hk] at h; exact h
  | some o =>
    rw [hk] at h
    simp only at h ⊢
    split
    · rename_i hw
      rw [if_pos hw] at h
      cases hS : S k with
      | none => rw [hS] at h; obtain ⟨v, h1, h2⟩ := h; exact ⟨v, h1, hr _ _ h2⟩
      | some s => rw [hS] at h; exact ⟨h.1, fun x => hr _ _ (h.2 x)⟩
    · rename_i hw
      rw [if_neg hw] at h
      exact hr _ _ h
/-- Its value hangs on no world. -/
def pureO (o : Oper) : Bool := match o.op with
  | .move _ | .assign _ | .extract .. => true
  | _ => false
theorem pureO_run {o : Oper} {v : Value} {ρ : Operand → Value} {w0 : World} (h : pureO o = true) (hr : (execOp ρ o).run P w0 = .ok (.value v) w0) : ∀ w, (execOp ρ o).run P w = .ok (.value v) w := by
  intro w
  unfold pureO at h
  unfold execOp at hr ⊢
  cases ho : o.op <;> rw [ho] at h hr <;> first | (cases h; done) | skip
  all_goals simp only [Sem.run_bind, Sem.run_pure] at hr ⊢
  all_goals first
    | (injection hr with e _; rw [e])
    | skip
  rename_i t ix
  unfold Instr.extract at hr ⊢
  split at hr
  · rename_i vs hv
    split at hr
    · rename_i x hx
      simp only [Sem.run_pure, Result.andThen_ok] at hr
      injection hr with e _
      rw [← e]
      simp only [Sem.run_pure, Result.andThen_ok]
    · exact absurd hr (by simp [stuck, Result.andThen])
  · exact absurd hr (by simp [stuck, Result.andThen])
/-- The text's order is one of the orders; two operations of the head wait for one another or are apart. -/
def relH (md : Region.Mode) (ops : Array Oper) (hd : Nat → Bool) : Bool :=
  Region.noSelect ops && (List.range ops.size).all fun k => !hd k || match ops[k]? with
    | none => false
    | some ok => (ok.after.all fun e => !Region.binds md e || (decide (e.on < k) && hd e.on)) && (List.range k).all fun j => !hd j || match ops[j]? with
      | none => false
      | some oj => Region.waitsFor md ops k j || oj.apart ops ok
/-- What is not of the head waits for all of it that hangs on the world, and is apart from the rest. -/
def tailH (md : Region.Mode) (ops : Array Oper) (hd : Nat → Bool) : Bool :=
  (List.range ops.size).all fun t => hd t || match ops[t]? with
    | none => false
    | some ot => (List.range ops.size).all fun k => !hd k || match ops[k]? with
      | none => false
      | some ok => bif pureO ok then Region.waitsFor md ops t k || ok.apart ops ot else trB md ops k 8 t
variable {hd : Nat → Bool}
theorem relH_at {k : Nat} (h : relH md ops hd = true) (hk : hd k = true) (hks : k < ops.size) : ∃ ok, ops[k]? = some ok ∧ (∀ e ∈ ok.after, Region.binds md e = true → e.on < k ∧ hd e.on = true) ∧ ∀ j, j < k → hd j = true → ∃ oj, ops[j]? = some oj ∧ (Region.waitsFor md ops k j = true ∨ oj.apart ops ok = true) := by
  simp only [relH, Bool.and_eq_true] at h
  have h1 := List.all_eq_true.1 h.2 k (List.mem_range.2 hks)
  rw [hk] at h1
  cases ho : ops[k]? with
  | none => rw [ho] at h1; cases h1
  | some ok =>
    rw [ho] at h1
    simp only [Bool.not_true, Bool.false_or, Bool.and_eq_true] at h1
    refine ⟨ok, rfl, fun e he hb => ?_, fun j hj hdj => ?_⟩
    · have := Array.all_eq_true'.1 h1.1 e he
      rw [hb] at this
      simpa using this
    · have h2 := List.all_eq_true.1 h1.2 j (List.mem_range.2 hj)
      rw [hdj] at h2
      cases hj : ops[j]? with
      | none => rw [hj] at h2; cases h2
      | some oj =>
        rw [hj] at h2
        simp only [Bool.not_true, Bool.false_or, Bool.or_eq_true] at h2
        exact ⟨oj, rfl, h2⟩
theorem relH_sel (h : relH md ops hd = true) : Region.noSelect ops = true := by simp only [relH, Bool.and_eq_true] at h; exact h.1
theorem tailH_at {t k : Nat} {ot ok : Oper} (h : tailH md ops hd = true) (ht : hd t = false) (hot : ops[t]? = some ot) (hk : hd k = true) (hok : ops[k]? = some ok) : (pureO ok = true → Region.waitsFor md ops t k = true ∨ ok.apart ops ot = true) ∧ (pureO ok = false → trB md ops k 8 t = true) := by
  have h1 := List.all_eq_true.1 h t (List.mem_range.2 (Array.getElem?_eq_some_iff.1 hot).1)
  rw [ht, hot] at h1
  simp only [Bool.false_or] at h1
  have h2 := List.all_eq_true.1 h1 k (List.mem_range.2 (Array.getElem?_eq_some_iff.1 hok).1)
  rw [hk, hok] at h2
  simp only [Bool.not_true, Bool.false_or] at h2
  refine ⟨fun hp => ?_, fun hp => ?_⟩
  · rw [hp] at h2; simpa using h2
  · rw [hp] at h2; simpa using h2
theorem waitsFor_lt {k j : Nat} (h : relH md ops hd = true) (hk : hd k = true) (hw : Region.waitsFor md ops k j = true) : j < k := by
  obtain ⟨o, ho, e, he, hb, rfl⟩ := Region.waitsFor_spec hw
  obtain ⟨ok, hok, h1, _⟩ := relH_at h hk (Array.getElem?_eq_some_iff.1 ho).1
  obtain rfl : o = ok := Option.some.inj (ho.symm.trans hok)
  exact (h1 e he hb).1
theorem ready_waits {i k : Nat} {listed : Array Bool} (hi : i ∈ Region.ready md ops listed) (hk : listed.getD k true = false) : Region.waitsFor md ops i k = false := by
  cases h : Region.waitsFor md ops i k with
  | false => rfl
  | true =>
    obtain ⟨_, oi, hoi, hall⟩ := mem_ready.1 hi
    obtain ⟨o, ho, e, he, hb, rfl⟩ := Region.waitsFor_spec h
    obtain rfl : o = oi := Option.some.inj (ho.symm.trans hoi)
    have := hall e he hb
    rw [getD_both hk] at this
    cases this
theorem wpR_front {i : Nat} {listed : Array Bool} (hB : relH md ops hd = true) (hi : i ∈ Region.ready md ops listed) (hin : hd i = true) (hC : ∃ w, C w) : ∀ (l1 l2 : List Nat) (E : Nat → World → Prop) (a : Act),
    (∀ k ∈ l1, k < i ∧ hd k = true ∧ listed.getD k true = false) → wpR P md ops Q C S L (l1 ++ i :: l2) E a → wpR P md ops Q C S L (i :: (l1 ++ l2)) E a
  | [], _, _, _, _, h => h
  | k :: l1, l2, E, a, hl, h => by
    have h1 : wpR P md ops Q C S L (k :: i :: (l1 ++ l2)) E a := wpR_cons (fun E a => wpR_front hB hi hin hC l1 l2 E a fun j hj => hl j (List.mem_cons_of_mem _ hj)) h
    obtain ⟨hki, hkd, hun⟩ := hl k (List.mem_cons_self ..)
    have his : i < ops.size := by
      obtain ⟨_, oi, hoi, _⟩ := mem_ready.1 hi
      exact (Array.getElem?_eq_some_iff.1 hoi).1
    obtain ⟨oi, hoi, _, hj⟩ := relH_at hB hin his
    obtain ⟨ok, hok, hap⟩ := hj k hki hkd
    have hsel := Region.noSelect_spec (relH_sel hB)
    have hik := ready_waits hi hun
    have hap : ok.apart ops oi = true := hap.resolve_left (by rw [hik]; simp)
    have hki' : Region.waitsFor md ops k i = false := by
      cases hw : Region.waitsFor md ops k i with
      | false => rfl
      | true => have := waitsFor_lt hB hkd hw; omega
    exact wpR_swap hok hoi hap (fun cs b => hsel k ok cs b hok) (fun cs b => hsel i oi cs b hoi) (by omega) hik hki' hC h1
/-- Behind the head the tail comes. -/
theorem wpAny_of_R {g : Nat} (hB : relH md ops hd = true) (htail : tailH md ops hd = true) (hC : ∀ w w', C w → Below w.heap.size w w' → C w') (hS : ∀ k o, ops[k]? = some o → pureO o = true → S k = none)
    (hfin : ∀ listed a E w, listed.size = ops.size → (∀ k, k < ops.size → listed.getD k true = hd k) → L E a → C w → (∀ j, E j w) → wpAny P md ops (NoPan Q) g listed a w) :
    ∀ (m : Nat) (rem : List Nat) (listed : Array Bool) (a : Act) (E : Nat → World → Prop) (w : World), rem.length = m → rem.Pairwise (· < ·) → listed.size = ops.size → (∀ k, k ∈ rem ↔ k < ops.size ∧ hd k = true ∧ listed.getD k true = false) → (∀ t, t < ops.size → hd t = false → listed.getD t true = false) → ClosedX md ops listed →
      C w → (∀ j, E j w) → (∀ j w w', Below w.heap.size w w' → E j w → E j w') → wpR P md ops Q C S L rem E a → wpAny P md ops (NoPan Q) (m + g) listed a w := by
  have hsel := Region.noSelect_spec (relH_sel hB)
  intro m
  induction m with
  | zero =>
    intro rem listed a E w hm _ hsz hrem htl _ hw hE _ h
    obtain rfl := List.eq_nil_of_length_eq_zero hm
    rw [Nat.zero_add]
    refine hfin listed a E w hsz (fun k hks => ?_) h hw hE
    cases hk : hd k with
    | false => exact htl k hks hk
    | true =>
      cases hh : listed.getD k true with
      | true => rfl
      | false => have := (hrem k).2 ⟨hks, hk, hh⟩; cases this
  | succ m ih =>
    intro rem listed a E w hm hp hsz hrem htl hcl hw hE hmono h
    rw [show m + 1 + g = (m + g) + 1 by omega]
    obtain ⟨k0, r0, rfl⟩ : ∃ k r, rem = k :: r := by
      cases rem with
      | nil => cases hm
      | cons k r => exact ⟨k, r, rfl⟩
    have hk0 := (hrem k0).1 (List.mem_cons_self ..)
    obtain ⟨ok, hok, hk1, _⟩ := relH_at hB hk0.2.1 hk0.1
    have hready : k0 ∈ Region.ready md ops listed := by
      refine mem_ready.2 ⟨hk0.2.2, ok, hok, fun e he hb => ?_⟩
      have hlt := hk1 e he hb
      cases hh : listed.getD e.on false with
      | true => rfl
      | false =>
        have hm' := (hrem e.on).2 ⟨by omega, hlt.2, getD_in (by omega) hh⟩
        rcases List.mem_cons.1 hm' with e' | hm'
        · omega
        · have := (List.pairwise_cons.1 hp).1 _ hm'
          omega
    -- the state behind an operation of the head
    have after : ∀ i l1 l2, i < ops.size → hd i = true → i ∈ Region.ready md ops listed → k0 :: r0 = l1 ++ i :: l2 → ∀ (a' : Act) (E' : Nat → World → Prop) (w' : World), C w' → (∀ j, E' j w') → (∀ j w w', Below w.heap.size w w' → E' j w → E' j w') → wpR P md ops Q C S L (l1 ++ l2) E' a' → wpAny P md ops (NoPan Q) (m + g) (listed.setIfInBounds i true) a' w' := by
      intro i l1 l2 his hin hi hsp a' E' w'
      rw [hsp] at hp hm
      have hlt1 : ∀ k ∈ l1, k < i := fun k hk => (List.pairwise_append.1 hp).2.2 k hk i (List.mem_cons_self ..)
      have hp' : (l1 ++ l2).Pairwise (· < ·) := hp.sublist (List.Sublist.append (List.Sublist.refl l1) (List.sublist_cons_self i l2))
      have hlen : (l1 ++ l2).length = m := by rw [List.length_append] at hm ⊢; rw [List.length_cons] at hm; omega
      have hnot : i ∉ l1 ++ l2 := fun hh => by
        rw [List.pairwise_append] at hp
        rcases List.mem_append.1 hh with hh | hh
        · exact absurd (hlt1 i hh) (Nat.lt_irrefl _)
        · exact absurd ((List.pairwise_cons.1 hp.2.1).1 i hh) (Nat.lt_irrefl _)
      have hrem' : ∀ k, k ∈ l1 ++ l2 ↔ k < ops.size ∧ hd k = true ∧ (listed.setIfInBounds i true).getD k true = false := fun k => by
        by_cases hki : k = i
        · subst hki
          refine ⟨fun hh => absurd hh hnot, fun hh => ?_⟩
          have hks : k < listed.size := by omega
          simp [hks] at hh
        · rw [getD_set_ne true (Ne.symm hki), ← hrem k, hsp]
          simp only [List.mem_append, List.mem_cons]
          constructor
          · rintro (hh | hh)
            · exact .inl hh
            · exact .inr (.inr hh)
          · rintro (hh | hh | hh)
            · exact .inl hh
            · exact absurd hh hki
            · exact .inr hh
      have htl' : ∀ t, t < ops.size → hd t = false → (listed.setIfInBounds i true).getD t true = false := fun t hts ht => by
        rw [getD_set_ne true (fun e => by rw [e, ht] at hin; cases hin)]; exact htl t hts ht
      exact ih (l1 ++ l2) (listed.setIfInBounds i true) a' E' w' hlen hp' (by simp; exact hsz) hrem' htl' (hcl.set hi)
    cases hpu : pureO ok with
    | true =>
      have h2 := h
      unfold wpR at h2
      rw [hok] at h2
      simp only at h2
      obtain ⟨v, hy, h3⟩ : ∃ v, Yields P ops ok v a ∧ wpR P md ops Q C S L r0 E (a.put ok.dst v) := by
        by_cases Wi : Region.wanted ok (yielded ops a.tmps) = true
        · rw [if_pos Wi, hS k0 ok hok hpu] at h2
          obtain ⟨v, hv, h2⟩ := h2
          exact ⟨v, .inl ⟨Wi, pureO_run hpu (hv w hw)⟩, h2⟩
        · rw [if_neg Wi] at h2
          exact ⟨undef, .inr ⟨by simpa using Wi, rfl⟩, h2⟩
      refine wpAny_first hok hsel (fun _ _ _ h => h) (m + g) listed a w (fun j oj hj hne hun hno => ?_) hready hy (after k0 [] r0 hk0.1 hk0.2.1 hready rfl _ E w hw hE hmono h3)
      have hjs : j < ops.size := (Array.getElem?_eq_some_iff.1 hj).1
      have hnw : Region.waitsFor md ops j k0 = false := by
        cases hw' : Region.waitsFor md ops j k0 with
        | false => rfl
        | true =>
          obtain ⟨o, ho, e, he, hb, heq⟩ := Region.waitsFor_spec hw'
          obtain rfl : o = oj := Option.some.inj (ho.symm.trans hj)
          exact absurd heq (hno e he hb)
      cases hdj : hd j with
      | true =>
        have hmem := (hrem j).2 ⟨hjs, hdj, hun⟩
        have hlt : k0 < j := by
          rcases List.mem_cons.1 hmem with e | hmem
          · exact absurd e hne
          · exact (List.pairwise_cons.1 hp).1 _ hmem
        obtain ⟨oj', hoj', _, hap⟩ := relH_at hB hdj hjs
        obtain rfl : oj' = oj := Option.some.inj (hoj'.symm.trans hj)
        obtain ⟨ok', hok', hap⟩ := hap k0 hlt hk0.2.1
        obtain rfl : ok' = ok := Option.some.inj (hok'.symm.trans hok)
        exact hap.resolve_left (by rw [hnw]; simp)
      | false =>
        exact ((tailH_at htail hdj hj hk0.2.1 hok).1 hpu).resolve_left (by rw [hnw]; simp)
    | false =>
      refine ⟨fun h0 => (by rw [h0] at hready; cases hready), fun i hi => ?_⟩
      have hun := (mem_ready.1 hi).1
      obtain ⟨_, oi, hoi, _⟩ := mem_ready.1 hi
      have his : i < ops.size := (Array.getElem?_eq_some_iff.1 hoi).1
      have hin : hd i = true := by
        cases hdi : hd i with
        | true => rfl
        | false =>
          exact absurd hi (trB_undone hcl hk0.2.2 8 i ((tailH_at htail hdi hoi hk0.2.1 hok).2 hpu)).2
      have hmem : i ∈ k0 :: r0 := (hrem i).2 ⟨his, hin, hun⟩
      obtain ⟨l1, l2, hsp⟩ := List.append_of_mem hmem
      have hlt1 : ∀ k ∈ l1, k < i ∧ hd k = true ∧ listed.getD k true = false := fun k hk => by
        have hpp := hp
        rw [hsp] at hpp
        have hm2 : k ∈ k0 :: r0 := by rw [hsp]; exact List.mem_append_left _ hk
        exact ⟨(List.pairwise_append.1 hpp).2.2 k hk i (List.mem_cons_self ..), ((hrem k).1 hm2).2⟩
      have h2 := h
      rw [hsp] at h2
      have h2 := wpR_front hB hi hin ⟨w, hw⟩ l1 l2 E a hlt1 h2
      have key := after i l1 l2 his hin hi hsp
      unfold wpR at h2
      rw [hoi] at h2
      simp only at h2
      unfold wpOp
      rw [hoi]
      simp only
      by_cases Wi : Region.wanted oi (yielded ops a.tmps) = true
      · rw [if_pos Wi] at h2 ⊢
        cases Si : S i with
        | none =>
          rw [Si] at h2
          obtain ⟨v, hv, h2⟩ := h2
          left
          unfold Oper.wp
          rw [hv w hw]
          exact key _ _ _ hw hE hmono h2
        | some s =>
          rw [Si] at h2
          obtain ⟨hs, h2⟩ := h2
          left
          refine Oper.wp_mono ?_ (hs w hw fun j _ => hE j)
          rintro a' w' ⟨x, rfl, hF, hb⟩
          refine key _ _ _ (hC _ _ hw hb) (fun j => ?_) (fun j w1 w2 hb' he => ?_) (h2 x)
          · unfold envS
            split
            · exact hF
            · exact hmono j _ _ hb (hE j)
          · unfold envS at he ⊢
            split
            · rename_i hj
              rw [if_pos hj] at he
              exact s.mono x _ _ hb' he
            · rename_i hj
              rw [if_neg hj] at he
              exact hmono j _ _ hb' he
      · rw [if_neg Wi] at h2 ⊢
        exact key _ _ _ hw hE hmono h2
end
/-- No pure operation among those with a specification. -/
def pureS (ops : Array Oper) (S : Nat → Option NSpec) : Prop := ∀ k o, ops[k]? = some o → pureO o = true → S k = none
def specs (l : List (Nat × NSpec)) (k : Nat) : Option NSpec := (l.find? fun x => x.1 == k).map (·.2)
def specsB (ops : Array Oper) (l : List Nat) : Bool := l.all fun k => match ops[k]? with
  | none => true
  | some o => !pureO o
theorem specs_pure {ops : Array Oper} {l : List (Nat × NSpec)} (h : specsB ops (l.map (·.1)) = true) : pureS ops (specs l) := by
  intro k o hk hp
  unfold specs
  cases hf : l.find? (fun x => x.1 == k) with
  | none => rfl
  | some x =>
    have h1 := List.find?_some hf
    have h2 := List.mem_of_find?_eq_some hf
    have h3 := List.all_eq_true.1 h x.1 (List.mem_map.2 ⟨x, h2, rfl⟩)
    have e : x.1 = k := by simpa using h1
    rw [e, hk] at h3
    simp only [hp] at h3
    cases h3
def relTailB (md : Region.Mode) (ops : Array Oper) (n : Nat) : Bool :=
  decide (n ≤ ops.size) && relH md ops (fun k => decide (k < n)) && tailH md ops (fun k => decide (k < n)) && Region.seqB md ops (ops.size - n) n (Array.replicate n true ++ Array.replicate (ops.size - n) false)
theorem wp_region_R {P : Program} {id : Nat} {Q : Exit → Act → World → Prop} {a : Act} {w : World} {l : List Oper} (n : Nat) (S : Nat → Option NSpec) (hm : P.follows .mixedOrders = true) (hB : relTailB .any l.toArray n = true) (hS : pureS l.toArray S)
    (h : wpR P .any l.toArray Q (fun w' => ∃ u, w' = ov w u) S (fun E a' => ∀ w', Below w.heap.size w w' → (∀ j, E j w') → wpList P l.toArray (NoPan Q) (l.drop n) a' w') (List.range n) (fun _ _ => True) a) : (Code.region id l.toArray true).wp P Q a w := by
  simp only [relTailB, Bool.and_eq_true, decide_eq_true_eq] at hB
  obtain ⟨⟨⟨hn, hR⟩, htl⟩, hseq⟩ := hB
  refine Code.wp_mono NoPan.imp (wp_region_any hm ?_)
  have hdl : (l.drop n).length = l.toArray.size - n := by simp
  have := wpAny_of_R (P := P) (Q := Q) (md := .any) (C := fun w' => ∃ u, w' = ov w u) (S := S) (g := (l.drop n).length) hR htl (fun w1 w2 ⟨u, hu⟩ hb => by
      subst hu
      exact ⟨w2, ov_of ((ov_below w u).trans (hb.mono (ov_below w u).size))⟩) hS
    (L := fun E a' => ∀ w', Below w.heap.size w w' → (∀ j, E j w') → wpList P l.toArray (NoPan Q) (l.drop n) a' w')
    (fun listed a' E w' hsz hall hL ⟨u, hu⟩ hE => by
      have hT : listed = Array.replicate n true ++ Array.replicate (l.toArray.size - n) false := by
        apply Array.ext_getElem?
        intro j
        rw [Array.getElem?_append, Array.size_replicate]
        by_cases hjs : j < l.toArray.size
        · have hjl : j < listed.size := by omega
          have h1 := hall j hjs
          rw [Array.getD_eq_getD_getElem?, Array.getElem?_eq_getElem hjl, Option.getD_some] at h1
          rw [Array.getElem?_eq_getElem hjl, h1]
          by_cases hj : j < n
          · rw [if_pos hj, Array.getElem?_replicate, if_pos hj, decide_eq_true hj]
          · rw [if_neg hj, Array.getElem?_replicate, if_pos (by omega), decide_eq_false hj]
        · rw [Array.getElem?_eq_none (by omega), if_neg (by omega), Array.getElem?_replicate, if_neg (by omega)]
      rw [hT]
      refine wpAny_of_seq (l.drop n) n _ a' w' (fun j => by simp [List.getElem?_drop]) (by rw [hdl]; exact hseq) ?_
      subst hu
      exact hL _ (ov_below w u) hE)
    n (List.range n) (Array.replicate l.toArray.size false) a (fun _ _ => True) w.drew (by simp) List.pairwise_lt_range (by simp) (fun k => by
      rw [List.mem_range, decide_eq_true_eq]
      refine ⟨fun hk => ⟨by omega, hk, getD_in (by rw [Array.size_replicate]; omega) (getD_replicate_false _ _)⟩, fun hk => hk.2.1⟩)
    (fun t hts _ => getD_in (by rw [Array.size_replicate]; exact hts) (getD_replicate_false _ _)) (fun j oj _ hl => (by rw [getD_replicate_false] at hl; cases hl))
    ⟨w.drew, ov_of ((Below.refl _ _).drew)⟩ (fun _ => trivial) (fun _ _ _ _ _ => trivial) h
  rw [hdl, show n + (l.toArray.size - n) = l.toArray.size by omega] at this
  exact this
/-- One operation (a store) comes behind all that hangs on the world; what hangs on none may come behind it. -/
def relStB (md : Region.Mode) (ops : Array Oper) (t : Nat) : Bool :=
  decide (t < ops.size) && relH md ops (fun k => !(k == t)) && tailH md ops (fun k => !(k == t)) && decide (Region.ready md ops ((Array.replicate ops.size true).setIfInBounds t false) = [t]) && (Region.ready md ops (Array.replicate ops.size true)).isEmpty
theorem wp_region_RS {P : Program} {id : Nat} {Q : Exit → Act → World → Prop} {a : Act} {w : World} {l : List Oper} (t : Nat) (S : Nat → Option NSpec) {ot : Oper} (hot : l[t]? = some ot) (hm : P.follows .mixedOrders = true) (hB : relStB .any l.toArray t = true) (hS : pureS l.toArray S)
    (h : wpR P .any l.toArray Q (fun w' => ∃ u, w' = ov w u) S (fun E a' => ∀ w', Below w.heap.size w w' → (∀ j, E j w') → wpList P l.toArray (NoPan Q) [ot] a' w') (List.range' 0 t ++ List.range' (t + 1) (l.length - (t + 1))) (fun _ _ => True) a) : (Code.region id l.toArray true).wp P Q a w := by
  simp only [relStB, Bool.and_eq_true, decide_eq_true_eq] at hB
  obtain ⟨⟨⟨⟨hn, hR⟩, htl⟩, hr1⟩, hr2⟩ := hB
  have hl : l.toArray.size = l.length := by simp
  have hnl : t < l.length := by omega
  refine Code.wp_mono NoPan.imp (wp_region_any hm ?_)
  have hot' : l.toArray[t]? = some ot := by simpa using hot
  have := wpAny_of_R (P := P) (Q := Q) (md := .any) (C := fun w' => ∃ u, w' = ov w u) (S := S) (g := 1) hR htl (fun w1 w2 ⟨u, hu⟩ hb => by
      subst hu
      exact ⟨w2, ov_of ((ov_below w u).trans (hb.mono (ov_below w u).size))⟩) hS
    (L := fun E a' => ∀ w', Below w.heap.size w w' → (∀ j, E j w') → wpList P l.toArray (NoPan Q) [ot] a' w')
    (fun listed a' E w' hsz hall hL ⟨u, hu⟩ hE => by
      have hT : listed = (Array.replicate l.toArray.size true).setIfInBounds t false := by
        apply Array.ext_getElem?
        intro j
        rw [Array.getElem?_setIfInBounds, Array.size_replicate, Array.getElem?_replicate]
        by_cases hjs : j < l.toArray.size
        · have hjl : j < listed.size := by omega
          have h1 := hall j hjs
          rw [Array.getD_eq_getD_getElem?, Array.getElem?_eq_getElem hjl, Option.getD_some] at h1
          rw [Array.getElem?_eq_getElem hjl, h1]
          by_cases hj : t = j
          · subst hj; simp [hnl]
          · rw [if_neg hj, if_pos hjs]
            have : (j == t) = false := by simpa using fun e => hj e.symm
            rw [this]; rfl
        · rw [Array.getElem?_eq_none (by omega), if_neg (by omega), if_neg hjs]
      subst hu
      have h1 := hL _ (ov_below w u) hE
      have hT2 : listed.setIfInBounds t true = Array.replicate l.toArray.size true := by
        rw [hT]
        apply Array.ext_getElem?
        intro j
        rw [Array.getElem?_setIfInBounds, Array.getElem?_setIfInBounds, Array.size_setIfInBounds, Array.size_replicate, Array.getElem?_replicate]
        by_cases hj : t = j
        · subst hj; simp [hnl]
        · rw [if_neg hj, if_neg hj]
      rw [hT] at hT2 ⊢
      refine ⟨fun h0 => (by rw [hr1] at h0; cases h0), fun i hi => ?_⟩
      rw [hr1] at hi
      obtain rfl : i = t := by simpa using hi
      unfold wpOp
      rw [hot']
      simp only
      have fin : ∀ a'' w'', NoPan Q .normal a'' w'' → wpAny P .any l.toArray (NoPan Q) 0 (((Array.replicate l.toArray.size true).setIfInBounds i false).setIfInBounds i true) a'' w'' := fun a'' w'' hq => by
        rw [hT2]
        exact ⟨by simpa using hr2, hq⟩
      unfold wpList at h1
      split
      · rename_i hw
        rw [if_pos hw] at h1
        exact h1.imp (Oper.wp_mono fun a'' w'' hq => fin a'' w'' hq) (fun x => x)
      · rename_i hw
        rw [if_neg hw] at h1
        exact fin _ _ h1)
    (l.length - 1) (List.range' 0 t ++ List.range' (t + 1) (l.length - (t + 1))) (Array.replicate l.toArray.size false) a (fun _ _ => True) w.drew (by simp; omega)
    (by
      rw [List.pairwise_append]
      refine ⟨List.pairwise_lt_range', List.pairwise_lt_range', fun x hx y hy => ?_⟩
      rw [List.mem_range'_1] at hx hy
      omega) (by simp) (fun k => by
      rw [List.mem_append, List.mem_range'_1, List.mem_range'_1]
      have e : (!(k == t)) = true ↔ k ≠ t := by simp
      rw [e]
      constructor
      · intro hk
        have hks : k < l.toArray.size := by omega
        exact ⟨hks, by omega, getD_in (by rw [Array.size_replicate]; exact hks) (getD_replicate_false _ _)⟩
      · intro hk
        omega)
    (fun t hts _ => getD_in (by rw [Array.size_replicate]; exact hts) (getD_replicate_false _ _)) (fun j oj _ hl => (by rw [getD_replicate_false] at hl; cases hl))
    ⟨w.drew, ov_of ((Below.refl _ _).drew)⟩ (fun _ => trivial) (fun _ _ _ _ _ => trivial) h
  rw [show l.length - 1 + 1 = l.toArray.size by omega] at this
  exact this
/-! ### The walk over the operations themselves -/
def rOp (o : Oper) : Bool := match o.op with
  | .move _ | .load .. | .binOp .. | .unOp .. | .convert .. | .fieldAddr .. | .field .. | .indexAddr .. | .index .. | .build .. | .slice .. | .extract .. | .assign .. | .pick .. => true
  | _ => false
theorem rOp_run {P : Program} {o : Oper} (h : rOp o = true) (ρ : Operand → Value) : ∃ s : Sem Value, ∀ w, (execOp ρ o).run P w = (s.run P w).andThen fun v w' => .ok (.value v) w' := by
  unfold rOp at h
  have hv : ∀ s : Sem Value, ∀ w, (do let x ← s; pure (Next.value x) : Sem Next).run P w = (s.run P w).andThen fun v w' => .ok (.value v) w' := fun s w => by
    simp only [Sem.run_bind, Sem.run_pure]
  unfold execOp
  cases ho : o.op <;> rw [ho] at h <;> first | (exact ⟨_, fun w => hv _ w⟩) | (cases h; done) | skip
  rotate_right
  · rename_i c x y
    refine ⟨do let b ← asBool (ρ c); pure (if b = true then ρ x else ρ y), fun w => ?_⟩
    simp only [Sem.run_bind, Sem.run_pure]
    cases (asBool (ρ c)).run P w <;> rfl
  all_goals first | (exact ⟨pure _, fun w => rfl⟩) | (simp only [Sem.run_pure]; exact ⟨pure _, fun w => by simp only [Sem.run_pure, Result.andThen_ok]⟩)
section
variable {P : Program} {ops : Array Oper} {Q : Exit → Act → World → Prop} {md : Region.Mode} {C : World → Prop} {S : Nat → Option NSpec} {L : (Nat → World → Prop) → Act → Prop}
theorem run_of_quiet {o : Oper} {v : Value} {a : Act} (ho : rOp o = true) (h : ∀ w, C w → o.quietAt P a C w v) : ∀ w, C w → (execOp a.eval o).run P w = .ok (.value v) w := fun w hw => by
  have h1 := h w hw
  unfold Oper.quietAt at h1
  obtain ⟨s, hs⟩ := rOp_run (P := P) ho a.eval
  rw [hs w] at h1 ⊢
  cases hr : s.run P w with
  | ok x w' =>
    rw [hr] at h1
    obtain ⟨e1, e2⟩ : w' = w ∧ x = v := h1
    rw [e1, e2]; rfl
  | halt x w' =>
    rw [hr] at h1
    exact (h1 : False).elim
def wpRL (P : Program) (md : Region.Mode) (ops : Array Oper) (Q : Exit → Act → World → Prop) (C : World → Prop) (S : Nat → Option NSpec) (L : (Nat → World → Prop) → Act → Prop) (l : List Oper) (k : Nat) (E : Nat → World → Prop) (a : Act) : Prop :=
  (∀ j, j < l.length → l[j]? = ops[k + j]?) → wpR P md ops Q C S L (List.range' k l.length) E a
theorem wpRL_nil {k : Nat} {E : Nat → World → Prop} {a : Act} (h : L E a) : wpRL P md ops Q C S L [] k E a := fun _ => h
theorem wpRL_chunk (m : Nat) {l : List Oper} {k : Nat} {E : Nat → World → Prop} {a : Act} (hB : ((l.take m).all rOp && (List.range' k m).all fun i => (S i).isNone) = true)
    (h : wpQuiet P ops C (fun a' => wpRL P md ops Q C S L (l.drop m) (k + m) E a') (l.take m) a) : wpRL P md ops Q C S L l k E a := by
  induction m generalizing l k a with
  | zero =>
    have h' : wpRL P md ops Q C S L (l.drop 0) (k + 0) E a := h
    simpa using h'
  | succ m ih =>
    cases l with
    | nil =>
      intro _
      have h' : wpRL P md ops Q C S L [] (k + (m + 1)) E a := h
      exact h' (fun j hj => absurd hj (by simp))
    | cons o r =>
      intro hl
      simp only [List.take_succ_cons, List.all_cons, Bool.and_eq_true, List.range'_succ, List.drop_succ_cons] at hB h
      obtain ⟨⟨ho, hr⟩, hk, hS⟩ := hB
      have h0 : ops[k]? = some o := by simpa using (hl 0 (by simp)).symm
      have hSk : S k = none := by simpa using hk
      rw [List.length_cons, List.range'_succ]
      have hl' : ∀ j, j < r.length → r[j]? = ops[k + 1 + j]? := fun j hj => by
        have := hl (j + 1) (by simp; omega)
        simpa [Nat.add_assoc, Nat.add_comm 1 j] using this
      have go : ∀ a', wpQuiet P ops C (fun a' => wpRL P md ops Q C S L (r.drop m) (k + (m + 1)) E a') (r.take m) a' → wpR P md ops Q C S L (List.range' (k + 1) r.length) E a' := fun a' h' =>
        ih (by simp only [Bool.and_eq_true]; exact ⟨hr, hS⟩) (by rw [show k + 1 + m = k + (m + 1) by omega]; exact h') hl'
      unfold wpR
      rw [h0]
      simp only
      unfold wpQuiet at h
      by_cases hw : Region.wanted o (yielded ops a.tmps) = true
      · rw [if_pos hw] at h ⊢
        rw [hSk]
        obtain ⟨v, hv, hK⟩ := h
        exact ⟨v, run_of_quiet ho hv, go _ hK⟩
      · rw [if_neg hw] at h ⊢
        exact go _ h
theorem wpRL_skip {o : Oper} {r : List Oper} {k : Nat} {E : Nat → World → Prop} {a : Act} (hw : Region.wanted o (yielded ops a.tmps) = false) (h : wpRL P md ops Q C S L r (k + 1) E (a.put o.dst undef)) : wpRL P md ops Q C S L (o :: r) k E a := by
  intro hl
  have h0 : ops[k]? = some o := by simpa using (hl 0 (by simp)).symm
  rw [List.length_cons, List.range'_succ]
  unfold wpR
  rw [h0]
  simp only
  rw [if_neg (by rw [hw]; decide)]
  exact h fun j hj => by
    have := hl (j + 1) (by simp; omega)
    simpa [Nat.add_assoc, Nat.add_comm 1 j] using this
theorem wpRL_call {o : Oper} {r : List Oper} {k : Nat} {E : Nat → World → Prop} {a : Act} {s : NSpec} (hS : S k = some s) (hw : Region.wanted o (yielded ops a.tmps) = true)
    (hstep : ∀ w, C w → (∀ j, Region.waitsFor md ops k j = true → E j w) → ∀ K : Act → World → Prop, (∀ x w', s.F x w' → Below w.heap.size w w' → K (a.put o.dst (s.f x)) w') → o.wp P a w K (NoPan Q))
    (h : ∀ x, wpRL P md ops Q C S L r (k + 1) (envS E k (s.F x)) (a.put o.dst (s.f x))) : wpRL P md ops Q C S L (o :: r) k E a := by
  intro hl
  have h0 : ops[k]? = some o := by simpa using (hl 0 (by simp)).symm
  rw [List.length_cons, List.range'_succ]
  unfold wpR
  rw [h0]
  simp only
  rw [if_pos hw, hS]
  refine ⟨stepR_of hstep, fun x => h x fun j hj => ?_⟩
  have := hl (j + 1) (by simp; omega)
  simpa [Nat.add_assoc, Nat.add_comm 1 j] using this
end
theorem wpRL_callB {P : Program} {ops : Array Oper} {Q : Exit → Act → World → Prop} {md : Region.Mode} {w0 : World} {S : Nat → Option NSpec} {L : (Nat → World → Prop) → Act → Prop} {o : Oper} {r : List Oper} {k : Nat} {E : Nat → World → Prop} {a : Act} {s : NSpec} (hS : S k = some s) (hw : Region.wanted o (yielded ops a.tmps) = true)
    (hstep : ∀ w, Below w0.heap.size w0 w → (∀ j, Region.waitsFor md ops k j = true → E j w) → ∀ K : Act → World → Prop, (∀ x w', s.F x w' → Below w.heap.size w w' → K (a.put o.dst (s.f x)) w') → o.wp P a w K (NoPan Q))
    (h : ∀ x, wpRL P md ops Q (fun w' => ∃ u, w' = ov w0 u) S L r (k + 1) (envS E k (s.F x)) (a.put o.dst (s.f x))) : wpRL P md ops Q (fun w' => ∃ u, w' = ov w0 u) S L (o :: r) k E a :=
  wpRL_call hS hw (fun w ⟨u, hu⟩ hE => hstep w (by rw [hu]; exact ov_below _ _) hE) h
def detS (v : Value) : NSpec := ⟨Unit, ⟨()⟩, fun _ => v, fun _ _ => True, fun _ _ _ _ h => h⟩
theorem wp_region_RL {P : Program} {id : Nat} {Q : Exit → Act → World → Prop} {a : Act} {w : World} {l : List Oper} (n : Nat) (S : List (Nat × NSpec)) (hm : P.follows .mixedOrders = true) (hB : relTailB .any l.toArray n = true) (hS : specsB l.toArray (S.map (·.1)) = true)
    (h : wpRL P .any l.toArray Q (fun w' => ∃ u, w' = ov w u) (specs S) (fun E a' => ∀ w', Below w.heap.size w w' → (∀ j, E j w') → wpList P l.toArray (NoPan Q) (l.drop n) a' w') (l.take n) 0 (fun _ _ => True) a) : (Code.region id l.toArray true).wp P Q a w := by
  have hn : n ≤ l.length := by
    have hB' := hB
    simp only [relTailB, Bool.and_eq_true, decide_eq_true_eq] at hB'
    simpa using hB'.1.1.1
  have hlen : (l.take n).length = n := by simp; omega
  have h' := h fun j hj => by
    rw [hlen] at hj
    simp [hj]
  rw [hlen, ← List.range_eq_range'] at h'
  exact wp_region_R n (specs S) hm hB (specs_pure hS) h'
theorem wpR_append {P : Program} {ops : Array Oper} {Q : Exit → Act → World → Prop} {md : Region.Mode} {C : World → Prop} {S : Nat → Option NSpec} {L : (Nat → World → Prop) → Act → Prop} (l2 : List Nat) : ∀ (l1 : List Nat) (E : Nat → World → Prop) (a : Act), wpR P md ops Q C S (fun E a => wpR P md ops Q C S L l2 E a) l1 E a → wpR P md ops Q C S L (l1 ++ l2) E a
  | [], _, _, h => h
  | k :: r, E, a, h => by
    rw [List.cons_append]
    unfold wpR at h ⊢
    cases hk : ops[k]? with
    | none => rw [hk] at h; exact h
    | some o =>
      rw [hk] at h
      simp only at h ⊢
      split
      · rename_i hw
        rw [if_pos hw] at h
        cases hS : S k with
        | none => rw [hS] at h; obtain ⟨v, h1, h2⟩ := h; exact ⟨v, h1, wpR_append l2 r _ _ h2⟩
        | some s => rw [hS] at h; exact ⟨h.1, fun x => wpR_append l2 r _ _ (h.2 x)⟩
      · rename_i hw
        rw [if_neg hw] at h
        exact wpR_append l2 r _ _ h
/-- As wp_region_RL, the operation number t (a store) put last. -/
theorem wp_region_RLS {P : Program} {id : Nat} {Q : Exit → Act → World → Prop} {a : Act} {w : World} {l : List Oper} (t : Nat) (S : List (Nat × NSpec)) {ot : Oper} (hot : l[t]? = some ot) (hm : P.follows .mixedOrders = true) (hB : relStB .any l.toArray t = true) (hS : specsB l.toArray (S.map (·.1)) = true)
    (h : wpRL P .any l.toArray Q (fun w' => ∃ u, w' = ov w u) (specs S) (fun E a' => wpRL P .any l.toArray Q (fun w' => ∃ u, w' = ov w u) (specs S) (fun E a' => ∀ w', Below w.heap.size w w' → (∀ j, E j w') → wpList P l.toArray (NoPan Q) [ot] a' w') (l.drop (t + 1)) (t + 1) E a') (l.take t) 0 (fun _ _ => True) a) : (Code.region id l.toArray true).wp P Q a w := by
  have hn : t < l.length := by
    have hB' := hB
    simp only [relStB, Bool.and_eq_true, decide_eq_true_eq] at hB'
    simpa using hB'.1.1.1.1
  refine wp_region_RS t (specs S) hot hm hB (specs_pure hS) (wpR_append _ _ _ _ ?_)
  have hlen : (l.take t).length = t := by simp; omega
  have h' := h fun j hj => by
    rw [hlen] at hj
    simp [hj]
  rw [hlen] at h'
  have mono : ∀ (ks : List Nat) (E : Nat → World → Prop) (a : Act) (L L' : (Nat → World → Prop) → Act → Prop), (∀ E a, L E a → L' E a) → wpR P .any l.toArray Q (fun w' => ∃ u, w' = ov w u) (specs S) L ks E a → wpR P .any l.toArray Q (fun w' => ∃ u, w' = ov w u) (specs S) L' ks E a := by
    intro ks
    induction ks with
    | nil => intro E a L L' hL h; exact hL _ _ h
    | cons k r ih =>
      intro E a L L' hL h
      unfold wpR at h ⊢
      cases hk : l.toArray[k]? with
      | none => rw [hk] at h; exact h
      | some o =>
        rw [hk] at h
        simp only at h ⊢
        split
        · rename_i hw
          rw [if_pos hw] at h
          cases hS : specs S k with
          | none => rw [hS] at h; obtain ⟨v, h1, h2⟩ := h; exact ⟨v, h1, ih _ _ _ _ hL h2⟩
          | some s => rw [hS] at h; exact ⟨h.1, fun x => ih _ _ _ _ hL (h.2 x)⟩
        · rename_i hw
          rw [if_neg hw] at h
          exact ih _ _ _ _ hL h
  refine mono _ _ _ _ _ (fun E a hh => ?_) h'
  have h2 := hh fun j hj => by simp
  rw [List.length_drop] at h2
  exact h2
/-! ### A call, its act left as it is -/
theorem wp_callF {P : Program} {g : FuncId} {xs : Array Operand} {ats : Array TypeId} {o : Oper} {a : Act} {w : World} {K : Act → World → Prop} {Q : Exit → Act → World → Prop} {vals : Array Value} (ho : o.op = .call { callee := .value (.func g), args := xs, argTypes := ats }) (eg : Go.Proofs.Enters P g) (hv : xs.map a.eval = vals)
    (h : Calls P g vals w fun e w' => ∃ v, e = .returned v ∧ K (a.put o.dst v) w') : o.wp P a w K Q := by
  subst hv
  obtain ⟨dst, op, ty, pos, after, guard⟩ := o
  simp only at ho
  subst ho
  unfold Oper.wp
  rw [execOp_call_go, show (#[] ++ xs.map a.eval ++ #[] : Array Value) = xs.map a.eval by simp, eg]
  exact Calls.mono h fun e w' ⟨v, he, hk⟩ => by subst he; exact hk
theorem wp_lenS {P : Program} {x : Operand} {t e : TypeId} {o : Oper} {a : Act} {w : World} {K : Act → World → Prop} {Q : Exit → Act → World → Prop} {ad : Option Addr} {n c : Nat} (ho : o.op = .call { callee := .builtin .len, args := #[x], argTypes := #[t] }) (ht : P.underlying t = some (.slice e)) (hx : a.eval x = .slice ad n c)
    (h : K (a.put o.dst (.int .i64 n)) w) : o.wp P a w K Q := by
  obtain ⟨dst, op, ty, pos, after, guard⟩ := o
  simp only at ho
  subst ho
  unfold Oper.wp
  have hu := run_underlying ht w
  have key : ∀ ρ : Operand → Value, ρ x = .slice ad n c → (execOp ρ { dst, op := .call { callee := .builtin .len, args := #[x], argTypes := #[t] }, type := ty, pos, after, guard : Oper }).run P w = .ok (.value (.int .i64 n)) w := fun ρ hρ => by
    have hl : (Builtin.len_ #[t] ty #[.slice ad n c]).run P w = .ok (goInt n) w := by simp [Builtin.len_, hu]
    simp [go_sem, hρ, hl]
  have := key a.eval hx
  rw [this]
  exact h
/-! ### A region in the order of its text, operation by operation -/
section
variable {P : Program} {ops : Array Oper} {Q : Exit → Act → World → Prop} {w : World}
theorem wpList_chunk (m : Nat) {l : List Oper} {a : Act} (hB : (l.take m).all rOp = true)
    (h : wpQuiet P ops (fun w' => ∃ u, w' = ov w u) (fun a' => wpList P ops Q (l.drop m) a' w) (l.take m) a) : wpList P ops Q l a w := by
  induction m generalizing l a with
  | zero => exact h
  | succ m ih =>
    cases l with
    | nil => exact h
    | cons o r =>
      simp only [List.take_succ_cons, List.all_cons, Bool.and_eq_true, List.drop_succ_cons] at hB h
      unfold wpQuiet at h
      unfold wpList
      by_cases hw : Region.wanted o (yielded ops a.tmps) = true
      · rw [if_pos hw] at h ⊢
        obtain ⟨v, hv, hK⟩ := h
        left
        unfold Oper.wp
        rw [run_of_quiet hB.1 hv w ⟨w, ov_of (Below.refl _ _)⟩]
        exact ih hB.2 hK
      · rw [if_neg hw] at h ⊢
        exact ih hB.2 h
theorem wpList_callF {g : FuncId} {xs : Array Operand} {ats : Array TypeId} {o : Oper} {r : List Oper} {a : Act} {vals : Array Value} (hw : Region.wanted o (yielded ops a.tmps) = true) (ho : o.op = .call { callee := .value (.func g), args := xs, argTypes := ats }) (eg : Go.Proofs.Enters P g) (hv : xs.map a.eval = vals)
    (h : Calls P g vals w fun e w' => ∃ v, e = .returned v ∧ wpList P ops Q r (a.put o.dst v) w') : wpList P ops Q (o :: r) a w := by
  unfold wpList
  rw [if_pos hw]
  exact .inl (wp_callF ho eg hv h)
theorem wpList_lenS {x : Operand} {t e : TypeId} {o : Oper} {r : List Oper} {a : Act} {ad : Option Addr} {n c : Nat} (hw : Region.wanted o (yielded ops a.tmps) = true) (ho : o.op = .call { callee := .builtin .len, args := #[x], argTypes := #[t] }) (ht : P.underlying t = some (.slice e)) (hx : a.eval x = .slice ad n c)
    (h : wpList P ops Q r (a.put o.dst (.int .i64 n)) w) : wpList P ops Q (o :: r) a w := by
  unfold wpList
  rw [if_pos hw]
  exact .inl (wp_lenS ho ht hx h)
theorem wpList_skip {o : Oper} {r : List Oper} {a : Act} (hw : Region.wanted o (yielded ops a.tmps) = false) (h : wpList P ops Q r (a.put o.dst undef) w) : wpList P ops Q (o :: r) a w := by
  unfold wpList
  rw [if_neg (by rw [hw]; decide)]
  exact h
end
end Go.Proofs.Ytppccnjckiedlaa
/- Specifications of values that are rasters, for regions that draw their order; the full raster's validity. -/
namespace Go.Proofs.Ytppccnjckiedlaa
open Go.RowKit Go.Shelf Pl
set_option linter.unusedVariables false
set_option linter.unusedSimpArgs false
set_option maxRecDepth 20000

def rasS (L : List TA) : NSpec := ⟨Option Addr × Nat, ⟨(none, 0)⟩, fun x => .agg #[.slice x.1 L.length x.2], fun x w => RS (.slice x.1 L.length x.2) L w, fun _ _ _ hb h => h.below hb⟩
def tupS (L : List TA) (n : Int) : NSpec := ⟨Option Addr × Nat, ⟨(none, 0)⟩, fun x => .tuple #[.agg #[.slice x.1 L.length x.2], .int .i64 n], fun x w => RS (.slice x.1 L.length x.2) L w, fun _ _ _ hb h => h.below hb⟩
def gotS (L : List TA) (n : Int) : NSpec := ⟨Option Addr × Nat, ⟨(none, 0)⟩, fun x => .agg #[.slice x.1 L.length x.2, .int .i64 n], fun x w => RS (.slice x.1 L.length x.2) L w, fun _ _ _ hb h => h.below hb⟩
def ptrS (n : Nat) (t : TypeId) (cs : Array Value) : NSpec := ⟨Nat, ⟨0⟩, fun b => .pointer (some ⟨b, 0, none⟩), fun b w => n ≤ b ∧ AtB t w b cs, fun _ _ _ hb h => ⟨h.1, h.2.of_eq (hb.block _ h.2.lt)⟩⟩
theorem L_ofO (q : RawQ) (vL vT : Value) (L T : List Int) (w : World) (hL : RSE inE vL L w) (hLn : L.length ≤ 17592186044416) (hT : RSE inE vT T w) (hTn : T.length ≤ 17592186044416) :
    Calls Try.prog 15 #[.agg #[vL, .int .i64 q.at_, .int .i64 q.px, .int .i64 q.py, vT, .int .i64 q.how]] w fun e w' => ∃ a c, e = .returned (.agg #[.slice a (ofL q L T).length c]) ∧ RS (.slice a (ofL q L T).length c) (ofL q L T) w' ∧ Below w.heap.size w w' :=
  (L_of q vL vT L T w hL hLn hT hTn).mono fun e w' ⟨v', he, hr, hb⟩ => by
    obtain ⟨a, c, rfl, _⟩ := hr.len
    exact ⟨a, c, he, hr, hb⟩
theorem len_maxLen {n : Nat} (h : n ≤ 2000) : n ≤ maxLen := by unfold maxLen; omega
theorem aT_map (f : Nat → TA) (n i : Nat) (h : i < n) : aT ((List.range n).map f) i = f i := by
  unfold aT
  rw [List.getD_eq_getElem?_getD, List.getElem?_map, List.getElem?_range h]
  rfl
theorem fullL_valid (n : Nat) : validL (fullL n) = decide ((n : Int) ≤ 1024) := by
  by_cases h : n ≤ 1024
  · rw [decide_eq_true (by omega)]
    refine validL_yes (by rw [fullL_len]; exact h) fun j hj => ?_
    rw [fullL_len] at hj
    have e : aT (fullL n) j = fullA j := aT_map fullA n j hj
    have hg : goodA (fullA j) = true := by
      refine (goodA_iff _).2 ⟨decide_eq_true ?_, ?_, eqT_true fun i hi => rfl⟩
      · show -8192 ≤ (j : Int) % 40 ∧ (j : Int) % 40 ≤ 8191 ∧ -8192 ≤ (j : Int) / 40 ∧ (j : Int) / 40 ≤ 8191
        omega
      · rw [← Bool.not_eq_true, zeroB_iff]
        intro hz
        have : (255 : Int) = 0 := hz 0 (by omega)
        omega
    unfold stepA
    rw [e, hg]
    by_cases h0 : j = 0
    · rw [decide_eq_true h0]; rfl
    · rw [decide_eq_false h0]
      have e' : aT (fullL n) (j - 1) = fullA (j - 1) := aT_map fullA n (j - 1) (by omega)
      rw [e']
      show beforeA (fullA (j - 1)) (fullA j) = true
      unfold beforeA lessB fullA
      simp only
      refine decide_eq_true ?_
      have : ((j - 1 : Nat) : Int) = (j : Int) - 1 := by omega
      rw [this]
      omega
  · rw [decide_eq_false (by omega)]
    exact validL_big (by rw [fullL_len]; omega)
theorem fullL_tok (n : Nat) : TokL (fullL n) := by
  intro e he
  unfold fullL at he
  obtain ⟨i, _, rfl⟩ := List.mem_map.1 he
  intro k _
  show (Px.mk ((i : Int) % 256) 0 0 255).ok
  unfold Px.ok
  simp only
  omega
/-! ### The contracts at lists that are known to be valid; results told by another word -/
theorem P_ValidB (v : Value) (ls : List TA) (r : Bool) (w : World) (h : RS v ls w) (tk : TokL ls) (hn : ls.length ≤ maxLen) (e : validL ls = r) : Calls Try.prog 16 #[.agg #[v]] w fun e w' => e = .returned (.bool r) ∧ Below w.heap.size w w' := e ▸ P_Valid v ls w h tk hn
theorem P_CropV (v : Value) (ls ks : List TA) (cc : Rc) (w : World) (h : RS v ls w) (tk : TokL ls) (hn : ls.length ≤ maxLen) (hv : validL ls = true) (e : cropL cc ls = ks) : Calls Try.prog 40 #[.agg #[v], Rc.v cc] w fun e w' => ∃ v', e = .returned (.agg #[v']) ∧ RS v' ks w' ∧ Below w.heap.size w w' := by
  have := P_CropR v ls cc w h tk hn
  rw [fineL_of hv, e] at this
  exact this
theorem P_BoundsV (v : Value) (ls : List TA) (w : World) (h : RS v ls w) (tk : TokL ls) (hn : ls.length ≤ maxLen) (hv : validL ls = true) : Calls Try.prog 38 #[.agg #[v]] w fun e w' => e = .returned (Rc.v (boundL ls)) ∧ Below w.heap.size w w' := by
  have := P_BoundsR v ls w h tk hn
  rw [fineL_of hv] at this
  exact this
theorem R_BoundsV (v : Value) (ls : List TA) (w : World) (h : RS v ls w) (tk : TokL ls) (hn : ls.length ≤ maxLen) (hv : validL ls = true) : Calls Try.prog 41 #[.agg #[v]] w fun e w' => e = .returned (Rc.v (boundL ls)) ∧ Below w.heap.size w w' := by
  have := R_BoundsR v ls w h tk hn
  rw [fineL_of hv] at this
  exact this
theorem P_EqualS (v u : Value) (ls : List TA) (w : World) (h : RS v ls w) (h' : RS u ls w) (tk : TokL ls) (hn : ls.length ≤ maxLen) : Calls Try.prog 44 #[.agg #[v], .agg #[u]] w fun e w' => e = .returned (.bool true) ∧ Below w.heap.size w w' := by
  have := P_Equal v u ls ls w h h' tk tk hn hn
  rw [eqL_refl] at this
  exact this
theorem R_EqualS (v u : Value) (ls : List TA) (w : World) (h : RS v ls w) (h' : RS u ls w) (tk : TokL ls) (hn : ls.length ≤ maxLen) : Calls Try.prog 30 #[.agg #[v], .agg #[u]] w fun e w' => e = .returned (.bool true) ∧ Below w.heap.size w w' := by
  have := R_Equal v u ls ls w h h' tk tk hn hn
  rw [eqL_refl] at this
  exact this
theorem eqls_px (p : Px) (w : World) : (binOp .eql 37 (Px.v p) (Px.v p)).run Try.prog w = .ok (.bool true) w := by rw [eql_px, decide_eq_true rfl]
theorem eqls_tile (f : Nat → Px) (w : World) : (binOp .eql 40 (Tile.v f) (Tile.v f)).run Try.prog w = .ok (.bool true) w := by rw [eql_tile, eqT_refl]
end Go.Proofs.Ytppccnjckiedlaa
/- Contract of gouacheref08.Near. -/
namespace Go.Proofs.Ytppccnjckiedlaa
open Go.RowKit Go.Shelf Pl
set_option linter.unusedVariables false
set_option linter.unusedSimpArgs false
set_option maxRecDepth 20000
def nearR (c : Rc) : Rc := ⟨c.x0 % 64 - 30, c.y0 % 64 - 30, c.x0 % 64 - 30 + 1 + c.x1 % 32, c.y0 % 64 - 30 + 1 + c.y1 % 32⟩
theorem nearR_bd (c : Rc) : -30 ≤ (nearR c).x0 ∧ (nearR c).x0 ≤ 33 ∧ -30 ≤ (nearR c).y0 ∧ (nearR c).y0 ≤ 33 ∧ (nearR c).x0 < (nearR c).x1 ∧ (nearR c).x1 ≤ (nearR c).x0 + 32 ∧ (nearR c).y0 < (nearR c).y1 ∧ (nearR c).y1 ≤ (nearR c).y0 + 32 := by
  unfold nearR
  simp only
  omega
set_option maxHeartbeats 1000000 in
theorem R_Near (c : Rc) (w : World) : Calls Try.prog 32 #[Rc.v c] w fun e w' => e = .returned (Rc.v (nearR c)) ∧ Below w.heap.size w w' := by
  have B := Below.refl w.heap.size w
  obtain ⟨x0, y0, x1, y1⟩ := c
  have b1 := bits_and63 x0
  have b2 := bits_and63 y0
  have b3 := bits_and31 x1
  have b4 := bits_and31 y1
  simp only [Rc.v_A, rcA]
  go_enter Try.func32, Try.ntmps32
  go_wp2_with (first | (refine wpList_storeB (t := 64) rfl _ _ rfl _ rfl _ rfl r2 (by kernel_rfl) rfl (by simp [rcA, Value.oneCell']) ?_; clear r2; intro wn ht hcn hzn; have hsz := B.size; replace hzn := Nat.le_of_eq hzn.symm; replace B := Chg.below B hcn (by omega) B.size; (try replace q1 := q1.of_eq (hcn.block _ q1.lt (by omega))); have r2 := ht; clear ht; simp only [Act.put, List.setIfInBounds_toArray, List.set_cons_zero, List.set_cons_succ]) | (refine wpList_loadAny (t := 3) rfl _ rfl _ _ _ rfl (run_load_int (q1.cell 0 rfl)) (by rfl) ?_; simp only [Act.put, List.setIfInBounds_toArray, List.set_cons_zero, List.set_cons_succ]) | (refine wpList_loadAny (t := 3) rfl _ rfl _ _ _ rfl (run_load_int (q1.cell 1 rfl)) (by rfl) ?_; simp only [Act.put, List.setIfInBounds_toArray, List.set_cons_zero, List.set_cons_succ]) | (refine wpList_loadAny (t := 3) rfl _ rfl _ _ _ rfl (run_load_int (q1.cell 2 rfl)) (by rfl) ?_; simp only [Act.put, List.setIfInBounds_toArray, List.set_cons_zero, List.set_cons_succ]) | (refine wpList_loadAny (t := 3) rfl _ rfl _ _ _ rfl (run_load_int (q1.cell 3 rfl)) (by rfl) ?_; simp only [Act.put, List.setIfInBounds_toArray, List.set_cons_zero, List.set_cons_succ]) | (have _ := q1; refine wpList_allocBk (t := 64) rfl _ (run_alloc_Rc _ _ rfl) ?_; intro b_r2 wn hle hge ht hbn hzn; have hsz := B.size; replace B := B.trans (hbn.mono (by omega)); have hln := Nat.lt_of_lt_of_eq (Nat.lt_succ_self _) hzn.symm; clear hzn; (try first | (have hlt := q1.lt; replace q1 := q1.of_eq (hbn.block _ (by omega))) | replace q1 := q1.below (hbn.mono hle)); (try first | (have hlt := r2.lt; replace r2 := r2.of_eq (hbn.block _ (by omega))) | replace r2 := r2.below (hbn.mono hle)); have r2 := ht; clear ht; simp only [Act.put, List.setIfInBounds_toArray, List.set_cons_zero, List.set_cons_succ]) | (refine wpList_boxB (t := 64) rfl _ rfl _ rfl ?_; intro b_q1 wn hle hge ht hbn hzn; have hsz := B.size; replace B := B.trans (hbn.mono (by omega)); have hln := Nat.lt_of_lt_of_eq (Nat.lt_succ_self _) hzn.symm; clear hzn; (try first | (have hlt := q1.lt; replace q1 := q1.of_eq (hbn.block _ (by omega))) | replace q1 := q1.below (hbn.mono hle)); (try first | (have hlt := r2.lt; replace r2 := r2.of_eq (hbn.block _ (by omega))) | replace r2 := r2.below (hbn.mono hle)); have q1 := ht; clear ht; simp only [Act.put, List.setIfInBounds_toArray, List.set_cons_zero, List.set_cons_succ]) | fail)
  refine bodyPost_ret (results_B (t := 64) rfl _ _ (b_r2) rfl r2 Try.isAgg64 (by kernel_rfl)) rfl ?_
  exact ⟨rfl, B⟩
@[go_sem] theorem run_field_a (p0 p1 p2 pa : Int) (w : World) : (Instr.field 37 (.agg #[.int .u8 p0, .int .u8 p1, .int .u8 p2, .int .u8 pa]) 3).run Try.prog w = .ok (.int .u8 pa) w := by kernel_rfl
theorem R_BoundsB (v : Value) (ls : List TA) (r : Rc) (w : World) (h : RS v ls w) (tk : TokL ls) (hn : ls.length ≤ maxLen) (hv : validL ls = true) (e : boundL ls = r) : Calls Try.prog 41 #[.agg #[v]] w fun e w' => e = .returned (Rc.v r) ∧ Below w.heap.size w w' := e ▸ R_BoundsV v ls w h tk hn hv
theorem P_HasB (r : Rc) (x y : Int) (b : Bool) (w : World) (e : hasR r x y = b) : Calls Try.prog 39 #[Rc.v r, Ps.v x y] w fun e w' => e = .returned (.bool b) ∧ Below w.heap.size w w' := e ▸ P_Has r x y w
end Go.Proofs.Ytppccnjckiedlaa
/- Pairs of integers as blocks; one byte of a tile stored; contracts of Set and Put with a result told. -/
namespace Go.Proofs.Ytppccnjckiedlaa
open Go.RowKit Go.Shelf Pl
set_option linter.unusedVariables false
set_option linter.unusedSimpArgs false
set_option maxRecDepth 20000
def i2 (a b : Int) (k : Nat) : Int := if k = 0 then a else b
theorem i2_cell {t : TypeId} {w : World} {g : Nat} {a b : Int} (h : AtB t w g #[.int .i64 a, .int .i64 b]) {k : Nat} (hk : k < 2) : w.cell? ⟨g, k, none⟩ = some (.int .i64 (i2 a b k)) := by
  have hc : k = 0 ∨ k = 1 := by omega
  rcases hc with rfl | rfl
  · exact h.cell 0 rfl
  · exact h.cell 1 rfl
theorem run_alloc_P2 (w : World) (o : Oper) (ho : o.op = .alloc 43) (ev : Operand → Value) : (execOp ev o).run Try.prog w = .ok (.value (.pointer (some ⟨w.heap.size, 0, none⟩))) (w.alloc (.cells #[.int .i64 0, .int .i64 0] 43)) := by
  obtain ⟨d, p, t, ps, af, gd⟩ := o
  simp only at ho
  subst ho
  kernel_rfl
theorem AtB.cellL {t : TypeId} {w : World} {b : Nat} {l : List Value} (h : AtB t w b l.toArray) (i : Nat) {v : Value} (hv : l[i]? = some v) : w.cell? ⟨b, i, none⟩ = some v := h.cell i (by simpa using hv)
theorem set_self {cs : Array Value} {i : Nat} {v : Value} (h : cs[i]? = some v) : cs.setIfInBounds i v = cs := by
  apply Array.ext_getElem?
  intro k
  rw [Array.getElem?_setIfInBounds]
  by_cases e : i = k
  · subst e
    rw [if_pos rfl, if_pos (Array.getElem?_eq_some_iff.1 h).1, h]
  · rw [if_neg e]
/-- A green channel stored. -/
theorem wpList_storeTg {ops : Array Oper} {rest : List Oper} {o : Oper} {a : Act} {w : World} {Q : Exit → Act → World → Prop} (hg : o.guard = none) (x y : Operand) (ho : o.op = .store 5 x y) (b j : Nat) (hx : a.eval x = .pointer (some ⟨b, j, none⟩)) (n : Int) (hy : a.eval y = .int .u8 n) {f : Nat → Px} (ht : TileAt w b f) (i : Nat) (hi : i < 64) (hj : j = i * 4 + 1)
    (h : ∀ w', TileAt w' b (upd f i ⟨(f i).r, n, (f i).b, (f i).a⟩) → Chg b w w' → w'.heap.size = w.heap.size → wpList Try.prog ops Q rest (a.put o.dst undef) w') : wpList Try.prog ops Q (o :: rest) a w := by
  subst hj
  have c0 : w.cell? ⟨b, i * 4 + 1, none⟩ = some (.int .u8 (f i).g) := ((cells_of_block ht).1 _).trans (tileC_at f i 1 hi (by omega))
  have f0 := (cells_of_block ht).2 (i * 4 + 1)
  have e : TileAt (w.setCell ⟨b, i * 4 + 1, none⟩ (.int .u8 n)) b (upd f i ⟨(f i).r, n, (f i).b, (f i).a⟩) := by
    unfold TileAt
    have e1 : (tileC f).setIfInBounds (i * 4 + 1) (.int .u8 n) = tileC (upd f i ⟨(f i).r, n, (f i).b, (f i).a⟩) := by
      rw [← set_tileC f i ⟨(f i).r, n, (f i).b, (f i).a⟩ hi]
      have k0 : (tileC f).setIfInBounds (i * 4) (.int .u8 (f i).r) = tileC f := set_self (tileC_at f i 0 hi (by omega))
      have k2 : ((tileC f).setIfInBounds (i * 4 + 1) (.int .u8 n)).setIfInBounds (i * 4 + 2) (.int .u8 (f i).b) = (tileC f).setIfInBounds (i * 4 + 1) (.int .u8 n) := set_self (by rw [Array.getElem?_setIfInBounds, if_neg (by omega)]; exact tileC_at f i 2 hi (by omega))
      have k3 : ((tileC f).setIfInBounds (i * 4 + 1) (.int .u8 n)).setIfInBounds (i * 4 + 3) (.int .u8 (f i).a) = (tileC f).setIfInBounds (i * 4 + 1) (.int .u8 n) := set_self (by rw [Array.getElem?_setIfInBounds, if_neg (by omega)]; exact tileC_at f i 3 hi (by omega))
      simp only [k0, k2, k3]
    rw [← e1]
    exact heap_setCell_same _ _ _ _ _ _ ht
  refine wpList_storeAny hg x y ho _ ?_ (h _ e ((Chg.refl b w).setCell _) (by simp only [World.size_setCell]))
  rw [hx, hy]
  simp [go_sem, c0, f0]
theorem P_SetO (v : Value) (ls : List TA) (x y : Int) (p : Px) (w : World) (h : RS v ls w) (tk : TokL ls) (hn : ls.length ≤ maxLen) (hx : (Lit.int .i64 x).wf = true) (hy : (Lit.int .i64 y).wf = true) (hp : p.ok) : Calls Try.prog 26 #[.agg #[v], .int .i64 x, .int .i64 y, Px.v p] w fun e w' => ∃ a c, e = .returned (.tuple #[.agg #[.slice a (setR ls x y p).length c], .int .i64 (setE ls x y p)]) ∧ RS (.slice a (setR ls x y p).length c) (setR ls x y p) w' ∧ Below w.heap.size w w' :=
  (P_SetR v ls x y p w h tk hn hx hy hp).mono fun e w' ⟨v', he, hr, hb⟩ => by
    obtain ⟨a, c, rfl, _⟩ := hr.len
    exact ⟨a, c, he, hr, hb⟩
theorem P_PutO (v : Value) (ls : List TA) (x y : Int) (t : Nat → Px) (w : World) (h : RS v ls w) (tk : TokL ls) (hn : ls.length ≤ maxLen) (ht : Tok t) : Calls Try.prog 28 #[.agg #[v], .agg #[.int .i64 x, .int .i64 y], Tile.v t] w fun e w' => ∃ a c, e = .returned (.tuple #[.agg #[.slice a (putR ls x y t).length c], .int .i64 (putE ls x y t)]) ∧ RS (.slice a (putR ls x y t).length c) (putR ls x y t) w' ∧ Below w.heap.size w w' :=
  (P_Put v ls x y t w h tk hn ht).mono fun e w' ⟨v', he, hr, hb⟩ => by
    obtain ⟨a, c, rfl, _⟩ := hr.len
    exact ⟨a, c, he, hr, hb⟩
theorem R_PutO (v : Value) (ls : List TA) (x y : Int) (t : Nat → Px) (w : World) (h : RS v ls w) (tk : TokL ls) (hn : ls.length ≤ maxLen) (ht : Tok t) : Calls Try.prog 29 #[.agg #[v], .agg #[.int .i64 x, .int .i64 y], Tile.v t] w fun e w' => ∃ a c, e = .returned (.agg #[.slice a (putR ls x y t).length c, .int .i64 (putE ls x y t)]) ∧ RS (.slice a (putR ls x y t).length c) (putR ls x y t) w' ∧ Below w.heap.size w w' :=
  (R_PutR v ls x y t w h tk hn ht).mono fun e w' ⟨v', he, hr, hb⟩ => by
    obtain ⟨a, c, rfl, _⟩ := hr.len
    exact ⟨a, c, he, hr, hb⟩
theorem R_ValidB (v : Value) (ls : List TA) (r : Bool) (w : World) (h : RS v ls w) (tk : TokL ls) (hn : ls.length ≤ maxLen) (e : validL ls = r) : Calls Try.prog 17 #[.agg #[v]] w fun e w' => e = .returned (.bool r) ∧ Below w.heap.size w w' := e ▸ R_Valid v ls w h tk hn
theorem setR_valid (ls : List TA) (x y : Int) (p : Px) : validL (setR ls x y p) = true := putR_valid _ _ _ _
theorem setR_length (ls : List TA) (x y : Int) (p : Px) : (setR ls x y p).length ≤ 1024 := putR_length _ _ _ _
theorem run_load_err {w : World} {b j : Nat} {n : Int} (h : w.cell? ⟨b, j, none⟩ = some (.int .i64 n)) : (Instr.loadAt 46 (.pointer (some ⟨b, j, none⟩))).run Try.prog w = .ok (.int .i64 n) w := by simp [go_sem, h]
theorem RS.chgT {v : Value} {ls : List TA} {b : Nat} {f : Nat → Px} {w w' : World} (h : RS v ls w) (hb : TileAt w b f) (hc : Chg b w w') : RS v ls w' :=
  RS.chg (t := 40) (cs := tileC f) h hb (by rw [size_tileC]; omega) hc
theorem RS.chgP {v : Value} {ls : List TA} {b : Nat} {p : Px} {w w' : World} (h : RS v ls w) (hb : PixAt w b p) (hc : Chg b w w') : RS v ls w' :=
  RS.chg (t := 37) (cs := pxA p) h hb (by simp [pxA]) hc
end Go.Proofs.Ytppccnjckiedlaa
/- Plain laws: how many tiles there are behind put; the full raster. -/
namespace Go.Proofs.Ytppccnjckiedlaa
open Go.RowKit Pl
set_option linter.unusedVariables false
set_option linter.unusedSimpArgs false
theorem less_irrefl (x y : Int) : lessB x y x y = false := decide_eq_false (by omega)
theorem srt_at {ls : List TA} (h : Srt ls) {i j : Nat} (hij : i < j) (hj : j < ls.length) : beforeA (aT ls i) (aT ls j) = true := by
  have hi : i < ls.length := Nat.lt_trans hij hj
  have e : ∀ k (hk : k < ls.length), aT ls k = ls[k] := fun k hk => by
    have := aT_at hk
    rw [List.getElem?_eq_getElem hk] at this
    exact (Option.some.inj this).symm
  rw [e i hi, e j hj]
  exact List.pairwise_iff_getElem.1 h i j hi hj hij
theorem hitL_mem {ls : List TA} (h : Srt ls) {j : Nat} (hj : j < ls.length) : hitL ls (aT ls j).x (aT ls j).y = true := by
  have hc : cutL ls (aT ls j).x (aT ls j).y = j := cutL_eq (by omega) (fun i hi => srt_at h hi hj) (fun _ => less_irrefl _ _)
  unfold hitL
  rw [hc, decide_eq_true hj]
  simp [eqB]
theorem hitL_not {ls : List TA} {x y : Int} (h : ∀ e ∈ ls, eqB e.x e.y x y = false) : hitL ls x y = false := by
  unfold hitL
  by_cases hc : cutL ls x y < ls.length
  · have := h _ (List.mem_iff_getElem?.2 ⟨_, aT_at hc⟩)
    rw [this]
    simp
  · rw [decide_eq_false hc]
    rfl
theorem putL_len (ls : List TA) (x y : Int) (t : Nat → Px) : (putL ls x y t).length + (if hitL ls x y = true then 1 else 0) = ls.length + (if zeroB t = true then 0 else 1) := by
  have hc := cutL_le ls x y
  have hh : hitL ls x y = true → cutL ls x y < ls.length := fun h => by
    unfold hitL at h
    simp only [Bool.and_eq_true, decide_eq_true_eq] at h
    exact h.1
  rw [putL_cut]
  simp only [List.length_append, List.length_take, List.length_drop]
  unfold newA
  by_cases hz : zeroB t = true
  · rw [if_pos hz, if_pos hz]
    by_cases h : hitL ls x y = true
    · have := hh h
      rw [if_pos h, if_pos h]
      simp
      omega
    · rw [if_neg h, if_neg h]
      simp
      omega
  · rw [if_neg hz, if_neg hz]
    by_cases h : hitL ls x y = true
    · have := hh h
      rw [if_pos h, if_pos h]
      simp
      omega
    · rw [if_neg h, if_neg h]
      simp
      omega
/-- The tile of the law: its first pixel opaque. -/
def limT (Ls : List Int) : Nat → Px := upd (madeT Ls) 0 ⟨0, 0, 3, 255⟩
theorem madeT_clean (Ls : List Int) (i : Nat) : cleanP (madeT Ls i) = madeT Ls i := by
  have cc : ∀ p, cleanP (cleanP p) = cleanP p := fun p => by
    unfold cleanP
    split
    · split <;> rfl
    · rename_i h; rfl
  unfold madeT
  split
  · rfl
  · unfold madeQ
    split <;> exact cc _
theorem limT_clean (Ls : List Int) : cleanT (limT Ls) = limT Ls := by
  funext i
  unfold cleanT limT upd
  split
  · rfl
  · exact madeT_clean Ls i
theorem limT_tok (Ls : List Int) : Tok (limT Ls) := fun i hi => by
  unfold limT upd
  split
  · unfold Px.ok; simp
  · exact madeT_tok Ls i hi
theorem limT_zero (Ls : List Int) : zeroB (limT Ls) = false := by
  rw [← Bool.not_eq_true, zeroB_iff]
  intro h
  have : (255 : Int) = 0 := h 0 (by omega)
  omega
def F24 : List TA := fullL 1024
theorem F24_len : F24.length = 1024 := fullL_len 1024
theorem F24_valid : validL F24 = true := by unfold F24; rw [fullL_valid]; rfl
theorem F24_tok : TokL F24 := fullL_tok 1024
theorem F24_at {i : Nat} (hi : i < 1024) : aT F24 i = fullA i := aT_map fullA 1024 i hi
theorem F24_pos {e : TA} (h : e ∈ F24) : 0 ≤ e.x ∧ e.x ≤ 39 ∧ 0 ≤ e.y := by
  unfold F24 fullL at h
  obtain ⟨i, _, rfl⟩ := List.mem_map.1 h
  show 0 ≤ (i : Int) % 40 ∧ (i : Int) % 40 ≤ 39 ∧ 0 ≤ (i : Int) / 40
  omega
theorem F24_far {x y : Int} (h : x < 0 ∨ 39 < x) : ∀ e ∈ F24, eqB e.x e.y x y = false := fun e he => decide_eq_false (by have := F24_pos he; omega)
theorem fine24 : fineL F24 = F24 := fineL_of F24_valid
/-- A further tile. -/
theorem lim1 (Ls : List Int) : putE F24 100 5 (limT Ls) = 2 := by
  have hl := putL_len F24 100 5 (limT Ls)
  rw [hitL_not (F24_far (by omega)), limT_zero, F24_len] at hl
  simp at hl
  unfold putE manyE
  rw [if_pos (by decide), fine24, limT_clean, if_neg (by omega)]
theorem lim1R (Ls : List Int) : putR F24 100 5 (limT Ls) = [] := by
  have hl := putL_len F24 100 5 (limT Ls)
  rw [hitL_not (F24_far (by omega)), limT_zero, F24_len] at hl
  simp at hl
  unfold putR manyL
  rw [if_pos (by decide), fine24, limT_clean, if_neg (by omega)]
theorem tile24 (y : Int) : tileL F24 (-1) y = zT := tileL_none (F24_far (by omega))
theorem set24 (p : Px) : setS F24 (-1) (-1) p = setT zT 7 7 p := by
  unfold setS
  rw [fine24, show ((-1 : Int) / 8) = -1 by decide, tile24]
  rfl
theorem w11 : withinB (-1) (-1) = true := by decide
theorem zA : zeroB (cleanT (setT zT 7 7 ⟨0, 0, 0, 1⟩)) = false := by decide
theorem zR : zeroB (cleanT (setT zT 7 7 ⟨5, 0, 0, 0⟩)) = true := by decide
theorem len11 (t : Nat → Px) : (putL F24 (-1) (-1) t).length = 1024 + (if zeroB t = true then 0 else 1) := by
  have hl := putL_len F24 (-1) (-1) t
  rw [hitL_not (F24_far (by omega)), F24_len] at hl
  simpa using hl
theorem set11E (p : Px) : setE F24 (-1) (-1) p = manyE (putL F24 (-1) (-1) (cleanT (setT zT 7 7 p))) := by
  have e : ((-1 : Int) / 8) = -1 := by decide
  unfold setE putE
  rw [set24, e, w11, if_pos rfl, fine24]
/-- A further pixel. -/
theorem lim2 : setE F24 (-1) (-1) ⟨0, 0, 0, 1⟩ = 2 := by
  have hl := len11 (cleanT (setT zT 7 7 ⟨0, 0, 0, 1⟩))
  rw [zA] at hl
  rw [set11E]
  unfold manyE
  rw [hl]
  rfl
theorem lim6 : setE F24 (-1) (-1) ⟨5, 0, 0, 0⟩ = 0 := by
  have hl := len11 (cleanT (setT zT 7 7 ⟨5, 0, 0, 0⟩))
  rw [zR] at hl
  rw [set11E]
  unfold manyE
  rw [hl]
  rfl
theorem pos24 {i : Nat} (hi : i < 1024) : withinB (fullA i).x (fullA i).y = true := by
  refine decide_eq_true ?_
  show -8192 ≤ (i : Int) % 40 ∧ (i : Int) % 40 ≤ 8191 ∧ -8192 ≤ (i : Int) / 40 ∧ (i : Int) / 40 ≤ 8191
  omega
theorem hit24 {i : Nat} (hi : i < 1024) : hitL F24 (fullA i).x (fullA i).y = true := by
  have := hitL_mem (validL_srt F24_valid) (j := i) (by rw [F24_len]; exact hi)
  rw [F24_at hi] at this
  exact this
theorem lenA {i : Nat} (hi : i < 1024) (Ls : List Int) : (putL F24 (fullA i).x (fullA i).y (limT Ls)).length = 1024 := by
  have hl := putL_len F24 (fullA i).x (fullA i).y (limT Ls)
  rw [hit24 hi, limT_zero, F24_len] at hl
  simp at hl
  exact hl
theorem lenB {i : Nat} (hi : i < 1024) : (putL F24 (fullA i).x (fullA i).y zT).length = 1023 := by
  have hl := putL_len F24 (fullA i).x (fullA i).y zT
  have hz : zeroB zT = true := (zeroB_iff _).2 fun _ _ => rfl
  rw [hit24 hi, hz, F24_len] at hl
  simp at hl
  omega
theorem lim3 {i : Nat} (hi : i < 1024) (Ls : List Int) : putE F24 (fullA i).x (fullA i).y (limT Ls) = 0 := by
  unfold putE manyE
  rw [pos24 hi, if_pos rfl, fine24, limT_clean, lenA hi, if_pos (by omega)]
theorem lim3R {i : Nat} (hi : i < 1024) (Ls : List Int) : putR F24 (fullA i).x (fullA i).y (limT Ls) = putL F24 (fullA i).x (fullA i).y (limT Ls) := by
  unfold putR manyL
  rw [pos24 hi, if_pos rfl, fine24, limT_clean, lenA hi, if_pos (by omega)]
theorem lim4 {i : Nat} (hi : i < 1024) : putE F24 (fullA i).x (fullA i).y zT = 0 := by
  unfold putE manyE
  rw [pos24 hi, if_pos rfl, fine24, show cleanT zT = zT from rfl, lenB hi, if_pos (by omega)]
theorem lim4R {i : Nat} (hi : i < 1024) : putR F24 (fullA i).x (fullA i).y zT = putL F24 (fullA i).x (fullA i).y zT := by
  unfold putR manyL
  rw [pos24 hi, if_pos rfl, fine24, show cleanT zT = zT from rfl, lenB hi, if_pos (by omega)]
theorem tile3 {i : Nat} (hi : i < 1024) (Ls : List Int) : tileL (putL F24 (fullA i).x (fullA i).y (limT Ls)) (fullA i).x (fullA i).y = limT Ls := by
  rw [tileL_put_same (validL_srt F24_valid), limT_zero]
  rfl
theorem farB {i : Nat} (hi : i < 1024) {x y : Int} (h : x < 0 ∨ 39 < x) : ∀ e ∈ putL F24 (fullA i).x (fullA i).y zT, eqB e.x e.y x y = false := fun e he => by
  rcases putL_mem he with he | ⟨_, hz⟩
  · exact F24_far h e he
  · rw [(zeroB_iff zT).2 fun _ _ => rfl] at hz
    cases hz
theorem validB {i : Nat} (hi : i < 1024) : validL (putL F24 (fullA i).x (fullA i).y zT) = true := by
  rw [← lim4R hi]
  exact putR_valid _ _ _ _
theorem lenC {i : Nat} (hi : i < 1024) (Ls : List Int) : (putL (putL F24 (fullA i).x (fullA i).y zT) 100 5 (limT Ls)).length = 1024 := by
  have hl := putL_len (putL F24 (fullA i).x (fullA i).y zT) 100 5 (limT Ls)
  rw [hitL_not (farB hi (by omega)), limT_zero, lenB hi] at hl
  simp at hl
  exact hl
theorem lim5 {i : Nat} (hi : i < 1024) (Ls : List Int) : putE (putL F24 (fullA i).x (fullA i).y zT) 100 5 (limT Ls) = 0 := by
  unfold putE manyE
  rw [if_pos (by decide), fineL_of (validB hi), limT_clean, lenC hi, if_pos (by omega)]
theorem lim5R {i : Nat} (hi : i < 1024) (Ls : List Int) : putR (putL F24 (fullA i).x (fullA i).y zT) 100 5 (limT Ls) = putL (putL F24 (fullA i).x (fullA i).y zT) 100 5 (limT Ls) := by
  unfold putR manyL
  rw [if_pos (by decide), fineL_of (validB hi), limT_clean, lenC hi, if_pos (by omega)]
end Go.Proofs.Ytppccnjckiedlaa
