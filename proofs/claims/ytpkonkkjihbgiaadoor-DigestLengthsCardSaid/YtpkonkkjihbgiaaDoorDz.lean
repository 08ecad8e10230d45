/- Slices of strings that the call itself has made and appends to. -/
import Derived.Test.YtpkonkkjihbgiaaDoorDy
namespace Go.Proofs.YtpkonkkjihbgiaaDoor
open Go.RowKit Sha
set_option linter.unusedVariables false
set_option linter.unusedSimpArgs false

def strC (ls : List ByteArray) : List Value := ls.map Value.string
/-- v is a slice of the strings ls, in a row that the call owns (from block B on). -/
def OwnS (B : Nat) (v : Value) (ls : List ByteArray) (w : World) : Prop := w.ownsRow B 9 1 v ls.length (strC ls)
section
variable {B : Nat} {v : Value} {ls : List ByteArray} {w : World}
theorem OwnS.below {w' : World} (h : OwnS B v ls w) (hb : Below w.heap.size w w') : OwnS B v ls w' :=
  World.ownsRow.kept (row := none) h ⟨hb.os, hb.tape, hb.output, hb.size, fun k hk _ => hb.block k hk⟩ (Classical.em _)
theorem ownS_mono {B' : Nat} (h : OwnS B v ls w) (hb : B' ≤ B) : OwnS B' v ls w := by
  obtain ⟨h1, h2⟩ := h
  rcases h2 with h2 | ⟨g, cap, cur, e, hg, r⟩
  · exact ⟨h1, .inl h2⟩
  · exact ⟨h1, .inr ⟨g, cap, cur, e, Nat.le_trans hb hg, r⟩⟩
/-- Its cells, where it is not nil. -/
theorem OwnS.scells (h : OwnS B v ls w) : (v = .slice none 0 0 ∧ ls = []) ∨ ∃ g c, v = .slice (some ⟨g, 0, none⟩) ls.length c ∧ B ≤ g ∧ SCells g 0 ls w := by
  obtain ⟨h1, h2⟩ := h
  rcases h2 with ⟨rfl, h0⟩ | ⟨g, cap, cur, rfl, hb, hg, hn, hm, hs, ht⟩
  · exact .inl ⟨rfl, List.eq_nil_of_length_eq_zero h0⟩
  · refine .inr ⟨g, cap, rfl, hb, (Array.getElem?_eq_some_iff.1 hg).1, fun i hi => ?_⟩
    have e : cur[i]? = some (.string (sAt ls i)) := by
      have := congrArg (fun x : List Value => x[i]?) ht
      simp only [Nat.mul_one, strC, List.getElem?_map, List.getElem?_eq_getElem hi, Option.map_some] at this
      rw [List.getElem?_take_of_lt hi, Array.getElem?_toList] at this
      rw [this]
      unfold sAt
      rw [List.getD_eq_getElem?_getD, List.getElem?_eq_getElem hi]
      rfl
    rw [Nat.zero_add, cell_of_row w g i cur _ (0, 0) hg, e]
end
section
variable {ops : Array Oper} {rest : List Oper} {o : Oper} {a : Act} {w : World} {Q : Exit → Act → World → Prop}
/-- One string appended. -/
theorem wpList_append1s (hg : o.guard = none) (s x : Operand) (ho : o.op = .call { callee := .builtin .append, args := #[s, x], argTypes := #[28, 28] }) (v : Value) (hs : a.eval s = v) (b c : Nat) (hx : a.eval x = .slice (some ⟨b, 0, none⟩) 1 c) {B : Nat} {ls : List ByteArray} {y : ByteArray} (hown : OwnS B v ls w) (hb : w.cell? ⟨b, 0, none⟩ = some (.string y)) (hlen : ls.length + 1 ≤ 1000) (hB : B ≤ w.heap.size)
    (h : ∀ v' w', OwnS B v' (ls ++ [y]) w' → Below B w w' → wpList Tryd.prog ops Q rest (a.put o.dst v') w') : wpList Tryd.prog ops Q (o :: rest) a w := by
  obtain ⟨i, hi⟩ : ∃ i, Tryd.prog.info? 9 = some i := by
    cases h : Tryd.prog.info? 9 with
    | some i => exact ⟨i, rfl⟩
    | none =>
      have e : (Tryd.prog.info? 9).isSome = true := by kernel_rfl
      rw [h] at e; cases e
  have hz : i.zero = some (.string ⟨#[]⟩) := by
    have e : (Tryd.prog.info? 9).bind (·.zero) = some (.string ⟨#[]⟩) := by kernel_rfl
    rw [hi] at e; exact e
  have hs1 : i.size = 1 := by
    have e : (Tryd.prog.info? 9).map (·.size) = some 1 := by kernel_rfl
    rw [hi] at e; simpa using e
  have hb1 : i.bytes = 16 := by
    have e : (Tryd.prog.info? 9).map (·.bytes) = some 16 := by kernel_rfl
    rw [hi] at e; simpa using e
  refine wpList_append_own (P := Tryd.prog) w hg s x 28 ho B 9 i (.string ⟨#[]⟩) 1 16 Tryd.underlying28 hi hz hs1 hb1 rfl (by omega) v ls.length (strC ls) hs hown ⟨b, 0, none⟩ 1 c [.string y] hx rfl ?_ ?_ (by unfold maxLen; omega) (by omega) hB ?_
  · intro j u hu
    cases j with
    | zero =>
      simp at hu
      subst hu
      simpa [Addr.add] using hb
    | succ j => simp at hu
  · intro u hu
    simp at hu
    subst hu
    rfl
  · intro v' w' h1 h2 h3
    refine h v' w' ?_ ?_
    · unfold OwnS
      rw [show strC (ls ++ [y]) = strC ls ++ [.string y] by simp [strC], List.length_append]
      exact h1
    · have hlt := hown.lt
      exact ⟨h2.os, h2.tape, h2.output, h2.size, fun k hk => h2.block k (by omega) (fun e => by have := hlt k e.symm; omega)⟩
end
theorem run_bsE (w : World) (o : Oper) (ho : o.op = .buildSlice 28 0 #[]) (a : Act) : (execOp a.eval o).run Tryd.prog w = .ok (.value (.slice (some ⟨w.heap.size, 0, none⟩) 0 0)) (w.alloc (.cells #[] 9)) := by
  obtain ⟨d, p, t, ps, af, gd⟩ := o
  simp only at ho
  subst ho
  kernel_rfl
theorem run_bs1 (w : World) (o : Oper) (x : Operand) (ho : o.op = .buildSlice 28 1 #[(0, x)]) (ev : Operand → Value) (s : ByteArray) (hx : ev x = .string s) : (execOp ev o).run Tryd.prog w = .ok (.value (.slice (some ⟨w.heap.size, 0, none⟩) 1 1)) (w.alloc (.cells #[.string s] 9)) := by
  obtain ⟨d, p, t, ps, af, gd⟩ := o
  simp only at ho
  subst ho
  unfold execOp
  simp only [List.map_toArray, List.map_cons, List.map_nil, hx]
  kernel_rfl
section
variable {ops : Array Oper} {rest : List Oper} {o : Oper} {a : Act} {w : World} {Q : Exit → Act → World → Prop}
theorem wpList_bsE (hg : o.guard = none) (ho : o.op = .buildSlice 28 0 #[])
    (h : ∀ b w', w.heap.size ≤ b → b ≤ w.heap.size → OwnS b (.slice (some ⟨b, 0, none⟩) 0 0) [] w' → Below b w w' → w'.heap.size = b + 1 → wpList Tryd.prog ops Q rest (a.put o.dst (.slice (some ⟨b, 0, none⟩) 0 0)) w') : wpList Tryd.prog ops Q (o :: rest) a w :=
  wpList_plain hg fun K hK => by
    unfold Oper.wp
    rw [run_bsE w o ho a]
    exact hK _ _ (h _ _ (Nat.le_refl _) (Nat.le_refl _) ⟨rfl, .inr ⟨w.heap.size, 0, #[], rfl, Nat.le_refl _, by rw [heap_get_alloc, if_pos rfl], Nat.le_refl _, by unfold maxLen; omega, rfl, rfl⟩⟩ ((Below.refl _ _).alloc (Nat.le_refl _) _) (World.size_alloc _ _))
theorem wpList_bs1 (hg : o.guard = none) (x : Operand) (ho : o.op = .buildSlice 28 1 #[(0, x)]) (s : ByteArray) (hx : a.eval x = .string s)
    (h : ∀ b w', w.heap.size ≤ b → b ≤ w.heap.size → w'.cell? ⟨b, 0, none⟩ = some (.string s) → Below b w w' → w'.heap.size = b + 1 → wpList Tryd.prog ops Q rest (a.put o.dst (.slice (some ⟨b, 0, none⟩) 1 1)) w') : wpList Tryd.prog ops Q (o :: rest) a w :=
  wpList_plain hg fun K hK => by
    unfold Oper.wp
    rw [run_bs1 w o x ho _ s hx]
    refine hK _ _ (h _ _ (Nat.le_refl _) (Nat.le_refl _) ?_ ((Below.refl _ _).alloc (Nat.le_refl _) _) (World.size_alloc _ _))
    have hb : (w.alloc (.cells #[.string s] 9)).heap[w.heap.size]? = some (.cells #[.string s] 9 (0, 0)) := by rw [heap_get_alloc, if_pos rfl]
    exact (cells_of_block hb).1 0
end
/-- The first k strings, cut to 60 bytes. -/
def cutP (ps : List ByteArray) : Nat → List ByteArray
  | 0 => []
  | k + 1 => cutP ps k ++ [(sAt ps k).extract 0 (min (sAt ps k).size 60)]
theorem cutP_next (ps : List ByteArray) (k : Nat) : cutP ps (k + 1) = cutP ps k ++ [(sAt ps k).extract 0 (min (sAt ps k).size 60)] := rfl
theorem cutP_length (ps : List ByteArray) (k : Nat) : (cutP ps k).length = k := by
  induction k with
  | zero => rfl
  | succ k ih => rw [cutP_next, List.length_append, ih]; rfl
theorem cutP_size (ps : List ByteArray) (k : Nat) : ∀ s ∈ cutP ps k, s.size ≤ 60 := by
  induction k with
  | zero => intro s hs; cases hs
  | succ k ih =>
    intro s hs
    rw [cutP_next, List.mem_append] at hs
    rcases hs with hs | hs
    · exact ih s hs
    · rw [List.mem_singleton] at hs
      rw [hs, ByteArray.size_extract]
      omega
theorem cutP_sAt (ps : List ByteArray) (k j : Nat) : (sAt (cutP ps k) j).size ≤ 100000 := by
  unfold sAt
  rw [List.getD_eq_getElem?_getD]
  by_cases h : j < (cutP ps k).length
  · rw [List.getElem?_eq_getElem h]
    exact Nat.le_trans (cutP_size ps k _ (List.getElem_mem h)) (by omega)
  · rw [List.getElem?_eq_none (by omega)]
    exact Nat.zero_le _

set_option maxHeartbeats 1000000 in
set_option maxRecDepth 20000 in
theorem L_list (g o c : Nat) (ps : List ByteArray) (w : World) (sc : SCells g o ps w) (hM : ∀ k, (sAt ps k).size ≤ maxLen) (hn : ps.length ≤ maxLen) : Calls Tryd.prog 17 #[.slice (some ⟨g, o, none⟩) ps.length c] w fun e w' => ∃ v, e = .returned v ∧ OwnS w.heap.size v (cutP ps (min ps.length 8)) w' ∧ Below w.heap.size w w' := by
  unfold maxLen at hn
  have B := Below.refl w.heap.size w
  have hg0 := sc.lt
  go_enter Tryd.func17, Tryd.ntmps17
  go_wp2_with ((refine wpList_bsE rfl rfl ?_; intro b_od wn hle hge ht hbn hzn; have hsz := B.size; replace B := B.trans (hbn.mono (by omega)); replace sc := sc.of_eq (hbn.block _ (by have := sc.lt; omega)); have od := ht; clear ht; simp only [Act.put, List.setIfInBounds_toArray, List.set_cons_zero, List.set_cons_succ]))
  have hbase : w.heap.size ≤ b_od := by omega
  have hbo : b_od < wn.heap.size := by omega
  go_loopw [3, 4] (fun v i wr => ∃ k : Nat, k ≤ min ps.length 8 ∧ i = .int .i64 k ∧ OwnS b_od v (cutP ps k) wr ∧ Below w.heap.size w wr ∧ b_od < wr.heap.size ∧ SCells g o ps wr) (fun _ i _ => (8 - intOf i).toNat)
  case atStart => exact ⟨0, by omega, rfl, od, B, hbo, sc⟩
  case round =>
    clear B sc od
    obtain ⟨k, hk, rfl, od, B, hbo2, sc⟩ := hrel
    by_cases hkp : k < ps.length
    · have d1 : decide ((k : Int) < (ps.length : Int)) = true := decide_eq_true (by omega)
      by_cases hk8 : k < 8
      · have d2 : decide ((k : Int) < 8) = true := decide_eq_true (by omega)
        go_wp2_with (first | (at_builtin; refine wpList_append1s rfl _ _ rfl _ rfl _ _ rfl od s1 (by rw [cutP_length]; omega) (by omega) ?_; intro vn wn ht hbn; have hsz := B.size; have hzn := hbn.size; replace B := B.trans (hbn.mono (by omega)); clear od s1; replace sc := sc.of_eq (hbn.block _ (by omega)); have od := ht; clear ht; simp only [Act.put, List.setIfInBounds_toArray, List.set_cons_zero, List.set_cons_succ]) | (refine wpList_bs1 rfl _ rfl _ rfl ?_; intro b_s1 wn hle hge s1 hbn hzn; have hsz := B.size; replace B := B.trans (hbn.mono (by omega)); replace od := od.below (hbn.mono hle); replace sc := sc.of_eq (hbn.block _ (by have := sc.lt; omega)); simp only [Act.put, List.setIfInBounds_toArray, List.set_cons_zero, List.set_cons_succ]) | (go_at_call 14; refine (L_some _ 60 _ (hM k) (by omega)).mono ?_; rintro e wq ⟨rfl, rfl⟩) | (refine wpList_loadAny (t := 9) rfl _ rfl _ _ _ rfl (run_load_str sc hkp) (by first | rfl | omega) ?_; simp only [Act.put, List.setIfInBounds_toArray, List.set_cons_zero, List.set_cons_succ]))
        rw [← cutP_next] at od
        go_roundw
        case rel => exact ⟨k + 1, by omega, by go_num, od, B, by omega, sc⟩
        case measure => simp [intOf]; omega
      · have d2 : decide ((k : Int) < 8) = false := decide_eq_false (by omega)
        have e : min ps.length 8 = k := by omega
        go_wp2
        go_ret
        exact ⟨_, rfl, by rw [e]; exact ownS_mono od hbase, B⟩
    · have d1 : decide ((k : Int) < (ps.length : Int)) = false := decide_eq_false (by omega)
      have e : min ps.length 8 = k := by omega
      go_wp2
      go_ret
      exact ⟨_, rfl, by rw [e]; exact ownS_mono od hbase, B⟩
end Go.Proofs.YtpkonkkjihbgiaaDoor
