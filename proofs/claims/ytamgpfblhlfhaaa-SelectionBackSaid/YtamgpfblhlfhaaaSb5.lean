import Derived.Test.YtamgpfblhlfhaaaSb4
import Derived.DeepKeys5
import Derived.Maps.Keyed
import Derived.Maps.OwnOps
import Derived.Maps.OwnSet
import Derived.Maps.Views
import Derived.Lib.SmallJoins
import Derived.SizedLaws
import Derived.ChangeSlices
import Derived.Lib.AppendZeros

/- The map of the edges that are done; marks of several ranges. -/
namespace Go.Proofs.Ytamgpfblhlfhaaa
open Go.RowKit Go.Shelf Pl
set_option linter.unusedVariables false
set_option linter.unusedSimpArgs false
set_option maxRecDepth 20000
theorem laidP : laidOutB Try.prog = true := by kernel_rfl
theorem stepK : Go.Maps.Keyed Try.prog 83 := Go.Maps.Keyed.of_law (deep_law_gate laidP (of_decide_eq_true (by kernel_rfl)) (of_decide_eq_true (by kernel_rfl)) (by kernel_rfl) (by rw [Try.underlying83]))
def keyE (e : Ed) : Lit := .string (keyBytes [.int .i64 e.x, .int .i64 e.y, .int .i64 e.d])
def WfE (e : Ed) : Prop := (Lit.int .i64 e.x).wf = true ∧ (Lit.int .i64 e.y).wf = true ∧ (Lit.int .i64 e.d).wf = true
theorem key_at {e : Ed} (h : WfE e) : keyOf Try.prog 83 (.agg (edC e)) = some (keyE e) := by
  obtain ⟨h1, h2, h3⟩ := h
  have ht : Try.prog.keyType 83 = true := by kernel_rfl
  have hc : Try.prog.cellsOf 83 = 3 := by kernel_rfl
  have hi : Try.prog.cellsOf 3 = 1 := by kernel_rfl
  unfold keyOf
  rw [Try.underlying83]
  simp only [ht]
  have hf : (Value.agg (edC e)).formed Try.prog 83 = true := by simp [Value.formed, Try.underlying83, hc, edC]
  rw [hf]
  have hpos : 1 ≤ Try.prog.types.size := of_decide_eq_true (by kernel_rfl)
  obtain ⟨M, hM⟩ : ∃ M, Try.prog.types.size = M + 1 := ⟨Try.prog.types.size - 1, by omega⟩
  rw [hM]
  simp only [Bool.and_self, if_true, Program.keyLits, Try.underlying83, hc]
  simp [edC, Value.cells, hi, Try.underlying3, h1, h2, h3, keyE]
theorem key_inj {e f : Ed} (he : WfE e) (hf : WfE f) (h : keyE e = keyE f) : e = f := by
  have h1 := key_at he
  rw [h] at h1
  have := stepK.inj h1 (key_at hf)
  obtain ⟨x, y, d⟩ := e
  obtain ⟨x', y', d'⟩ := f
  simpa [edC] using this
/-- The block b is the map of the edges L. -/
def DoneM (b : Nat) (L : List Ed) (w : World) : Prop := (∀ e ∈ L, WfE e) ∧ ∃ n, n ≤ L.length ∧ w.ownsMap Try.prog 83 (plainElem (H := Unit) Try.prog 4) b n (Maps.setOf (.lit (.bool true)) (L.map keyE))
theorem DoneM.lt {b : Nat} {L : List Ed} {w : World} (h : DoneM b L w) : b < w.heap.size := by
  obtain ⟨_, n, _, h⟩ := h
  exact h.lt
theorem DoneM.kept {b : Nat} {L : List Ed} {w w' : World} {row : Option Nat} (h : DoneM b L w) (hg : w.grownBy w' row) (hne : some b ≠ row) : DoneM b L w' := by
  obtain ⟨h1, n, h2, h⟩ := h
  exact ⟨h1, n, h2, h.kept hg hne⟩
theorem DoneM.below {b : Nat} {L : List Ed} {w w' : World} (h : DoneM b L w) (hb : Below w.heap.size w w') : DoneM b L w' := h.kept (grown_of_below hb) (fun e => by cases e)
theorem DoneM.obj {b : Nat} {L : List Ed} {w : World} (h : DoneM b L w) : ∃ es c, w.heap[b]? = some (.map es c) := by
  obtain ⟨_, n, _, es, c, h, _⟩ := h
  exact ⟨es, c, h⟩
theorem DoneM.chg {b c : Nat} {L : List Ed} {t : TypeId} {cs : Array Value} {w w' : World} (h : DoneM b L w) (ha : AtB t w c cs) (_ : True) (hc : Chg c w w') : DoneM b L w' :=
  h.kept (row := some c) ⟨hc.os, hc.tape, hc.output, hc.size, fun k hk hne => hc.block k hk (fun e => hne (by rw [e]))⟩ (fun e => by
    injection e with e
    obtain ⟨es, cl, ho⟩ := h.obj
    rw [e, show w.heap[c]? = _ from ha] at ho
    cases ho)
theorem DoneM.nil {b : Nat} {w : World} (h : w.heap[b]? = some (.map #[] 0)) : DoneM b [] w := ⟨fun e he => (by cases he), 0, Nat.le_refl _, Go.Joins.ownsMap_empty h⟩
theorem atKey_fold (u z : DataW Unit) (k : Lit) : ∀ (acc : List Lit) (m : DataW Unit), Maps.IsMap m → (∀ x ∈ acc, WideAt.IsKeyLit x) → (k ∈ acc → (acc.foldl (fun m x => m.put x u) m).atKey k z = u) ∧ (k ∉ acc → (acc.foldl (fun m x => m.put x u) m).atKey k z = m.atKey k z)
  | [], m, _, _ => ⟨fun h => (by cases h), fun _ => rfl⟩
  | x :: r, m, hm, h => by
    rw [List.foldl_cons]
    obtain ⟨i1, i2⟩ := atKey_fold u z k r (m.put x u) (hm.put x u) (fun y hy => h y (by simp [hy]))
    refine ⟨fun hk => ?_, fun hk => ?_⟩
    · by_cases hr : k ∈ r
      · exact i1 hr
      · rw [i2 hr]
        rcases List.mem_cons.1 hk with e | e
        · subst e
          exact Maps.atKey_put_same hm (h k (by simp)) u z
        · exact absurd e hr
    · rw [i2 (fun hr => hk (List.mem_cons_of_mem _ hr)), Maps.atKey_put_other (fun e => hk (by rw [e]; simp))]
theorem atKey_done {L : List Ed} {e : Ed} (hL : ∀ f ∈ L, WfE f) (he : WfE e) : (Maps.setOf (.lit (.bool true)) (L.map keyE) : DataW Unit).atKey (keyE e) (.lit (.bool false)) = .lit (.bool (decide (e ∈ L))) := by
  unfold Maps.setOf
  obtain ⟨i1, i2⟩ := atKey_fold (.lit (.bool true)) (.lit (.bool false)) (keyE e) (L.map keyE) (.map []) Maps.isMap_empty (fun x hx => by
    obtain ⟨f, hf, rfl⟩ := List.mem_map.1 hx
    exact stepK.key (key_at (hL f hf)))
  by_cases h : e ∈ L
  · rw [i1 (List.mem_map.2 ⟨e, h, rfl⟩), decide_eq_true h]
  · rw [i2 (fun hm => by
      obtain ⟨f, hf, hk⟩ := List.mem_map.1 hm
      exact h (key_inj (hL f hf) he hk ▸ hf)), decide_eq_false h]
    rfl
theorem DoneM.look {b : Nat} {L : List Ed} {w : World} (h : DoneM b L w) {e : Ed} (he : WfE e) : (Instr.lookup 81 (.map (some b)) (.agg (edC e)) false).run Try.prog w = .ok (.bool (decide (e ∈ L))) w := by
  obtain ⟨h1, n, _, ho⟩ := h
  obtain ⟨v, ps, hr, hv⟩ := ho.lookup (t := 81) (e := 4) stepK Try.underlying81 (z := .bool false) (by kernel_rfl) (zd := .lit (.bool false)) (zp := []) (by unfold plainElem; rw [Try.underlying4]) (key_at he)
  rw [atKey_done h1 he] at hv
  rw [hr]
  unfold plainElem at hv
  rw [Try.underlying4] at hv
  cases v <;> simp at hv
  rw [hv.1]
section
variable {ops : Array Oper} {rest : List Oper} {o : Oper} {a : Act} {w : World} {Q : Exit → Act → World → Prop}
theorem wpList_done (hg : o.guard = none) (m x : Operand) (hop : o.op = .mapUpdate 81 m x (.const (.bool true))) {b : Nat} {L : List Ed} (hm : a.eval m = .map (some b)) (hd : DoneM b L w) (e : Ed) (hx : a.eval x = .agg (edC e)) (he : WfE e) (hn : L.length < maxLen)
    (h : ∀ w', DoneM b (L ++ [e]) w' → w.grownBy w' (some b) → wpList Try.prog ops Q rest (a.put o.dst undef) w') : wpList Try.prog ops Q (o :: rest) a w := by
  obtain ⟨h1, n, hnl, ho⟩ := hd
  refine wpList_mapUpdate_own (H := Unit) w hg m x (.const (.bool true)) 81 hop 83 4 stepK Try.underlying81 _ b n _ hm ho (by omega) _ (.bool true) _ hx rfl (key_at he) (.lit (.bool true)) [] (by unfold plainElem; rw [Try.underlying4]) fun w' h2 h3 => h w' ⟨fun f hf => ?_, n + 1, by rw [List.length_append]; simp; omega, ?_⟩ h3
  · rcases List.mem_append.1 hf with hf | hf
    · exact h1 f hf
    · rw [List.mem_singleton.1 hf]; exact he
  · rw [List.map_append, List.map_singleton, Maps.setOf_snoc]
    exact h2
end
/-! ### Marks -/
/-- The marks that ranges have left: blocks from n on, each another. -/
def Marks (n : Nat) : List Deferred → World → Prop
  | [], _ => True
  | d :: ds, w => (∃ D, d = { target := .collected D, args := #[] } ∧ n ≤ D ∧ DefAt w D ∧ ∀ D', { target := .collected D', args := #[] } ∈ ds → D' ≠ D) ∧ Marks n ds w
theorem Marks.kept {n : Nat} {w w' : World} : ∀ {ds : List Deferred}, Marks n ds w → (∀ D, DefAt w D → { target := .collected D, args := #[] } ∈ ds → DefAt w' D) → Marks n ds w'
  | [], _, _ => trivial
  | d :: ds, ⟨⟨D, e, hn, hD, hne⟩, h⟩, hk => ⟨⟨D, e, hn, hk D hD (by rw [e]; simp), hne⟩, Marks.kept h (fun D' h1 h2 => hk D' h1 (by simp [h2]))⟩
theorem Marks.below {n : Nat} {w w' : World} {ds : List Deferred} (h : Marks n ds w) (hb : Below w.heap.size w w') : Marks n ds w' := h.kept fun D hD _ => hD.of_eq (hb.block _ hD.lt)
theorem Marks.chg {n c : Nat} {ds : List Deferred} {t : TypeId} {cs : Array Value} {w w' : World} (h : Marks n ds w) (ha : AtB t w c cs) (_ : True) (hc : Chg c w w') : Marks n ds w' := h.kept fun D hD _ => hD.of_eq (hc.block _ hD.lt (fun e => hD.ne ha e.symm))
theorem Marks.lt {n : Nat} {w : World} : ∀ {ds : List Deferred}, Marks n ds w → ∀ D, { target := .collected D, args := #[] } ∈ ds → D < w.heap.size
  | d :: ds, ⟨⟨D, e, hn, hD, hne⟩, h⟩, D', hm => by
    rcases List.mem_cons.1 hm with hm | hm
    · rw [e] at hm
      simp at hm
      rw [hm]; exact hD.lt
    · exact Marks.lt h D' hm
theorem Marks.leaves {F : Fence} {m : Nat} {P : Program} {fn : Func} {tmps : Array Value} {R : Ending → World → Prop} {n : Nat} {I : World → Prop} (hI : ∀ w D, n ≤ D → DefAt w D → I w → I (w.putObj D (.deferred none))) (hR : ∀ w, I w → LeavesIn F m P fn tmps R [] .returning w) :
    ∀ {ds : List Deferred} {w : World}, Marks n ds w → I w → LeavesInM F m P fn tmps R ds .returning w
  | [], w, _, h => hR w h
  | d :: ds, w, ⟨⟨D, e, hn, hD, hne⟩, h⟩, hi => by
    refine ⟨by simp, .inl ⟨D, _, by rw [e], run_takeDeferred hD, ?_⟩⟩
    refine Marks.leaves hI hR (h.kept fun D' h1 h2 => ?_) (hI w D hn hD hi)
    exact (World.putObj_heap_other (hne D' h2)).trans h1
/- Lists of edges; lists of polygons: slices of slices that the call owns. -/
def edE : Elt Ed 3 83 85 where
  enc := edC
  bytes := 24
  zero := ⟨0, 0, 0⟩
  size := fun _ => rfl
  one := fun x u hu => by
    have : u ∈ [Value.int .i64 x.x, .int .i64 x.y, .int .i64 x.d] := hu
    rcases List.mem_cons.1 this with rfl | this
    · rfl
    · rcases List.mem_cons.1 this with rfl | this
      · rfl
      · rw [List.mem_singleton.1 this]; rfl
  pos := by omega
  small := by omega
  und := Try.underlying85
  info := by kernel_rfl
  zer := by kernel_rfl
def rdE : Elt Ed 3 92 90 where
  enc := edC
  bytes := 24
  zero := ⟨0, 0, 0⟩
  size := fun _ => rfl
  one := fun x u hu => by
    have : u ∈ [Value.int .i64 x.x, .int .i64 x.y, .int .i64 x.d] := hu
    rcases List.mem_cons.1 this with rfl | this
    · rfl
    · rcases List.mem_cons.1 this with rfl | this
      · rfl
      · rw [List.mem_singleton.1 this]; rfl
  pos := by omega
  small := by omega
  und := Try.underlying90
  info := by kernel_rfl
  zer := by kernel_rfl
structure Slc where
  a : Option Addr
  n : Nat
  c : Nat
def Slc.v (s : Slc) : Value := .slice s.a s.n s.c
def slE : Elt Slc 1 22 39 where
  enc := fun s => #[s.v]
  bytes := 24
  zero := ⟨none, 0, 0⟩
  size := fun _ => rfl
  one := fun x u hu => by
    have : u ∈ [x.v] := hu
    rw [List.mem_singleton.1 this]; rfl
  pos := by omega
  small := by omega
  und := Try.underlying39
  info := by kernel_rfl
  zer := by kernel_rfl
section
variable {α β : Type} {k k' : Nat} {T ST T' ST' : TypeId} {E : Elt α k T ST} {E' : Elt β k' T' ST'} {B B' : Nat} {v v' : Value} {ls : List α} {ls' : List β} {w w' : World}
theorem OwnE.kept {row : Option Nat} (h : OwnE E B v ls w) (hg : w.grownBy w' row) (hne : v.ownBlock = none ∨ v.ownBlock ≠ row) : OwnE E B v ls w' := World.ownsRow.kept h hg hne
theorem OwnE.obj {g : Nat} (h : OwnE E B v ls w) (hv : v.ownBlock = some g) : ∃ cur, w.heap[g]? = some (.cells cur T (0, 0)) := by
  obtain ⟨_, h2⟩ := h
  rcases h2 with ⟨rfl, _⟩ | ⟨g', cap, cur, rfl, _, hg, _⟩
  · cases hv
  · have : g' = g := by simpa [Value.ownBlock] using hv
    rw [← this]
    exact ⟨cur, hg⟩
theorem OwnE.ne_obj {o : Obj} {r : Nat} (h : OwnE E B v ls w) (hr : w.heap[r]? = some o) (hT : ∀ cur, o ≠ .cells cur T (0, 0)) : v.ownBlock = none ∨ v.ownBlock ≠ some r := by
  cases hv : v.ownBlock with
  | none => exact .inl rfl
  | some g =>
    right
    intro e
    injection e with e
    obtain ⟨cur, hc⟩ := h.obj hv
    rw [e, hr] at hc
    injection hc with hc
    exact hT cur hc
theorem OwnE.ne_of (hT : T ≠ T') (h : OwnE E B v ls w) (h' : OwnE E' B' v' ls' w) : v.ownBlock = none ∨ v.ownBlock ≠ v'.ownBlock := by
  cases hv' : v'.ownBlock with
  | none =>
    cases hv : v.ownBlock with
    | none => exact .inl rfl
    | some g => exact .inr (by simp)
  | some r =>
    obtain ⟨cur, hc⟩ := h'.obj hv'
    exact h.ne_obj hc (fun cur' e => by
      injection e with _ e
      exact hT e.symm)
theorem OwnE.blk (h : OwnE E B v ls w) {g : Nat} (hv : v.ownBlock = some g) : B ≤ g ∧ g < w.heap.size := World.ownsRow.lt h g hv
variable {ops : Array Oper} {rest : List Oper} {o : Oper} {a : Act} {Q : Exit → Act → World → Prop}
/-- A slice appended to a row of the call's own: which block is turned. -/
theorem wpList_appendXB (hg : o.guard = none) (s x : Operand) (ho : o.op = .call { callee := .builtin .append, args := #[s, x], argTypes := #[ST, ST] }) (v u : Value) (hs : a.eval s = v) (hx : a.eval x = u) {ks : List α} (hown : OwnE E B v ls w) (hu : RSE E u ks w) (hks : 0 < ks.length) (hlen : ls.length + ks.length ≤ maxLen) (hby' : (ls.length + ks.length) * E.bytes ≤ 140737488355328) (hB : B ≤ w.heap.size)
    (h : ∀ v' w', OwnE E B v' (ls ++ ks) w' → w.grownBy w' v.ownBlock → wpList Try.prog ops Q rest (a.put o.dst v') w') : wpList Try.prog ops Q (o :: rest) a w := by
  obtain ⟨i, z, hi, hz, hsz, hby, hzc⟩ := E.facts
  have hzs : z.cells.size = k := by rw [hzc, E.size]
  obtain ⟨ad, c, rfl, hc⟩ := hu.len
  obtain ⟨g, of, rfl, sc⟩ := hu.at hks
  refine wpList_append_own (P := Try.prog) w hg s x ST ho B T i z k E.bytes E.und hi hz hsz hby hzs E.pos v ls.length (rowE E ls) hs hown ⟨g, of, none⟩ ks.length c (rowE E ks) hx (rowE_length E ks) ?_ (rowE_oneCell E ks) hlen hby' hB ?_
  · intro j u hu
    have e : (⟨g, of, none⟩ : Addr).add j = ⟨g, of + j, none⟩ := by unfold Addr.add; split <;> simp_all
    rw [e]
    exact sc.row j u hu
  · intro v' w' h1 h2 h3
    refine h v' w' ?_ h2
    unfold OwnE
    rw [rowE_append, List.length_append]
    exact h1
/-- A slice appended to a row of the call's own: which block is turned. -/
theorem wpList_appendX (hg : o.guard = none) (s x : Operand) (ho : o.op = .call { callee := .builtin .append, args := #[s, x], argTypes := #[ST, ST] }) (v u : Value) (hs : a.eval s = v) (hx : a.eval x = u) {ks : List α} (hown : OwnE E B v ls w) (hu : RSE E u ks w) (hks : 0 < ks.length) (hlen : ls.length + ks.length ≤ 100000000) (hB : B ≤ w.heap.size)
    (h : ∀ v' w', OwnE E B v' (ls ++ ks) w' → w.grownBy w' v.ownBlock → wpList Try.prog ops Q rest (a.put o.dst v') w') : wpList Try.prog ops Q (o :: rest) a w := by
  refine wpList_appendXB hg s x ho v u hs hx hown hu hks (by unfold maxLen; omega) ?_ hB h
  have := Nat.mul_le_mul hlen E.small
  omega
end
/-- v is a list of the polygons P: rows that the call owns. -/
def OwnP (B : Nat) (v : Value) (P : List (List Pnt)) (w : World) : Prop := ∃ vs : List Slc, OwnE slE B v vs w ∧ vs.length = P.length ∧ ∀ (i : Nat) (s : Slc) (l : List Pnt), vs[i]? = some s → P[i]? = some l → OwnE ptE B s.v l w
/-- v is a list of the polygons P. -/
def RPoly (v : Value) (P : List (List Pnt)) (w : World) : Prop := ∃ vs : List Slc, RSE slE v vs w ∧ vs.length = P.length ∧ ∀ (i : Nat) (s : Slc) (l : List Pnt), vs[i]? = some s → P[i]? = some l → RSE ptE s.v l w
section
variable {B : Nat} {v : Value} {P : List (List Pnt)} {w w' : World}
theorem OwnP.nil (B : Nat) (w : World) : OwnP B (.slice none 0 0) [] w := ⟨[], OwnE.nil B w, rfl, fun i s l h => (by simp at h)⟩
theorem OwnP.kept {row : Option Nat} (h : OwnP B v P w) (hg : w.grownBy w' row) (hr : ∀ r, row = some r → ∃ o : Obj, w.heap[r]? = some o ∧ (∀ cur, o ≠ .cells cur 22 (0, 0)) ∧ ∀ cur, o ≠ .cells cur 44 (0, 0)) : OwnP B v P w' := by
  obtain ⟨vs, h1, h2, h3⟩ := h
  have key : ∀ {α : Type} {k : Nat} {T ST : TypeId} {E : Elt α k T ST} {v : Value} {ls : List α}, OwnE E B v ls w → (∀ r, row = some r → ∃ o : Obj, w.heap[r]? = some o ∧ ∀ cur, o ≠ .cells cur T (0, 0)) → OwnE E B v ls w' := fun ho hrr => by
    refine ho.kept hg ?_
    cases hrow : row with
    | none =>
      rename_i v _
      cases hv : v.ownBlock with
      | none => exact .inl rfl
      | some g => exact .inr (by simp)
    | some r =>
      obtain ⟨o, h4, h5⟩ := hrr r hrow
      exact ho.ne_obj h4 h5
  exact ⟨vs, key h1 (fun r e => let ⟨o, a, b, _⟩ := hr r e; ⟨o, a, b⟩), h2, fun i s l a b => key (h3 i s l a b) (fun r e => let ⟨o, a, _, b⟩ := hr r e; ⟨o, a, b⟩)⟩
theorem OwnP.below (h : OwnP B v P w) (hb : Below w.heap.size w w') : OwnP B v P w' := h.kept (grown_of_below hb) (fun r e => by cases e)
theorem OwnP.mono {B' : Nat} (h : OwnP B v P w) (hb : B' ≤ B) : OwnP B' v P w := by
  obtain ⟨vs, h1, h2, h3⟩ := h
  exact ⟨vs, h1.mono hb, h2, fun i s l a b => (h3 i s l a b).mono hb⟩
theorem OwnP.len (h : OwnP B v P w) : ∃ a c, v = .slice a P.length c ∧ P.length ≤ c := by
  obtain ⟨vs, h1, h2, h3⟩ := h
  rw [← h2]
  exact h1.len
theorem OwnP.blk (h : OwnP B v P w) {g : Nat} (hv : v.ownBlock = some g) : B ≤ g ∧ g < w.heap.size ∧ ∃ cur, w.heap[g]? = some (.cells cur 22 (0, 0)) := by
  obtain ⟨vs, h1, h2, h3⟩ := h
  exact ⟨(h1.blk hv).1, (h1.blk hv).2, h1.obj hv⟩
theorem OwnP.rs (h : OwnP B v P w) : RPoly v P w := by
  obtain ⟨vs, h1, h2, h3⟩ := h
  exact ⟨vs, h1.rs, h2, fun i s l a b => (h3 i s l a b).rs⟩
theorem RPoly.below (h : RPoly v P w) (hb : Below w.heap.size w w') : RPoly v P w' := by
  obtain ⟨vs, h1, h2, h3⟩ := h
  exact ⟨vs, h1.below hb, h2, fun i s l a b => (h3 i s l a b).below hb⟩
theorem RPoly.len (h : RPoly v P w) : ∃ a c, v = .slice a P.length c ∧ P.length ≤ c := by
  obtain ⟨vs, h1, h2, h3⟩ := h
  rw [← h2]
  exact h1.len
variable {ops : Array Oper} {rest : List Oper} {o : Oper} {a : Act} {Q : Exit → Act → World → Prop}
/-- A polygon appended. -/
theorem wpList_appendP (hg : o.guard = none) (s x : Operand) (ho : o.op = .call { callee := .builtin .append, args := #[s, x], argTypes := #[39, 39] }) (v : Value) (hs : a.eval s = v) (sl : Slc) (l : List Pnt) {b : Nat} (hx : a.eval x = .slice (some ⟨b, 0, none⟩) 1 1) (hown : OwnP B v P w) (hb : AtB 22 w b #[sl.v]) (hl : OwnE ptE B sl.v l w) (hlen : P.length + 1 ≤ 100000000) (hB : B ≤ w.heap.size)
    (h : ∀ v' w', OwnP B v' (P ++ [l]) w' → w.grownBy w' v.ownBlock → wpList Try.prog ops Q rest (a.put o.dst v') w') : wpList Try.prog ops Q (o :: rest) a w := by
  obtain ⟨vs, h1, h2, h3⟩ := hown
  refine wpList_appendX (E := slE) hg s x ho v _ hs hx h1 (RSE.one (E := slE) (x := sl) hb) (by simp) (by rw [h2]; simpa using hlen) hB fun v' w' h4 h5 => h v' w' ⟨vs ++ [sl], h4, by simp [h2], fun i s l' hi hl' => ?_⟩ h5
  rw [List.getElem?_append] at hi hl'
  by_cases hlt : i < vs.length
  · rw [if_pos hlt] at hi
    rw [if_pos (by omega)] at hl'
    exact (h3 i s l' hi hl').kept h5 ((h3 i s l' hi hl').ne_of (by decide) h1)
  · rw [if_neg hlt] at hi
    rw [if_neg (by omega)] at hl'
    have e : i - vs.length = 0 := by
      have := (List.getElem?_eq_some_iff.1 hi).1
      simp at this
      omega
    rw [e] at hi
    rw [show i - P.length = 0 by omega] at hl'
    have e1 : sl = s := by simpa using hi
    have e2 : l = l' := by simpa using hl'
    subst e1 e2
    exact hl.kept h5 (hl.ne_of (by decide) h1)
end
end Go.Proofs.Ytamgpfblhlfhaaa
/- Plain: how many edges, how many polygons a scan has. -/
namespace Go.Proofs.Ytamgpfblhlfhaaa
open Go.RowKit Pl
set_option linter.unusedVariables false
set_option linter.unusedSimpArgs false
theorem scan1_len {S : Int → Int → Bool} {r : Rc} (hb : BoxE S r) (st : ScSt) (x y : Int) : (scan1 S r st x y).1.length ≤ st.1.length + boxN r ∧ (scan1 S r st x y).2.length ≤ st.2.length + 1 := by
  unfold scan1
  by_cases h : (decide ((⟨x, y, 0⟩ : Ed) ∈ st.1) || !hasE S x y 0) = true
  · rw [if_pos h]; omega
  · rw [if_neg h]
    simp only [Bool.or_eq_true, not_or, Bool.not_eq_true', Bool.not_eq_false] at h
    have hB : Bnd S ⟨x, y, 0⟩ := ⟨⟨Int.le_refl _, by show (0 : Int) ≤ 3; omega⟩, h.2⟩
    have := (perE_spec hb hB).2.2.1
    simp only [List.length_append, List.length_cons, List.length_nil]
    unfold folE
    rw [orbK_len]
    omega
theorem scanX_len {S : Int → Int → Bool} {r : Rc} (hb : BoxE S r) (y : Int) (st : ScSt) : ∀ k, (scanX S r y st k).1.length ≤ st.1.length + k * boxN r ∧ (scanX S r y st k).2.length ≤ st.2.length + k
  | 0 => by show st.1.length ≤ _ ∧ st.2.length ≤ _; omega
  | k + 1 => by
    have ih := scanX_len hb y st k
    have h1 := scan1_len hb (scanX S r y st k) (r.x0 + (k : Int)) y
    show (scan1 S r (scanX S r y st k) (r.x0 + (k : Int)) y).1.length ≤ _ ∧ _
    rw [Nat.succ_mul]
    exact ⟨by omega, by have h2 := h1.2; show (scan1 S r (scanX S r y st k) (r.x0 + (k : Int)) y).2.length ≤ _; omega⟩
theorem scanY_len {S : Int → Int → Bool} {r : Rc} (hb : BoxE S r) : ∀ k, (scanY S r k).1.length ≤ k * ((r.x1 - r.x0).toNat * boxN r) ∧ (scanY S r k).2.length ≤ k * (r.x1 - r.x0).toNat
  | 0 => by show (0 : Nat) ≤ _ ∧ (0 : Nat) ≤ _; omega
  | k + 1 => by
    have ih := scanY_len hb k
    have h1 := scanX_len hb (r.y0 + (k : Int)) (scanY S r k) (r.x1 - r.x0).toNat
    show (scanX S r (r.y0 + (k : Int)) (scanY S r k) (r.x1 - r.x0).toNat).1.length ≤ _ ∧ (scanX S r (r.y0 + (k : Int)) (scanY S r k) (r.x1 - r.x0).toNat).2.length ≤ _
    rw [Nat.succ_mul, Nat.succ_mul]
    omega
/-- In a small box. -/
theorem box_small {r : Rc} (h : -100 ≤ r.x0 ∧ r.x1 ≤ 100 ∧ -100 ≤ r.y0 ∧ r.y1 ≤ 100) : boxN r ≤ 161604 ∧ (r.x1 - r.x0).toNat ≤ 200 ∧ (r.y1 - r.y0).toNat ≤ 200 := by
  have h1 : (r.x1 - r.x0).toNat ≤ 200 := by omega
  have h2 : (r.y1 - r.y0).toNat ≤ 200 := by omega
  refine ⟨?_, h1, h2⟩
  unfold boxN
  have h3 := Nat.mul_le_mul (show 4 * ((r.x1 - r.x0).toNat + 1) ≤ 804 by omega) (show (r.y1 - r.y0).toNat + 1 ≤ 201 by omega)
  omega
theorem scan_small {S : Int → Int → Bool} {r : Rc} (hb : BoxE S r) (h : -100 ≤ r.x0 ∧ r.x1 ≤ 100 ∧ -100 ≤ r.y0 ∧ r.y1 ≤ 100) {i j : Nat} (hi : i ≤ (r.y1 - r.y0).toNat) (hj : j ≤ (r.x1 - r.x0).toNat) (y : Int) :
    (scanX S r y (scanY S r i) j).1.length ≤ 7000000000 ∧ (scanX S r y (scanY S r i) j).2.length ≤ 50000 := by
  obtain ⟨b1, b2, b3⟩ := box_small h
  have h1 := scanX_len hb y (scanY S r i) j
  have h2 := scanY_len hb i
  have m1 : j * boxN r ≤ 200 * 161604 := Nat.mul_le_mul (by omega) b1
  have m2 : (r.x1 - r.x0).toNat * boxN r ≤ 200 * 161604 := Nat.mul_le_mul b2 b1
  have m3 : i * ((r.x1 - r.x0).toNat * boxN r) ≤ 200 * (200 * 161604) := Nat.mul_le_mul (by omega) m2
  have m4 : i * (r.x1 - r.x0).toNat ≤ 200 * 200 := Nat.mul_le_mul (by omega) b2
  omega
theorem edG_orb (S : Int → Int → Bool) (s : Ed) {n i : Nat} (h : i < n) : edG (orbK S s n) i = orbE S s i := by
  unfold edG
  rw [List.getD_eq_getElem?_getD, orbK_at S s h]
  rfl
/-- The direction that is tried j-th. -/
def dirF (d : Int) (j : Nat) : Int := (d + 1 + 3 * (j : Int)) % 4
/-- The first direction, of those tried so far, in which an edge goes on; -1 where none does. -/
def nxF (S : Int → Int → Bool) (x y d : Int) : Nat → Int
  | 0 => -1
  | j + 1 => if (hasE S x y (dirF d j) && decide (nxF S x y d j < 0)) = true then dirF d j else nxF S x y d j
end Go.Proofs.Ytamgpfblhlfhaaa
/- For Outline: blocks for a map, for a list of edges; what a range over edges leaves as it was. -/
namespace Go.Proofs.Ytamgpfblhlfhaaa
open Go.RowKit Go.Shelf Pl
attribute [local go_sem] Oper.semAt_some
set_option linter.unusedVariables false
set_option linter.unusedSimpArgs false
set_option maxRecDepth 20000
theorem run_alloc_Bd (w : World) (o : Oper) (ho : o.op = .alloc 80) (ev : Operand → Value) : (execOp ev o).run Try.prog w = .ok (.value (.pointer (some ⟨w.heap.size, 0, none⟩))) (w.alloc (.cells #[.nilFunc] 80)) := by
  obtain ⟨d, p, t, ps, af, gd⟩ := o
  simp only at ho
  subst ho
  kernel_rfl
theorem run_alloc_Mv (w : World) (o : Oper) (ho : o.op = .alloc 81) (ev : Operand → Value) : (execOp ev o).run Try.prog w = .ok (.value (.pointer (some ⟨w.heap.size, 0, none⟩))) (w.alloc (.cells #[.map none] 81)) := by
  obtain ⟨d, p, t, ps, af, gd⟩ := o
  simp only at ho
  subst ho
  kernel_rfl
theorem run_alloc_Ss (w : World) (o : Oper) (ho : o.op = .alloc 85) (ev : Operand → Value) : (execOp ev o).run Try.prog w = .ok (.value (.pointer (some ⟨w.heap.size, 0, none⟩))) (w.alloc (.cells #[.slice none 0 0] 85)) := by
  obtain ⟨d, p, t, ps, af, gd⟩ := o
  simp only at ho
  subst ho
  kernel_rfl
theorem run_load_mv {w : World} {b j : Nat} {v : Value} (h : w.cell? ⟨b, j, none⟩ = some v) : (Instr.loadAt 81 (.pointer (some ⟨b, j, none⟩))).run Try.prog w = .ok v w := by
  simp [go_sem, h]
theorem run_load_ss {w : World} {b j : Nat} {v : Value} (h : w.cell? ⟨b, j, none⟩ = some v) : (Instr.loadAt 85 (.pointer (some ⟨b, j, none⟩))).run Try.prog w = .ok v w := by
  simp [go_sem, h]
section
variable {v : Value} {ops : Array Oper} {rest : List Oper} {o : Oper} {a : Act} {w : World} {Q : Exit → Act → World → Prop}
theorem wpList_storeSs (hg : o.guard = none) (x y : Operand) (ho : o.op = .store 85 x y) (b : Nat) (hx : a.eval x = .pointer (some ⟨b, 0, none⟩)) (a' : Option Addr) (n' c' : Nat) (hy : a.eval y = .slice a' n' c') (ht : AtB 85 w b #[v])
    (h : ∀ w', AtB 85 w' b #[.slice a' n' c'] → Chg b w w' → w'.heap.size = w.heap.size → wpList Try.prog ops Q rest (a.put o.dst undef) w') : wpList Try.prog ops Q (o :: rest) a w := by
  have c0 := ht.cell 0 rfl
  have f0 := ht.frozen 0
  refine wpList_storeAny hg x y ho (w.setCell ⟨b, 0, none⟩ (.slice a' n' c')) ?_ (h _ ?_ ((Chg.refl b w).setCell _) (by simp only [World.size_setCell]))
  · rw [hx, hy]
    simp [go_sem, c0, f0]
  · exact heap_setCell_same w b 0 #[v] _ _ ht
theorem wpList_storeMv (hg : o.guard = none) (x y : Operand) (ho : o.op = .store 81 x y) (b m : Nat) (hx : a.eval x = .pointer (some ⟨b, 0, none⟩)) (hy : a.eval y = .map (some m)) (ht : AtB 81 w b #[v])
    (h : ∀ w', AtB 81 w' b #[.map (some m)] → Chg b w w' → w'.heap.size = w.heap.size → wpList Try.prog ops Q rest (a.put o.dst undef) w') : wpList Try.prog ops Q (o :: rest) a w := by
  have c0 := ht.cell 0 rfl
  have f0 := ht.frozen 0
  refine wpList_storeAny hg x y ho (w.setCell ⟨b, 0, none⟩ (.map (some m))) ?_ (h _ ?_ ((Chg.refl b w).setCell _) (by simp only [World.size_setCell]))
  · rw [hx, hy]
    simp [go_sem, c0, f0]
  · exact heap_setCell_same w b 0 #[v] _ _ ht
theorem wpList_mkMap (hg : o.guard = none) (ho : o.op = .makeMap 81 none)
    (h : ∀ b w', w.heap.size ≤ b → b ≤ w.heap.size → DoneM b [] w' → Below b w w' → w'.heap.size = b + 1 → wpList Try.prog ops Q rest (a.put o.dst (.map (some b))) w') : wpList Try.prog ops Q (o :: rest) a w :=
  wpList_plain hg fun K hK => by
    unfold Oper.wp
    have e : (execOp a.eval o).run Try.prog w = .ok (.value (.map (some w.heap.size))) (w.alloc (.map #[] 0)) := by
      obtain ⟨d, p, t, ps, af, gd⟩ := o
      simp only at ho
      subst ho
      rfl
    rw [e]
    exact hK _ _ (h _ _ (Nat.le_refl _) (Nat.le_refl _) (DoneM.nil (World.alloc_heap_new w _)) ((Below.refl _ _).alloc (Nat.le_refl _) _) (World.size_alloc _ _))
end
/-- Of what was there at A only the blocks m and l have turned. -/
structure KX (A : World) (m l : Nat) (W : World) : Prop where
  os : W.os = A.os
  tape : W.tape = A.tape
  output : W.output = A.output
  size : A.heap.size ≤ W.heap.size
  block : ∀ k, k < A.heap.size → k ≠ m → k ≠ l → W.heap[k]? = A.heap[k]?
theorem KX.refl (A : World) (m l : Nat) : KX A m l A := ⟨rfl, rfl, rfl, Nat.le_refl _, fun _ _ _ _ => rfl⟩
theorem KX.grown {A W W' : World} {m l : Nat} {row : Option Nat} (h : KX A m l W) (hg : W.grownBy W' row) (hr : ∀ r, row = some r → A.heap.size ≤ r ∨ r = m ∨ r = l) : KX A m l W' :=
  ⟨hg.os.trans h.os, hg.tape.trans h.tape, hg.output.trans h.output, Nat.le_trans h.size hg.size, fun k hk h1 h2 => (hg.block k (by have := h.size; omega) (fun e => by have := hr k e.symm; omega)).trans (h.block k hk h1 h2)⟩
theorem KX.atB {A W : World} {m l b : Nat} {t : TypeId} {cs : Array Value} (h : KX A m l W) (ha : AtB t A b cs) (h1 : b ≠ m) (h2 : b ≠ l) : AtB t W b cs := ha.of_eq (h.block b ha.lt h1 h2)
theorem KX.below {A W w : World} {m l n : Nat} (h : KX A m l W) (hb : Below n w A) (hn : n ≤ A.heap.size) (h1 : n ≤ m) (h2 : n ≤ l) : Below n w W :=
  ⟨h.os.trans hb.os, h.tape.trans hb.tape, h.output.trans hb.output, Nat.le_trans hb.size h.size, fun k hk => (h.block k (by omega) (by omega) (by omega)).trans (hb.block k hk)⟩
theorem KX.hold {A W w : World} {m l n : Nat} (h : KX A m l W) (hb : HoldC n w A) (h1 : n ≤ m) (h2 : n ≤ l) : HoldC n w W := fun k o hk ho hc => by
  have h3 := hb k o hk ho hc
  exact (h.block k (Array.getElem?_eq_some_iff.1 h3).1 (by omega) (by omega)).trans h3
theorem KX.marks {A W : World} {m l n : Nat} {ds : List Deferred} (h : KX A m l W) (hm : Marks n ds A) (h1 : ∀ D, DefAt A D → D ≠ m) (h2 : ∀ D, DefAt A D → D ≠ l) : Marks n ds W := hm.kept fun D hD _ => hD.of_eq (h.block D hD.lt (h1 D hD) (h2 D hD))
theorem OwnE.keptO {α : Type} {k : Nat} {T ST : TypeId} {E : Elt α k T ST} {B : Nat} {v : Value} {ls : List α} {w w' : World} (h : OwnE E B v ls w) (hk : ∀ (g : Nat) (cur : Array Value), w.heap[g]? = some (Obj.cells cur T (0, 0)) → w'.heap[g]? = some (Obj.cells cur T (0, 0))) : OwnE E B v ls w' := by
  obtain ⟨h1, h2⟩ := h
  refine ⟨h1, ?_⟩
  rcases h2 with h2 | ⟨g, cap, cur, e, hb, hg, r⟩
  · exact .inl h2
  · exact .inr ⟨g, cap, cur, e, hb, hk g cur hg, r⟩
theorem OwnP.keptO {B : Nat} {v : Value} {P : List (List Pnt)} {w w' : World} (h : OwnP B v P w) (hk : ∀ (g : Nat) (cur : Array Value) (t : TypeId), t = 22 ∨ t = 44 → w.heap[g]? = some (Obj.cells cur t (0, 0)) → w'.heap[g]? = some (Obj.cells cur t (0, 0))) : OwnP B v P w' := by
  obtain ⟨vs, h1, h2, h3⟩ := h
  exact ⟨vs, h1.keptO (fun g cur => hk g cur _ (.inl rfl)), h2, fun i s l a b => (h3 i s l a b).keptO (fun g cur => hk g cur _ (.inr rfl))⟩
theorem OwnP.chg {B c : Nat} {v : Value} {P : List (List Pnt)} {t : TypeId} {cs : Array Value} {w w' : World} (h : OwnP B v P w) (ha : AtB t w c cs) (ht : t ≠ 22 ∧ t ≠ 44) (hc : Chg c w w') : OwnP B v P w' :=
  h.keptO fun g cur t' ht' hg => (hc.block g (Array.getElem?_eq_some_iff.1 hg).1 (fun e => by
    rw [e, show w.heap[c]? = _ from ha] at hg
    injection hg with hg
    injection hg with _ hg
    rcases ht' with rfl | rfl
    · exact ht.1 hg
    · exact ht.2 hg)).trans hg
theorem KX.polys {A W : World} {m l B : Nat} {v : Value} {P : List (List Pnt)} (h : KX A m l W) (hp : OwnP B v P A) (h1 : ∃ es c, A.heap[m]? = some (.map es c)) {t : TypeId} {cs : Array Value} (h2 : AtB t A l cs) (ht : t ≠ 22 ∧ t ≠ 44) : OwnP B v P W :=
  hp.keptO fun g cur t' ht' hg => (h.block g (Array.getElem?_eq_some_iff.1 hg).1 (fun e => by
    obtain ⟨es, c, h1⟩ := h1
    rw [e, h1] at hg
    cases hg) (fun e => by
    rw [e, show A.heap[l]? = _ from h2] at hg
    injection hg with hg
    injection hg with _ hg
    rcases ht' with rfl | rfl
    · exact ht.1 hg
    · exact ht.2 hg)).trans hg
/-- A range's facts lie in cells, the map aside. -/
theorem chg_of_grown {w w' : World} {b : Nat} (h : w.grownBy w' (some b)) : Chg b w w' := ⟨h.os, h.tape, h.output, h.size, fun k hk hne => h.block k hk (fun e => hne (by injection e))⟩
theorem DoneM.ne {m b : Nat} {L : List Ed} {t : TypeId} {cs : Array Value} {w : World} (h : DoneM m L w) (ha : AtB t w b cs) : b ≠ m := fun e => by
  obtain ⟨es, c, ho⟩ := h.obj
  rw [← e, show w.heap[b]? = _ from ha] at ho
  cases ho
theorem DoneM.neD {m D : Nat} {L : List Ed} {w : World} (h : DoneM m L w) (ha : DefAt w D) : D ≠ m := fun e => by
  obtain ⟨es, c, ho⟩ := h.obj
  rw [← e, show w.heap[D]? = _ from ha] at ho
  cases ho
theorem DoneM.of_eq {b : Nat} {L : List Ed} {w w' : World} (h : DoneM b L w) (e : w'.heap[b]? = w.heap[b]?) : DoneM b L w' := by
  obtain ⟨h1, n, h2, es, c, h3, r⟩ := h
  exact ⟨h1, n, h2, es, c, e.trans h3, r⟩
theorem OwnE.chgT {α : Type} {k : Nat} {T ST : TypeId} {E : Elt α k T ST} {B c : Nat} {v : Value} {ls : List α} {t : TypeId} {cs : Array Value} {w w' : World} (h : OwnE E B v ls w) (ha : AtB t w c cs) (ht : t ≠ T) (hc : Chg c w w') : OwnE E B v ls w' :=
  h.keptO fun g cur hg => (hc.block g (Array.getElem?_eq_some_iff.1 hg).1 (fun e => by
    rw [e, show w.heap[c]? = _ from ha] at hg
    injection hg with hg
    injection hg with _ hg
    exact ht hg)).trans hg
theorem OwnE.ownR {α : Type} {k : Nat} {T ST : TypeId} {E : Elt α k T ST} {B : Nat} {v : Value} {ls : List α} {w w' : World} {row : Option Nat} (h : OwnE E B v ls w) (hg : w.grownBy w' row) (hr : ∀ r, row = some r → ∃ o : Obj, w.heap[r]? = some o ∧ o.isCells = false) : OwnE E B v ls w' := by
  refine h.kept hg ?_
  cases hrow : row with
  | none =>
    cases hv : v.ownBlock with
    | none => exact .inl rfl
    | some g => exact .inr (by simp)
  | some r =>
    obtain ⟨o, h1, h2⟩ := hr r hrow
    exact h.ne_obj h1 (fun cur e => by rw [e] at h2; cases h2)
theorem OwnE.keptC {α : Type} {k : Nat} {T ST : TypeId} {E : Elt α k T ST} {B : Nat} {v : Value} {ls : List α} {w w' : World} {row : Option Nat} (h : OwnE E B v ls w) (hg : w.grownBy w' row) (hr : ∀ r, row = some r → r < B) : OwnE E B v ls w' := by
  refine h.kept hg ?_
  cases hv : v.ownBlock with
  | none => exact .inl rfl
  | some g => exact .inr fun e => by have := hr g e.symm; have := (h.blk hv).1; omega
theorem KX.exc {A W W' : World} {m l n : Nat} (h : KX A m l W) (he : Exc m n W W') (hn : A.heap.size ≤ n) : KX A m l W' :=
  ⟨he.os.trans h.os, he.tape.trans h.tape, he.output.trans h.output, Nat.le_trans h.size he.grow, fun k hk h1 h2 => (he.block k (by omega) h1).trans (h.block k hk h1 h2)⟩
theorem KX.chgL {A W W' : World} {m l : Nat} (h : KX A m l W) (hc : Chg l W W') : KX A m l W' :=
  ⟨hc.os.trans h.os, hc.tape.trans h.tape, hc.output.trans h.output, Nat.le_trans h.size hc.size, fun k hk h1 h2 => (hc.block k (by have := h.size; omega) h2).trans (h.block k hk h1 h2)⟩
theorem rce_edS {g o : Nat} {ls : List Ed} {w : World} (h : RCellsE edE g o ls w) {i : Nat} {x y d : Int} (hi : ls[i]? = some ⟨x, y, d⟩) : (Instr.loadAt 83 (.pointer (some ⟨g, o + i * 3, none⟩))).run Try.prog w = .ok (.agg #[.int .i64 x, .int .i64 y, .int .i64 d]) w :=
  h.load Try.isAgg83 hi
theorem rce_eddS {g o : Nat} {ls : List Ed} {w : World} (h : RCellsE edE g o ls w) {i : Nat} {x y d : Int} (hi : ls[i]? = some ⟨x, y, d⟩) : (Instr.loadAt 3 (.pointer (some ⟨g, o + i * 3 + 2, none⟩))).run Try.prog w = .ok (.int .i64 d) w :=
  run_load_int (by have := h.2 i _ hi 2 (by omega); rw [← Nat.add_assoc] at this; exact this)
section
variable {ops : Array Oper} {rest : List Oper} {o : Oper} {a : Act} {w : World} {Q : Exit → Act → World → Prop}
theorem owp_bs1S {K : Act → World → Prop} (y : Operand) (ho : o.op = .buildSlice 39 1 #[(0, y)]) (s : Slc) (hy : a.eval y = s.v)
    (h : ∀ b w', w.heap.size ≤ b → b ≤ w.heap.size → AtB 22 w' b #[s.v] → Below b w w' → w'.heap.size = b + 1 → K (a.put o.dst (.slice (some ⟨b, 0, none⟩) 1 1)) w') : o.wp Try.prog a w K Q := by
  obtain ⟨i, z, hi, hz, hsz, hby, hzc⟩ := slE.facts
  refine wp_buildSlice 39 22 1 #[(0, y)] ho #[s.v] i z slE.und hi hz (by rw [hsz]; omega) (by rw [hsz]; omega) ?_ (h _ _ (Nat.le_refl _) (Nat.le_refl _) (by unfold AtB; rw [heap_get_alloc, if_pos rfl]) ((Below.refl _ _).alloc (Nat.le_refl _) _) (World.size_alloc _ _))
  rw [hsz]
  have hp : ((#[(0, y)] : Array (Nat × Operand)).map fun (i, x) => (i, a.eval x)).toList = [(0, s.v)] := by simp [hy]
  rw [hp]
  have hc : (s.v).cells = #[s.v] := rfl
  obtain ⟨r, hr1, hr2, hr3⟩ := Great.fill_dense (show 0 < 1 by omega) [s.v] 0 ((Array.range (1 * 1)).map (z.cells[· % z.cells.size]!)) (fun v hv => by rw [List.mem_singleton.1 hv, hc]; rfl) (by simp)
  have e : (([s.v].zipIdx 0).map fun y => (y.2, y.1)) = [(0, s.v)] := rfl
  rw [e] at hr1
  rw [hr1]
  congr 1
  apply Array.ext_getElem?
  intro j
  rw [hr3 j]
  by_cases h : j < 1
  · have : j = 0 := by omega
    subst this
    simp [hc]
  · rw [if_neg (by simp; omega), Array.getElem?_eq_none (by simp; omega), Array.getElem?_eq_none (by simp; omega)]
theorem wpList_bs1S (hg : o.guard = none) (y : Operand) (ho : o.op = .buildSlice 39 1 #[(0, y)]) (s : Slc) (hy : a.eval y = s.v)
    (h : ∀ b w', w.heap.size ≤ b → b ≤ w.heap.size → AtB 22 w' b #[s.v] → Below b w w' → w'.heap.size = b + 1 → wpList Try.prog ops Q rest (a.put o.dst (.slice (some ⟨b, 0, none⟩) 1 1)) w') : wpList Try.prog ops Q (o :: rest) a w :=
  wpList_plain hg fun K hK => owp_bs1S y ho s hy fun b w' h1 h2 h3 h4 h5 => hK _ _ (h b w' h1 h2 h3 h4 h5)
end
theorem HoldC.grown {n : Nat} {A W W' : World} {row : Option Nat} (h : HoldC n A W) (hg : W.grownBy W' row) (hr : ∀ r, row = some r → n ≤ r) : HoldC n A W' := fun k o hk ho hc => by
  have h1 := h k o hk ho hc
  exact (hg.block k (Array.getElem?_eq_some_iff.1 h1).1 (fun e => by have := hr k e.symm; omega)).trans h1
theorem Below.grown' {n : Nat} {A W W' : World} {row : Option Nat} (h : Below n A W) (hn : n ≤ A.heap.size) (hg : W.grownBy W' row) (hr : ∀ r, row = some r → n ≤ r) : Below n A W' := by
  refine ⟨hg.os.trans h.os, hg.tape.trans h.tape, hg.output.trans h.output, Nat.le_trans h.size hg.size, fun k hk => ?_⟩
  have h1 := h.size
  exact (hg.block k (by omega) (fun e => by have := hr k e.symm; omega)).trans (h.block k hk)
end Go.Proofs.Ytamgpfblhlfhaaa
/- The reference's lists of edges: has, follow, corners. -/
namespace Go.Proofs.Ytamgpfblhlfhaaa
open Go.RowKit Go.Shelf Pl
set_option linter.unusedVariables false
set_option linter.unusedSimpArgs false
set_option maxRecDepth 20000
/- The reference's follow: the edges of the polygon that starts with an edge. -/
theorem OwnE.one {α : Type} {k : Nat} {T ST : TypeId} {E : Elt α k T ST} {B b : Nat} {x : α} {w : World} (h : AtB T w b (E.enc x)) (hb : B ≤ b) : OwnE E B (.slice (some ⟨b, 0, none⟩) 1 1) [x] w := by
  have hl : (rowE E [x]).length = 1 * k := rowE_length E [x]
  refine ⟨hl, .inr ⟨b, 1, E.enc x, rfl, hb, h, Nat.le_refl _, by unfold maxLen; omega, by rw [E.size, Nat.one_mul], ?_⟩⟩
  have e : rowE E [x] = (E.enc x).toList := by show (E.enc x).toList ++ [] = _; rw [List.append_nil]
  show (E.enc x).toList.take (1 * k) = _
  rw [e, List.take_of_length_le (by rw [Array.length_toList, E.size]; omega)]
def lenV : Value → Nat
  | .slice _ n _ => n
  | _ => 0
/- The reference's Outline. -/
/- SamePaths: equal lists of polygons. -/
theorem run_load_sp {w : World} {b j : Nat} {v : Value} (h : w.cell? ⟨b, j, none⟩ = some v) : (Instr.loadAt 22 (.pointer (some ⟨b, j, none⟩))).run Try.prog w = .ok v w := by
  simp [go_sem, h]
theorem rce_sl {g o : Nat} {vs : List Slc} {w : World} (h : RCellsE slE g o vs w) {i : Nat} {a : Option Addr} {n c : Nat} (hi : vs[i]? = some ⟨a, n, c⟩) : (Instr.loadAt 22 (.pointer (some ⟨g, o + i * 1, none⟩))).run Try.prog w = .ok (.slice a n c) w :=
  run_load_sp (by have := h.2 i _ hi 0 (by omega); rw [Nat.add_zero] at this; exact this)
theorem equalIn_pt (d : Nat) (x y x' y' : Int) (w : World) : (Op.equalIn (d + 2) 44 (.agg #[.int .i64 x, .int .i64 y]) (.agg #[.int .i64 x', .int .i64 y'])).run Try.prog w = .ok (decide ((x, y) = (x', y'))) w := by
  have h : (Op.equalIn (d + 2) 44 (.agg #[.int .i64 x, .int .i64 y]) (.agg #[.int .i64 x', .int .i64 y'])).run Try.prog w = .ok (x == x' && y == y') w := by
    by_cases h1 : x = x' <;> by_cases h2 : y = y' <;> simp [go_sem, h1, h2]
  rw [h]
  congr 1
  rw [Bool.eq_iff_iff]
  simp
theorem neq_pt (x y x' y' : Int) (w : World) : (binOp .neq 44 (.agg #[.int .i64 x, .int .i64 y]) (.agg #[.int .i64 x', .int .i64 y'])).run Try.prog w = .ok (.bool (!decide ((x, y) = (x', y')))) w := by
  have h := run_neq_struct (P := Try.prog) w 44 #[.int .i64 x, .int .i64 y] #[.int .i64 x', .int .i64 y']
  rw [h, equalIn_pt 9998 x y x' y' w]; rfl
section
variable {o : Oper} {a : Act} {C : World → Prop} {K : Act → Prop}
theorem quiet_neqP {p q : Operand} {t2 : TypeId} (h : o.op = .binOp .neq 44 p q t2) (x y x' y' : Int) (hx : a.eval p = .agg #[.int .i64 x, .int .i64 y]) (hy : a.eval q = .agg #[.int .i64 x', .int .i64 y']) (b : Bool) (hb : decide ((x, y) = (x', y')) = !b) (hk : K (a.put o.dst (.bool b))) : o.quiet Try.prog a C K :=
  ⟨_, fun w hw => by
    have hg : (eqGuard .neq 44 p q (.agg #[.int .i64 x, .int .i64 y]) (.agg #[.int .i64 x', .int .i64 y'])).run Try.prog w = .ok () w := run_eqGuard_agg w _ 44 p q _ _ (by kernel_rfl)
    unfold Oper.quietAt execOp
    simp only [h, hx, hy, hg, neq_pt, hb, Bool.not_not, Sem.run_bind, Sem.run_pure, Result.andThen_ok]
    exact ⟨rfl, rfl⟩, hk⟩
end
theorem getD_ne {α : Type} {l m : List α} {i : Nat} (h : l[i]? ≠ m[i]?) : l ≠ m := fun e => h (by rw [e])
theorem all_eq {α : Type} {l m : List α} (hl : l.length = m.length) (h : ∀ i, i < l.length → l[i]? = m[i]?) : l = m := by
  refine List.ext_getElem? fun i => ?_
  by_cases hi : i < l.length
  · exact h i hi
  · rw [List.getElem?_eq_none (by omega), List.getElem?_eq_none (by omega)]
set_option maxHeartbeats 8000000 in
theorem R_SamePaths (v v' : Value) (P P' : List (List Pnt)) (w : World) (h : RPoly v P w) (h' : RPoly v' P' w) (hn : P.length ≤ 1000000) (hn' : P'.length ≤ 1000000) (hL : ∀ l ∈ P, l.length ≤ 1000000) : Calls Try.prog 20 #[v, v'] w fun e w' => e = .returned (.bool (decide (P = P'))) ∧ Below w.heap.size w w' := by
  have B := Below.refl w.heap.size w
  obtain ⟨a1, c1, rfl, _⟩ := h.len
  obtain ⟨a2, c2, rfl, _⟩ := h'.len
  obtain ⟨vs, r1, e1, s1⟩ := h
  obtain ⟨vs', r2, e2, s2⟩ := h'
  have R1 := Lib.hid r1
  have R2 := Lib.hid r2
  have S1 := Lib.hid s1
  have S2 := Lib.hid s2
  have HL := Lib.hid hL
  clear r1 r2 s1 s2 hL
  go_enter Try.func20, Try.ntmps20
  go_upto_region 0 with fail
  refine wp_region_lit ?_
  try simp only [gelS]
  refine wpList_chunk 1 (by kernel_rfl) ?_
  simp only [takS, Nat.reduceAdd]
  repeat (first | go_big_quiet_skip | (go_big_quiet_want; first | (go_big_quiet_op; go_big_quiet_on)))
  refine wpQuiet_nil ?_
  refine wpList_nil ?_
  go_upto_region 1 with fail
  by_cases hlen : P.length = P'.length
  · have q0 : ((P.length : Int) != (P'.length : Int)) = false := by rw [hlen]; simp
    have q0' : ((P.length : Int) == (P'.length : Int)) = true := by rw [hlen]; simp
    refine wp_region_lit ?_
    try simp only [gelS]
    refine wpList_chunk 1 (by kernel_rfl) ?_
    simp only [takS, Nat.reduceAdd]
    repeat (first | go_big_quiet_skip | (go_big_quiet_want; first | (go_big_quiet_op; go_big_quiet_on)))
    refine wpQuiet_nil ?_
    refine wpList_lenS (by first | rfl | simp [Region.wanted, yielded]) rfl Try.underlying39 rfl ?_
    simp only [putS]
    refine wpList_chunk 1 (by kernel_rfl) ?_
    simp only [takS, Nat.reduceAdd]
    repeat (first | go_big_quiet_skip | (go_big_quiet_want; first | (go_big_quiet_op; go_big_quiet_on)))
    refine wpQuiet_nil ?_
    refine wpList_lenS (by first | rfl | simp [Region.wanted, yielded]) rfl Try.underlying39 rfl ?_
    simp only [putS]
    refine wpList_chunk 1 (by kernel_rfl) ?_
    simp only [takS, Nat.reduceAdd]
    repeat (first | go_big_quiet_skip | (go_big_quiet_want; first | (go_big_quiet_op; go_big_quiet_on)))
    refine wpQuiet_nil ?_
    refine wpList_nil ?_
    go_upto_region 3 with fail
    refine wp_region_lit ?_
    try simp only [gelS]
    refine wpList_chunk 1 (by kernel_rfl) ?_
    simp only [takS, Nat.reduceAdd]
    repeat (first | go_big_quiet_skip | (go_big_quiet_want; first | (go_big_quiet_op; go_big_quiet_on)))
    refine wpQuiet_nil ?_
    refine wpList_nil ?_
    go_wp2
    go_loopw [5, 6] (fun iv _ wr => ∃ k : Nat, k ≤ P.length ∧ iv = .int .i64 (k : Int) ∧ (∀ i, i < k → P[i]? = P'[i]?) ∧ Below w.heap.size w wr) (fun iv _ _ => (P.length - intOf iv).toNat)
    case atStart => exact ⟨0, by omega, rfl, fun i hi => absurd hi (by omega), B⟩
    case round =>
      clear B
      obtain ⟨k, hk, rfl, hall, B⟩ := hrel
      have HA := Lib.hid hall
      clear hall
      by_cases hkl : k < P.length
      · have q1 : decide ((k : Int) < (P.length : Int)) = true := decide_eq_true (by omega)
        have q2 : decide (k < P.length) = true := decide_eq_true hkl
        have q2' : decide (k < P'.length) = true := decide_eq_true (by omega)
        have q1' : decide ((k : Int) < (P'.length : Int)) = true := decide_eq_true (by omega)
        obtain ⟨g1, o1, rfl, ce1w⟩ := R1.out.at (by omega)
        obtain ⟨g2, o2, rfl, ce2w⟩ := R2.out.at (by omega)
        obtain ⟨⟨sa, sn, sc⟩, hs1⟩ : ∃ s, vs[k]? = some s := ⟨_, List.getElem?_eq_getElem (by omega)⟩
        obtain ⟨⟨ta, tn, tc⟩, hs2⟩ : ∃ s, vs'[k]? = some s := ⟨_, List.getElem?_eq_getElem (by omega)⟩
        obtain ⟨l1, hl1⟩ : ∃ l, P[k]? = some l := ⟨_, List.getElem?_eq_getElem (by omega)⟩
        obtain ⟨l2, hl2⟩ : ∃ l, P'[k]? = some l := ⟨_, List.getElem?_eq_getElem (by omega)⟩
        have p1 := S1.out k _ _ hs1 hl1
        have p2 := S2.out k _ _ hs2 hl2
        obtain ⟨_, _, hv1, _⟩ := p1.len
        obtain ⟨_, _, hv2, _⟩ := p2.len
        simp only [Slc.v, Value.slice.injEq] at hv1 hv2
        obtain ⟨rfl, rfl, rfl⟩ := hv1
        obtain ⟨rfl, rfl, rfl⟩ := hv2
        have hb1 := HL.out l1 (List.mem_of_getElem? hl1)
        have P1 := Lib.hid p1
        have P2 := Lib.hid p2
        have ce1 := ce1w.of_eq (B.block _ ce1w.lt)
        have ce2 := ce2w.of_eq (B.block _ ce2w.lt)
        have C1 := Lib.hid ce1w
        have C2 := Lib.hid ce2w
        have KK := Lib.hid (show l1 ≠ l2 → P ≠ P' from fun e => getD_ne (i := k) (by rw [hl1, hl2]; intro h; injection h with h; exact e h))
        have KE := Lib.hid (show l1 = l2 → ∀ i, i < k + 1 → P[i]? = P'[i]? from fun e i hi => by
          by_cases hik : i = k
          · rw [hik, hl1, hl2, e]
          · exact HA.out i (by omega))
        clear ce1w ce2w p1 p2 hl1 hl2
        go_upto_region 4 with fail
        refine wp_region_lit ?_
        try simp only [gelS]
        refine wpList_chunk 2 (by kernel_rfl) ?_
        simp only [takS, Nat.reduceAdd]
        repeat (first | go_big_quiet_skip | (go_big_quiet_want; first | (go_big_quiet_op; go_big_quiet_on)))
        refine wpQuiet_nil ?_
        refine wpList_lenS (by first | rfl | simp [Region.wanted, yielded]) rfl Try.underlying39 rfl ?_
        simp only [putS]
        refine wpList_chunk 1 (by kernel_rfl) ?_
        simp only [takS, Nat.reduceAdd]
        repeat (first | go_big_quiet_skip | (go_big_quiet_want; first | (go_big_quiet_op; go_big_quiet_on)))
        refine wpQuiet_nil ?_
        refine wpList_nil ?_
        go_upto_region 6 with fail
        by_cases hll : l1.length = l2.length
        · have q5 : ((l1.length : Int) != (l2.length : Int)) = false := by rw [hll]; simp
          have q5' : ((l1.length : Int) == (l2.length : Int)) = true := by rw [hll]; simp
          try simp only [gelS]
          try have lx_ce1 := ce1.lt
          try have lx_ce2 := ce2.lt
          refine wp_region_RL 11 [(4, detS ?v1_4), (9, detS ?v1_9)] (by kernel_rfl) (by kernel_rfl) (by kernel_rfl) ?_
          rotate_left 2
          simp only [takS, Nat.reduceAdd]
          refine wpRL_chunk 4 (by kernel_rfl) ?_
          simp only [takS, Nat.reduceAdd]
          repeat (first | go_big_quiet_skip | (go_big_quiet_want; first | (refine quiet_loadAny (t := 22) rfl _ _ _ rfl (fun w hw => rce_sl (ov_rce ce1 w hw) hs1) (by first | rfl | omega) ?_; simp only [putS]; go_big_quiet_on) | (refine quiet_loadAny (t := 22) rfl _ _ _ rfl (fun w hw => rce_sl (ov_rce ce2 w hw) hs2) (by first | rfl | omega) ?_; simp only [putS]; go_big_quiet_on) | (go_big_quiet_op; go_big_quiet_on)))
          refine wpQuiet_nil ?_
          refine wpRL_callB (by rfl) (by first | rfl | simp [Region.wanted, yielded]) ?_ ?_
          · intro wn hbn hE Kx hKx
            have hsz := B.size
            have hzn := hbn.size
            replace B := B.trans (hbn.mono B.size)
            (try replace ce1 := ce1.below hbn)
            (try replace ce2 := ce2.below hbn)
            refine wp_lenS rfl Try.underlying22 rfl ?_
            exact hKx () _ trivial (Below.refl _ _)
          rintro ⟨⟩
          dsimp only [detS]
          simp only [putS]
          refine wpRL_chunk 4 (by kernel_rfl) ?_
          simp only [takS, Nat.reduceAdd]
          repeat (first | go_big_quiet_skip | (go_big_quiet_want; first | (refine quiet_loadAny (t := 22) rfl _ _ _ rfl (fun w hw => rce_sl (ov_rce ce1 w hw) hs1) (by first | rfl | omega) ?_; simp only [putS]; go_big_quiet_on) | (refine quiet_loadAny (t := 22) rfl _ _ _ rfl (fun w hw => rce_sl (ov_rce ce2 w hw) hs2) (by first | rfl | omega) ?_; simp only [putS]; go_big_quiet_on) | (go_big_quiet_op; go_big_quiet_on)))
          refine wpQuiet_nil ?_
          refine wpRL_callB (by rfl) (by first | rfl | simp [Region.wanted, yielded]) ?_ ?_
          · intro wn hbn hE Kx hKx
            have hsz := B.size
            have hzn := hbn.size
            replace B := B.trans (hbn.mono B.size)
            (try replace ce1 := ce1.below hbn)
            (try replace ce2 := ce2.below hbn)
            refine wp_lenS rfl Try.underlying22 rfl ?_
            exact hKx () _ trivial (Below.refl _ _)
          rintro ⟨⟩
          dsimp only [detS]
          simp only [putS]
          refine wpRL_chunk 1 (by kernel_rfl) ?_
          simp only [takS, Nat.reduceAdd]
          repeat (first | go_big_quiet_skip | (go_big_quiet_want; first | (go_big_quiet_op; go_big_quiet_on)))
          refine wpQuiet_nil ?_
          refine wpRL_nil ?_
          intro wn hbn hE
          have hsz := B.size
          have hzn := hbn.size
          replace B := B.trans (hbn.mono B.size)
          (try replace ce1 := ce1.below hbn)
          (try replace ce2 := ce2.below hbn)
          clear hE
          try simp only [List.drop_succ_cons, List.drop_zero]
          refine NoPan.normal ?_
          go_upto_region 8 with fail
          refine wp_region_lit ?_
          try simp only [gelS]
          refine wpList_chunk 1 (by kernel_rfl) ?_
          simp only [takS, Nat.reduceAdd]
          repeat (first | go_big_quiet_skip | (go_big_quiet_want; first | (go_big_quiet_op; go_big_quiet_on)))
          refine wpQuiet_nil ?_
          refine wpList_nil ?_
          have HLL := Lib.hid hll
          clear ce1 ce2 hll q5 q5'
          go_wp2
          go_loopw [6] (fun iv wr => ∃ j : Nat, j ≤ l1.length ∧ iv = .int .i64 (j : Int) ∧ (∀ i, i < j → l1[i]? = l2[i]?) ∧ Below w.heap.size w wr) (fun iv _ => (l1.length - intOf iv).toNat)
          case atStart => exact ⟨0, by omega, rfl, fun i hi => absurd hi (by omega), B⟩
          case round =>
            clear B
            obtain ⟨j, hj, rfl, hall, B⟩ := hrel
            have HA2 := Lib.hid hall
            clear hall
            have ce1 := C1.out.of_eq (B.block _ C1.out.lt)
            have ce2 := C2.out.of_eq (B.block _ C2.out.lt)
            by_cases hjl : j < l1.length
            · have q6 : decide ((j : Int) < (l1.length : Int)) = true := decide_eq_true (by omega)
              have q7 : decide (j < l1.length) = true := decide_eq_true hjl
              have hll := HLL.out
              have q6' : decide ((j : Int) < (l2.length : Int)) = true := decide_eq_true (by omega)
              have q7' : decide (j < l2.length) = true := decide_eq_true (by omega)
              have hjl2 : j < l2.length := by omega
              obtain ⟨ga, oa, rfl, pa0⟩ := P1.out.at (by omega)
              obtain ⟨gb, ob, rfl, pb0⟩ := P2.out.at (by omega)
              have pa := pa0.of_eq (B.block _ pa0.lt)
              have pb := pb0.of_eq (B.block _ pb0.lt)
              clear pa0 pb0
              obtain ⟨⟨x, y⟩, hx⟩ : ∃ e, l1[j]? = some e := ⟨_, List.getElem?_eq_getElem hjl⟩
              obtain ⟨⟨x', y'⟩, hx'⟩ : ∃ e, l2[j]? = some e := ⟨_, List.getElem?_eq_getElem (by omega)⟩
              clear hll
              go_upto_region 9 with fail
              refine wp_region_lit ?_
              try simp only [gelS]
              refine wpList_chunk 5 (by kernel_rfl) ?_
              simp only [takS, Nat.reduceAdd]
              repeat (first | go_big_quiet_skip | (go_big_quiet_want; first | (refine quiet_loadAny (t := 22) rfl _ _ _ rfl (fun w hw => rce_sl (ov_rce ce1 w hw) hs1) (by first | rfl | omega) ?_; simp only [putS]; go_big_quiet_on) | (go_big_quiet_op; go_big_quiet_on)))
              refine wpQuiet_nil ?_
              refine wpList_lenS (by first | rfl | simp [Region.wanted, yielded]) rfl Try.underlying22 rfl ?_
              simp only [putS]
              refine wpList_chunk 1 (by kernel_rfl) ?_
              simp only [takS, Nat.reduceAdd]
              repeat (first | go_big_quiet_skip | (go_big_quiet_want; first | (go_big_quiet_op; go_big_quiet_on)))
              refine wpQuiet_nil ?_
              refine wpList_nil ?_
              go_upto_region 11 with fail
              by_cases he : (x, y) = (x', y')
              · have q9 : decide ((x, y) = (x', y')) = !false := by rw [decide_eq_true he]; rfl
                have HN := Lib.hid (show ∀ i, i < j + 1 → l1[i]? = l2[i]? from fun i hi => by
                  by_cases hij : i = j
                  · rw [hij, hx, hx', he]
                  · exact HA2.out i (by omega))
                try simp only [gelS]
                try have lx_ce1 := ce1.lt
                try have lx_ce2 := ce2.lt
                try have lx_pa := pa.lt
                try have lx_pb := pb.lt
                refine wp_region_RL 15 [] (by kernel_rfl) (by kernel_rfl) (by kernel_rfl) ?_
                rotate_left 0
                simp only [takS, Nat.reduceAdd]
                refine wpRL_chunk 15 (by kernel_rfl) ?_
                simp only [takS, Nat.reduceAdd]
                repeat (first | go_big_quiet_skip | (go_big_quiet_want; first | (refine quiet_loadAny (t := 22) rfl _ _ _ rfl (fun w hw => rce_sl (ov_rce ce1 w hw) hs1) (by first | rfl | omega) ?_; simp only [putS]; go_big_quiet_on) | (refine quiet_loadAny (t := 22) rfl _ _ _ rfl (fun w hw => rce_sl (ov_rce ce2 w hw) hs2) (by first | rfl | omega) ?_; simp only [putS]; go_big_quiet_on) | (refine quiet_loadAny (t := 44) rfl _ _ _ rfl (fun w hw => rce_pt (ov_rce pa w hw) hx) (by first | rfl | omega) ?_; simp only [putS]; go_big_quiet_on) | (refine quiet_loadAny (t := 44) rfl _ _ _ rfl (fun w hw => rce_pt (ov_rce pb w hw) hx') (by first | rfl | omega) ?_; simp only [putS]; go_big_quiet_on) | (refine quiet_neqP rfl x y x' y' rfl rfl _ q9 ?_; simp only [putS]; go_big_quiet_on) | (go_big_quiet_op; go_big_quiet_on)))
                refine wpQuiet_nil ?_
                refine wpRL_nil ?_
                intro wn hbn hE
                have hsz := B.size
                have hzn := hbn.size
                replace B := B.trans (hbn.mono B.size)
                (try replace ce1 := ce1.below hbn)
                (try replace ce2 := ce2.below hbn)
                (try replace pa := pa.below hbn)
                (try replace pb := pb.below hbn)
                clear hE
                try simp only [List.drop_succ_cons, List.drop_zero]
                refine NoPan.normal ?_
                go_upto_region 10 with fail
                refine wp_region_lit ?_
                try simp only [gelS]
                refine wpList_chunk 3 (by kernel_rfl) ?_
                simp only [takS, Nat.reduceAdd]
                repeat (first | go_big_quiet_skip | (go_big_quiet_want; first | (go_big_quiet_op; go_big_quiet_on)))
                refine wpQuiet_nil ?_
                refine wpList_nil ?_
                go_wp2
                go_roundw
                case rel => exact ⟨j + 1, by omega, by go_num, HN.out, B⟩
                case measure => simp [intOf]; omega
              · have q9 : decide ((x, y) = (x', y')) = !true := by rw [decide_eq_false he]; rfl
                have HF := Lib.hid (KK.out (getD_ne (i := j) (by rw [hx, hx']; intro h; injection h with h; exact he h)))
                try simp only [gelS]
                try have lx_ce1 := ce1.lt
                try have lx_ce2 := ce2.lt
                try have lx_pa := pa.lt
                try have lx_pb := pb.lt
                refine wp_region_RL 15 [] (by kernel_rfl) (by kernel_rfl) (by kernel_rfl) ?_
                rotate_left 0
                simp only [takS, Nat.reduceAdd]
                refine wpRL_chunk 15 (by kernel_rfl) ?_
                simp only [takS, Nat.reduceAdd]
                repeat (first | go_big_quiet_skip | (go_big_quiet_want; first | (refine quiet_loadAny (t := 22) rfl _ _ _ rfl (fun w hw => rce_sl (ov_rce ce1 w hw) hs1) (by first | rfl | omega) ?_; simp only [putS]; go_big_quiet_on) | (refine quiet_loadAny (t := 22) rfl _ _ _ rfl (fun w hw => rce_sl (ov_rce ce2 w hw) hs2) (by first | rfl | omega) ?_; simp only [putS]; go_big_quiet_on) | (refine quiet_loadAny (t := 44) rfl _ _ _ rfl (fun w hw => rce_pt (ov_rce pa w hw) hx) (by first | rfl | omega) ?_; simp only [putS]; go_big_quiet_on) | (refine quiet_loadAny (t := 44) rfl _ _ _ rfl (fun w hw => rce_pt (ov_rce pb w hw) hx') (by first | rfl | omega) ?_; simp only [putS]; go_big_quiet_on) | (refine quiet_neqP rfl x y x' y' rfl rfl _ q9 ?_; simp only [putS]; go_big_quiet_on) | (go_big_quiet_op; go_big_quiet_on)))
                refine wpQuiet_nil ?_
                refine wpRL_nil ?_
                intro wn hbn hE
                have hsz := B.size
                have hzn := hbn.size
                replace B := B.trans (hbn.mono B.size)
                (try replace ce1 := ce1.below hbn)
                (try replace ce2 := ce2.below hbn)
                (try replace pa := pa.below hbn)
                (try replace pb := pb.below hbn)
                clear hE
                try simp only [List.drop_succ_cons, List.drop_zero]
                refine NoPan.normal ?_
                go_upto_region 12 with fail
                refine wp_region_lit ?_
                try simp only [gelS]
                refine wpList_chunk 1 (by kernel_rfl) ?_
                simp only [takS, Nat.reduceAdd]
                repeat (first | go_big_quiet_skip | (go_big_quiet_want; first | (go_big_quiet_op; go_big_quiet_on)))
                refine wpQuiet_nil ?_
                refine wpList_nil ?_
                go_wp2
                go_ret
                exact ⟨by rw [decide_eq_false HF.out]; rfl, B⟩
            · obtain rfl : j = l1.length := by omega
              have q6 : decide (((l1.length : Nat) : Int) < (l1.length : Int)) = false := decide_eq_false (by omega)
              have q7 : decide (l1.length < l1.length) = false := decide_eq_false (by omega)
              have HN := Lib.hid (KE.out (all_eq HLL.out HA2.out))
              go_upto_region 9 with fail
              refine wp_region_lit ?_
              try simp only [gelS]
              refine wpList_chunk 5 (by kernel_rfl) ?_
              simp only [takS, Nat.reduceAdd]
              repeat (first | go_big_quiet_skip | (go_big_quiet_want; first | (refine quiet_loadAny (t := 22) rfl _ _ _ rfl (fun w hw => rce_sl (ov_rce ce1 w hw) hs1) (by first | rfl | omega) ?_; simp only [putS]; go_big_quiet_on) | (go_big_quiet_op; go_big_quiet_on)))
              refine wpQuiet_nil ?_
              refine wpList_lenS (by first | rfl | simp [Region.wanted, yielded]) rfl Try.underlying22 rfl ?_
              simp only [putS]
              refine wpList_chunk 1 (by kernel_rfl) ?_
              simp only [takS, Nat.reduceAdd]
              repeat (first | go_big_quiet_skip | (go_big_quiet_want; first | (go_big_quiet_op; go_big_quiet_on)))
              refine wpQuiet_nil ?_
              refine wpList_nil ?_
              go_upto_region 5 with fail
              refine wp_region_lit ?_
              try simp only [gelS]
              refine wpList_chunk 3 (by kernel_rfl) ?_
              simp only [takS, Nat.reduceAdd]
              repeat (first | go_big_quiet_skip | (go_big_quiet_want; first | (go_big_quiet_op; go_big_quiet_on)))
              refine wpQuiet_nil ?_
              refine wpList_nil ?_
              go_wp2
              go_roundw
              case rel => exact ⟨k + 1, by omega, by go_num, HN.out, B⟩
              case measure => simp [intOf]; omega
        · have q5 : ((l1.length : Int) != (l2.length : Int)) = true := by simp; omega
          have q5' : ((l1.length : Int) == (l2.length : Int)) = false := by simp; omega
          have HF := Lib.hid (KK.out (fun e => hll (by rw [e])))
          try simp only [gelS]
          try have lx_ce1 := ce1.lt
          try have lx_ce2 := ce2.lt
          refine wp_region_RL 11 [(4, detS ?v4_4), (9, detS ?v4_9)] (by kernel_rfl) (by kernel_rfl) (by kernel_rfl) ?_
          rotate_left 2
          simp only [takS, Nat.reduceAdd]
          refine wpRL_chunk 4 (by kernel_rfl) ?_
          simp only [takS, Nat.reduceAdd]
          repeat (first | go_big_quiet_skip | (go_big_quiet_want; first | (refine quiet_loadAny (t := 22) rfl _ _ _ rfl (fun w hw => rce_sl (ov_rce ce1 w hw) hs1) (by first | rfl | omega) ?_; simp only [putS]; go_big_quiet_on) | (refine quiet_loadAny (t := 22) rfl _ _ _ rfl (fun w hw => rce_sl (ov_rce ce2 w hw) hs2) (by first | rfl | omega) ?_; simp only [putS]; go_big_quiet_on) | (go_big_quiet_op; go_big_quiet_on)))
          refine wpQuiet_nil ?_
          refine wpRL_callB (by rfl) (by first | rfl | simp [Region.wanted, yielded]) ?_ ?_
          · intro wn hbn hE Kx hKx
            have hsz := B.size
            have hzn := hbn.size
            replace B := B.trans (hbn.mono B.size)
            (try replace ce1 := ce1.below hbn)
            (try replace ce2 := ce2.below hbn)
            refine wp_lenS rfl Try.underlying22 rfl ?_
            exact hKx () _ trivial (Below.refl _ _)
          rintro ⟨⟩
          dsimp only [detS]
          simp only [putS]
          refine wpRL_chunk 4 (by kernel_rfl) ?_
          simp only [takS, Nat.reduceAdd]
          repeat (first | go_big_quiet_skip | (go_big_quiet_want; first | (refine quiet_loadAny (t := 22) rfl _ _ _ rfl (fun w hw => rce_sl (ov_rce ce1 w hw) hs1) (by first | rfl | omega) ?_; simp only [putS]; go_big_quiet_on) | (refine quiet_loadAny (t := 22) rfl _ _ _ rfl (fun w hw => rce_sl (ov_rce ce2 w hw) hs2) (by first | rfl | omega) ?_; simp only [putS]; go_big_quiet_on) | (go_big_quiet_op; go_big_quiet_on)))
          refine wpQuiet_nil ?_
          refine wpRL_callB (by rfl) (by first | rfl | simp [Region.wanted, yielded]) ?_ ?_
          · intro wn hbn hE Kx hKx
            have hsz := B.size
            have hzn := hbn.size
            replace B := B.trans (hbn.mono B.size)
            (try replace ce1 := ce1.below hbn)
            (try replace ce2 := ce2.below hbn)
            refine wp_lenS rfl Try.underlying22 rfl ?_
            exact hKx () _ trivial (Below.refl _ _)
          rintro ⟨⟩
          dsimp only [detS]
          simp only [putS]
          refine wpRL_chunk 1 (by kernel_rfl) ?_
          simp only [takS, Nat.reduceAdd]
          repeat (first | go_big_quiet_skip | (go_big_quiet_want; first | (go_big_quiet_op; go_big_quiet_on)))
          refine wpQuiet_nil ?_
          refine wpRL_nil ?_
          intro wn hbn hE
          have hsz := B.size
          have hzn := hbn.size
          replace B := B.trans (hbn.mono B.size)
          (try replace ce1 := ce1.below hbn)
          (try replace ce2 := ce2.below hbn)
          clear hE
          try simp only [List.drop_succ_cons, List.drop_zero]
          refine NoPan.normal ?_
          go_upto_region 7 with fail
          refine wp_region_lit ?_
          try simp only [gelS]
          refine wpList_chunk 1 (by kernel_rfl) ?_
          simp only [takS, Nat.reduceAdd]
          repeat (first | go_big_quiet_skip | (go_big_quiet_want; first | (go_big_quiet_op; go_big_quiet_on)))
          refine wpQuiet_nil ?_
          refine wpList_nil ?_
          go_wp2
          go_ret
          exact ⟨by rw [decide_eq_false HF.out]; rfl, B⟩
      · obtain rfl : k = P.length := by omega
        have q1 : decide (((P.length : Nat) : Int) < (P.length : Int)) = false := decide_eq_false (by omega)
        have q2 : decide (P.length < P.length) = false := decide_eq_false (by omega)
        have HE := Lib.hid (all_eq hlen HA.out)
        go_upto_region 4 with fail
        refine wp_region_lit ?_
        try simp only [gelS]
        refine wpList_chunk 2 (by kernel_rfl) ?_
        simp only [takS, Nat.reduceAdd]
        repeat (first | go_big_quiet_skip | (go_big_quiet_want; first | (go_big_quiet_op; go_big_quiet_on)))
        refine wpQuiet_nil ?_
        refine wpList_lenS (by first | rfl | simp [Region.wanted, yielded]) rfl Try.underlying39 rfl ?_
        simp only [putS]
        refine wpList_chunk 1 (by kernel_rfl) ?_
        simp only [takS, Nat.reduceAdd]
        repeat (first | go_big_quiet_skip | (go_big_quiet_want; first | (go_big_quiet_op; go_big_quiet_on)))
        refine wpQuiet_nil ?_
        refine wpList_nil ?_
        go_upto_region 13 with fail
        refine wp_region_lit ?_
        try simp only [gelS]
        refine wpList_chunk 1 (by kernel_rfl) ?_
        simp only [takS, Nat.reduceAdd]
        repeat (first | go_big_quiet_skip | (go_big_quiet_want; first | (go_big_quiet_op; go_big_quiet_on)))
        refine wpQuiet_nil ?_
        refine wpList_nil ?_
        go_wp2
        go_ret
        exact ⟨by rw [decide_eq_true HE.out]; rfl, B⟩
  · have q0 : ((P.length : Int) != (P'.length : Int)) = true := by simp; omega
    have q0' : ((P.length : Int) == (P'.length : Int)) = false := by simp; omega
    have HF := Lib.hid (show P ≠ P' from fun e => hlen (by rw [e]))
    refine wp_region_lit ?_
    try simp only [gelS]
    refine wpList_chunk 1 (by kernel_rfl) ?_
    simp only [takS, Nat.reduceAdd]
    repeat (first | go_big_quiet_skip | (go_big_quiet_want; first | (go_big_quiet_op; go_big_quiet_on)))
    refine wpQuiet_nil ?_
    refine wpList_lenS (by first | rfl | simp [Region.wanted, yielded]) rfl Try.underlying39 rfl ?_
    simp only [putS]
    refine wpList_chunk 1 (by kernel_rfl) ?_
    simp only [takS, Nat.reduceAdd]
    repeat (first | go_big_quiet_skip | (go_big_quiet_want; first | (go_big_quiet_op; go_big_quiet_on)))
    refine wpQuiet_nil ?_
    refine wpList_lenS (by first | rfl | simp [Region.wanted, yielded]) rfl Try.underlying39 rfl ?_
    simp only [putS]
    refine wpList_chunk 1 (by kernel_rfl) ?_
    simp only [takS, Nat.reduceAdd]
    repeat (first | go_big_quiet_skip | (go_big_quiet_want; first | (go_big_quiet_op; go_big_quiet_on)))
    refine wpQuiet_nil ?_
    refine wpList_nil ?_
    go_upto_region 2 with fail
    refine wp_region_lit ?_
    try simp only [gelS]
    refine wpList_chunk 1 (by kernel_rfl) ?_
    simp only [takS, Nat.reduceAdd]
    repeat (first | go_big_quiet_skip | (go_big_quiet_want; first | (go_big_quiet_op; go_big_quiet_on)))
    refine wpQuiet_nil ?_
    refine wpList_nil ?_
    go_wp2
    go_ret
    exact ⟨by rw [decide_eq_false HF.out]; rfl, B⟩
end Go.Proofs.Ytamgpfblhlfhaaa
/- Contract of Outline. -/
namespace Go.Proofs.Ytamgpfblhlfhaaa
open Go.RowKit Go.Shelf Pl
attribute [local go_sem] Oper.semAt_some
set_option linter.unusedVariables false
set_option linter.unusedSimpArgs false
set_option maxRecDepth 20000
section
variable {ops : Array Oper} {rest : List Oper} {o : Oper} {a : Act} {w : World} {Q : Exit → Act → World → Prop}
theorem wpList_look (hg : o.guard = none) (m x : Operand) (hop : o.op = .lookup 81 m x false) {b : Nat} {L : List Ed} (hm : a.eval m = .map (some b)) (hd : DoneM b L w) (e : Ed) (hx : a.eval x = .agg (edC e)) (he : WfE e) (c : Bool) (hc : decide (e ∈ L) = c)
    (h : wpList Try.prog ops Q rest (a.put o.dst (.bool c)) w) : wpList Try.prog ops Q (o :: rest) a w :=
  wpList_plain hg fun K hK => by
    have e1 : (execOp a.eval o).run Try.prog w = .ok (.value (.bool c)) w := by
      obtain ⟨d, p, t, ps, af, gd⟩ := o
      simp only at hop
      subst hop
      have := hd.look he
      rw [hc] at this
      simp only [execOp, hm, hx, Sem.run_bind, this, Sem.run_pure, Result.andThen_ok]
    unfold Oper.wp
    rw [e1]
    exact hK _ _ h
end
/-- What lies in memory between two rounds of Outline. -/
def OutF (w wI : World) (r t p5 p6 m p8 : Nat) (R : Rc) (st : ScSt) (vo : Value) (ds : List Deferred) (W : World) : Prop :=
  AtB 80 W p5 #[fB r t] ∧ AtB 81 W p6 #[.map (some m)] ∧ AtB 31 W p8 (rcA R) ∧ HoldC wI.heap.size wI W ∧ DoneM m st.1 W ∧ OwnP p8 vo st.2 W ∧ Marks p8 ds W ∧ Below w.heap.size w W
theorem OutF.below {w wI : World} {r t p5 p6 m p8 : Nat} {R : Rc} {st : ScSt} {vo : Value} {ds : List Deferred} {W W' : World} (h : OutF w wI r t p5 p6 m p8 R st vo ds W) (hb : Below W.heap.size W W') : OutF w wI r t p5 p6 m p8 R st vo ds W' := by
  obtain ⟨h1, h2, h3, h4, h5, h6, h7, h8⟩ := h
  exact ⟨h1.of_eq (hb.block _ h1.lt), h2.of_eq (hb.block _ h2.lt), h3.of_eq (hb.block _ h3.lt), h4.below hb, h5.below hb, h6.below hb, h7.below hb, h8.trans (hb.mono h8.size)⟩
/-- A polygon is appended. -/
theorem OutF.turn {w wI : World} {r t p5 p6 m p8 : Nat} {R : Rc} {L : List Ed} {P P' : List (List Pnt)} {vo vo' : Value} {ds : List Deferred} {W W' : World} (h : OutF w wI r t p5 p6 m p8 R (L, P) vo ds W) (hg : W.grownBy W' vo.ownBlock) (ho : wI.heap.size ≤ p8 ∧ w.heap.size ≤ p8 ∧ p5 < p8 ∧ p6 < p8 ∧ m < p8) (hp : OwnP p8 vo' P' W') : OutF w wI r t p5 p6 m p8 R (L, P') vo' ds W' := by
  obtain ⟨h1, h2, h3, h4, h5, h6, h7, h8⟩ := h
  have hb : ∀ r, vo.ownBlock = some r → p8 ≤ r := fun r e => (h6.blk e).1
  refine ⟨h1.of_eq (hg.block _ h1.lt (fun e => by have := hb _ e.symm; omega)), h2.of_eq (hg.block _ h2.lt (fun e => by have := hb _ e.symm; omega)), h3.of_eq (hg.block _ h3.lt (fun e => ?_)), h4.grown hg (fun r e => by have := hb r e; omega), h5.kept hg (fun e => by have := hb _ e.symm; omega), hp, h7.kept (fun D hD _ => hD.of_eq (hg.block _ hD.lt (fun e => ?_))), Below.grown' h8 (Nat.le_refl _) hg (fun r e => by have := hb r e; omega)⟩
  · obtain ⟨_, _, cur, hc⟩ := h6.blk e.symm
    rw [show W.heap[p8]? = _ from h3] at hc
    injection hc with hc
    injection hc with _ hc
    revert hc
    decide
  · obtain ⟨_, _, cur, hc⟩ := h6.blk e.symm
    rw [show W.heap[D]? = _ from hD] at hc
    cases hc
/-- The slots that are read again. -/
def OutT (r t p5 p6 p8 : Nat) (vo : Value) (a : Act) : Prop :=
  a.tmps.size = 103 ∧ a.tmps.getD 2 undef = .pointer (some ⟨r, 0, none⟩) ∧ a.tmps.getD 3 undef = .pointer (some ⟨t, 0, none⟩) ∧ a.tmps.getD 5 undef = .pointer (some ⟨p5, 0, none⟩) ∧ a.tmps.getD 6 undef = .pointer (some ⟨p6, 0, none⟩) ∧ a.tmps.getD 7 undef = vo ∧ a.tmps.getD 8 undef = .pointer (some ⟨p8, 0, none⟩)
set_option maxHeartbeats 16000000 in
theorem P_Outline1 (v : Value) (ls : List TA) (th : Int) (w : World) (h : RS v ls w) (tk : TokL ls) (hn : ls.length ≤ maxLen) (hv : validL ls = true) (h0 : 1 ≤ th) (hwf : (Lit.int .i64 th).wf = true) (hR : -100 ≤ (boundL ls).x0 ∧ (boundL ls).x1 ≤ 100 ∧ -100 ≤ (boundL ls).y0 ∧ (boundL ls).y1 ≤ 100) : Calls Try.prog 21 #[.agg #[v], .int .i64 th] w fun e w' => ∃ v', e = .returned v' ∧ RPoly v' (outlG (setG ls th) (boundL ls)) w' ∧ Below w.heap.size w w' := by
  have B := Below.refl w.heap.size w
  have rs := h
  have q1 : decide (th < 1) = false := decide_eq_false (by omega)
  have HBX := Lib.hid (setG_box ls h0)
  have HSM := Lib.hid hR
  have TK := Lib.hid tk
  clear h
  refine (callsIn_wide (n := 3)).1 ?_
  refine callsIn_of_wp_marks Try.func21 rfl trivial ?_ rfl
  simp only [Try.ntmps21, List.size_toArray, List.length_cons, List.length_nil, Nat.reduceAdd, Nat.reduceSub, Array.replicate_succ, Array.replicate_zero, List.push_toArray, List.append_toArray, List.nil_append, List.cons_append]
  refine wpIn_wide.2 ?_
  go_upto_region 0 with fail
  refine wp_region_lit ?_
  try simp only [gelS]
  (refine wpList_boxB (t := 36) rfl _ rfl _ rfl ?_; intro b_r2 wn hle hge ht hbn hzn; have hsz := B.size; replace B := B.trans (hbn.mono (by omega)); have hln := Nat.lt_of_lt_of_eq (Nat.lt_succ_self _) hzn.symm; clear hzn; (try have hlt := rs.lt); (try replace rs := rs.below (hbn.mono hle)); have r2 := ht; clear ht; simp only [putS])
  (refine wpList_boxV (t := 3) rfl _ rfl (.int .i64 th) rfl rfl ?_; intro b_r3 wn hle hge ht hbn hzn; have hsz := B.size; replace B := B.trans (hbn.mono (by omega)); have hln := Nat.lt_of_lt_of_eq (Nat.lt_succ_self _) hzn.symm; clear hzn; (try have hlt := r2.lt); (try replace r2 := r2.below (hbn.mono hle)); (try have hlt := rs.lt); (try replace rs := rs.below (hbn.mono hle)); have r3 := ht; clear ht; simp only [putS])
  refine wpList_chunk 1 (by kernel_rfl) ?_
  simp only [takS, Nat.reduceAdd]
  repeat (first | go_big_quiet_skip | (go_big_quiet_want; first | (go_big_quiet_op; go_big_quiet_on)))
  refine wpQuiet_nil ?_
  refine wpList_nil ?_
  obtain ⟨wI, hwI⟩ : ∃ x, x = wn := ⟨_, rfl⟩
  subst hwI
  have HI := Lib.hid (show InB b_r2 b_r3 ls th wI from ⟨v, r2, r3, rs⟩)
  have HW := HoldC.of_below (Below.refl wI.heap.size wI)
  have n0I := B.size
  go_upto_region 1 with fail
  refine wp_region_lit ?_
  try simp only [gelS]
  refine wpList_chunk 4 (by kernel_rfl) ?_
  simp only [takS, Nat.reduceAdd]
  repeat (first | go_big_quiet_skip | (go_big_quiet_want; first | (refine quiet_loadAny (t := 36) rfl _ _ _ rfl (fun w hw => run_load_ras ((ov_B r2 w hw).cellL 0 rfl)) (by first | rfl | omega) ?_; simp only [putS]; go_big_quiet_on) | (refine quiet_loadAny (t := 3) rfl _ _ _ rfl (fun w hw => run_load_int ((ov_B r3 w hw).cellL 0 rfl)) (by first | rfl | omega) ?_; simp only [putS]; go_big_quiet_on) | (go_big_quiet_op; go_big_quiet_on)))
  refine wpQuiet_nil ?_
  refine wpList_callF (by first | rfl | simp [Region.wanted, yielded]) rfl (enters_of Try.func36 (by kernel_rfl) rfl) (by simp only [List.map_toArray, List.map_cons, List.map_nil, Act.eval, Array.getD_eq_getD_getElem?, List.getElem?_toArray, List.getElem?_cons_succ, List.getElem?_cons_zero, Option.getD_some]; rfl) ?_
  refine (P_ValidB v ls true _ rs TK.out hn hv).mono ?_
  rintro e wn ⟨rfl, hbn⟩
  have hsz := B.size
  have hzn := hbn.size
  replace B := B.trans (hbn.mono B.size)
  (try replace HW := HW.below hbn)
  (try replace rs := rs.below hbn)
  (try replace r2 := r2.below hbn)
  (try replace r3 := r3.below hbn)
  refine ⟨_, rfl, ?_⟩
  simp only [putS]
  refine wpList_chunk 2 (by kernel_rfl) ?_
  simp only [takS, Nat.reduceAdd]
  repeat (first | go_big_quiet_skip | (go_big_quiet_want; first | (go_big_quiet_op; go_big_quiet_on)))
  refine wpQuiet_nil ?_
  refine wpList_nil ?_
  go_upto_region 3 with fail
  refine wp_region_lit ?_
  try simp only [gelS]
  (refine wpList_val rfl (.func (.func 50) #[] #[.pointer (some ⟨b_r2, 0, none⟩), .pointer (some ⟨b_r3, 0, none⟩)]) (by first | rfl | simp [go_sem, Act.eval]) ?_; simp only [putS])
  refine wpList_chunk 1 (by kernel_rfl) ?_
  simp only [takS, Nat.reduceAdd]
  repeat (first | go_big_quiet_skip | (go_big_quiet_want; first | (go_big_quiet_op; go_big_quiet_on)))
  refine wpQuiet_nil ?_
  (refine wpList_allocBk (t := 80) rfl _ (run_alloc_Bd _ _ rfl) ?_; intro b_p5 wn hle hge ht hbn hzn; have hsz := B.size; replace B := B.trans (hbn.mono (by omega)); have hln := Nat.lt_of_lt_of_eq (Nat.lt_succ_self _) hzn.symm; clear hzn; (try have hlt := HW.lt); (try replace HW := HW.below (hbn.mono hle)); (try have hlt := rs.lt); (try replace rs := rs.below (hbn.mono hle)); (try have hlt := r2.lt); (try replace r2 := r2.below (hbn.mono hle)); have p5 := ht; clear ht; simp only [putS])
  (refine wpList_storeB (t := 80) rfl _ _ rfl _ rfl _ rfl p5 (by kernel_rfl) rfl (by kernel_rfl) ?_; have p5o := p5; have p5o := p5; clear p5; intro wn ht hcn hzn; (try replace rs := rs.chg p5o (by simp) hcn); (try replace HW := HW.chg p5o (by omega) hcn); have hsz := B.size; replace hzn := Nat.le_of_eq hzn.symm; replace B := Chg.below B hcn (by omega) B.size; (try replace HW := HW.of_eq (hcn.block _ HW.lt (by omega))); (try replace rs := rs.of_eq (hcn.block _ rs.lt (by omega))); (try replace r2 := r2.of_eq (hcn.block _ r2.lt (by omega))); have p5 := ht; clear ht; simp only [putS])
  refine wpList_nil ?_
  replace p5 : AtB 80 _ b_p5 #[fB b_r2 b_r3] := p5
  have kp5 := p5.lt
  go_upto_region 4 with fail
  refine wp_region_lit ?_
  try simp only [gelS]
  (refine wpList_mkMap rfl rfl ?_; intro b_dm wn hle hge ht hbn hzn; have hsz := B.size; replace B := B.trans (hbn.mono (by omega)); have hln := Nat.lt_of_lt_of_eq (Nat.lt_succ_self _) hzn.symm; clear hzn; (try have hlt := HW.lt); (try replace HW := HW.below (hbn.mono hle)); (try have hlt := rs.lt); (try replace rs := rs.below (hbn.mono hle)); (try have hlt := r2.lt); (try replace r2 := r2.below (hbn.mono hle)); (try have hlt := p5.lt); (try replace p5 := p5.below (hbn.mono hle)); have dm := ht; clear ht; simp only [putS])
  (refine wpList_allocBk (t := 81) rfl _ (run_alloc_Mv _ _ rfl) ?_; intro b_p6 wn hle hge ht hbn hzn; have hsz := B.size; replace B := B.trans (hbn.mono (by omega)); have hln := Nat.lt_of_lt_of_eq (Nat.lt_succ_self _) hzn.symm; clear hzn; (try have hlt := HW.lt); (try replace HW := HW.below (hbn.mono hle)); (try have hlt := rs.lt); (try replace rs := rs.below (hbn.mono hle)); (try have hlt := r2.lt); (try replace r2 := r2.below (hbn.mono hle)); (try have hlt := p5.lt); (try replace p5 := p5.below (hbn.mono hle)); (try have hlt := dm.lt); (try replace dm := dm.below (hbn.mono hle)); have p6 := ht; clear ht; simp only [putS])
  (refine wpList_storeMv rfl _ _ rfl _ _ rfl rfl p6 ?_; have p6o := p6; have p6o := p6; have p6o := p6; clear p6; intro wn ht hcn hzn; (try replace dm := dm.chg p6o trivial hcn); (try replace rs := rs.chg p6o (by simp) hcn); (try replace HW := HW.chg p6o (by omega) hcn); have hsz := B.size; replace hzn := Nat.le_of_eq hzn.symm; replace B := Chg.below B hcn (by omega) B.size; (try replace HW := HW.of_eq (hcn.block _ HW.lt (by omega))); (try replace rs := rs.of_eq (hcn.block _ rs.lt (by omega))); (try replace r2 := r2.of_eq (hcn.block _ r2.lt (by omega))); (try replace p5 := p5.of_eq (hcn.block _ p5.lt (by omega))); have p6 := ht; clear ht; simp only [putS])
  refine wpList_nil ?_
  have kp6 := p6.lt
  have kdm := dm.lt
  go_upto_region 5 with fail
  refine wp_region_lit ?_
  try simp only [gelS]
  refine wpList_chunk 1 (by kernel_rfl) ?_
  simp only [takS, Nat.reduceAdd]
  repeat (first | go_big_quiet_skip | (go_big_quiet_want; first | (go_big_quiet_op; go_big_quiet_on)))
  refine wpQuiet_nil ?_
  refine wpList_nil ?_
  go_upto_region 6 with fail
  refine wp_region_lit ?_
  try simp only [gelS]
  refine wpList_chunk 1 (by kernel_rfl) ?_
  simp only [takS, Nat.reduceAdd]
  repeat (first | go_big_quiet_skip | (go_big_quiet_want; first | (refine quiet_loadAny (t := 36) rfl _ _ _ rfl (fun w hw => run_load_ras ((ov_B r2 w hw).cellL 0 rfl)) (by first | rfl | omega) ?_; simp only [putS]; go_big_quiet_on) | (go_big_quiet_op; go_big_quiet_on)))
  refine wpQuiet_nil ?_
  refine wpList_callF (by first | rfl | simp [Region.wanted, yielded]) rfl (enters_of Try.func31 (by kernel_rfl) rfl) (by simp only [List.map_toArray, List.map_cons, List.map_nil, Act.eval, Array.getD_eq_getD_getElem?, List.getElem?_toArray, List.getElem?_cons_succ, List.getElem?_cons_zero, Option.getD_some]; rfl) ?_
  refine (P_BoundsV v ls _ rs TK.out hn hv).mono ?_
  rintro e wn ⟨rfl, hbn⟩
  have hsz := B.size
  have hzn := hbn.size
  replace B := B.trans (hbn.mono B.size)
  (try replace HW := HW.below hbn)
  (try replace rs := rs.below hbn)
  (try replace r2 := r2.below hbn)
  (try replace p5 := p5.below hbn)
  (try replace p6 := p6.below hbn)
  (try replace dm := dm.below hbn)
  (try replace r2 := r2.below hbn)
  refine ⟨_, rfl, ?_⟩
  simp only [putS]
  (refine wpList_allocBk (t := 31) rfl _ (run_alloc_Rc _ _ rfl) ?_; intro b_p8 wn hle hge ht hbn hzn; have hsz := B.size; replace B := B.trans (hbn.mono (by omega)); have hln := Nat.lt_of_lt_of_eq (Nat.lt_succ_self _) hzn.symm; clear hzn; (try have hlt := HW.lt); (try replace HW := HW.below (hbn.mono hle)); (try have hlt := rs.lt); (try replace rs := rs.below (hbn.mono hle)); (try have hlt := r2.lt); (try replace r2 := r2.below (hbn.mono hle)); (try have hlt := p5.lt); (try replace p5 := p5.below (hbn.mono hle)); (try have hlt := p6.lt); (try replace p6 := p6.below (hbn.mono hle)); (try have hlt := dm.lt); (try replace dm := dm.below (hbn.mono hle)); have p8 := ht; clear ht; simp only [putS])
  (refine wpList_storeB (t := 31) rfl _ _ rfl _ rfl _ rfl p8 (by kernel_rfl) rfl (by simp [rcA, Value.oneCell']) ?_; have p8o := p8; have p8o := p8; have p8o := p8; clear p8; intro wn ht hcn hzn; (try replace dm := dm.chg p8o trivial hcn); (try replace rs := rs.chg p8o (by simp [rcA]) hcn); (try replace HW := HW.chg p8o (by omega) hcn); have hsz := B.size; replace hzn := Nat.le_of_eq hzn.symm; replace B := Chg.below B hcn (by omega) B.size; (try replace HW := HW.of_eq (hcn.block _ HW.lt (by omega))); (try replace rs := rs.of_eq (hcn.block _ rs.lt (by omega))); (try replace r2 := r2.of_eq (hcn.block _ r2.lt (by omega))); (try replace p5 := p5.of_eq (hcn.block _ p5.lt (by omega))); (try replace p6 := p6.of_eq (hcn.block _ p6.lt (by omega))); (try replace dm := dm.of_eq (hcn.block _ dm.lt (by omega))); have p8 := ht; clear ht; simp only [putS])
  refine wpList_nil ?_
  replace p8 : AtB 31 _ b_p8 (rcA (boundL ls)) := p8
  have kp8 := p8.lt
  have hbI : wI.heap.size ≤ b_p5 ∧ b_p5 < b_dm ∧ b_dm < b_p6 ∧ b_p6 < b_p8 := by omega
  have hb0 : w.heap.size ≤ b_dm := by omega
  obtain ⟨⟨X0, Y0, X1, Y1⟩, hRR⟩ : ∃ r, boundL ls = r := ⟨_, rfl⟩
  have HRR := Lib.hid hRR
  rw [hRR] at p8 HBX HSM hR
  rw [hRR]
  simp only at hR
  replace p8 : AtB 31 _ b_p8 #[.int .i64 X0, .int .i64 Y0, .int .i64 X1, .int .i64 Y1] := p8
  have hF : OutF w wI b_r2 b_r3 b_p5 b_p6 b_dm b_p8 ⟨X0, Y0, X1, Y1⟩ (scanY (setG ls th) ⟨X0, Y0, X1, Y1⟩ 0) (.slice none 0 0) [] wn := ⟨p5, p6, p8, HW, dm, OwnP.nil _ _, trivial, B⟩
  obtain ⟨H, hH⟩ : ∃ H : Nat, (Y1 - Y0).toNat = H := ⟨_, rfl⟩
  obtain ⟨Wd, hWd⟩ : ∃ H : Nat, (X1 - X0).toNat = H := ⟨_, rfl⟩
  go_upto_region 7 with fail
  refine wp_region_lit ?_
  try simp only [gelS]
  refine wpList_chunk 3 (by kernel_rfl) ?_
  simp only [takS, Nat.reduceAdd]
  repeat (first | go_big_quiet_skip | (go_big_quiet_want; first | (refine quiet_loadAny (t := 3) rfl _ _ _ rfl (fun w hw => run_load_int ((ov_B p8 w hw).cellL 1 rfl)) (by first | rfl | omega) ?_; simp only [putS]; go_big_quiet_on) | (go_big_quiet_op; go_big_quiet_on)))
  refine wpQuiet_nil ?_
  refine wpList_nil ?_
  clear rs r2 r3 p5 p6 p8 dm HW B kp5 kp6 kdm kp8 hRR hv
  go_wp2
  refine wp_loop (fun a W => ∃ (ky : Nat) (vo : Value), ky ≤ H ∧ OutT b_r2 b_r3 b_p5 b_p6 b_p8 vo a ∧ a.tmps.getD 9 undef = .int .i64 (Y0 + (ky : Int)) ∧ OutF w wI b_r2 b_r3 b_p5 b_p6 b_dm b_p8 ⟨X0, Y0, X1, Y1⟩ (scanY (setG ls th) ⟨X0, Y0, X1, Y1⟩ ky) vo a.defers W) (fun a _ => (Y1 - intOf (a.tmps.getD 9 undef)).toNat) ?start ?yround
  case start => exact ⟨0, _, Nat.zero_le _, ⟨rfl, rfl, rfl, rfl, rfl, rfl, rfl⟩, by simp, hF⟩
  case yround =>
    clear hF
    rintro ⟨tm, ds⟩ W ⟨ky, vo, hky, ⟨e0, e2, e3, e5, e6, e7, e8⟩, e9, hF⟩
    obtain ⟨U, hU, hUi⟩ := arr_fn tm 103 e0
    dsimp only at e2 e3 e5 e6 e7 e8 e9 hF
    rw [← hUi] at e2 e3 e5 e6 e7 e8 e9
    have eL : ((List.range 103).map U).toArray = #[U 0, U 1, U 2, U 3, U 4, U 5, U 6, U 7, U 8, U 9, U 10, U 11, U 12, U 13, U 14, U 15, U 16, U 17, U 18, U 19, U 20, U 21, U 22, U 23, U 24, U 25, U 26, U 27, U 28, U 29, U 30, U 31, U 32, U 33, U 34, U 35, U 36, U 37, U 38, U 39, U 40, U 41, U 42, U 43, U 44, U 45, U 46, U 47, U 48, U 49, U 50, U 51, U 52, U 53, U 54, U 55, U 56, U 57, U 58, U 59, U 60, U 61, U 62, U 63, U 64, U 65, U 66, U 67, U 68, U 69, U 70, U 71, U 72, U 73, U 74, U 75, U 76, U 77, U 78, U 79, U 80, U 81, U 82, U 83, U 84, U 85, U 86, U 87, U 88, U 89, U 90, U 91, U 92, U 93, U 94, U 95, U 96, U 97, U 98, U 99, U 100, U 101, U 102] := rfl
    rw [eL] at hU
    rw [e2, e3, e5, e6, e7, e8, e9] at hU
    subst hU
    clear e0 e2 e3 e5 e6 e7 e8 e9 hUi eL
    by_cases hkH : ky < H
    · have q2 : decide (Y0 + (ky : Int) < Y1) = true := decide_eq_true (by omega)
      have p8 : AtB 31 W b_p8 #[.int .i64 X0, .int .i64 Y0, .int .i64 X1, .int .i64 Y1] := hF.2.2.1
      go_upto_region 8 with fail
      refine wp_region_lit ?_
      try simp only [gelS]
      refine wpList_chunk 4 (by kernel_rfl) ?_
      simp only [takS, Nat.reduceAdd]
      repeat (first | go_big_quiet_skip | (go_big_quiet_want; first | (refine quiet_loadAny (t := 3) rfl _ _ _ rfl (fun w hw => run_load_int ((ov_B p8 w hw).cellL 3 rfl)) (by first | rfl | omega) ?_; simp only [putS]; go_big_quiet_on) | (go_big_quiet_op; go_big_quiet_on)))
      refine wpQuiet_nil ?_
      refine wpList_nil ?_
      go_upto_region 10 with fail
      refine wp_region_lit ?_
      try simp only [gelS]
      refine wpList_chunk 3 (by kernel_rfl) ?_
      simp only [takS, Nat.reduceAdd]
      repeat (first | go_big_quiet_skip | (go_big_quiet_want; first | (refine quiet_loadAny (t := 3) rfl _ _ _ rfl (fun w hw => run_load_int ((ov_B p8 w hw).cellL 0 rfl)) (by first | rfl | omega) ?_; simp only [putS]; go_big_quiet_on) | (go_big_quiet_op; go_big_quiet_on)))
      refine wpQuiet_nil ?_
      refine wpList_nil ?_
      clear p8 q2
      go_wp2
      refine wp_loop (fun a W => ∃ (kx : Nat) (vo : Value), kx ≤ Wd ∧ OutT b_r2 b_r3 b_p5 b_p6 b_p8 vo a ∧ a.tmps.getD 9 undef = .int .i64 (Y0 + (ky : Int)) ∧ a.tmps.getD 10 undef = .int .i64 (X0 + (kx : Int)) ∧ OutF w wI b_r2 b_r3 b_p5 b_p6 b_dm b_p8 ⟨X0, Y0, X1, Y1⟩ (scanX (setG ls th) ⟨X0, Y0, X1, Y1⟩ (Y0 + (ky : Int)) (scanY (setG ls th) ⟨X0, Y0, X1, Y1⟩ ky) kx) vo a.defers W) (fun a _ => (X1 - intOf (a.tmps.getD 10 undef)).toNat) ?startx ?xround
      case startx => exact ⟨0, _, Nat.zero_le _, ⟨rfl, rfl, rfl, rfl, rfl, rfl, rfl⟩, rfl, by simp, hF⟩
      case xround =>
        clear hF
        rintro ⟨tm, ds⟩ W ⟨kx, vo, hkx, ⟨e0, e2, e3, e5, e6, e7, e8⟩, e9, e10, hF⟩
        obtain ⟨U, hU, hUi⟩ := arr_fn tm 103 e0
        dsimp only at e2 e3 e5 e6 e7 e8 e9 e10 hF
        rw [← hUi] at e2 e3 e5 e6 e7 e8 e9 e10
        have eL : ((List.range 103).map U).toArray = #[U 0, U 1, U 2, U 3, U 4, U 5, U 6, U 7, U 8, U 9, U 10, U 11, U 12, U 13, U 14, U 15, U 16, U 17, U 18, U 19, U 20, U 21, U 22, U 23, U 24, U 25, U 26, U 27, U 28, U 29, U 30, U 31, U 32, U 33, U 34, U 35, U 36, U 37, U 38, U 39, U 40, U 41, U 42, U 43, U 44, U 45, U 46, U 47, U 48, U 49, U 50, U 51, U 52, U 53, U 54, U 55, U 56, U 57, U 58, U 59, U 60, U 61, U 62, U 63, U 64, U 65, U 66, U 67, U 68, U 69, U 70, U 71, U 72, U 73, U 74, U 75, U 76, U 77, U 78, U 79, U 80, U 81, U 82, U 83, U 84, U 85, U 86, U 87, U 88, U 89, U 90, U 91, U 92, U 93, U 94, U 95, U 96, U 97, U 98, U 99, U 100, U 101, U 102] := rfl
        rw [eL] at hU
        rw [e2, e3, e5, e6, e7, e8, e9, e10] at hU
        subst hU
        clear e0 e2 e3 e5 e6 e7 e8 e9 e10 hUi eL
        by_cases hkW : kx < Wd
        · have q2 : decide (X0 + (kx : Int) < X1) = true := decide_eq_true (by omega)
          have hSL := scan_small HBX.out HSM.out (i := ky) (j := kx) (by show ky ≤ (Y1 - Y0).toNat; omega) (by show kx ≤ (X1 - X0).toNat; omega) (Y0 + (ky : Int))
          have HST := Lib.hid (show scanX (setG ls th) ⟨X0, Y0, X1, Y1⟩ (Y0 + (ky : Int)) (scanY (setG ls th) ⟨X0, Y0, X1, Y1⟩ ky) (kx + 1) = scan1 (setG ls th) ⟨X0, Y0, X1, Y1⟩ (scanX (setG ls th) ⟨X0, Y0, X1, Y1⟩ (Y0 + (ky : Int)) (scanY (setG ls th) ⟨X0, Y0, X1, Y1⟩ ky) kx) (X0 + (kx : Int)) (Y0 + (ky : Int)) from rfl)
          obtain ⟨⟨L, PS⟩, hst⟩ : ∃ z, scanX (setG ls th) ⟨X0, Y0, X1, Y1⟩ (Y0 + (ky : Int)) (scanY (setG ls th) ⟨X0, Y0, X1, Y1⟩ ky) kx = z := ⟨_, rfl⟩
          rw [hst] at hF hSL HST
          obtain ⟨p5, p6, p8, HW, dm, op, mk, B⟩ := hF
          simp only at dm op hSL
          replace p8 : AtB 31 W b_p8 #[.int .i64 X0, .int .i64 Y0, .int .i64 X1, .int .i64 Y1] := p8
          obtain ⟨x, hx⟩ : ∃ x, X0 + (kx : Int) = x := ⟨_, rfl⟩
          obtain ⟨y, hy⟩ : ∃ y, Y0 + (ky : Int) = y := ⟨_, rfl⟩
          rw [hx] at q2 HST ⊢
          rw [hy] at HST ⊢
          have wfe : WfE ⟨x, y, 0⟩ := ⟨wf_mk (x := x) (by omega) (by omega), wf_mk (x := y) (by omega) (by omega), rfl⟩
          have hws := B.size
          have HWs := Lib.hid (show wI.heap.size ≤ W.heap.size from by have := p5.lt; omega)
          have BW := Lib.hid B
          replace B := Below.refl W.heap.size W
          go_upto_region 11 with fail
          refine wp_region_lit ?_
          try simp only [gelS]
          refine wpList_chunk 4 (by kernel_rfl) ?_
          simp only [takS, Nat.reduceAdd]
          repeat (first | go_big_quiet_skip | (go_big_quiet_want; first | (refine quiet_loadAny (t := 3) rfl _ _ _ rfl (fun w hw => run_load_int ((ov_B p8 w hw).cellL 2 rfl)) (by first | rfl | omega) ?_; simp only [putS]; go_big_quiet_on) | (go_big_quiet_op; go_big_quiet_on)))
          refine wpQuiet_nil ?_
          refine wpList_nil ?_
          go_upto_region 13 with fail
          refine wp_region_lit ?_
          try simp only [gelS]
          refine wpList_chunk 2 (by kernel_rfl) ?_
          simp only [takS, Nat.reduceAdd]
          repeat (first | go_big_quiet_skip | (go_big_quiet_want; first | (go_big_quiet_op; go_big_quiet_on)))
          refine wpQuiet_nil ?_
          (refine wpList_val rfl (.agg #[.int .i64 x, .int .i64 y, .int .i64 0]) (by kernel_rfl) ?_; simp only [putS])
          (refine wpList_allocBk (t := 83) rfl _ (run_alloc_St _ _ rfl) ?_; intro b_p11 wn hle hge ht hbn hzn; have hsz := B.size; replace B := B.trans (hbn.mono (by omega)); have hln := Nat.lt_of_lt_of_eq (Nat.lt_succ_self _) hzn.symm; clear hzn; (try have hlt := p5.lt); (try replace p5 := p5.below (hbn.mono hle)); (try have hlt := p6.lt); (try replace p6 := p6.below (hbn.mono hle)); (try have hlt := p8.lt); (try replace p8 := p8.below (hbn.mono hle)); (try have hlt := HW.lt); (try replace HW := HW.below (hbn.mono hle)); (try have hlt := dm.lt); (try replace dm := dm.below (hbn.mono hle)); (try have hlt := op.lt); (try replace op := op.below (hbn.mono hle)); (try have hlt := mk.lt); (try replace mk := mk.below (hbn.mono hle)); have p11 := ht; clear ht; simp only [putS])
          (refine wpList_storeB (t := 83) rfl _ _ rfl _ rfl _ rfl p11 (by kernel_rfl) rfl (by simp [edC, Value.oneCell']) ?_; have p11o := p11; have p11o := p11; have p11o := p11; clear p11; intro wn ht hcn hzn; (try replace dm := dm.chg p11o trivial hcn); (try replace mk := mk.chg p11o trivial hcn); (try replace op := op.chg p11o (by decide) hcn); (try replace HW := HW.chg p11o (by omega) hcn); have hsz := B.size; replace hzn := Nat.le_of_eq hzn.symm; replace B := Chg.below B hcn (by omega) B.size; (try replace p5 := p5.of_eq (hcn.block _ p5.lt (by omega))); (try replace p6 := p6.of_eq (hcn.block _ p6.lt (by omega))); (try replace p8 := p8.of_eq (hcn.block _ p8.lt (by omega))); (try replace HW := HW.of_eq (hcn.block _ HW.lt (by omega))); (try replace dm := dm.of_eq (hcn.block _ dm.lt (by omega))); (try replace op := op.of_eq (hcn.block _ op.lt (by omega))); (try replace mk := mk.of_eq (hcn.block _ mk.lt (by omega))); have p11 := ht; clear ht; simp only [putS])
          refine wpList_nil ?_
          replace p11 : AtB 83 _ b_p11 #[.int .i64 x, .int .i64 y, .int .i64 0] := p11
          have hI := HI.out.hold HW
          have bx : -100000 ≤ x ∧ x ≤ 100000 := by omega
          have by_ : -100000 ≤ y ∧ y ≤ 100000 := by omega
          cases hdn : decide ((⟨x, y, 0⟩ : Ed) ∈ L) with
          | true =>
            have hst2 := Lib.hid (show scan1 (setG ls th) ⟨X0, Y0, X1, Y1⟩ (L, PS) x y = (L, PS) from by unfold scan1; rw [if_pos (by simp only [hdn, Bool.true_or])])
            go_upto_region 14 with fail
            refine wp_region_lit ?_
            try simp only [gelS]
            refine wpList_chunk 2 (by kernel_rfl) ?_
            simp only [takS, Nat.reduceAdd]
            repeat (first | go_big_quiet_skip | (go_big_quiet_want; first | (refine quiet_loadAny (t := 81) rfl _ _ _ rfl (fun w hw => run_load_mv ((ov_B p6 w hw).cellL 0 rfl)) (by first | rfl | omega) ?_; simp only [putS]; go_big_quiet_on) | (refine quiet_loadAny (t := 83) rfl _ _ _ rfl (fun w hw => run_load_B (ov_B p11 w hw) Try.isAgg83 (by kernel_rfl)) (by rfl) ?_; simp only [putS]; go_big_quiet_on) | (go_big_quiet_op; go_big_quiet_on)))
            refine wpQuiet_nil ?_
            (refine wpList_look rfl _ _ rfl rfl dm ⟨x, y, 0⟩ rfl wfe true hdn ?_; simp only [putS])
            refine wpList_chunk 3 (by kernel_rfl) ?_
            simp only [takS, Nat.reduceAdd]
            repeat (first | go_big_quiet_skip | (go_big_quiet_want; first | (refine quiet_loadAny (t := 83) rfl _ _ _ rfl (fun w hw => run_load_B (ov_B p11 w hw) Try.isAgg83 (by kernel_rfl)) (by rfl) ?_; simp only [putS]; go_big_quiet_on) | (go_big_quiet_op; go_big_quiet_on)))
            refine wpQuiet_nil ?_
            refine wpList_skip ?hs15_6 ?_
            case hs15_6 => kernel_rfl
            simp only [putS]
            refine wpList_chunk 2 (by kernel_rfl) ?_
            simp only [takS, Nat.reduceAdd]
            repeat (first | go_big_quiet_skip | (go_big_quiet_want; first | (go_big_quiet_op; go_big_quiet_on)))
            refine wpQuiet_nil ?_
            refine wpList_nil ?_
            go_upto_region 12 with fail
            refine wp_region_lit ?_
            try simp only [gelS]
            refine wpList_chunk 3 (by kernel_rfl) ?_
            simp only [takS, Nat.reduceAdd]
            repeat (first | go_big_quiet_skip | (go_big_quiet_want; first | (go_big_quiet_op; go_big_quiet_on)))
            refine wpQuiet_nil ?_
            refine wpList_nil ?_
            go_wp2
            refine ⟨⟨kx + 1, vo, by omega, ⟨rfl, rfl, rfl, rfl, rfl, rfl, rfl⟩, rfl, by show Value.int _ _ = _; congr 1; omega, ?_⟩, ?_⟩
            · rw [HST.out, hst2.out]
              exact ⟨p5, p6, p8, HW, dm, op, mk, BW.out.trans (B.mono hws)⟩
            · show (X1 - intOf (.int .i64 _)).toNat < (X1 - intOf (.int .i64 _)).toNat
              simp only [intOf]; omega
          | false =>
            cases hhs : hasE (setG ls th) x y 0 with
            | false =>
              have hst2 := Lib.hid (show scan1 (setG ls th) ⟨X0, Y0, X1, Y1⟩ (L, PS) x y = (L, PS) from by unfold scan1; rw [if_pos (by simp only [hhs, Bool.not_false, Bool.or_true])])
              go_upto_region 14 with fail
              refine wp_region_lit ?_
              try simp only [gelS]
              refine wpList_chunk 2 (by kernel_rfl) ?_
              simp only [takS, Nat.reduceAdd]
              repeat (first | go_big_quiet_skip | (go_big_quiet_want; first | (refine quiet_loadAny (t := 81) rfl _ _ _ rfl (fun w hw => run_load_mv ((ov_B p6 w hw).cellL 0 rfl)) (by first | rfl | omega) ?_; simp only [putS]; go_big_quiet_on) | (refine quiet_loadAny (t := 83) rfl _ _ _ rfl (fun w hw => run_load_B (ov_B p11 w hw) Try.isAgg83 (by kernel_rfl)) (by rfl) ?_; simp only [putS]; go_big_quiet_on) | (go_big_quiet_op; go_big_quiet_on)))
              refine wpQuiet_nil ?_
              (refine wpList_look rfl _ _ rfl rfl dm ⟨x, y, 0⟩ rfl wfe false hdn ?_; simp only [putS])
              refine wpList_chunk 3 (by kernel_rfl) ?_
              simp only [takS, Nat.reduceAdd]
              repeat (first | go_big_quiet_skip | (go_big_quiet_want; first | (refine quiet_loadAny (t := 83) rfl _ _ _ rfl (fun w hw => run_load_B (ov_B p11 w hw) Try.isAgg83 (by kernel_rfl)) (by rfl) ?_; simp only [putS]; go_big_quiet_on) | (refine quiet_loadAny (t := 80) rfl _ _ _ rfl (fun w hw => run_load_B (ov_B p5 w hw) Try.isAgg80 (by kernel_rfl)) (by rfl) ?_; simp only [putS]; go_big_quiet_on) | (go_big_quiet_op; go_big_quiet_on)))
              refine wpQuiet_nil ?_
              refine wpList_callF (by first | rfl | simp [Region.wanted, yielded]) rfl (enters_of Try.func51 (by kernel_rfl) rfl) (by simp only [List.map_toArray, List.map_cons, List.map_nil, Act.eval, Array.getD_eq_getD_getElem?, List.getElem?_toArray, List.getElem?_cons_succ, List.getElem?_cons_zero, Option.getD_some]; rfl) ?_
              refine (P_has b_r2 b_r3 ls th x y 0 false _ hI TK.out hn bx by_ ⟨by omega, by omega⟩ hhs).mono ?_
              rintro e wn ⟨rfl, hbn⟩
              have hsz := B.size
              have hzn := hbn.size
              replace B := B.trans (hbn.mono B.size)
              (try replace p5 := p5.below hbn)
              (try replace p6 := p6.below hbn)
              (try replace p8 := p8.below hbn)
              (try replace HW := HW.below hbn)
              (try replace dm := dm.below hbn)
              (try replace op := op.below hbn)
              (try replace mk := mk.below hbn)
              (try replace p11 := p11.below hbn)
              refine ⟨_, rfl, ?_⟩
              simp only [putS]
              refine wpList_chunk 2 (by kernel_rfl) ?_
              simp only [takS, Nat.reduceAdd]
              repeat (first | go_big_quiet_skip | (go_big_quiet_want; first | (go_big_quiet_op; go_big_quiet_on)))
              refine wpQuiet_nil ?_
              refine wpList_nil ?_
              go_upto_region 12 with fail
              refine wp_region_lit ?_
              try simp only [gelS]
              refine wpList_chunk 3 (by kernel_rfl) ?_
              simp only [takS, Nat.reduceAdd]
              repeat (first | go_big_quiet_skip | (go_big_quiet_want; first | (go_big_quiet_op; go_big_quiet_on)))
              refine wpQuiet_nil ?_
              refine wpList_nil ?_
              go_wp2
              refine ⟨⟨kx + 1, vo, by omega, ⟨rfl, rfl, rfl, rfl, rfl, rfl, rfl⟩, rfl, by show Value.int _ _ = _; congr 1; omega, ?_⟩, ?_⟩
              · rw [HST.out, hst2.out]
                exact ⟨p5, p6, p8, HW, dm, op, mk, BW.out.trans (B.mono hws)⟩
              · show (X1 - intOf (.int .i64 _)).toNat < (X1 - intOf (.int .i64 _)).toNat
                simp only [intOf]; omega
            | true =>
              have hst2 := Lib.hid (show scan1 (setG ls th) ⟨X0, Y0, X1, Y1⟩ (L, PS) x y = (L ++ folE (setG ls th) ⟨X0, Y0, X1, Y1⟩ ⟨x, y, 0⟩, PS ++ [cornG (folE (setG ls th) ⟨X0, Y0, X1, Y1⟩ ⟨x, y, 0⟩)]) from by unfold scan1; rw [if_neg (by simp only [hdn, hhs, Bool.not_true, Bool.or_self]; decide)])
              go_upto_region 14 with fail
              refine wp_region_lit ?_
              try simp only [gelS]
              refine wpList_chunk 2 (by kernel_rfl) ?_
              simp only [takS, Nat.reduceAdd]
              repeat (first | go_big_quiet_skip | (go_big_quiet_want; first | (refine quiet_loadAny (t := 81) rfl _ _ _ rfl (fun w hw => run_load_mv ((ov_B p6 w hw).cellL 0 rfl)) (by first | rfl | omega) ?_; simp only [putS]; go_big_quiet_on) | (refine quiet_loadAny (t := 83) rfl _ _ _ rfl (fun w hw => run_load_B (ov_B p11 w hw) Try.isAgg83 (by kernel_rfl)) (by rfl) ?_; simp only [putS]; go_big_quiet_on) | (go_big_quiet_op; go_big_quiet_on)))
              refine wpQuiet_nil ?_
              (refine wpList_look rfl _ _ rfl rfl dm ⟨x, y, 0⟩ rfl wfe false hdn ?_; simp only [putS])
              refine wpList_chunk 3 (by kernel_rfl) ?_
              simp only [takS, Nat.reduceAdd]
              repeat (first | go_big_quiet_skip | (go_big_quiet_want; first | (refine quiet_loadAny (t := 83) rfl _ _ _ rfl (fun w hw => run_load_B (ov_B p11 w hw) Try.isAgg83 (by kernel_rfl)) (by rfl) ?_; simp only [putS]; go_big_quiet_on) | (refine quiet_loadAny (t := 80) rfl _ _ _ rfl (fun w hw => run_load_B (ov_B p5 w hw) Try.isAgg80 (by kernel_rfl)) (by rfl) ?_; simp only [putS]; go_big_quiet_on) | (go_big_quiet_op; go_big_quiet_on)))
              refine wpQuiet_nil ?_
              refine wpList_callF (by first | rfl | simp [Region.wanted, yielded]) rfl (enters_of Try.func51 (by kernel_rfl) rfl) (by simp only [List.map_toArray, List.map_cons, List.map_nil, Act.eval, Array.getD_eq_getD_getElem?, List.getElem?_toArray, List.getElem?_cons_succ, List.getElem?_cons_zero, Option.getD_some]; rfl) ?_
              refine (P_has b_r2 b_r3 ls th x y 0 true _ hI TK.out hn bx by_ ⟨by omega, by omega⟩ hhs).mono ?_
              rintro e wn ⟨rfl, hbn⟩
              have hsz := B.size
              have hzn := hbn.size
              replace B := B.trans (hbn.mono B.size)
              (try replace p5 := p5.below hbn)
              (try replace p6 := p6.below hbn)
              (try replace p8 := p8.below hbn)
              (try replace HW := HW.below hbn)
              (try replace dm := dm.below hbn)
              (try replace op := op.below hbn)
              (try replace mk := mk.below hbn)
              (try replace p11 := p11.below hbn)
              refine ⟨_, rfl, ?_⟩
              simp only [putS]
              refine wpList_chunk 2 (by kernel_rfl) ?_
              simp only [takS, Nat.reduceAdd]
              repeat (first | go_big_quiet_skip | (go_big_quiet_want; first | (go_big_quiet_op; go_big_quiet_on)))
              refine wpQuiet_nil ?_
              refine wpList_nil ?_
              clear hI
              have k8 := p8.lt
              go_upto_region 15 with fail
              refine wp_region_lit ?_
              try simp only [gelS]
              (refine wpList_allocBk (t := 85) rfl _ (run_alloc_Ss _ _ rfl) ?_; intro b_l12 wn hle hge ht hbn hzn; have hsz := B.size; replace B := B.trans (hbn.mono (by omega)); have hln := Nat.lt_of_lt_of_eq (Nat.lt_succ_self _) hzn.symm; clear hzn; (try have hlt := p5.lt); (try replace p5 := p5.below (hbn.mono hle)); (try have hlt := p6.lt); (try replace p6 := p6.below (hbn.mono hle)); (try have hlt := p8.lt); (try replace p8 := p8.below (hbn.mono hle)); (try have hlt := HW.lt); (try replace HW := HW.below (hbn.mono hle)); (try have hlt := dm.lt); (try replace dm := dm.below (hbn.mono hle)); (try have hlt := op.lt); (try replace op := op.below (hbn.mono hle)); (try have hlt := mk.lt); (try replace mk := mk.below (hbn.mono hle)); (try have hlt := p11.lt); (try replace p11 := p11.below (hbn.mono hle)); have l12 := ht; clear ht; simp only [putS])
              refine wpList_nil ?_
              have n8 : b_p8 < b_l12 := by omega
              have kl12 := l12.lt
              clear k8
              go_upto_region 16 with fail
              refine wp_region_lit ?_
              try simp only [gelS]
              refine wpList_chunk 2 (by kernel_rfl) ?_
              simp only [takS, Nat.reduceAdd]
              repeat (first | go_big_quiet_skip | (go_big_quiet_want; first | (refine quiet_loadAny (t := 83) rfl _ _ _ rfl (fun w hw => run_load_B (ov_B p11 w hw) Try.isAgg83 (by kernel_rfl)) (by rfl) ?_; simp only [putS]; go_big_quiet_on) | (refine quiet_loadAny (t := 80) rfl _ _ _ rfl (fun w hw => run_load_B (ov_B p5 w hw) Try.isAgg80 (by kernel_rfl)) (by rfl) ?_; simp only [putS]; go_big_quiet_on) | (go_big_quiet_op; go_big_quiet_on)))
              refine wpQuiet_nil ?_
              refine wpList_callF (by first | rfl | simp [Region.wanted, yielded]) rfl (enters_of Try.func52 (by kernel_rfl) rfl) (by simp only [List.map_toArray, List.map_cons, List.map_nil, Act.eval, Array.getD_eq_getD_getElem?, List.getElem?_toArray, List.getElem?_cons_succ, List.getElem?_cons_zero, Option.getD_some]; rfl) ?_
              refine (P_from b_r2 b_r3 x y 0 _).mono ?_
              rintro e wn ⟨bs, bb, rfl, hbs, hbb, ps, pb, hbn⟩
              have hsz := B.size
              have hzn := hbn.size
              replace B := B.trans (hbn.mono B.size)
              (try replace p5 := p5.below hbn)
              (try replace p6 := p6.below hbn)
              (try replace p8 := p8.below hbn)
              (try replace HW := HW.below hbn)
              (try replace dm := dm.below hbn)
              (try replace op := op.below hbn)
              (try replace mk := mk.below hbn)
              (try replace p11 := p11.below hbn)
              (try replace l12 := l12.below hbn)
              refine ⟨_, rfl, ?_⟩
              simp only [putS]
              refine wpList_nil ?_
              go_wp2
              obtain ⟨A, hA⟩ : ∃ z, z = wn := ⟨_, rfl⟩
              subst hA
              have hsI := Nat.le_trans HWs.out B.size
              have kbs : bs ≠ b_l12 := by omega
              have kbb : bb ≠ b_l12 := by omega
              have kbI : wI.heap.size ≤ b_l12 := by omega
              have k12 := l12.lt
              have k6 := p6.lt
              have kd := dm.lt
              have HBND := Lib.hid (show Bnd (setG ls th) ⟨x, y, 0⟩ from ⟨⟨Int.le_refl _, by show (0 : Int) ≤ 3; omega⟩, hhs⟩)
              refine (wpIn_wide (n := 3)).1 ?_
              refine rangeFunc_own (F := Fence.wide) rfl (by omega) (gf := 96) (lb := #[.pointer (some ⟨bs, 0, none⟩), .pointer (some ⟨bb, 0, none⟩)]) rfl trivial (enters_of Try.func96 (by kernel_rfl) rfl) (from_stops b_r2 b_r3 ls th TK.out hn ⟨X0, Y0, X1, Y1⟩ (by simp only; omega) HBX.out ⟨x, y, 0⟩ HBND.out bs bb b_l12 _ (by omega) A wI ps pb HI.out HW hsI kbI kbs kbb) (fun h k => KpO.trans h k) (fun W l o o' hl ho => KpO.putObj o' hl ho) (fun A B h => KpO.below h) (Below.refl _ _) (fun _ => rfl)
                (fun pre W => ∃ (va : Option Addr) (cp : Nat), AtB 85 W b_l12 #[.slice va pre.length cp] ∧ OwnE edE (A.heap.size + 3) (.slice va pre.length cp) pre W ∧ DoneM b_dm (L ++ pre) W ∧ KX A b_dm b_l12 W)
                (fun pre W W' row hI hg hr => ?own) (fun pre W W' row hI hg hr => ?own1) ⟨none, 0, l12, OwnE.nil _ _, by rw [List.append_nil]; exact dm, KX.refl _ _ _⟩
                (fun x a' W => ∃ b13 : Nat, a'.defers = [] ∧ a'.tmps.size = 103 ∧ a'.tmps.getD 6 undef = .pointer (some ⟨b_p6, 0, none⟩) ∧ a'.tmps.getD 12 undef = .pointer (some ⟨b_l12, 0, none⟩) ∧ a'.tmps.getD 13 undef = .pointer (some ⟨b13, 0, none⟩) ∧ AtB 83 W b13 (edC x))
                (fun x a' W W' row hA hg hr => ?own2) ?assign ?body ?done
              case own =>
                obtain ⟨va, cp, h1, h2, h3, h4⟩ := hI
                have hr' : ∀ r, row = some r → ∃ o : Obj, W.heap[r]? = some o ∧ o.isCells = false := fun r e => (hr r e).2
                exact ⟨va, cp, h1.own hg hr', h2.ownR hg hr', h3.kept hg (fun e => by have := (hr _ e.symm).1; omega), h4.grown hg (fun r e => .inl (hr r e).1)⟩
              case own1 =>
                obtain ⟨va, cp, h1, h2, h3, h4⟩ := hI
                exact ⟨va, cp, h1.of_eq (hg.block _ h1.lt (fun e => by have := hr _ e.symm; omega)), h2.keptC hg (fun r e => by have := hr r e; omega), h3.kept hg (fun e => by have := hr _ e.symm; omega), h4.grown hg (fun r e => .inl (by have := hr r e; omega))⟩
              case own2 =>
                obtain ⟨b13, e1, e2, e3, e4, e5, h1⟩ := hA
                exact ⟨b13, e1, e2, e3, e4, e5, h1.own hg (fun r e => (hr r e).2)⟩
              case assign =>
                intro l pre x W K hIp hgt hK
                have B := Below.refl W.heap.size W
                refine zip1_wp ?_
                simp only [List.setIfInBounds_toArray, List.set_cons_succ, List.set_cons_zero]
                refine round_lit (by kernel_rfl) ?_
                try simp only [gelS]
                (refine wpList_allocBk (t := 83) rfl _ (run_alloc_St _ _ rfl) ?_; intro b_p13 wn hle hge ht hbn hzn; have hsz := B.size; replace B := B.trans (hbn.mono (by omega)); have hln := Nat.lt_of_lt_of_eq (Nat.lt_succ_self _) hzn.symm; clear hzn; have p13 := ht; clear ht; simp only [putS])
                (refine wpList_storeB (t := 83) rfl _ _ rfl _ rfl _ rfl p13 (by kernel_rfl) rfl (by simp [edC, Value.oneCell']) ?_; clear p13; intro wn ht hcn hzn; have hsz := B.size; replace hzn := Nat.le_of_eq hzn.symm; replace B := Chg.below B hcn (by omega) B.size; have p13 := ht; clear ht; simp only [putS])
                refine wpList_nil ?_
                refine Only.at ?_
                refine hK _ _ B ⟨_, rfl, rfl, rfl, rfl, rfl, p13⟩
              case body =>
                rintro l pre ⟨ex, ey, ed⟩ W ⟨tm, df⟩ ⟨va, cp, l12, od, dm, kx⟩ ⟨b13, e1, e2, e6, e12, e13, p13⟩ ⟨k, hk, hpre, hxe⟩ hgt
                obtain ⟨V, hV, hVi⟩ := arr_fn tm 103 e2
                dsimp only at e6 e12 e13
                rw [← hVi] at e6 e12 e13
                have eL : ((List.range 103).map V).toArray = #[V 0, V 1, V 2, V 3, V 4, V 5, V 6, V 7, V 8, V 9, V 10, V 11, V 12, V 13, V 14, V 15, V 16, V 17, V 18, V 19, V 20, V 21, V 22, V 23, V 24, V 25, V 26, V 27, V 28, V 29, V 30, V 31, V 32, V 33, V 34, V 35, V 36, V 37, V 38, V 39, V 40, V 41, V 42, V 43, V 44, V 45, V 46, V 47, V 48, V 49, V 50, V 51, V 52, V 53, V 54, V 55, V 56, V 57, V 58, V 59, V 60, V 61, V 62, V 63, V 64, V 65, V 66, V 67, V 68, V 69, V 70, V 71, V 72, V 73, V 74, V 75, V 76, V 77, V 78, V 79, V 80, V 81, V 82, V 83, V 84, V 85, V 86, V 87, V 88, V 89, V 90, V 91, V 92, V 93, V 94, V 95, V 96, V 97, V 98, V 99, V 100, V 101, V 102] := rfl
                rw [eL] at hV
                rw [e6, e12, e13] at hV
                subst hV
                have e1 : df = [] := e1
                subst e1
                clear e2 e6 e12 e13 hVi eL
                have hper := (perE_spec HBX.out HBND.out).2.2.1
                have hbn1 := (box_small (r := ⟨X0, Y0, X1, Y1⟩) HSM.out).1
                have hpl : pre.length = k := by rw [hpre, orbK_len]
                have hbe := HBX.out _ (orb_bnd HBND.out k)
                rw [← hxe] at hbe
                have hde := (orb_bnd HBND.out k).1
                rw [← hxe] at hde
                simp only at hbe hde
                have wfx : WfE ⟨ex, ey, ed⟩ := ⟨wf_mk (x := ex) (by omega) (by omega), wf_mk (x := ey) (by omega) (by omega), wf_mk (x := ed) (by omega) (by omega)⟩
                have l6 := kx.atB p6 (by omega) (by omega)
                have hne6 := dm.ne l6
                have hne12 := dm.ne l12
                have hne13 := dm.ne p13
                have hmo := Lib.hid dm
                have hkx := Lib.hid kx
                have l12W := Lib.hid l12
                have hLl : (L ++ pre).length < maxLen := by rw [List.length_append]; unfold maxLen; omega
                have hl1 : pre.length + 1 ≤ 100000000 := by omega
                clear hbe hde hpre hxe hk kx
                replace p13 : AtB 83 W b13 #[.int .i64 ex, .int .i64 ey, .int .i64 ed] := p13
                have B : Exc b_dm (A.heap.size + 3) W W := ⟨rfl, rfl, rfl, hgt, Nat.le_refl _, fun _ _ _ => rfl⟩
                gi_upto_region 18 with fail
                refine round_lit (by kernel_rfl) ?_
                try simp only [gelS]
                refine wpList_chunk 2 (by kernel_rfl) ?_
                simp only [takS, Nat.reduceAdd]
                repeat (first | go_big_quiet_skip | (go_big_quiet_want; first | (refine quiet_loadAny (t := 81) rfl _ _ _ rfl (fun w hw => run_load_mv ((ov_B l6 w hw).cellL 0 rfl)) (by first | rfl | omega) ?_; simp only [putS]; go_big_quiet_on) | (refine quiet_loadAny (t := 83) rfl _ _ _ rfl (fun w hw => run_load_B (ov_B p13 w hw) Try.isAgg83 (by kernel_rfl)) (by rfl) ?_; simp only [putS]; go_big_quiet_on) | (go_big_quiet_op; go_big_quiet_on)))
                refine wpQuiet_nil ?_
                (refine wpList_done rfl _ _ rfl rfl dm ⟨ex, ey, ed⟩ rfl wfx hLl ?_; clear dm; intro wn dm hgr; have hcn := chg_of_grown hgr; replace B := Exc.chg B hcn; replace l12 := l12.of_eq (hcn.block _ l12.lt hne12); replace l6 := l6.of_eq (hcn.block _ l6.lt hne6); replace p13 := p13.of_eq (hcn.block _ p13.lt hne13); replace od := od.keptC hgr (fun r e => by cases e; omega); simp only [putS])
                refine wpList_nil ?_
                refine Only.at ?_
                try dsimp only
                gi_upto_region 19 with fail
                refine round_lit (by kernel_rfl) ?_
                have ks := B.size
                try simp only [gelS]
                refine wpList_chunk 2 (by kernel_rfl) ?_
                simp only [takS, Nat.reduceAdd]
                repeat (first | go_big_quiet_skip | (go_big_quiet_want; first | (refine quiet_loadAny (t := 85) rfl _ _ _ rfl (fun w hw => run_load_ss ((ov_B l12 w hw).cellL 0 rfl)) (by first | rfl | omega) ?_; simp only [putS]; go_big_quiet_on) | (refine quiet_loadAny (t := 83) rfl _ _ _ rfl (fun w hw => run_load_B (ov_B p13 w hw) Try.isAgg83 (by kernel_rfl)) (by rfl) ?_; simp only [putS]; go_big_quiet_on) | (go_big_quiet_op; go_big_quiet_on)))
                refine wpQuiet_nil ?_
                (refine wpList_bs1E (E := edE) rfl _ rfl (⟨ex, ey, ed⟩) rfl (by omega) ?_; intro b_s1 wn hle hge ht hbn hzn; replace od := od.below (hbn.mono hle); have hsz := B.size; replace B := B.trans (hbn.mono (by omega)); have hln := Nat.lt_of_lt_of_eq (Nat.lt_succ_self _) hzn.symm; clear hzn; (try have hlt := l12.lt); (try replace l12 := l12.below (hbn.mono hle)); (try have hlt := p13.lt); (try replace p13 := p13.below (hbn.mono hle)); (try have hlt := od.lt); (try replace od := od.below (hbn.mono hle)); (try have hlt := dm.lt); (try replace dm := dm.below (hbn.mono hle)); have s1 := ht; clear ht; simp only [putS])
                (at_builtin; refine wpList_appendE rfl _ _ rfl _ _ rfl rfl od (RSE.one s1) (by simp only [List.length_cons, List.length_nil]; omega) (by omega) ?_; intro v_od wn ht hbn; have hsz := B.size; have hbz := hbn.size; replace B := B.trans (hbn.mono (by omega)); clear od; (try replace l12 := l12.of_eq (hbn.block _ (by omega))); (try replace dm := dm.of_eq (hbn.block _ (by omega))); have od := ht; clear ht; obtain ⟨a_od, c_od, hv, hco⟩ := od.len; (try simp only [List.length_append, List.length_cons, List.length_nil, Nat.zero_add] at hv hco); subst hv; simp only [putS])
                obtain ⟨W5, hW5⟩ : ∃ z, z = wn := ⟨_, rfl⟩
                subst hW5
                refine wpList_storeSs rfl _ _ rfl _ rfl _ _ _ rfl l12 ?_
                intro W6 l12' hc6 _
                simp only [putS]
                refine wpList_nil ?_
                refine Only.at ?_
                try dsimp only
                gi_wp2
                have hgr := B.grow
                have dm6 := dm.chg l12 trivial hc6
                have od6 := od.chg hc6 (by omega)
                refine ⟨fun k o h1 h2 ho => ?_, ⟨Nat.le_trans B.grow hc6.size, fun k o hk ho hcl => ?_⟩, ⟨a_od, c_od, by rw [List.length_append]; exact l12', by rw [List.length_append]; exact od6, by rw [← List.append_assoc]; exact dm6, (hkx.out.exc B (by omega)).chgL hc6⟩⟩
                · have hlt := (Array.getElem?_eq_some_iff.1 ho).1
                  exact (hc6.block k (by omega) (by omega)).trans ((B.block k (by omega) (by omega)).trans ho)
                · have hlt := (Array.getElem?_eq_some_iff.1 ho).1
                  have hkm : k ≠ b_dm := fun e => by
                    obtain ⟨es, c, h5⟩ := hmo.out.obj
                    rw [e, h5] at ho
                    cases ho
                    cases hcl
                  exact (hc6.block k (by omega) (by omega)).trans ((B.block k (by omega) hkm).trans ho)
              case done =>
                rintro D xs W2 hD rfl ⟨va, cp, l12b, od, dm2, kx⟩ hDD
                have kd2 : DefAt W2 D := hDD
                obtain ⟨ll, hll⟩ : ∃ z, folE (setG ls th) ⟨X0, Y0, X1, Y1⟩ ⟨x, y, 0⟩ = z := ⟨_, rfl⟩
                rw [hll] at l12b od dm2 hst2
                have hcnt := (box_small (r := ⟨X0, Y0, X1, Y1⟩) HSM.out).1
                have hper := (perE_spec HBX.out HBND.out).2.2.1
                have hlen : ll.length ≤ 161604 := by rw [← hll]; unfold folE; rw [orbK_len]; omega
                have hF2 := Lib.hid (show OutF w wI b_r2 b_r3 b_p5 b_p6 b_dm b_p8 ⟨X0, Y0, X1, Y1⟩ (L ++ ll, PS) vo ({ target := .collected D, args := #[] } :: ds) W2 from
                  ⟨kx.atB p5 (by omega) (by omega), kx.atB p6 (by omega) (by omega), kx.atB p8 (by omega) (by omega), kx.hold HW (by omega) (by omega), dm2, kx.polys op dm.obj l12 (by decide), ⟨⟨D, rfl, by omega, kd2, fun D' hm => by have := mk.lt D' hm; omega⟩, kx.marks mk (fun D hD => dm.neD hD) (fun D hD => fun e => hD.ne l12 e.symm)⟩, kx.below (BW.out.trans (B.mono hws)) (by omega) (by omega) (by omega)⟩)
                have hpos : 0 < ll.length := by rw [← hll]; unfold folE; rw [orbK_len]; have := (perE_spec HBX.out HBND.out).2.1; omega
                obtain ⟨g12, o12, rfl, ce⟩ := od.rs.at hpos
                dsimp only
                clear B BW p5 p6 p8 p11 HW dm op mk ps pb l12 kd2 dm2 kx od HBND hper hll
                have B := Below.refl W2.heap.size W2
                go_upto_region 20 with fail
                refine wp_region_lit ?_
                try simp only [gelS]
                refine wpList_chunk 1 (by kernel_rfl) ?_
                simp only [takS, Nat.reduceAdd]
                repeat (first | go_big_quiet_skip | (go_big_quiet_want; first | (go_big_quiet_op; go_big_quiet_on)))
                refine wpQuiet_nil ?_
                refine wpList_nil ?_
                go_upto_region 21 with fail
                refine wp_region_lit ?_
                try simp only [gelS]
                refine wpList_chunk 1 (by kernel_rfl) ?_
                simp only [takS, Nat.reduceAdd]
                repeat (first | go_big_quiet_skip | (go_big_quiet_want; first | (refine quiet_loadAny (t := 85) rfl _ _ _ rfl (fun w hw => run_load_ss ((ov_B l12b w hw).cellL 0 rfl)) (by first | rfl | omega) ?_; simp only [putS]; go_big_quiet_on) | (go_big_quiet_op; go_big_quiet_on)))
                refine wpQuiet_nil ?_
                refine wpList_lenS (by first | rfl | simp [Region.wanted, yielded]) rfl Try.underlying85 rfl ?_
                simp only [putS]
                refine wpList_chunk 1 (by kernel_rfl) ?_
                simp only [takS, Nat.reduceAdd]
                repeat (first | go_big_quiet_skip | (go_big_quiet_want; first | (go_big_quiet_op; go_big_quiet_on)))
                refine wpQuiet_nil ?_
                refine wpList_nil ?_
                go_wp2
                have HLB := Lib.hid l12b
                have HCE := Lib.hid ce
                have o14 := OwnE.nil (E := ptE) W2.heap.size W2
                go_loopw [14, 15, 16, 69] (fun v14 _ _ iv wr => ∃ k, k ≤ ll.length ∧ iv = .int .i64 (k : Int) ∧ Below W2.heap.size W2 wr ∧ ∃ a c, v14 = .slice a (cornK ll k).length c ∧ OwnE ptE W2.heap.size (.slice a (cornK ll k).length c) (cornK ll k) wr) (fun _ _ _ iv _ => (ll.length - intOf iv).toNat)
                case atStart => exact ⟨0, by omega, rfl, B, none, 0, rfl, o14⟩
                case round =>
                  clear B l12b ce o14
                  obtain ⟨k, hk, rfl, B, a14, c14, rfl, o14⟩ := hrel
                  have l12b := HLB.out.of_eq (B.block _ HLB.out.lt)
                  have ce := HCE.out.of_eq (B.block _ HCE.out.lt)
                  have hcl := cornK_len ll k
                  by_cases hkl : k < ll.length
                  · have q3 : decide ((k : Int) < (ll.length : Int)) = true := decide_eq_true (by omega)
                    have q4 : decide (k < ll.length) = true := decide_eq_true hkl
                    obtain ⟨pk, hpk⟩ : ∃ p, (k + ll.length - 1) % ll.length = p := ⟨_, rfl⟩
                    have hpl : pk < ll.length := by rw [← hpk]; exact Nat.mod_lt _ hpos
                    have q5 : decide (pk < ll.length) = true := decide_eq_true hpl
                    have q6 : decide ((pk : Int) < (ll.length : Int)) = true := decide_eq_true (by omega)
                    have ht1 : Int.tmod ((k : Int) + (ll.length : Int) - 1) (ll.length : Int) = (pk : Int) := by
                      rw [Int.tmod_eq_emod_of_nonneg (by omega), show (k : Int) + (ll.length : Int) - 1 = ((k + ll.length - 1 : Nat) : Int) by omega, ← Int.natCast_emod, hpk]
                    obtain ⟨⟨ex, ey, ed⟩, he⟩ : ∃ e, edG ll k = e := ⟨_, rfl⟩
                    obtain ⟨⟨px, py, pd⟩, hp⟩ : ∃ e, edG ll pk = e := ⟨_, rfl⟩
                    have hek : ll[k]? = some ⟨ex, ey, ed⟩ := by
                      rw [← he]; unfold edG; rw [List.getD_eq_getElem?_getD, List.getElem?_eq_getElem hkl]; rfl
                    have hep : ll[pk]? = some ⟨px, py, pd⟩ := by
                      rw [← hp]; unfold edG; rw [List.getD_eq_getElem?_getD, List.getElem?_eq_getElem hpl]; rfl
                    have HC := Lib.hid (show cornB ll k = decide (pd ≠ ed) ∧ cornK ll (k + 1) = cornK ll k ++ (if cornB ll k = true then [(ex, ey)] else []) from ⟨by unfold cornB; rw [hpk, hp, he], by show _ ++ (if _ then [((edG ll k).x, (edG ll k).y)] else []) = _; rw [he]⟩)
                    clear he hp hpk
                    have hl0 : ¬ ((ll.length : Int) = 0) := by omega
                    have hl0' : ((ll.length : Int) == 0) = false := beq_eq_false_iff_ne.2 hl0
                    go_upto_region 22 with fail
                    refine wp_region_lit ?_
                    try simp only [gelS]
                    refine wpList_chunk 1 (by kernel_rfl) ?_
                    simp only [takS, Nat.reduceAdd]
                    repeat (first | go_big_quiet_skip | (go_big_quiet_want; first | (go_big_quiet_op; go_big_quiet_on)))
                    refine wpQuiet_nil ?_
                    refine wpList_nil ?_
                    go_upto_region 23 with fail
                    refine wp_region_lit ?_
                    try simp only [gelS]
                    refine wpList_chunk 3 (by kernel_rfl) ?_
                    simp only [takS, Nat.reduceAdd]
                    repeat (first | go_big_quiet_skip | (go_big_quiet_want; first | (refine quiet_loadAny (t := 83) rfl _ _ _ rfl (fun w hw => rce_edS (ov_rce ce w hw) hek) (by first | rfl | omega) ?_; simp only [putS]; go_big_quiet_on) | (go_big_quiet_op; go_big_quiet_on)))
                    refine wpQuiet_nil ?_
                    (refine wpList_allocBk (t := 83) rfl _ (run_alloc_St _ _ rfl) ?_; intro b_p16 wn hle hge ht hbn hzn; have hsz := B.size; replace B := B.trans (hbn.mono (by omega)); have hln := Nat.lt_of_lt_of_eq (Nat.lt_succ_self _) hzn.symm; clear hzn; (try have hlt := l12b.lt); (try replace l12b := l12b.below (hbn.mono hle)); (try have hlt := ce.lt); (try replace ce := ce.below (hbn.mono hle)); (try have hlt := o14.lt); (try replace o14 := o14.below (hbn.mono hle)); have p16 := ht; clear ht; simp only [putS])
                    refine wpList_chunk 1 (by kernel_rfl) ?_
                    simp only [takS, Nat.reduceAdd]
                    repeat (first | go_big_quiet_skip | (go_big_quiet_want; first | (go_big_quiet_op; go_big_quiet_on)))
                    refine wpQuiet_nil ?_
                    (refine wpList_storeB (t := 83) rfl _ _ rfl _ rfl _ rfl p16 (by kernel_rfl) rfl (by simp [edC, Value.oneCell']) ?_; have p16o := p16; clear p16; intro wn ht hcn hzn; (try replace o14 := o14.chgT p16o (by decide) hcn); have hsz := B.size; replace hzn := Nat.le_of_eq hzn.symm; replace B := Chg.below B hcn (by omega) B.size; (try replace l12b := l12b.of_eq (hcn.block _ l12b.lt (by omega))); (try replace ce := ce.of_eq (hcn.block _ ce.lt (by omega))); (try replace o14 := o14.of_eq (hcn.block _ o14.lt (by omega))); have p16 := ht; clear ht; simp only [putS])
                    refine wpList_nil ?_
                    replace p16 : AtB 83 _ b_p16 #[.int .i64 ex, .int .i64 ey, .int .i64 ed] := p16
                    have k16 := p16.lt
                    go_upto_region 24 with fail
                    have hcw : Below W2.heap.size W2 _ := B
                    by_cases hne : pd = ed
                    · have q7 : (pd != ed) = false := by rw [hne]; simp
                      have q8 : (pd == ed) = true := by rw [hne]; simp
                      have HC2 := Lib.hid (show cornK ll (k + 1) = cornK ll k from by rw [HC.out.2, HC.out.1, decide_eq_false (fun h => h hne)]; simp)
                      try simp only [gelS]
                      try have lx_l12b := l12b.lt
                      try have lx_ce := ce.lt
                      try have lx_o14 := o14.lt
                      try have lx_p16 := p16.lt
                      refine wp_region_RL 15 [(3, detS ?v1_3), (7, detS ?v1_7)] (by kernel_rfl) (by kernel_rfl) (by kernel_rfl) ?_
                      rotate_left 2
                      simp only [takS, Nat.reduceAdd]
                      refine wpRL_chunk 3 (by kernel_rfl) ?_
                      simp only [takS, Nat.reduceAdd]
                      repeat (first | go_big_quiet_skip | (go_big_quiet_want; first | (refine quiet_loadAny (t := 85) rfl _ _ _ rfl (fun w hw => run_load_ss ((ov_B l12b w hw).cellL 0 rfl)) (by first | rfl | omega) ?_; simp only [putS]; go_big_quiet_on) | (go_big_quiet_op; go_big_quiet_on)))
                      refine wpQuiet_nil ?_
                      refine wpRL_callB (by rfl) (by first | rfl | simp [Region.wanted, yielded]) ?_ ?_
                      · intro wn hbn hE Kx hKx
                        have hsz := B.size
                        have hzn := hbn.size
                        replace B := B.trans (hbn.mono B.size)
                        (try replace l12b := l12b.below hbn)
                        (try replace ce := ce.below hbn)
                        (try replace o14 := o14.below hbn)
                        (try replace p16 := p16.below hbn)
                        refine wp_lenS rfl Try.underlying85 rfl ?_
                        exact hKx () _ trivial (Below.refl _ _)
                      rintro ⟨⟩
                      dsimp only [detS]
                      simp only [putS]
                      refine wpRL_chunk 3 (by kernel_rfl) ?_
                      simp only [takS, Nat.reduceAdd]
                      repeat (first | go_big_quiet_skip | (go_big_quiet_want; first | (refine quiet_loadAny (t := 85) rfl _ _ _ rfl (fun w hw => run_load_ss ((ov_B l12b w hw).cellL 0 rfl)) (by first | rfl | omega) ?_; simp only [putS]; go_big_quiet_on) | (go_big_quiet_op; go_big_quiet_on)))
                      refine wpQuiet_nil ?_
                      refine wpRL_callB (by rfl) (by first | rfl | simp [Region.wanted, yielded]) ?_ ?_
                      · intro wn hbn hE Kx hKx
                        have hsz := B.size
                        have hzn := hbn.size
                        replace B := B.trans (hbn.mono B.size)
                        (try replace l12b := l12b.below hbn)
                        (try replace ce := ce.below hbn)
                        (try replace o14 := o14.below hbn)
                        (try replace p16 := p16.below hbn)
                        refine wp_lenS rfl Try.underlying85 rfl ?_
                        exact hKx () _ trivial (Below.refl _ _)
                      rintro ⟨⟩
                      dsimp only [detS]
                      simp only [putS]
                      refine wpRL_chunk 7 (by kernel_rfl) ?_
                      simp only [takS, Nat.reduceAdd]
                      repeat (first | go_big_quiet_skip | (go_big_quiet_want; first | (refine quiet_loadAny (t := 3) rfl _ _ _ rfl (fun w hw => rce_eddS (ov_rce ce w hw) hep) (by first | rfl | omega) ?_; simp only [putS]; go_big_quiet_on) | (refine quiet_loadAny (t := 3) rfl _ _ _ rfl (fun w hw => run_load_int ((ov_B p16 w hw).cellL 2 rfl)) (by first | rfl | omega) ?_; simp only [putS]; go_big_quiet_on) | (go_big_quiet_op; go_big_quiet_on)))
                      refine wpQuiet_nil ?_
                      refine wpRL_nil ?_
                      intro wn hbn hE
                      have hsz := B.size
                      have hzn := hbn.size
                      replace B := B.trans (hbn.mono B.size)
                      (try replace l12b := l12b.below hbn)
                      (try replace ce := ce.below hbn)
                      (try replace o14 := o14.below hbn)
                      (try replace p16 := p16.below hbn)
                      clear hE
                      try simp only [List.drop_succ_cons, List.drop_zero]
                      refine NoPan.normal ?_
                      go_upto_region 26 with fail
                      refine wp_region_lit ?_
                      try simp only [gelS]
                      refine wpList_chunk 2 (by kernel_rfl) ?_
                      simp only [takS, Nat.reduceAdd]
                      repeat (first | go_big_quiet_skip | (go_big_quiet_want; first | (go_big_quiet_op; go_big_quiet_on)))
                      refine wpQuiet_nil ?_
                      refine wpList_nil ?_
                      go_wp2
                      go_roundw
                      case rel => exact ⟨k + 1, by omega, by go_num, B, a14, c14, by rw [HC2.out], by rw [HC2.out]; exact o14⟩
                      case measure => simp [intOf]; omega
                    · have q7 : (pd != ed) = true := by simp [hne]
                      have q8 : (pd == ed) = false := by simp [hne]
                      have HC2 := Lib.hid (show cornK ll (k + 1) = cornK ll k ++ [(ex, ey)] from by rw [HC.out.2, HC.out.1, decide_eq_true hne]; simp)
                      try simp only [gelS]
                      try have lx_l12b := l12b.lt
                      try have lx_ce := ce.lt
                      try have lx_o14 := o14.lt
                      try have lx_p16 := p16.lt
                      refine wp_region_RL 15 [(3, detS ?v2_3), (7, detS ?v2_7)] (by kernel_rfl) (by kernel_rfl) (by kernel_rfl) ?_
                      rotate_left 2
                      simp only [takS, Nat.reduceAdd]
                      refine wpRL_chunk 3 (by kernel_rfl) ?_
                      simp only [takS, Nat.reduceAdd]
                      repeat (first | go_big_quiet_skip | (go_big_quiet_want; first | (refine quiet_loadAny (t := 85) rfl _ _ _ rfl (fun w hw => run_load_ss ((ov_B l12b w hw).cellL 0 rfl)) (by first | rfl | omega) ?_; simp only [putS]; go_big_quiet_on) | (go_big_quiet_op; go_big_quiet_on)))
                      refine wpQuiet_nil ?_
                      refine wpRL_callB (by rfl) (by first | rfl | simp [Region.wanted, yielded]) ?_ ?_
                      · intro wn hbn hE Kx hKx
                        have hsz := B.size
                        have hzn := hbn.size
                        replace B := B.trans (hbn.mono B.size)
                        (try replace l12b := l12b.below hbn)
                        (try replace ce := ce.below hbn)
                        (try replace o14 := o14.below hbn)
                        (try replace p16 := p16.below hbn)
                        refine wp_lenS rfl Try.underlying85 rfl ?_
                        exact hKx () _ trivial (Below.refl _ _)
                      rintro ⟨⟩
                      dsimp only [detS]
                      simp only [putS]
                      refine wpRL_chunk 3 (by kernel_rfl) ?_
                      simp only [takS, Nat.reduceAdd]
                      repeat (first | go_big_quiet_skip | (go_big_quiet_want; first | (refine quiet_loadAny (t := 85) rfl _ _ _ rfl (fun w hw => run_load_ss ((ov_B l12b w hw).cellL 0 rfl)) (by first | rfl | omega) ?_; simp only [putS]; go_big_quiet_on) | (go_big_quiet_op; go_big_quiet_on)))
                      refine wpQuiet_nil ?_
                      refine wpRL_callB (by rfl) (by first | rfl | simp [Region.wanted, yielded]) ?_ ?_
                      · intro wn hbn hE Kx hKx
                        have hsz := B.size
                        have hzn := hbn.size
                        replace B := B.trans (hbn.mono B.size)
                        (try replace l12b := l12b.below hbn)
                        (try replace ce := ce.below hbn)
                        (try replace o14 := o14.below hbn)
                        (try replace p16 := p16.below hbn)
                        refine wp_lenS rfl Try.underlying85 rfl ?_
                        exact hKx () _ trivial (Below.refl _ _)
                      rintro ⟨⟩
                      dsimp only [detS]
                      simp only [putS]
                      refine wpRL_chunk 7 (by kernel_rfl) ?_
                      simp only [takS, Nat.reduceAdd]
                      repeat (first | go_big_quiet_skip | (go_big_quiet_want; first | (refine quiet_loadAny (t := 3) rfl _ _ _ rfl (fun w hw => rce_eddS (ov_rce ce w hw) hep) (by first | rfl | omega) ?_; simp only [putS]; go_big_quiet_on) | (refine quiet_loadAny (t := 3) rfl _ _ _ rfl (fun w hw => run_load_int ((ov_B p16 w hw).cellL 2 rfl)) (by first | rfl | omega) ?_; simp only [putS]; go_big_quiet_on) | (go_big_quiet_op; go_big_quiet_on)))
                      refine wpQuiet_nil ?_
                      refine wpRL_nil ?_
                      intro wn hbn hE
                      have hsz := B.size
                      have hzn := hbn.size
                      replace B := B.trans (hbn.mono B.size)
                      (try replace l12b := l12b.below hbn)
                      (try replace ce := ce.below hbn)
                      (try replace o14 := o14.below hbn)
                      (try replace p16 := p16.below hbn)
                      clear hE
                      try simp only [List.drop_succ_cons, List.drop_zero]
                      refine NoPan.normal ?_
                      go_upto_region 25 with fail
                      have ksz := B.size
                      refine wp_region_lit ?_
                      try simp only [gelS]
                      refine wpList_chunk 6 (by kernel_rfl) ?_
                      simp only [takS, Nat.reduceAdd]
                      repeat (first | go_big_quiet_skip | (go_big_quiet_want; first | (refine quiet_loadAny (t := 3) rfl _ _ _ rfl (fun w hw => run_load_int ((ov_B p16 w hw).cellL 0 rfl)) (by first | rfl | omega) ?_; simp only [putS]; go_big_quiet_on) | (refine quiet_loadAny (t := 3) rfl _ _ _ rfl (fun w hw => run_load_int ((ov_B p16 w hw).cellL 1 rfl)) (by first | rfl | omega) ?_; simp only [putS]; go_big_quiet_on) | (go_big_quiet_op; go_big_quiet_on)))
                      refine wpQuiet_nil ?_
                      (refine wpList_bs1E (E := ptE) rfl _ rfl ((ex, ey)) rfl (by omega) ?_; intro b_s1 wn hle hge ht hbn hzn; replace o14 := o14.below (hbn.mono hle); have hsz := B.size; replace B := B.trans (hbn.mono (by omega)); have hln := Nat.lt_of_lt_of_eq (Nat.lt_succ_self _) hzn.symm; clear hzn; (try have hlt := l12b.lt); (try replace l12b := l12b.below (hbn.mono hle)); (try have hlt := ce.lt); (try replace ce := ce.below (hbn.mono hle)); (try have hlt := p16.lt); (try replace p16 := p16.below (hbn.mono hle)); have s1 := ht; clear ht; simp only [putS])
                      (at_builtin; refine wpList_appendE rfl _ _ rfl _ _ rfl rfl o14 (RSE.one s1) (by simp only [List.length_cons, List.length_nil]; omega) (by omega) ?_; intro v_o14 wn ht hbn; have hsz := B.size; have hbz := hbn.size; replace B := B.trans (hbn.mono (by omega)); clear o14; (try replace l12b := l12b.of_eq (hbn.block _ (by omega))); (try replace ce := ce.of_eq (hbn.block _ (by omega))); have o14 := ht; clear ht; obtain ⟨a_o14, c_o14, hv, hco⟩ := o14.len; (try simp only [List.length_append, List.length_cons, List.length_nil, Nat.zero_add] at hv hco); subst hv; simp only [putS])
                      refine wpList_chunk 1 (by kernel_rfl) ?_
                      simp only [takS, Nat.reduceAdd]
                      repeat (first | go_big_quiet_skip | (go_big_quiet_want; first | (go_big_quiet_op; go_big_quiet_on)))
                      refine wpQuiet_nil ?_
                      refine wpList_nil ?_
                      go_upto_region 26 with fail
                      refine wp_region_lit ?_
                      try simp only [gelS]
                      refine wpList_chunk 2 (by kernel_rfl) ?_
                      simp only [takS, Nat.reduceAdd]
                      repeat (first | go_big_quiet_skip | (go_big_quiet_want; first | (go_big_quiet_op; go_big_quiet_on)))
                      refine wpQuiet_nil ?_
                      refine wpList_nil ?_
                      go_wp2
                      go_roundw
                      case rel => exact ⟨k + 1, by omega, by go_num, B, a_o14, c_o14, by rw [HC2.out, List.length_append]; rfl, by rw [HC2.out, List.length_append]; exact o14⟩
                      case measure => simp [intOf]; omega
                  · obtain rfl : k = ll.length := by omega
                    have q3 : decide (((ll.length : Nat) : Int) < (ll.length : Int)) = false := decide_eq_false (by omega)
                    have q4 : decide (ll.length < ll.length) = false := decide_eq_false (by omega)
                    go_upto_region 22 with fail
                    refine wp_region_lit ?_
                    try simp only [gelS]
                    refine wpList_chunk 1 (by kernel_rfl) ?_
                    simp only [takS, Nat.reduceAdd]
                    repeat (first | go_big_quiet_skip | (go_big_quiet_want; first | (go_big_quiet_op; go_big_quiet_on)))
                    refine wpQuiet_nil ?_
                    refine wpList_nil ?_
                    go_upto_region 27 with fail
                    have hF3 := hF2.out.below B
                    have op3 : OwnP b_p8 vo PS _ := hF3.2.2.2.2.2.1
                    have hcl := cornK_len ll ll.length
                    have hb8 := hF2.out.2.2.1.lt
                    have hsB := B.size
                    have o14' := o14.mono (Nat.le_of_lt hb8)
                    refine wp_region_lit ?_
                    try simp only [gelS]
                    refine wpList_chunk 2 (by kernel_rfl) ?_
                    simp only [takS, Nat.reduceAdd]
                    repeat (first | go_big_quiet_skip | (go_big_quiet_want; first | (go_big_quiet_op; go_big_quiet_on)))
                    refine wpQuiet_nil ?_
                    (refine wpList_bs1S rfl _ rfl ⟨a14, (cornK ll ll.length).length, c14⟩ rfl ?_; intro b_s39 wn hle hge ht hbn hzn; have hsz := B.size; replace B := B.trans (hbn.mono (by omega)); have hln := Nat.lt_of_lt_of_eq (Nat.lt_succ_self _) hzn.symm; clear hzn; (try first | (have hlt := o14'.lt; replace o14' := o14'.of_eq (hbn.block _ (by omega))) | replace o14' := o14'.below (hbn.mono hle)); (try have hlt := hF3.lt); (try replace hF3 := hF3.below (hbn.mono hle)); (try have hlt := op3.lt); (try replace op3 := op3.below (hbn.mono hle)); have s39 := ht; clear ht; simp only [putS])
                    (at_builtin; refine wpList_appendP rfl _ _ rfl _ rfl ⟨a14, (cornK ll ll.length).length, c14⟩ (cornK ll ll.length) rfl op3 s39 o14' (by omega) (by have := hbn.size; omega) ?_; intro v7 wn hop hgr; simp only [putS])
                    refine wpList_chunk 1 (by kernel_rfl) ?_
                    simp only [takS, Nat.reduceAdd]
                    repeat (first | go_big_quiet_skip | (go_big_quiet_want; first | (go_big_quiet_op; go_big_quiet_on)))
                    refine wpQuiet_nil ?_
                    refine wpList_nil ?_
                    go_upto_region 12 with fail
                    refine wp_region_lit ?_
                    try simp only [gelS]
                    refine wpList_chunk 3 (by kernel_rfl) ?_
                    simp only [takS, Nat.reduceAdd]
                    repeat (first | go_big_quiet_skip | (go_big_quiet_want; first | (go_big_quiet_op; go_big_quiet_on)))
                    refine wpQuiet_nil ?_
                    refine wpList_nil ?_
                    go_wp2
                    refine ⟨⟨kx + 1, v7, by omega, ⟨rfl, rfl, rfl, rfl, rfl, rfl, rfl⟩, rfl, by show Value.int _ _ = _; congr 1; omega, ?_⟩, ?_⟩
                    · rw [HST.out, hst2.out]
                      exact OutF.turn hF3 hgr (by omega) hop
                    · show (X1 - intOf (.int .i64 _)).toNat < (X1 - intOf (.int .i64 _)).toNat
                      simp only [intOf]; omega
        · obtain rfl : kx = Wd := by omega
          have q2 : decide (X0 + (kx : Int) < X1) = false := decide_eq_false (by omega)
          have p8 : AtB 31 W b_p8 #[.int .i64 X0, .int .i64 Y0, .int .i64 X1, .int .i64 Y1] := hF.2.2.1
          go_upto_region 11 with fail
          refine wp_region_lit ?_
          try simp only [gelS]
          refine wpList_chunk 4 (by kernel_rfl) ?_
          simp only [takS, Nat.reduceAdd]
          repeat (first | go_big_quiet_skip | (go_big_quiet_want; first | (refine quiet_loadAny (t := 3) rfl _ _ _ rfl (fun w hw => run_load_int ((ov_B p8 w hw).cellL 2 rfl)) (by first | rfl | omega) ?_; simp only [putS]; go_big_quiet_on) | (go_big_quiet_op; go_big_quiet_on)))
          refine wpQuiet_nil ?_
          refine wpList_nil ?_
          go_upto_region 9 with fail
          refine wp_region_lit ?_
          try simp only [gelS]
          refine wpList_chunk 3 (by kernel_rfl) ?_
          simp only [takS, Nat.reduceAdd]
          repeat (first | go_big_quiet_skip | (go_big_quiet_want; first | (go_big_quiet_op; go_big_quiet_on)))
          refine wpQuiet_nil ?_
          refine wpList_nil ?_
          go_wp2
          refine ⟨⟨ky + 1, vo, by omega, ⟨rfl, rfl, rfl, rfl, rfl, rfl, rfl⟩, by show Value.int _ _ = _; congr 1; omega, ?_⟩, ?_⟩
          · rw [← hWd] at hF
            exact hF
          · show (Y1 - intOf (.int .i64 _)).toNat < (Y1 - intOf (.int .i64 _)).toNat
            simp only [intOf]; omega
    · obtain rfl : ky = H := by omega
      have q2 : decide (Y0 + (ky : Int) < Y1) = false := decide_eq_false (by omega)
      have p8 : AtB 31 W b_p8 #[.int .i64 X0, .int .i64 Y0, .int .i64 X1, .int .i64 Y1] := hF.2.2.1
      go_upto_region 8 with fail
      refine wp_region_lit ?_
      try simp only [gelS]
      refine wpList_chunk 4 (by kernel_rfl) ?_
      simp only [takS, Nat.reduceAdd]
      repeat (first | go_big_quiet_skip | (go_big_quiet_want; first | (refine quiet_loadAny (t := 3) rfl _ _ _ rfl (fun w hw => run_load_int ((ov_B p8 w hw).cellL 3 rfl)) (by first | rfl | omega) ?_; simp only [putS]; go_big_quiet_on) | (go_big_quiet_op; go_big_quiet_on)))
      refine wpQuiet_nil ?_
      refine wpList_nil ?_
      go_upto_region 28 with fail
      refine wp_region_lit ?_
      try simp only [gelS]
      refine wpList_chunk 2 (by kernel_rfl) ?_
      simp only [takS, Nat.reduceAdd]
      repeat (first | go_big_quiet_skip | (go_big_quiet_want; first | (go_big_quiet_op; go_big_quiet_on)))
      refine wpQuiet_nil ?_
      refine wpList_nil ?_
      go_wp2
      rw [← hH] at hF
      obtain ⟨_, _, _, _, _, op, mk, B⟩ := hF
      have hwb : w.heap.size ≤ b_p8 := by omega
      refine Marks.leaves (n := b_p8) (I := fun W => OwnP b_p8 vo (outlG (setG ls th) ⟨X0, Y0, X1, Y1⟩) W ∧ Below w.heap.size w W) (fun W D hD hdf hi => ⟨hi.1.keptO fun g cur t _ hg => (World.putObj_heap_other (fun e => ?_)).trans hg, Below.grown' hi.2 (Nat.le_refl _) (grownBy_putObj' _ _ _) (fun r e => ?_)⟩) (fun W hi => ⟨_, results_tmp rfl _ _ _, ⟨vo, rfl, by rw [HRR.out]; exact hi.1.rs, hi.2⟩⟩) mk ⟨op, B⟩
      · rw [e, show W.heap[D]? = _ from hdf] at hg
        cases hg
      · cases e
        omega
end Go.Proofs.Ytamgpfblhlfhaaa
/- Slice literals of several elements; the sanity check of chapter 15's laws. -/
namespace Go.Proofs.Ytamgpfblhlfhaaa
open Go.RowKit Go.Shelf Pl
set_option linter.unusedVariables false
set_option linter.unusedSimpArgs false
set_option maxRecDepth 20000
section
variable {α : Type} {k : Nat} {T ST : TypeId} {E : Elt α k T ST}
theorem fill_row (ls : List α) (cs : Array Value) (hs : cs.size = ls.length * k) : Instr.fill (fun i => some (i * k, k)) cs (((ls.map fun x => Value.agg (E.enc x)).zipIdx 0).map fun y => (y.2, y.1)) = some (rowE E ls).toArray := by
  obtain ⟨r, hr1, hr2, hr3⟩ := Great.fill_dense E.pos (ls.map fun x => Value.agg (E.enc x)) 0 cs (fun v hv => by obtain ⟨x, _, rfl⟩ := List.mem_map.1 hv; simp only [Value.cells, E.size]) (by rw [List.length_map, hs, Nat.zero_add]; exact Nat.le_refl _)
  rw [hr1]
  congr 1
  apply Array.ext_getElem?
  intro j
  have hr : (rowE E ls).toArray[j]? = (rowE E ls)[j]? := by rw [List.getElem?_toArray]
  rw [hr3 j, List.length_map, hr, Nat.zero_add]
  by_cases h : j < ls.length * k
  · obtain ⟨h1, h2, h3⟩ := div_mod_lt E.pos h
    have hx : ls[j / k]? = some ls[j / k] := List.getElem?_eq_getElem h1
    have h4 := rowE_at E ls (j / k) _ hx (j % k) h2
    rw [← h3] at h4
    rw [if_pos ⟨by rw [Nat.zero_mul]; omega, h⟩, h4, Nat.sub_zero, List.getElem?_map, hx]
    simp only [Option.map_some, Option.bind_some, Value.cells]
  · rw [if_neg (fun h' => h h'.2), Array.getElem?_eq_none (by rw [hs]; exact Nat.le_of_not_lt h), List.getElem?_eq_none (by rw [rowE_length]; exact Nat.le_of_not_lt h)]
variable {ops : Array Oper} {rest : List Oper} {o : Oper} {a : Act} {w : World} {Q : Exit → Act → World → Prop}
theorem owp_bsnE {K : Act → World → Prop} (n : Nat) (ps : Array (Nat × Operand)) (ho : o.op = .buildSlice ST n ps) (ls : List α) (hl : ls.length = n) (hp : (ps.map fun (i, x) => (i, a.eval x)).toList = ((ls.map fun x => Value.agg (E.enc x)).zipIdx 0).map fun y => (y.2, y.1)) (hn : 0 < n) (hk : n * k ≤ 1000)
    (h : ∀ b w', w.heap.size ≤ b → b ≤ w.heap.size → RowAt E w' b ls → Below b w w' → w'.heap.size = b + 1 → K (a.put o.dst (.slice (some ⟨b, 0, none⟩) n n)) w') : o.wp Try.prog a w K Q := by
  obtain ⟨i, z, hi, hz, hsz, hby, hzc⟩ := E.facts
  have hp0 := Nat.mul_pos hn E.pos
  refine wp_buildSlice ST T n ps ho (rowE E ls).toArray i z E.und hi hz (by rw [hsz]; omega) (by rw [hsz]; omega) ?_ (h _ _ (Nat.le_refl _) (Nat.le_refl _) (by unfold RowAt AtB; rw [heap_get_alloc, if_pos rfl]) ((Below.refl _ _).alloc (Nat.le_refl _) _) (World.size_alloc _ _))
  rw [hsz, hp]
  exact fill_row ls _ (by rw [hl]; simp)
theorem wpList_bsnE (hw : Region.wanted o (yielded ops a.tmps) = true) (n : Nat) (ps : Array (Nat × Operand)) (ho : o.op = .buildSlice ST n ps) (ls : List α) (hl : ls.length = n) (hp : (ps.map fun (i, x) => (i, a.eval x)).toList = ((ls.map fun x => Value.agg (E.enc x)).zipIdx 0).map fun y => (y.2, y.1)) (hn : 0 < n) (hk : n * k ≤ 1000)
    (h : ∀ b w', w.heap.size ≤ b → b ≤ w.heap.size → RowAt E w' b ls → Below b w w' → w'.heap.size = b + 1 → wpList Try.prog ops Q rest (a.put o.dst (.slice (some ⟨b, 0, none⟩) n n)) w') : wpList Try.prog ops Q (o :: rest) a w := by
  unfold wpList
  rw [if_pos hw]
  exact .inl (owp_bsnE n ps ho ls hl hp hn hk h)
end
theorem RPoly.one {b c : Nat} {L : List Pnt} {w : World} (hb : RowAt ptE w c L) (h : AtB 22 w b #[.slice (some ⟨c, 0, none⟩) L.length L.length]) : RPoly (.slice (some ⟨b, 0, none⟩) 1 1) [L] w :=
  ⟨[⟨some ⟨c, 0, none⟩, L.length, L.length⟩], RSE.one (E := slE) h, rfl, fun i s l hs hl => by
    cases i with
    | zero =>
      simp only [List.getElem?_cons_zero, Option.some.injEq] at hs hl
      subst hs
      subst hl
      exact hb.rs
    | succ i => simp at hs⟩
theorem wpList_bs1SW {ops : Array Oper} {rest : List Oper} {o : Oper} {a : Act} {w : World} {Q : Exit → Act → World → Prop} (hw : Region.wanted o (yielded ops a.tmps) = true) (y : Operand) (ho : o.op = .buildSlice 39 1 #[(0, y)]) (s : Slc) (hy : a.eval y = s.v)
    (h : ∀ b w', w.heap.size ≤ b → b ≤ w.heap.size → AtB 22 w' b #[s.v] → Below b w w' → w'.heap.size = b + 1 → wpList Try.prog ops Q rest (a.put o.dst (.slice (some ⟨b, 0, none⟩) 1 1)) w') : wpList Try.prog ops Q (o :: rest) a w := by
  unfold wpList
  rw [if_pos hw]
  exact .inl (owp_bs1S y ho s hy h)
def rowS {α : Type} {k : Nat} {T ST : TypeId} (E : Elt α k T ST) (n : Nat) (m : Nat) (ls : List α) : NSpec := ⟨Nat, ⟨0⟩, fun b => .slice (some ⟨b, 0, none⟩) m m, fun b w => n ≤ b ∧ RowAt E w b ls, fun _ _ _ hb h => ⟨h.1, h.2.of_eq (hb.block _ h.2.lt)⟩⟩
def bsS1 (n : Nat) (t : TypeId) (cs : Array Value) : NSpec := ⟨Nat, ⟨0⟩, fun b => .slice (some ⟨b, 0, none⟩) 1 1, fun b w => n ≤ b ∧ AtB t w b cs, fun _ _ _ hb h => ⟨h.1, h.2.of_eq (hb.block _ h.2.lt)⟩⟩
/-! ### The values of the sanity check -/
def snA : List Pnt := [(0, 0), (2, 0), (2, 1), (0, 1)]
def snB : List Pnt := [(0, 0), (1, 0), (0, 1)]
def snP : Px := ⟨0, 0, 0, 9⟩
def snQ : Px := ⟨0, 0, 0, 1⟩
def snR1 : List TA := [⟨0, 0, cleanT (setT zT 0 0 snP)⟩]
def snR2 : List TA := [⟨0, 0, cleanT (setT (cleanT (setT zT 0 0 snP)) 1 0 snQ)⟩]
theorem sn1 : coverP snA 1 0 = 255 := by decide
theorem sn2 : coverP snB 0 0 = 96 := by decide
theorem sn3 : setR [] 0 0 snP = snR1 := by rfl
theorem sn4 : setR snR1 1 0 snQ = snR2 := by rfl
theorem sn5 : validL snR2 = true := by decide
theorem sn6 : boundL snR2 = ⟨0, 0, 2, 1⟩ := by rfl
theorem sn7 : outlG (setG snR2 1) ⟨0, 0, 2, 1⟩ = [snA] := by decide
theorem snP_ok : snP.ok := by unfold Px.ok snP; simp
theorem snQ_ok : snQ.ok := by unfold Px.ok snQ; simp
theorem snR1_tok : TokL snR1 := by
  have := setR_tok (ls := []) (x := 0) (y := 0) TokL.nil snP_ok
  rw [sn3] at this
  exact this
theorem snR2_tok : TokL snR2 := by
  have := setR_tok (x := 1) (y := 0) snR1_tok snQ_ok
  rw [sn4] at this
  exact this
theorem P_CoverGO (v : Value) (l : List Pnt) (x y n : Int) (w : World) (h : RSE ptE v l w) (hn : l.length ≤ maxLen) (hx : -70000 ≤ x ∧ x ≤ 70000) (hy : -70000 ≤ y ∧ y ≤ 70000) (e : coverP l x y = n) : Calls Try.prog 15 #[v, .int .i64 x, .int .i64 y] w fun e w' => e = .returned (.int .i64 n) ∧ Below w.heap.size w w' := e ▸ P_CoverG v l x y w h hn hx hy
set_option maxHeartbeats 4000000 in
theorem sanity15 (w : World) : Calls Try.prog 10 #[] w fun e w' => e = .returned (.bool true) ∧ Below w.heap.size w w' := by
  have B := Below.refl w.heap.size w
  go_enter Try.func10, Try.ntmps10
  go_upto_region 1 with fail
  refine wp_region_lit ?_
  try simp only [gelS]
  refine wpList_chunk 4 (by kernel_rfl) ?_
  simp only [takS, Nat.reduceAdd]
  repeat (first | go_big_quiet_skip | (go_big_quiet_want; first | (go_big_quiet_op; go_big_quiet_on)))
  refine wpQuiet_nil ?_
  (refine wpList_bsnE (E := ptE) (by first | rfl | simp [Region.wanted, yielded]) 4 _ rfl snA rfl (by simp only [List.map_toArray, List.map_cons, List.map_nil, Act.eval, Array.getD_eq_getD_getElem?, List.getElem?_toArray, List.getElem?_cons_succ, List.getElem?_cons_zero, Option.getD_some]; rfl) (by omega) (by omega) ?_; intro b_s10 wn hle hge ht hbn hzn; have hsz := B.size; replace B := B.trans (hbn.mono (by omega)); have hln := Nat.lt_of_lt_of_eq (Nat.lt_succ_self _) hzn.symm; clear hzn; have s10 := ht; clear ht; simp only [putS])
  refine wpList_callF (by first | rfl | simp [Region.wanted, yielded]) rfl (enters_of Try.func15 (by kernel_rfl) rfl) (by simp only [List.map_toArray, List.map_cons, List.map_nil, Act.eval, Array.getD_eq_getD_getElem?, List.getElem?_toArray, List.getElem?_cons_succ, List.getElem?_cons_zero, Option.getD_some]; rfl) ?_
  refine (P_CoverGO _ snA 1 0 255 _ (RowAt.rs s10) (by unfold maxLen snA; simp) (by omega) (by omega) sn1).mono ?_
  rintro e wn ⟨rfl, hbn⟩
  have hsz := B.size
  have hzn := hbn.size
  replace B := B.trans (hbn.mono B.size)
  (try replace s10 := s10.below hbn)
  refine ⟨_, rfl, ?_⟩
  simp only [putS]
  refine wpList_chunk 2 (by kernel_rfl) ?_
  simp only [takS, Nat.reduceAdd]
  repeat (first | go_big_quiet_skip | (go_big_quiet_want; first | (go_big_quiet_op; go_big_quiet_on)))
  refine wpQuiet_nil ?_
  refine wpList_nil ?_
  go_upto_region 2 with fail
  refine wp_region_lit ?_
  try simp only [gelS]
  refine wpList_chunk 3 (by kernel_rfl) ?_
  simp only [takS, Nat.reduceAdd]
  repeat (first | go_big_quiet_skip | (go_big_quiet_want; first | (go_big_quiet_op; go_big_quiet_on)))
  refine wpQuiet_nil ?_
  (refine wpList_bsnE (E := ptE) (by first | rfl | simp [Region.wanted, yielded]) 3 _ rfl snB rfl (by simp only [List.map_toArray, List.map_cons, List.map_nil, Act.eval, Array.getD_eq_getD_getElem?, List.getElem?_toArray, List.getElem?_cons_succ, List.getElem?_cons_zero, Option.getD_some]; rfl) (by omega) (by omega) ?_; intro b_s16 wn hle hge ht hbn hzn; have hsz := B.size; replace B := B.trans (hbn.mono (by omega)); have hln := Nat.lt_of_lt_of_eq (Nat.lt_succ_self _) hzn.symm; clear hzn; (try have hlt := s10.lt); (try replace s10 := s10.below (hbn.mono hle)); have s16 := ht; clear ht; simp only [putS])
  refine wpList_callF (by first | rfl | simp [Region.wanted, yielded]) rfl (enters_of Try.func15 (by kernel_rfl) rfl) (by simp only [List.map_toArray, List.map_cons, List.map_nil, Act.eval, Array.getD_eq_getD_getElem?, List.getElem?_toArray, List.getElem?_cons_succ, List.getElem?_cons_zero, Option.getD_some]; rfl) ?_
  refine (P_CoverGO _ snB 0 0 96 _ (RowAt.rs s16) (by unfold maxLen snB; simp) (by omega) (by omega) sn2).mono ?_
  rintro e wn ⟨rfl, hbn⟩
  have hsz := B.size
  have hzn := hbn.size
  replace B := B.trans (hbn.mono B.size)
  (try replace s10 := s10.below hbn)
  (try replace s16 := s16.below hbn)
  refine ⟨_, rfl, ?_⟩
  simp only [putS]
  refine wpList_chunk 2 (by kernel_rfl) ?_
  simp only [takS, Nat.reduceAdd]
  repeat (first | go_big_quiet_skip | (go_big_quiet_want; first | (go_big_quiet_op; go_big_quiet_on)))
  refine wpQuiet_nil ?_
  refine wpList_nil ?_
  have SET1 : Hid (∀ w, Calls Try.prog 37 #[.agg #[.slice none 0 0], .int .i64 0, .int .i64 0, .agg #[.int .u8 0, .int .u8 0, .int .u8 0, .int .u8 9]] w fun e w' => ∃ n a c, e = .returned (.tuple #[.agg #[.slice a 1 c], .int .i64 n]) ∧ RS (.slice a 1 c) snR1 w' ∧ Below w.heap.size w w') := Lib.hid fun w =>
    (P_SetR _ [] 0 0 snP w (RS.nil w) TokL.nil (by unfold maxLen; simp) (by rfl) (by rfl) snP_ok).mono fun e w' ⟨v, he, hr, hb⟩ => by
      obtain ⟨a, c, rfl, _⟩ := hr.len
      rw [sn3] at he hr
      exact ⟨_, a, c, he, hr, hb⟩
  have SET2 : Hid (∀ v w, RS v snR1 w → Calls Try.prog 37 #[.agg #[v], .int .i64 1, .int .i64 0, .agg #[.int .u8 0, .int .u8 0, .int .u8 0, .int .u8 1]] w fun e w' => ∃ n a c, e = .returned (.tuple #[.agg #[.slice a 1 c], .int .i64 n]) ∧ RS (.slice a 1 c) snR2 w' ∧ Below w.heap.size w w') := Lib.hid fun v w h =>
    (P_SetR _ snR1 1 0 snQ w h snR1_tok (by unfold maxLen snR1; simp) (by rfl) (by rfl) snQ_ok).mono fun e w' ⟨v, he, hr, hb⟩ => by
      obtain ⟨a, c, rfl, _⟩ := hr.len
      rw [sn4] at he hr
      exact ⟨_, a, c, he, hr, hb⟩
  have OUT : Hid (∀ v w, RS v snR2 w → Calls Try.prog 21 #[.agg #[v], .int .i64 1] w fun e w' => ∃ a c, e = .returned (.slice a 1 c) ∧ RPoly (.slice a 1 c) [snA] w' ∧ Below w.heap.size w w') := Lib.hid fun v w h =>
    (P_Outline1 _ snR2 1 w h snR2_tok (by unfold maxLen snR2; simp) sn5 (by omega) (by rfl) (by rw [sn6]; simp)).mono fun e w' ⟨v, he, hr, hb⟩ => by
      rw [sn6, sn7] at hr
      obtain ⟨a, c, rfl, _⟩ := hr.len
      exact ⟨a, c, he, hr, hb⟩
  go_upto_region 3 with fail
  refine wp_region_lit ?_
  try simp only [gelS]
  refine wpList_chunk 2 (by kernel_rfl) ?_
  simp only [takS, Nat.reduceAdd]
  repeat (first | go_big_quiet_skip | (go_big_quiet_want; first | (go_big_quiet_op; go_big_quiet_on)))
  refine wpQuiet_nil ?_
  refine wpList_callF (by first | rfl | simp [Region.wanted, yielded]) rfl (enters_of Try.func37 (by kernel_rfl) rfl) (by simp only [List.map_toArray, List.map_cons, List.map_nil, Act.eval, Array.getD_eq_getD_getElem?, List.getElem?_toArray, List.getElem?_cons_succ, List.getElem?_cons_zero, Option.getD_some]; rfl) ?_
  refine (SET1.out _).mono ?_
  rintro e wn ⟨n1, a1, c1, rfl, rs1, hbn⟩
  have hsz := B.size
  have hzn := hbn.size
  replace B := B.trans (hbn.mono B.size)
  (try replace s10 := s10.below hbn)
  (try replace s16 := s16.below hbn)
  (try replace rs1 := rs1.below hbn)
  refine ⟨_, rfl, ?_⟩
  simp only [putS]
  refine wpList_chunk 3 (by kernel_rfl) ?_
  simp only [takS, Nat.reduceAdd]
  repeat (first | go_big_quiet_skip | (go_big_quiet_want; first | (go_big_quiet_op; go_big_quiet_on)))
  refine wpQuiet_nil ?_
  (refine wpList_allocBk (t := 36) rfl _ (run_alloc_R _ _ rfl) ?_; intro b_r3 wn hle hge ht hbn hzn; have hsz := B.size; replace B := B.trans (hbn.mono (by omega)); have hln := Nat.lt_of_lt_of_eq (Nat.lt_succ_self _) hzn.symm; clear hzn; (try have hlt := s10.lt); (try replace s10 := s10.below (hbn.mono hle)); (try have hlt := s16.lt); (try replace s16 := s16.below (hbn.mono hle)); (try have hlt := rs1.lt); (try replace rs1 := rs1.below (hbn.mono hle)); have r3 := ht; clear ht; simp only [putS])
  (refine wpList_storeB (t := 36) rfl _ _ rfl _ rfl _ rfl r3 (by kernel_rfl) rfl (by simp [Value.oneCell']) ?_; have r3o := r3; clear r3; intro wn ht hcn hzn; (try replace rs1 := rs1.chg r3o (by simp [rcA]) hcn); have hsz := B.size; replace hzn := Nat.le_of_eq hzn.symm; replace B := Chg.below B hcn (by omega) B.size; (try replace s10 := s10.of_eq (hcn.block _ s10.lt (by omega))); (try replace s16 := s16.of_eq (hcn.block _ s16.lt (by omega))); (try replace rs1 := rs1.of_eq (hcn.block _ rs1.lt (by omega))); have r3 := ht; clear ht; simp only [putS])
  refine wpList_chunk 1 (by kernel_rfl) ?_
  simp only [takS, Nat.reduceAdd]
  repeat (first | go_big_quiet_skip | (go_big_quiet_want; first | (go_big_quiet_op; go_big_quiet_on)))
  refine wpQuiet_nil ?_
  refine wpList_nil ?_
  go_upto_region 4 with fail
  refine wp_region_lit ?_
  try simp only [gelS]
  refine wpList_chunk 2 (by kernel_rfl) ?_
  simp only [takS, Nat.reduceAdd]
  repeat (first | go_big_quiet_skip | (go_big_quiet_want; first | (refine quiet_loadAny (t := 36) rfl _ _ _ rfl (fun w hw => run_load_B (ov_B r3 w hw) Try.isAgg36 (by kernel_rfl)) (by rfl) ?_; simp only [putS]; go_big_quiet_on) | (go_big_quiet_op; go_big_quiet_on)))
  refine wpQuiet_nil ?_
  refine wpList_callF (by first | rfl | simp [Region.wanted, yielded]) rfl (enters_of Try.func37 (by kernel_rfl) rfl) (by simp only [List.map_toArray, List.map_cons, List.map_nil, Act.eval, Array.getD_eq_getD_getElem?, List.getElem?_toArray, List.getElem?_cons_succ, List.getElem?_cons_zero, Option.getD_some]; rfl) ?_
  refine (SET2.out _ _ rs1).mono ?_
  rintro e wn ⟨n2, a2, c2, rfl, rs2, hbn⟩
  have hsz := B.size
  have hzn := hbn.size
  replace B := B.trans (hbn.mono B.size)
  (try replace s10 := s10.below hbn)
  (try replace s16 := s16.below hbn)
  (try replace rs1 := rs1.below hbn)
  (try replace r3 := r3.below hbn)
  clear rs1
  have rs1 := rs2
  clear rs2
  refine ⟨_, rfl, ?_⟩
  simp only [putS]
  refine wpList_chunk 3 (by kernel_rfl) ?_
  simp only [takS, Nat.reduceAdd]
  repeat (first | go_big_quiet_skip | (go_big_quiet_want; first | (go_big_quiet_op; go_big_quiet_on)))
  refine wpQuiet_nil ?_
  (refine wpList_storeB (t := 36) rfl _ _ rfl _ rfl _ rfl r3 (by kernel_rfl) rfl (by simp [Value.oneCell']) ?_; have r3o := r3; clear r3; intro wn ht hcn hzn; (try replace rs1 := rs1.chg r3o (by simp [rcA]) hcn); have hsz := B.size; replace hzn := Nat.le_of_eq hzn.symm; replace B := Chg.below B hcn (by omega) B.size; (try replace s10 := s10.of_eq (hcn.block _ s10.lt (by omega))); (try replace s16 := s16.of_eq (hcn.block _ s16.lt (by omega))); (try replace rs1 := rs1.of_eq (hcn.block _ rs1.lt (by omega))); have r3 := ht; clear ht; simp only [putS])
  refine wpList_nil ?_
  go_upto_region 5 with fail
  refine wp_region_lit ?_
  try simp only [gelS]
  refine wpList_chunk 1 (by kernel_rfl) ?_
  simp only [takS, Nat.reduceAdd]
  repeat (first | go_big_quiet_skip | (go_big_quiet_want; first | (refine quiet_loadAny (t := 36) rfl _ _ _ rfl (fun w hw => run_load_B (ov_B r3 w hw) Try.isAgg36 (by kernel_rfl)) (by rfl) ?_; simp only [putS]; go_big_quiet_on) | (go_big_quiet_op; go_big_quiet_on)))
  refine wpQuiet_nil ?_
  refine wpList_callF (by first | rfl | simp [Region.wanted, yielded]) rfl (enters_of Try.func21 (by kernel_rfl) rfl) (by simp only [List.map_toArray, List.map_cons, List.map_nil, Act.eval, Array.getD_eq_getD_getElem?, List.getElem?_toArray, List.getElem?_cons_succ, List.getElem?_cons_zero, Option.getD_some]; rfl) ?_
  refine (OUT.out _ _ rs1).mono ?_
  rintro e wn ⟨a3, c3, rfl, po, hbn⟩
  have hsz := B.size
  have hzn := hbn.size
  replace B := B.trans (hbn.mono B.size)
  (try replace s10 := s10.below hbn)
  (try replace s16 := s16.below hbn)
  (try replace rs1 := rs1.below hbn)
  (try replace r3 := r3.below hbn)
  (try replace po := po.below hbn)
  refine ⟨_, rfl, ?_⟩
  simp only [putS]
  refine wpList_chunk 1 (by kernel_rfl) ?_
  simp only [takS, Nat.reduceAdd]
  repeat (first | go_big_quiet_skip | (go_big_quiet_want; first | (go_big_quiet_op; go_big_quiet_on)))
  refine wpQuiet_nil ?_
  refine wpList_nil ?_
  go_upto_region 6 with fail
  refine wp_region_lit ?_
  try simp only [gelS]
  refine wpList_chunk 10 (by kernel_rfl) ?_
  simp only [takS, Nat.reduceAdd]
  repeat (first | go_big_quiet_skip | (go_big_quiet_want; first | (go_big_quiet_op; go_big_quiet_on)))
  refine wpQuiet_nil ?_
  (refine wpList_bsnE (E := ptE) (by first | rfl | simp [Region.wanted, yielded]) 4 _ rfl snA rfl (by simp only [List.map_toArray, List.map_cons, List.map_nil, Act.eval, Array.getD_eq_getD_getElem?, List.getElem?_toArray, List.getElem?_cons_succ, List.getElem?_cons_zero, Option.getD_some]; rfl) (by omega) (by omega) ?_; intro b_s43 wn hle hge ht hbn hzn; have hsz := B.size; replace B := B.trans (hbn.mono (by omega)); have hln := Nat.lt_of_lt_of_eq (Nat.lt_succ_self _) hzn.symm; clear hzn; (try have hlt := s10.lt); (try replace s10 := s10.below (hbn.mono hle)); (try have hlt := s16.lt); (try replace s16 := s16.below (hbn.mono hle)); (try have hlt := rs1.lt); (try replace rs1 := rs1.below (hbn.mono hle)); (try have hlt := r3.lt); (try replace r3 := r3.below (hbn.mono hle)); (try have hlt := po.lt); (try replace po := po.below (hbn.mono hle)); have s43 := ht; clear ht; simp only [putS])
  (refine wpList_bs1SW (by first | rfl | simp [Region.wanted, yielded]) _ rfl ⟨some ⟨b_s43, 0, none⟩, 4, 4⟩ rfl ?_; intro b_s44 wn hle hge ht hbn hzn; have hsz := B.size; replace B := B.trans (hbn.mono (by omega)); have hln := Nat.lt_of_lt_of_eq (Nat.lt_succ_self _) hzn.symm; clear hzn; (try have hlt := s10.lt); (try replace s10 := s10.below (hbn.mono hle)); (try have hlt := s16.lt); (try replace s16 := s16.below (hbn.mono hle)); (try have hlt := rs1.lt); (try replace rs1 := rs1.below (hbn.mono hle)); (try have hlt := r3.lt); (try replace r3 := r3.below (hbn.mono hle)); (try have hlt := po.lt); (try replace po := po.below (hbn.mono hle)); (try have hlt := s43.lt); (try replace s43 := s43.below (hbn.mono hle)); have s44 := ht; clear ht; simp only [putS])
  refine wpList_callF (by first | rfl | simp [Region.wanted, yielded]) rfl (enters_of Try.func20 (by kernel_rfl) rfl) (by simp only [List.map_toArray, List.map_cons, List.map_nil, Act.eval, Array.getD_eq_getD_getElem?, List.getElem?_toArray, List.getElem?_cons_succ, List.getElem?_cons_zero, Option.getD_some]; rfl) ?_
  refine (R_SamePaths _ _ [snA] [snA] _ po (RPoly.one s43 s44) (by simp) (by simp) (by simp [snA])).mono ?_
  rintro e wn ⟨rfl, hbn⟩
  have hsz := B.size
  have hzn := hbn.size
  replace B := B.trans (hbn.mono B.size)
  (try replace s10 := s10.below hbn)
  (try replace s16 := s16.below hbn)
  (try replace rs1 := rs1.below hbn)
  (try replace r3 := r3.below hbn)
  (try replace po := po.below hbn)
  (try replace s43 := s43.below hbn)
  refine ⟨_, rfl, ?_⟩
  simp only [putS]
  refine wpList_chunk 2 (by kernel_rfl) ?_
  simp only [takS, Nat.reduceAdd]
  repeat (first | go_big_quiet_skip | (go_big_quiet_want; first | (go_big_quiet_op; go_big_quiet_on)))
  refine wpQuiet_nil ?_
  refine wpList_nil ?_
  go_wp2
  go_ret
  exact ⟨rfl, B⟩
end Go.Proofs.Ytamgpfblhlfhaaa
/- How this seat's arguments are opened: slices of integers, rectangles, generated rasters. -/
namespace Go.Proofs.Ytamgpfblhlfhaaa
open Go.ChangeShapes Go.WideShapes Go.ChangeAt Go.RowKit Pl
set_option linter.unusedVariables false
set_option linter.unusedSimpArgs false
set_option maxRecDepth 20000
theorem reach_44 : reachBytes ≤ 140737488351232 := by decide
section
variable {H : Type} {enc : TypeId × Value → H} {w : World} {base : Nat} {spare : Nat → Bool} {held : Bool}
theorem addr_add0 (b off n : Nat) : (Addr.add ⟨b, off, none⟩ n) = ⟨b, off + n, none⟩ := by
  unfold Addr.add; split
  · rename_i h; subst h; rfl
  · rfl
end
end Go.Proofs.Ytamgpfblhlfhaaa
/- Opening arguments of chapter 15's laws: slices of points, arrays of four and five integers. -/
namespace Go.Proofs.Ytamgpfblhlfhaaa
open Go.RowKit Go.Shelf Pl
open Go.ChangeShapes Go.WideShapes Go.ChangeAt
set_option linter.unusedVariables false
set_option linter.unusedSimpArgs false
set_option maxRecDepth 20000
section
variable {H : Type} {enc : TypeId × Value → H} {w : World} {base : Nat} {spare : Nat → Bool} {held : Bool}
end
end Go.Proofs.Ytamgpfblhlfhaaa
/- Slices of integers opened with their bounds; the reference's Mask. -/
namespace Go.Proofs.Ytamgpfblhlfhaaa
open Go.RowKit Go.Shelf Pl
set_option linter.unusedVariables false
set_option linter.unusedSimpArgs false
set_option maxRecDepth 20000
def WfL (L : List Int) : Prop := ∀ x ∈ L, (Lit.int .i64 x).wf = true
section
open Go.ChangeShapes Go.WideShapes Go.ChangeAt
variable {H : Type} {enc : TypeId × Value → H} {w : World} {base : Nat} {spare : Nat → Bool} {held : Bool}
theorem trod_intsW {fuel : Nat} {cs : List Value} {x : DataW H × List MemPlace} (h : DataW.trod enc Try.prog w base spare held fuel 23 cs = some x) (hw : ∀ n ∈ x.1.weights Try.prog 23, n ≤ reachBytes) :
    ∃ v L, cs = [v] ∧ RSE inE v L w ∧ L.length ≤ 17592186044416 ∧ WfL L := by
  have hC : Try.prog.cellsOf 3 = 1 := by kernel_rfl
  have hB : Try.prog.bytesOf 3 = 8 := by kernel_rfl
  rcases open_ints Try.underlying23 Try.underlying3 hC h with ⟨rfl, rfl⟩ | ⟨a, len, cap, zs, rfl, _, hl, hcap, hz, rfl, hcell, hwf⟩
  · exact ⟨_, [], rfl, RSE.nil w, by simp, fun x hx => by cases hx⟩
  · have hzl : len ≤ zs.length := by rw [hz]; split <;> omega
    have htl : (zs.take len).length = len := by rw [List.length_take, Nat.min_eq_left hzl]
    refine ⟨_, zs.take len, rfl, ?_, ?_, fun x hx => hwf x (List.mem_of_mem_take hx)⟩
    · by_cases h0 : len = 0
      · subst h0; exact .inr (.inr ⟨a, cap, rfl, by simp⟩)
      · obtain ⟨b, off, spot⟩ := a
        have c0 := hcell 0 (by omega)
        have hspot : spot = none := by simpa [Addr.add] using World.cell?_spot c0
        subst hspot
        simp only [addr_add0] at hcell c0
        refine .inr (.inl ⟨b, off, cap, by rw [htl], by rw [htl]; exact hl, fun _ => ⟨World.block_lt_of_cell? w _ c0, fun i x hi j hj => ?_⟩⟩)
        obtain rfl : j = 0 := by omega
        have hil : i < len := by rw [← htl]; exact (List.getElem?_eq_some_iff.1 hi).1
        rw [List.getElem?_take_of_lt hil] at hi
        rw [Nat.mul_one, Nat.add_zero, hcell i (by omega), List.getD_eq_getElem?_getD, hi]
        rfl
    · rw [htl]
      have := hw ((len + (zs.length - len)) * 8) (by simp [DataW.weights, Try.underlying23, hB, lits, Nat.min_eq_left hzl])
      have := reach_44
      omega
theorem open_intsW {r : Reach} {b0 : Nat} {v : Value} {d : DataW H} {p : List MemPlace} (hv : Value.okWide Try.prog w r b0 23 v)
    (h : DataW.Trod enc Try.prog w base spare held 23 v d p) (hw : ∀ n ∈ d.weights Try.prog 23, n ≤ reachBytes) : ∃ L, RSE inE v L w ∧ L.length ≤ 17592186044416 ∧ WfL L := by
  obtain ⟨a0, len, cap, rfl⟩ := okWide_slice Try.underlying23 hv
  obtain ⟨fuel, hf⟩ := h
  obtain ⟨v', L, e, h1, h2, h3⟩ := trod_intsW hf hw
  simp [Value.cells] at e
  subst e
  exact ⟨L, h1, h2, h3⟩
end
theorem WfL.at {L : List Int} (h : WfL L) {i : Nat} {x : Int} (hi : L[i]? = some x) : -9223372036854775808 ≤ x ∧ x ≤ 9223372036854775807 := by
  have := h x (List.mem_of_getElem? hi)
  have hmin : IntKind.i64.min = -9223372036854775808 := rfl
  have hmax : IntKind.i64.max = 9223372036854775807 := rfl
  simp only [Lit.wf, Bool.and_eq_true, decide_eq_true_eq] at this
  omega
theorem tdiv_bd (x n : Int) (hn : 0 < n) (h : -9223372036854775808 ≤ x ∧ x ≤ 9223372036854775807) : -9223372036854775808 ≤ x.tdiv n ∧ x.tdiv n ≤ 9223372036854775807 := by
  rcases Int.le_total 0 x with h0 | h0
  · have e := Int.tdiv_eq_ediv_of_nonneg (b := n) h0
    have h1 := Int.ediv_nonneg h0 (show 0 ≤ n by omega)
    have h2 := Int.ediv_le_self n h0
    omega
  · have e := Int.tdiv_eq_ediv_of_nonneg (b := n) (show 0 ≤ -x by omega)
    have h1 := Int.ediv_nonneg (show 0 ≤ -x by omega) (show 0 ≤ n by omega)
    have h2 := Int.ediv_le_self n (show 0 ≤ -x by omega)
    rw [Int.neg_tdiv] at e
    omega
theorem R15_restO (x n r : Int) (hn : 0 < n ∧ n ≤ 1000000) (e : x % n = r) (w : World) : Calls Try.prog 38 #[.int .i64 x, .int .i64 n] w fun e w' => e = .returned (.int .i64 r) ∧ Below w.heap.size w w' := e ▸ R15_rest x n hn w
theorem numI_at {q : List Int} {i : Nat} (h : i < q.length) : q[i]? = some (numI q i) := by
  unfold numI
  rw [List.getD_eq_getElem?_getD, List.getElem?_eq_getElem h]
  rfl
theorem R_SetL (v : Value) (ls : List TA) (x y A : Int) (w : World) (h : RS v ls w) (tk : TokL ls) (hn : ls.length ≤ maxLen) (hx : (Lit.int .i64 x).wf = true) (hy : (Lit.int .i64 y).wf = true) (hA : 0 ≤ A ∧ A ≤ 255) (L : List TA) (e1 : setR ls x y ⟨0, 0, 0, A⟩ = L) : Calls Try.prog 49 #[.agg #[v], .int .i64 x, .int .i64 y, .agg #[.int .u8 0, .int .u8 0, .int .u8 0, .int .u8 A]] w fun e w' => ∃ v', e = .returned (.agg #[v', .int .i64 (setE ls x y ⟨0, 0, 0, A⟩)]) ∧ RS v' L w' ∧ Below w.heap.size w w' :=
  e1 ▸ R_SetR v ls x y ⟨0, 0, 0, A⟩ w h tk hn hx hy ⟨by simp, by simp, by simp, hA⟩
set_option maxHeartbeats 8000000 in
theorem R_Mask (v : Value) (q : List Int) (w : World) (h : RSE inE v q w) (hn : q.length ≤ 17592186044416) (hwf : WfL q) : Calls Try.prog 19 #[v] w fun e w' => ∃ a c, e = .returned (.agg #[.slice a (maskG q).length c]) ∧ RS (.slice a (maskG q).length c) (maskG q) w' ∧ Below w.heap.size w w' := by
  have B := Below.refl w.heap.size w
  obtain ⟨a, c, rfl, hc⟩ := h.len
  have HS := Lib.hid h
  have HW := Lib.hid hwf
  clear h hwf
  have rs1 : RS (.slice none 0 0) [] w := RS.nil w
  go_enter Try.func19, Try.ntmps19
  go_upto_region 0 with fail
  refine wp_region_lit ?_
  try simp only [gelS]
  (refine wpList_allocBk (t := 36) rfl _ (run_alloc_R _ _ rfl) ?_; intro b_r2 wn hle hge ht hbn hzn; have hsz := B.size; replace B := B.trans (hbn.mono (by omega)); have hln := Nat.lt_of_lt_of_eq (Nat.lt_succ_self _) hzn.symm; clear hzn; (try have hlt := rs1.lt); (try replace rs1 := rs1.below (hbn.mono hle)); have r2 := ht; clear ht; simp only [putS])
  refine wpList_nil ?_
  go_upto_region 1 with fail
  refine wp_region_lit ?_
  try simp only [gelS]
  (refine wpList_allocBk (t := 36) rfl _ (run_alloc_R _ _ rfl) ?_; intro b_r3 wn hle hge ht hbn hzn; have hsz := B.size; replace B := B.trans (hbn.mono (by omega)); have hln := Nat.lt_of_lt_of_eq (Nat.lt_succ_self _) hzn.symm; clear hzn; (try have hlt := r2.lt); (try replace r2 := r2.below (hbn.mono hle)); (try have hlt := rs1.lt); (try replace rs1 := rs1.below (hbn.mono hle)); have r3 := ht; clear ht; simp only [putS])
  refine wpList_nil ?_
  go_upto_region 2 with fail
  refine wp_region_lit ?_
  try simp only [gelS]
  refine wpList_chunk 1 (by kernel_rfl) ?_
  simp only [takS, Nat.reduceAdd]
  repeat (first | go_big_quiet_skip | (go_big_quiet_want; first | (go_big_quiet_op; go_big_quiet_on)))
  refine wpQuiet_nil ?_
  refine wpList_nil ?_
  have k1 : w.heap.size ≤ b_r2 := by omega
  have k2 : b_r2 < b_r3 := by have := r2.lt; omega
  have k3 := r3.lt
  go_wp2
  go_loopw [4, 5, 6, 7, 8] (fun iv _ _ _ _ wr => ∃ (k : Nat) (L : List TA) (ao : Option Addr) (co : Nat), k ≤ maskN q ∧ iv = .int .i64 (2 * (k : Int)) ∧ Hid (maskK q k = L) ∧ Below w.heap.size w wr ∧ AtB 36 wr b_r2 #[.slice none 0 0] ∧ AtB 36 wr b_r3 #[.slice ao L.length co] ∧ RS (.slice ao L.length co) L wr) (fun iv _ _ _ _ _ => (60 - intOf iv).toNat)
  case atStart => exact ⟨0, [], _, _, Nat.zero_le _, rfl, Lib.hid rfl, B, r2, r3, rs1⟩
  case round =>
    clear B r2 r3 rs1
    obtain ⟨k, L, ao, co, hk, rfl, HL, B, r2, r3, rs1⟩ := hrel
    have hpd : maskN q = min (q.length / 2) 30 := rfl
    have hpn : maskN q ≤ 30 ∧ 2 * maskN q ≤ q.length := by omega
    have HPD := Lib.hid hpd
    clear hpd
    by_cases hkn : k < maskN q
    · have q1 : decide (2 * (k : Int) + 1 < (q.length : Int)) = true := decide_eq_true (by omega)
      have q2 : decide (2 * (k : Int) < 60) = true := decide_eq_true (by omega)
      have q1' : decide (2 * k + 1 < q.length) = true := decide_eq_true (by omega)
      have q2' : decide (2 * k < q.length) = true := decide_eq_true (by omega)
      obtain ⟨g, o, rfl, rc0⟩ := HS.out.at (by omega)
      have rc := rc0.of_eq (B.block _ rc0.lt)
      have hq0 := numI_at (q := q) (i := 2 * k) (by omega)
      have hq1 := numI_at (q := q) (i := 2 * k + 1) (by omega)
      have HST := Lib.hid (show maskK q (k + 1) = mrunK L (numI q (2 * k)) (numI q (2 * k + 1)) (mkN (numI q (2 * k))) from by show mrunK (maskK q k) _ _ _ = _; rw [HL.out])
      have HP := Lib.hid (show ∀ j, j ≤ mkN (numI q (2 * k)) → MaskP (mrunK L (numI q (2 * k)) (numI q (2 * k + 1)) j) from fun j hj => mrunK_P (HL.out ▸ maskK_P q k) _ _ j hj)
      have hwx := HW.out.at hq0
      generalize numI q (2 * k) = x at *
      generalize numI q (2 * k + 1) = y at *
      have hd1 : x.tdiv 16 = x.tdiv 16 := rfl
      have hb1 := tdiv_bd x 16 (by omega) hwx
      have hb2 := tdiv_bd x 256 (by omega) hwx
      obtain ⟨X, hX⟩ : ∃ X, x % 16 = X := ⟨_, rfl⟩
      obtain ⟨Y, hY⟩ : ∃ Y, x.tdiv 16 % 16 = Y := ⟨_, rfl⟩
      obtain ⟨Z, hZ⟩ : ∃ Z, x.tdiv 256 % 3 = Z := ⟨_, rfl⟩
      obtain ⟨A, hA⟩ : ∃ A, y % 256 = A := ⟨_, rfl⟩
      have bX : 0 ≤ X ∧ X ≤ 15 := by omega
      have bY : 0 ≤ Y ∧ Y ≤ 15 := by omega
      have bZ : 0 ≤ Z ∧ Z ≤ 2 := by omega
      have bA : 0 ≤ A ∧ A ≤ 255 := by omega
      have HX := Lib.hid hX
      have HY := Lib.hid hY
      have HZ := Lib.hid hZ
      have HA := Lib.hid hA
      have HR := Lib.hid (show ∀ j : Nat, setR (mrunK L x y j) (X - 4 + (j : Int)) (Y - 4) ⟨0, 0, 0, A⟩ = mrunK L x y (j + 1) from fun j => by
        show _ = setR (mrunK L x y j) (mkX x + (j : Int)) (mkY x) (mkP y)
        unfold mkX mkY mkP
        rw [hX, hY, hA])
      obtain ⟨D1, hD1⟩ : ∃ D, x.tdiv 16 = D := ⟨_, rfl⟩
      obtain ⟨D2, hD2⟩ : ∃ D, x.tdiv 256 = D := ⟨_, rfl⟩
      rw [hD1] at hb1
      rw [hD2] at hb2
      have HD1 := Lib.hid (show D1 % 16 = Y from by rw [← hD1]; exact hY)
      have HD2 := Lib.hid (show D2 % 3 = Z from by rw [← hD2]; exact hZ)
      have HN := Lib.hid (show (mkN x : Int) = 1 + Z from by unfold mkN; rw [hZ]; omega)
      clear hX hY hZ hA hd1
      go_upto_region 3 with fail
      refine wp_region_lit ?_
      try simp only [gelS]
      refine wpList_chunk 3 (by kernel_rfl) ?_
      simp only [takS, Nat.reduceAdd]
      repeat (first | go_big_quiet_skip | (go_big_quiet_want; first | (go_big_quiet_op; go_big_quiet_on)))
      refine wpQuiet_nil ?_
      refine wpList_lenS (by first | rfl | simp [Region.wanted, yielded]) rfl Try.underlying23 rfl ?_
      simp only [putS]
      refine wpList_chunk 5 (by kernel_rfl) ?_
      simp only [takS, Nat.reduceAdd]
      repeat (first | go_big_quiet_skip | (go_big_quiet_want; first | (go_big_quiet_op; go_big_quiet_on)))
      refine wpQuiet_nil ?_
      refine wpList_nil ?_
      go_upto_region 5 with fail
      refine wp_region_lit ?_
      try simp only [gelS]
      refine wpList_chunk 4 (by kernel_rfl) ?_
      simp only [takS, Nat.reduceAdd]
      repeat (first | go_big_quiet_skip | (go_big_quiet_want; first | (refine quiet_loadAny (t := 3) rfl _ _ _ rfl (fun w hw => run_load_int (rci_int (ov_rce rc w hw) hq0)) (by first | rfl | omega) ?_; simp only [putS]; go_big_quiet_on) | (go_big_quiet_op; go_big_quiet_on)))
      refine wpQuiet_nil ?_
      refine wpList_callF (by first | rfl | simp [Region.wanted, yielded]) rfl (enters_of Try.func38 (by kernel_rfl) rfl) (by simp only [List.map_toArray, List.map_cons, List.map_nil, Act.eval, Array.getD_eq_getD_getElem?, List.getElem?_toArray, List.getElem?_cons_succ, List.getElem?_cons_zero, Option.getD_some]; rfl) ?_
      refine (R15_restO x 16 X (by omega) HX.out _).mono ?_
      rintro e wn ⟨rfl, hbn⟩
      have hsz := B.size
      have hzn := hbn.size
      replace B := B.trans (hbn.mono B.size)
      (try replace r2 := r2.below hbn)
      (try replace r3 := r3.below hbn)
      (try replace rc := rc.below hbn)
      (try replace rs1 := rs1.below hbn)
      refine ⟨_, rfl, ?_⟩
      simp only [putS]
      refine wpList_chunk 2 (by kernel_rfl) ?_
      simp only [takS, Nat.reduceAdd]
      repeat (first | go_big_quiet_skip | (go_big_quiet_want; first | (go_big_quiet_op; go_big_quiet_on)))
      refine wpQuiet_nil ?_
      refine wpList_nil ?_
      go_upto_region 6 with fail
      refine wp_region_lit ?_
      try simp only [gelS]
      refine wpList_chunk 5 (by kernel_rfl) ?_
      simp only [takS, Nat.reduceAdd]
      repeat (first | go_big_quiet_skip | (go_big_quiet_want; first | (refine quiet_loadAny (t := 3) rfl _ _ _ rfl (fun w hw => run_load_int (rci_int (ov_rce rc w hw) hq0)) (by first | rfl | omega) ?_; simp only [putS]; go_big_quiet_on) | (go_big_quiet_op; go_big_quiet_on)))
      refine wpQuiet_nil ?_
      refine wpList_callF (by first | rfl | simp [Region.wanted, yielded]) rfl (enters_of Try.func38 (by kernel_rfl) rfl) (by simp only [List.map_toArray, List.map_cons, List.map_nil, Act.eval, Array.getD_eq_getD_getElem?, List.getElem?_toArray, List.getElem?_cons_succ, List.getElem?_cons_zero, Option.getD_some]; rfl) ?_
      refine (R15_restO D1 16 Y (by omega) HD1.out _).mono ?_
      rintro e wn ⟨rfl, hbn⟩
      have hsz := B.size
      have hzn := hbn.size
      replace B := B.trans (hbn.mono B.size)
      (try replace r2 := r2.below hbn)
      (try replace r3 := r3.below hbn)
      (try replace rc := rc.below hbn)
      (try replace rs1 := rs1.below hbn)
      refine ⟨_, rfl, ?_⟩
      simp only [putS]
      refine wpList_chunk 2 (by kernel_rfl) ?_
      simp only [takS, Nat.reduceAdd]
      repeat (first | go_big_quiet_skip | (go_big_quiet_want; first | (go_big_quiet_op; go_big_quiet_on)))
      refine wpQuiet_nil ?_
      refine wpList_nil ?_
      go_upto_region 7 with fail
      refine wp_region_lit ?_
      try simp only [gelS]
      refine wpList_chunk 1 (by kernel_rfl) ?_
      simp only [takS, Nat.reduceAdd]
      repeat (first | go_big_quiet_skip | (go_big_quiet_want; first | (go_big_quiet_op; go_big_quiet_on)))
      refine wpQuiet_nil ?_
      refine wpList_nil ?_
      have HRC := Lib.hid rc0
      clear rc0 rc
      go_wp2
      go_loopw [7, 8] (fun jv _ wr => ∃ (j : Nat) (M : List TA) (ao : Option Addr) (co : Nat), (j : Int) ≤ 1 + Z ∧ jv = .int .i64 (j : Int) ∧ Hid (mrunK L x y j = M) ∧ Below w.heap.size w wr ∧ AtB 36 wr b_r2 #[.slice none 0 0] ∧ AtB 36 wr b_r3 #[.slice ao M.length co] ∧ RS (.slice ao M.length co) M wr) (fun jv _ _ => (10 - intOf jv).toNat)
      case atStart => exact ⟨0, L, _, _, by omega, rfl, Lib.hid rfl, B, r2, r3, rs1⟩
      case round =>
        clear B r2 r3 rs1
        obtain ⟨j, M, ao', co', hj, rfl, HM, B, r2, r3, rs1⟩ := hrel
        have rc := HRC.out.of_eq (B.block _ HRC.out.lt)
        have hjn := HN.out
        have HMP := Lib.hid (HM.out ▸ HP.out j (by omega))
        clear hjn
        by_cases hjz : (j : Int) < 1 + Z
        · have q3 : decide ((j : Int) < 1 + Z) = true := decide_eq_true hjz
          have HE := Lib.hid (show setR M (X - 4 + (j : Int)) (Y - 4) ⟨0, 0, 0, A⟩ = mrunK L x y (j + 1) from by rw [← HM.out]; exact HR.out j)
          obtain ⟨M', hM'⟩ : ∃ M', setR M (X - 4 + (j : Int)) (Y - 4) ⟨0, 0, 0, A⟩ = M' := ⟨_, rfl⟩
          have HM' := Lib.hid hM'
          clear hM'
          go_upto_region 8 with fail
          refine wp_region_lit ?_
          try simp only [gelS]
          refine wpList_chunk 6 (by kernel_rfl) ?_
          simp only [takS, Nat.reduceAdd]
          repeat (first | go_big_quiet_skip | (go_big_quiet_want; first | (refine quiet_loadAny (t := 3) rfl _ _ _ rfl (fun w hw => run_load_int (rci_int (ov_rce rc w hw) hq0)) (by first | rfl | omega) ?_; simp only [putS]; go_big_quiet_on) | (go_big_quiet_op; go_big_quiet_on)))
          refine wpQuiet_nil ?_
          refine wpList_callF (by first | rfl | simp [Region.wanted, yielded]) rfl (enters_of Try.func38 (by kernel_rfl) rfl) (by simp only [List.map_toArray, List.map_cons, List.map_nil, Act.eval, Array.getD_eq_getD_getElem?, List.getElem?_toArray, List.getElem?_cons_succ, List.getElem?_cons_zero, Option.getD_some]; rfl) ?_
          refine (R15_restO D2 3 Z (by omega) HD2.out _).mono ?_
          rintro e wn ⟨rfl, hbn⟩
          have hsz := B.size
          have hzn := hbn.size
          replace B := B.trans (hbn.mono B.size)
          (try replace r2 := r2.below hbn)
          (try replace r3 := r3.below hbn)
          (try replace rc := rc.below hbn)
          (try replace rs1 := rs1.below hbn)
          refine ⟨_, rfl, ?_⟩
          simp only [putS]
          refine wpList_chunk 2 (by kernel_rfl) ?_
          simp only [takS, Nat.reduceAdd]
          repeat (first | go_big_quiet_skip | (go_big_quiet_want; first | (go_big_quiet_op; go_big_quiet_on)))
          refine wpQuiet_nil ?_
          refine wpList_nil ?_
          have wx1 : (Lit.int .i64 (X - 4 + (j : Int))).wf = true := wf_mk (by omega) (by omega)
          have wy1 : (Lit.int .i64 (Y - 4)).wf = true := wf_mk (by omega) (by omega)
          go_upto_region 10 with fail
          try simp only [gelS]
          try have lx_r2 := r2.lt
          try have lx_r3 := r3.lt
          try have lx_rc := rc.lt
          try have lx_rs1 := rs1.lt
          refine wp_region_RL 15 [(10, detS ?v1_10), (13, gotS (M') (setE M (X - 4 + (j : Int)) (Y - 4) ⟨0, 0, 0, A⟩)), (14, ptrS (wn.heap.size) 76 #[.slice none 0 0, .int .i64 0])] (by kernel_rfl) (by kernel_rfl) (by kernel_rfl) ?_
          rotate_left 1
          simp only [takS, Nat.reduceAdd]
          refine wpRL_chunk 10 (by kernel_rfl) ?_
          simp only [takS, Nat.reduceAdd]
          repeat (first | go_big_quiet_skip | (go_big_quiet_want; first | (refine quiet_loadAny (t := 36) rfl _ _ _ rfl (fun w hw => run_load_B (ov_B r3 w hw) Try.isAgg36 (by kernel_rfl)) (by rfl) ?_; simp only [putS]; go_big_quiet_on) | (refine quiet_loadAny (t := 3) rfl _ _ _ rfl (fun w hw => run_load_int (rci_int (ov_rce rc w hw) hq1)) (by first | rfl | omega) ?_; simp only [putS]; go_big_quiet_on) | (go_big_quiet_op; go_big_quiet_on)))
          refine wpQuiet_nil ?_
          refine wpRL_callB (by rfl) (by first | rfl | simp [Region.wanted, yielded]) ?_ ?_
          · intro wn hbn hE Kx hKx
            have hsz := B.size
            have hzn := hbn.size
            replace B := B.trans (hbn.mono B.size)
            (try replace r2 := r2.below hbn)
            (try replace r3 := r3.below hbn)
            (try replace rc := rc.below hbn)
            (try replace rs1 := rs1.below hbn)
            refine wp_callF rfl (enters_of Try.func38 (by kernel_rfl) rfl) (by simp only [List.map_toArray, List.map_cons, List.map_nil, Act.eval, Array.getD_eq_getD_getElem?, List.getElem?_toArray, List.getElem?_cons_succ, List.getElem?_cons_zero, Option.getD_some]; rfl) ?_
            refine (R15_restO y 256 A (by omega) HA.out _).mono ?_
            rintro e wm ⟨rfl, hbm⟩
            refine ⟨_, rfl, ?_⟩
            have hz := hKx () wm trivial hbm
            dsimp only [detS] at hz
            exact hz
          rintro ⟨⟩
          dsimp only [detS]
          simp only [putS]
          refine wpRL_chunk 2 (by kernel_rfl) ?_
          simp only [takS, Nat.reduceAdd]
          repeat (first | go_big_quiet_skip | (go_big_quiet_want; first | (go_big_quiet_op; go_big_quiet_on)))
          refine wpQuiet_nil ?_
          refine wpRL_callB (by rfl) (by first | rfl | simp [Region.wanted, yielded]) ?_ ?_
          · intro wn hbn hE Kx hKx
            have hsz := B.size
            have hzn := hbn.size
            replace B := B.trans (hbn.mono B.size)
            (try replace r2 := r2.below hbn)
            (try replace r3 := r3.below hbn)
            (try replace rc := rc.below hbn)
            (try replace rs1 := rs1.below hbn)
            refine wp_callF rfl (enters_of Try.func49 (by kernel_rfl) rfl) (by simp only [List.map_toArray, List.map_cons, List.map_nil, Act.eval, Array.getD_eq_getD_getElem?, List.getElem?_toArray, List.getElem?_cons_succ, List.getElem?_cons_zero, Option.getD_some]; rfl) ?_
            refine (R_SetL _ M (X - 4 + (j : Int)) (Y - 4) A wn rs1 HMP.out.t (len_maxLen (by have := HMP.out.len; omega)) wx1 wy1 bA M' HM'.out).mono ?_
            rintro e wm ⟨v', rfl, hr, hbm⟩
            obtain ⟨a', c', rfl, _⟩ := hr.len
            exact ⟨_, rfl, hKx (a', c') wm hr hbm⟩
          rintro ⟨a57, c57⟩
          dsimp only [detS, gotS]
          simp only [putS]
          refine wpRL_callB (by rfl) (by first | rfl | simp [Region.wanted, yielded]) ?_ ?_
          · intro wn hbn hE Kx hKx
            have hsz := B.size
            have hzn := hbn.size
            replace B := B.trans (hbn.mono B.size)
            (try replace r2 := r2.below hbn)
            (try replace r3 := r3.below hbn)
            (try replace rc := rc.below hbn)
            (try replace rs1 := rs1.below hbn)
            refine owp_allocBk (t := 76) _ (run_alloc_G _ _ rfl) ?_
            intro b wm h1 h2 ht hbm hzm
            exact hKx b wm ⟨Nat.le_trans hbn.size h1, ht⟩ (hbm.mono h1)
          rintro b_g8
          dsimp only [detS, ptrS]
          simp only [putS]
          refine wpRL_nil ?_
          intro wn hbn hE
          have hsz := B.size
          have hzn := hbn.size
          replace B := B.trans (hbn.mono B.size)
          (try replace r2 := r2.below hbn)
          (try replace r3 := r3.below hbn)
          (try replace rc := rc.below hbn)
          (try replace rs1 := rs1.below hbn)
          have rs2 := hE 13
          change RS _ _ _ at rs2
          obtain ⟨hge_g8, g8⟩ : _ ∧ AtB _ _ _ _ := hE 14
          clear hE
          try simp only [List.drop_succ_cons, List.drop_zero]
          go_wp2_with (first | (refine wpList_storeB (t := 76) rfl _ _ rfl _ rfl _ rfl g8 (by kernel_rfl) rfl (by simp [Value.oneCell']) ?_; have g8o := g8; clear g8; intro wn ht hcn hzn; (try replace rs1 := rs1.chg g8o (by simp [rcA]) hcn); (try replace rs2 := rs2.chg g8o (by simp [rcA]) hcn); have hsz := B.size; replace hzn := Nat.le_of_eq hzn.symm; replace B := Chg.below B hcn (by omega) B.size; (try replace r2 := r2.of_eq (hcn.block _ r2.lt (by omega))); (try replace r3 := r3.of_eq (hcn.block _ r3.lt (by omega))); (try replace rc := rc.of_eq (hcn.block _ rc.lt (by omega))); (try replace rs1 := rs1.of_eq (hcn.block _ rs1.lt (by omega))); have g8 := ht; clear ht; simp only [putS]) | fail)
          refine NoPan.normal ?_
          go_upto_region 11 with fail
          refine wp_region_lit ?_
          try simp only [gelS]
          refine wpList_chunk 2 (by kernel_rfl) ?_
          simp only [takS, Nat.reduceAdd]
          repeat (first | go_big_quiet_skip | (go_big_quiet_want; first | (refine quiet_loadAny (t := 36) rfl _ _ _ rfl (fun w hw => run_load_ras ((ov_B g8 w hw).cell 0 rfl)) (by first | rfl | omega) ?_; simp only [putS]; go_big_quiet_on) | (go_big_quiet_op; go_big_quiet_on)))
          refine wpQuiet_nil ?_
          (refine wpList_storeB (t := 36) rfl _ _ rfl _ rfl _ rfl r3 (by kernel_rfl) rfl (by simp [Value.oneCell']) ?_; have r3o := r3; clear r3; intro wn ht hcn hzn; (try replace rs1 := rs1.chg r3o (by simp [rcA]) hcn); (try replace rs2 := rs2.chg r3o (by simp [rcA]) hcn); have hsz := B.size; replace hzn := Nat.le_of_eq hzn.symm; replace B := Chg.below B hcn (by omega) B.size; (try replace r2 := r2.of_eq (hcn.block _ r2.lt (by omega))); (try replace rc := rc.of_eq (hcn.block _ rc.lt (by omega))); (try replace rs1 := rs1.of_eq (hcn.block _ rs1.lt (by omega))); have r3 := ht; clear ht; simp only [putS])
          refine wpList_nil ?_
          go_upto_region 9 with fail
          refine wp_region_lit ?_
          try simp only [gelS]
          refine wpList_chunk 3 (by kernel_rfl) ?_
          simp only [takS, Nat.reduceAdd]
          repeat (first | go_big_quiet_skip | (go_big_quiet_want; first | (go_big_quiet_op; go_big_quiet_on)))
          refine wpQuiet_nil ?_
          refine wpList_nil ?_
          go_wp2
          go_roundw
          case rel => exact ⟨j + 1, M', _, _, by omega, by go_num, Lib.hid (HE.out.symm.trans HM'.out), B, r2, r3, rs2⟩
          case measure => simp [intOf]; omega
        · have q3 : decide ((j : Int) < 1 + Z) = false := decide_eq_false hjz
          go_upto_region 8 with fail
          refine wp_region_lit ?_
          try simp only [gelS]
          refine wpList_chunk 6 (by kernel_rfl) ?_
          simp only [takS, Nat.reduceAdd]
          repeat (first | go_big_quiet_skip | (go_big_quiet_want; first | (refine quiet_loadAny (t := 3) rfl _ _ _ rfl (fun w hw => run_load_int (rci_int (ov_rce rc w hw) hq0)) (by first | rfl | omega) ?_; simp only [putS]; go_big_quiet_on) | (go_big_quiet_op; go_big_quiet_on)))
          refine wpQuiet_nil ?_
          refine wpList_callF (by first | rfl | simp [Region.wanted, yielded]) rfl (enters_of Try.func38 (by kernel_rfl) rfl) (by simp only [List.map_toArray, List.map_cons, List.map_nil, Act.eval, Array.getD_eq_getD_getElem?, List.getElem?_toArray, List.getElem?_cons_succ, List.getElem?_cons_zero, Option.getD_some]; rfl) ?_
          refine (R15_restO D2 3 Z (by omega) HD2.out _).mono ?_
          rintro e wn ⟨rfl, hbn⟩
          have hsz := B.size
          have hzn := hbn.size
          replace B := B.trans (hbn.mono B.size)
          (try replace r2 := r2.below hbn)
          (try replace r3 := r3.below hbn)
          (try replace rc := rc.below hbn)
          (try replace rs1 := rs1.below hbn)
          refine ⟨_, rfl, ?_⟩
          simp only [putS]
          refine wpList_chunk 2 (by kernel_rfl) ?_
          simp only [takS, Nat.reduceAdd]
          repeat (first | go_big_quiet_skip | (go_big_quiet_want; first | (go_big_quiet_op; go_big_quiet_on)))
          refine wpQuiet_nil ?_
          refine wpList_nil ?_
          have HEN := Lib.hid (show mkN x = j from by have := HN.out; omega)
          go_upto_region 4 with fail
          refine wp_region_lit ?_
          try simp only [gelS]
          refine wpList_chunk 3 (by kernel_rfl) ?_
          simp only [takS, Nat.reduceAdd]
          repeat (first | go_big_quiet_skip | (go_big_quiet_want; first | (go_big_quiet_op; go_big_quiet_on)))
          refine wpQuiet_nil ?_
          refine wpList_nil ?_
          go_wp2
          go_roundw
          case rel => exact ⟨k + 1, M, _, _, by omega, by go_num, Lib.hid (by rw [HST.out, HEN.out]; exact HM.out), B, r2, r3, rs1⟩
          case measure => simp [intOf]; omega
    · obtain rfl : k = maskN q := by omega
      have HE := Lib.hid (show maskG q = L from HL.out)
      have fin : 2 * maskN q + 1 < q.length → ¬ 2 * maskN q < 60 := fun h1 => by have := HPD.out; omega
      have FIN := Lib.hid fin
      clear fin
      by_cases h1 : 2 * maskN q + 1 < q.length
      · have q1 : decide (2 * (maskN q : Int) + 1 < (q.length : Int)) = true := decide_eq_true (by omega)
        have q2 : decide (2 * (maskN q : Int) < 60) = false := decide_eq_false (by have := FIN.out h1; omega)
        go_upto_region 3 with fail
        refine wp_region_lit ?_
        try simp only [gelS]
        refine wpList_chunk 3 (by kernel_rfl) ?_
        simp only [takS, Nat.reduceAdd]
        repeat (first | go_big_quiet_skip | (go_big_quiet_want; first | (go_big_quiet_op; go_big_quiet_on)))
        refine wpQuiet_nil ?_
        refine wpList_lenS (by first | rfl | simp [Region.wanted, yielded]) rfl Try.underlying23 rfl ?_
        simp only [putS]
        refine wpList_chunk 5 (by kernel_rfl) ?_
        simp only [takS, Nat.reduceAdd]
        repeat (first | go_big_quiet_skip | (go_big_quiet_want; first | (go_big_quiet_op; go_big_quiet_on)))
        refine wpQuiet_nil ?_
        refine wpList_nil ?_
        go_upto_region 12 with fail
        refine wp_region_lit ?_
        try simp only [gelS]
        refine wpList_chunk 1 (by kernel_rfl) ?_
        simp only [takS, Nat.reduceAdd]
        repeat (first | go_big_quiet_skip | (go_big_quiet_want; first | (refine quiet_loadAny (t := 36) rfl _ _ _ rfl (fun w hw => run_load_B (ov_B r3 w hw) Try.isAgg36 (by kernel_rfl)) (by rfl) ?_; simp only [putS]; go_big_quiet_on) | (go_big_quiet_op; go_big_quiet_on)))
        refine wpQuiet_nil ?_
        (refine wpList_storeB (t := 36) rfl _ _ rfl _ rfl _ rfl r2 (by kernel_rfl) rfl (by simp [Value.oneCell']) ?_; have r2o := r2; clear r2; intro wn ht hcn hzn; (try replace rs1 := rs1.chg r2o (by simp [rcA]) hcn); have hsz := B.size; replace hzn := Nat.le_of_eq hzn.symm; replace B := Chg.below B hcn (by omega) B.size; (try replace r3 := r3.of_eq (hcn.block _ r3.lt (by omega))); (try replace rc := rc.of_eq (hcn.block _ rc.lt (by omega))); (try replace rs1 := rs1.of_eq (hcn.block _ rs1.lt (by omega))); have r2 := ht; clear ht; simp only [putS])
        refine wpList_nil ?_
        first | (refine bodyPost_ret (results_B (t := 36) rfl _ _ (b_r2) rfl r2 Try.isAgg36 (by kernel_rfl)) rfl ?_) | (go_step; refine bodyPost_ret (results_B (t := 36) rfl _ _ (b_r2) rfl r2 Try.isAgg36 (by kernel_rfl)) rfl ?_) | (go_step; go_step; refine bodyPost_ret (results_B (t := 36) rfl _ _ (b_r2) rfl r2 Try.isAgg36 (by kernel_rfl)) rfl ?_) | (go_step; go_step; go_step; refine bodyPost_ret (results_B (t := 36) rfl _ _ (b_r2) rfl r2 Try.isAgg36 (by kernel_rfl)) rfl ?_) | (go_step; go_step; go_step; go_step; refine bodyPost_ret (results_B (t := 36) rfl _ _ (b_r2) rfl r2 Try.isAgg36 (by kernel_rfl)) rfl ?_) | (go_step; go_step; go_step; go_step; go_step; refine bodyPost_ret (results_B (t := 36) rfl _ _ (b_r2) rfl r2 Try.isAgg36 (by kernel_rfl)) rfl ?_)
        rw [HE.out]
        exact ⟨_, _, rfl, rs1, B⟩
      · have q1 : decide (2 * (maskN q : Int) + 1 < (q.length : Int)) = false := decide_eq_false (by omega)
        go_upto_region 3 with fail
        refine wp_region_lit ?_
        try simp only [gelS]
        refine wpList_chunk 3 (by kernel_rfl) ?_
        simp only [takS, Nat.reduceAdd]
        repeat (first | go_big_quiet_skip | (go_big_quiet_want; first | (go_big_quiet_op; go_big_quiet_on)))
        refine wpQuiet_nil ?_
        refine wpList_lenS (by first | rfl | simp [Region.wanted, yielded]) rfl Try.underlying23 rfl ?_
        simp only [putS]
        refine wpList_chunk 5 (by kernel_rfl) ?_
        simp only [takS, Nat.reduceAdd]
        repeat (first | go_big_quiet_skip | (go_big_quiet_want; first | (go_big_quiet_op; go_big_quiet_on)))
        refine wpQuiet_nil ?_
        refine wpList_nil ?_
        go_upto_region 12 with fail
        refine wp_region_lit ?_
        try simp only [gelS]
        refine wpList_chunk 1 (by kernel_rfl) ?_
        simp only [takS, Nat.reduceAdd]
        repeat (first | go_big_quiet_skip | (go_big_quiet_want; first | (refine quiet_loadAny (t := 36) rfl _ _ _ rfl (fun w hw => run_load_B (ov_B r3 w hw) Try.isAgg36 (by kernel_rfl)) (by rfl) ?_; simp only [putS]; go_big_quiet_on) | (go_big_quiet_op; go_big_quiet_on)))
        refine wpQuiet_nil ?_
        (refine wpList_storeB (t := 36) rfl _ _ rfl _ rfl _ rfl r2 (by kernel_rfl) rfl (by simp [Value.oneCell']) ?_; have r2o := r2; clear r2; intro wn ht hcn hzn; (try replace rs1 := rs1.chg r2o (by simp [rcA]) hcn); have hsz := B.size; replace hzn := Nat.le_of_eq hzn.symm; replace B := Chg.below B hcn (by omega) B.size; (try replace r3 := r3.of_eq (hcn.block _ r3.lt (by omega))); (try replace rc := rc.of_eq (hcn.block _ rc.lt (by omega))); (try replace rs1 := rs1.of_eq (hcn.block _ rs1.lt (by omega))); have r2 := ht; clear ht; simp only [putS])
        refine wpList_nil ?_
        first | (refine bodyPost_ret (results_B (t := 36) rfl _ _ (b_r2) rfl r2 Try.isAgg36 (by kernel_rfl)) rfl ?_) | (go_step; refine bodyPost_ret (results_B (t := 36) rfl _ _ (b_r2) rfl r2 Try.isAgg36 (by kernel_rfl)) rfl ?_) | (go_step; go_step; refine bodyPost_ret (results_B (t := 36) rfl _ _ (b_r2) rfl r2 Try.isAgg36 (by kernel_rfl)) rfl ?_) | (go_step; go_step; go_step; refine bodyPost_ret (results_B (t := 36) rfl _ _ (b_r2) rfl r2 Try.isAgg36 (by kernel_rfl)) rfl ?_) | (go_step; go_step; go_step; go_step; refine bodyPost_ret (results_B (t := 36) rfl _ _ (b_r2) rfl r2 Try.isAgg36 (by kernel_rfl)) rfl ?_) | (go_step; go_step; go_step; go_step; go_step; refine bodyPost_ret (results_B (t := 36) rfl _ _ (b_r2) rfl r2 Try.isAgg36 (by kernel_rfl)) rfl ?_)
        rw [HE.out]
        exact ⟨_, _, rfl, rs1, B⟩
/- For chapter 15's laws: contracts told with their values, slices cut short, '==' of rectangles, lists of polygons as values. -/
/-- v is a slice of ls that lies in the blocks below n. -/
def RSN {α : Type} {k : Nat} {T ST : TypeId} (E : Elt α k T ST) (n : Nat) (v : Value) (ls : List α) (w : World) : Prop := n ≤ w.heap.size ∧ ∀ w', Below n w w' → RSE E v ls w'
section
variable {α : Type} {k : Nat} {T ST : TypeId} {E : Elt α k T ST} {n b : Nat} {v : Value} {ls : List α} {w w' : World}
theorem RSN.mk (h : RSE E v ls w) : RSN E w.heap.size v ls w := ⟨Nat.le_refl _, fun w' hb => h.below hb⟩
theorem RSN.rs (h : RSN E n v ls w) : RSE E v ls w := h.2 w (Below.refl _ _)
theorem RSN.below (h : RSN E n v ls w) (hb : Below w.heap.size w w') : RSN E n v ls w' := ⟨Nat.le_trans h.1 hb.size, fun w'' h2 => h.2 w'' ((hb.mono h.1).trans h2)⟩
theorem RSN.chg (h : RSN E n v ls w) (hc : Chg b w w') (hb : n ≤ b) : RSN E n v ls w' := ⟨Nat.le_trans h.1 hc.size, fun w'' h2 => h.2 w'' ((Chg.below (Below.refl n w) hc hb h.1).trans h2)⟩
end
theorem L15_restO (x n r : Int) (hn : 0 < n ∧ n ≤ 1000000) (e : x % n = r) (w : World) : Calls Try.prog 12 #[.int .i64 x, .int .i64 n] w fun e w' => e = .returned (.int .i64 r) ∧ Below w.heap.size w w' := e ▸ L15_rest x n hn w
def polyS (P : List (List Pnt)) : NSpec := ⟨Option Addr × Nat, ⟨(none, 0)⟩, fun x => .slice x.1 P.length x.2, fun x w => RPoly (.slice x.1 P.length x.2) P w, fun _ _ _ hb h => h.below hb⟩
theorem RPoly.nil (w : World) : RPoly (.slice none 0 0) [] w := ⟨[], RSE.nil w, rfl, fun i s l h => by simp at h⟩
end Go.Proofs.Ytamgpfblhlfhaaa
/- Plain: the polygons of a set of pixels, filled, give back that set. -/
namespace Go.Proofs.Ytamgpfblhlfhaaa
open Go.RowKit Pl
set_option linter.unusedVariables false
set_option linter.unusedSimpArgs false
/-- A vertical edge right of x that covers the row y. -/
def vE (x y : Int) (e : Ed) : Bool := decide (x < e.x) && (decide (e.d = 1 ∧ e.y = y) || decide (e.d = 3 ∧ e.y = y + 1))
def sgE (x y : Int) (a b : Pnt) : Bool := decide (x < a.1) && Bool.xor (decide (a.2 ≤ y)) (decide (b.2 ≤ y))
theorem crs_axis {a b : Pnt} (h : a.1 = b.1 ∨ a.2 = b.2) (x y : Int) : crs (pt8 a) (pt8 b) (8 * x + 4) (8 * y + 4) = sgE x y a b := by
  have d8 : ∀ n : Int, decide (8 * n ≤ 8 * y + 4) = decide (n ≤ y) := fun n => by
    by_cases k : n ≤ y
    · rw [decide_eq_true k, decide_eq_true (by omega)]
    · rw [decide_eq_false k, decide_eq_false (by omega)]
  unfold sgE
  rcases h with h | h
  · by_cases k : x < a.1
    · rw [crs_left (by unfold pt8; simp only; omega) (by unfold pt8; simp only; omega), decide_eq_true k]
      unfold pt8
      simp only [d8, Bool.true_and]
    · rw [crs_right (by unfold pt8; simp only; omega) (by unfold pt8; simp only; omega), decide_eq_false k]
      rfl
  · rw [crs_flat (by unfold pt8; simp only; omega), h]
    cases decide (x < a.1) <;> cases decide (b.2 ≤ y) <;> rfl
def edP (e : Ed) : Pnt := (e.x, e.y)
section
variable {S : Int → Int → Bool} {r : Rc} {s : Ed}
theorem vE_step {e f : Ed} (hd : 0 ≤ e.d ∧ e.d ≤ 3) (hx : f.x = e.x + dxE e.d) (hy : f.y = e.y + dyE e.d) (x y : Int) : vE x y e = sgE x y (edP e) (edP f) := by
  unfold vE sgE edP
  simp only
  rcases dir4 hd with h | h | h | h <;> rw [h] at hx hy ⊢
  · have e1 : f.y = e.y := by rw [hy]; show e.y + 0 = _; omega
    rw [e1]
    cases decide (x < e.x) <;> cases decide (e.y ≤ y) <;> simp
  · have e1 : f.y = e.y + 1 := by rw [hy]; rfl
    rw [e1]
    cases decide (x < e.x)
    · rfl
    · rw [decide_eq_false (show ¬ ((1 : Int) = 3 ∧ e.y = y + 1) by omega)]
      by_cases k : e.y = y
      · rw [decide_eq_true (show (1 : Int) = 1 ∧ e.y = y from ⟨rfl, k⟩), decide_eq_true (show e.y ≤ y by omega), decide_eq_false (show ¬ e.y + 1 ≤ y by omega)]; rfl
      · by_cases k2 : e.y ≤ y
        · rw [decide_eq_false (show ¬ ((1 : Int) = 1 ∧ e.y = y) by omega), decide_eq_true k2, decide_eq_true (show e.y + 1 ≤ y by omega)]; rfl
        · rw [decide_eq_false (show ¬ ((1 : Int) = 1 ∧ e.y = y) by omega), decide_eq_false k2, decide_eq_false (show ¬ e.y + 1 ≤ y by omega)]; rfl
  · have e1 : f.y = e.y := by rw [hy]; show e.y + 0 = _; omega
    rw [e1]
    cases decide (x < e.x) <;> cases decide (e.y ≤ y) <;> simp
  · have e1 : f.y = e.y - 1 := by rw [hy]; show e.y + -1 = _; omega
    rw [e1]
    cases decide (x < e.x)
    · rfl
    · rw [decide_eq_false (show ¬ ((3 : Int) = 1 ∧ e.y = y) by omega)]
      by_cases k : e.y = y + 1
      · rw [decide_eq_true (show (3 : Int) = 3 ∧ e.y = y + 1 from ⟨rfl, k⟩), decide_eq_false (show ¬ e.y ≤ y by omega), decide_eq_true (show e.y - 1 ≤ y by omega)]; rfl
      · by_cases k2 : e.y ≤ y
        · rw [decide_eq_false (show ¬ ((3 : Int) = 3 ∧ e.y = y + 1) by omega), decide_eq_true k2, decide_eq_true (show e.y - 1 ≤ y by omega)]; rfl
        · rw [decide_eq_false (show ¬ ((3 : Int) = 3 ∧ e.y = y + 1) by omega), decide_eq_false k2, decide_eq_false (show ¬ e.y - 1 ≤ y by omega)]; rfl
theorem edG_orbV {n i : Nat} (h : i < n) : edG (orbK S s n) i = orbE S s i := by
  unfold edG
  rw [List.getD_eq_getElem?_getD, orbK_at S s h]
  rfl
theorem sg_zero (x y : Int) {a b : Pnt} (h : a.2 = b.2) : sgE x y a b = false := by
  unfold sgE
  rw [h]
  cases decide (x < a.1) <;> cases decide (b.2 ≤ y) <;> rfl
/-- The corners so far: the last one stands at c; what the open chain crosses. -/
theorem corn_inv (hS : Bnd S s) (n : Nat) (hn : 0 < n) (h0 : cornB (orbK S s n) 0 = true) (x y : Int) : ∀ k, k < n → ∃ (c m : Nat), c ≤ k ∧ (cornK (orbK S s n) (k + 1)).length = m + 1 ∧
    ptG (cornK (orbK S s n) (k + 1)) 0 = edP s ∧ ptG (cornK (orbK S s n) (k + 1)) m = edP (orbE S s c) ∧ (orbE S s k).d = (orbE S s c).d ∧
    (((orbE S s c).d = 1 ∨ (orbE S s c).d = 3) → (orbE S s (k + 1)).x = (orbE S s c).x) ∧ (((orbE S s c).d = 0 ∨ (orbE S s c).d = 2) → (orbE S s (k + 1)).y = (orbE S s c).y) ∧
    Bool.xor (parK (fun j => crs (pt8 (ptG (cornK (orbK S s n) (k + 1)) j)) (pt8 (ptG (cornK (orbK S s n) (k + 1)) (j + 1))) (8 * x + 4) (8 * y + 4)) m) (sgE x y (edP (orbE S s c)) (edP (orbE S s (k + 1)))) = parK (fun i => vE x y (orbE S s i)) (k + 1) := by
  have stp : ∀ i, (orbE S s (i + 1)).x = (orbE S s i).x + dxE (orbE S s i).d ∧ (orbE S s (i + 1)).y = (orbE S s i).y + dyE (orbE S s i).d := fun i => by
    obtain ⟨h1, h2, _⟩ := next_cases (orb_bnd hS i)
    exact ⟨h1, h2⟩
  have vrt : ∀ i, ((orbE S s i).d = 1 ∨ (orbE S s i).d = 3) → (orbE S s (i + 1)).x = (orbE S s i).x := fun i h => by
    rw [(stp i).1]
    rcases h with h | h <;> rw [h] <;> show _ + 0 = _ <;> omega
  have hrz : ∀ i, ((orbE S s i).d = 0 ∨ (orbE S s i).d = 2) → (orbE S s (i + 1)).y = (orbE S s i).y := fun i h => by
    rw [(stp i).2]
    rcases h with h | h <;> rw [h] <;> show _ + 0 = _ <;> omega
  have vst : ∀ i, vE x y (orbE S s i) = sgE x y (edP (orbE S s i)) (edP (orbE S s (i + 1))) := fun i => vE_step (orb_bnd hS i).1 (stp i).1 (stp i).2 x y
  intro k
  induction k with
  | zero =>
    intro hk
    have e1 : cornK (orbK S s n) 1 = [edP s] := by
      show [] ++ (if cornB (orbK S s n) 0 = true then [((edG (orbK S s n) 0).x, (edG (orbK S s n) 0).y)] else []) = _
      rw [if_pos h0, edG_orbV hk]
      rfl
    rw [e1]
    refine ⟨0, 0, Nat.le_refl _, rfl, rfl, rfl, rfl, vrt 0, hrz 0, ?_⟩
    show Bool.xor false (sgE x y _ _) = Bool.xor false (vE x y (orbE S s 0))
    rw [vst 0]
  | succ k ih =>
    intro hk
    obtain ⟨c, m, hc, hl, hp0, hpm, hd, hv, hh, hpar⟩ := ih (by omega)
    have em : (k + 1 + (orbK S s n).length - 1) % (orbK S s n).length = k := by
      rw [orbK_len, show k + 1 + n - 1 = k + n by omega, Nat.add_mod_right, Nat.mod_eq_of_lt (by omega)]
    have hcb : cornB (orbK S s n) (k + 1) = decide ((orbE S s k).d ≠ (orbE S s (k + 1)).d) := by
      unfold cornB
      rw [em, edG_orbV (by omega), edG_orbV hk]
    have hst : cornK (orbK S s n) (k + 1 + 1) = cornK (orbK S s n) (k + 1) ++ (if cornB (orbK S s n) (k + 1) = true then [((edG (orbK S s n) (k + 1)).x, (edG (orbK S s n) (k + 1)).y)] else []) := rfl
    rw [edG_orbV hk, hcb] at hst
    by_cases hcn : (orbE S s k).d ≠ (orbE S s (k + 1)).d
    · rw [decide_eq_true hcn, if_pos rfl] at hst
      generalize hC : cornK (orbK S s n) (k + 1) = C at *
      rw [hst]
      have hget : ∀ j, j ≤ m → ptG (C ++ [((orbE S s (k + 1)).x, (orbE S s (k + 1)).y)]) j = ptG C j := fun j hj => by
        unfold ptG
        rw [List.getD_eq_getElem?_getD, List.getD_eq_getElem?_getD, List.getElem?_append_left (by omega)]
      have hlast : ptG (C ++ [((orbE S s (k + 1)).x, (orbE S s (k + 1)).y)]) (m + 1) = edP (orbE S s (k + 1)) := by
        unfold ptG
        rw [List.getD_eq_getElem?_getD, List.getElem?_append_right (by omega), hl, Nat.sub_self]
        rfl
      refine ⟨k + 1, m + 1, Nat.le_refl _, by rw [List.length_append, hl]; rfl, by rw [hget 0 (Nat.zero_le _)]; exact hp0, hlast, rfl, vrt (k + 1), hrz (k + 1), ?_⟩
      have hax : crs (pt8 (edP (orbE S s c))) (pt8 (edP (orbE S s (k + 1)))) (8 * x + 4) (8 * y + 4) = sgE x y (edP (orbE S s c)) (edP (orbE S s (k + 1))) := by
        refine crs_axis ?_ x y
        rcases dir4 (orb_bnd hS c).1 with h | h | h | h
        · exact .inr (hh (.inl h)).symm
        · exact .inl (hv (.inl h)).symm
        · exact .inr (hh (.inr h)).symm
        · exact .inl (hv (.inr h)).symm
      show Bool.xor (Bool.xor (parK _ m) (crs (pt8 (ptG (C ++ [((orbE S s (k + 1)).x, (orbE S s (k + 1)).y)]) m)) (pt8 (ptG (C ++ [((orbE S s (k + 1)).x, (orbE S s (k + 1)).y)]) (m + 1))) (8 * x + 4) (8 * y + 4))) _ = Bool.xor (parK _ (k + 1)) (vE x y (orbE S s (k + 1)))
      rw [hget m (Nat.le_refl _), hlast, hpm, hax, vst (k + 1), ← hpar]
      congr 2
      refine parK_congr m fun j hj => ?_
      show crs (pt8 (ptG (C ++ _) j)) (pt8 (ptG (C ++ _) (j + 1))) _ _ = _
      rw [hget j (by omega), hget (j + 1) (by omega)]
    · have hdd : (orbE S s (k + 1)).d = (orbE S s c).d := by
        have : (orbE S s k).d = (orbE S s (k + 1)).d := Classical.not_not.1 hcn
        rw [← this, hd]
      rw [decide_eq_false hcn, if_neg (by decide), List.append_nil] at hst
      rw [hst]
      refine ⟨c, m, by omega, hl, hp0, hpm, hdd, fun h => ?_, fun h => ?_, ?_⟩
      · rw [vrt (k + 1) (by rw [hdd]; exact h), hv h]
      · rw [hrz (k + 1) (by rw [hdd]; exact h), hh h]
      · show _ = Bool.xor (parK (fun i => vE x y (orbE S s i)) (k + 1)) (vE x y (orbE S s (k + 1)))
        rw [← hpar, Bool.xor_assoc]
        congr 1
        rw [vst (k + 1)]
        rcases dir4 (orb_bnd hS c).1 with h | h | h | h
        · have a1 := hh (.inl h)
          have a2 := hrz (k + 1) (by rw [hdd]; exact .inl h)
          rw [sg_zero x y (a := edP (orbE S s c)) (b := edP (orbE S s (k + 1 + 1))) (show _ = _ from (a2.trans a1).symm), sg_zero x y (a := edP (orbE S s c)) (b := edP (orbE S s (k + 1))) (show _ = _ from a1.symm), sg_zero x y (a := edP (orbE S s (k + 1))) (b := edP (orbE S s (k + 1 + 1))) (show _ = _ from a2.symm)]
          rfl
        · have a1 := hv (.inl h)
          unfold sgE edP
          simp only
          rw [a1]
          cases decide (x < (orbE S s c).x) <;> cases decide ((orbE S s c).y ≤ y) <;> cases decide ((orbE S s (k + 1)).y ≤ y) <;> cases decide ((orbE S s (k + 1 + 1)).y ≤ y) <;> rfl
        · have a1 := hh (.inr h)
          have a2 := hrz (k + 1) (by rw [hdd]; exact .inr h)
          rw [sg_zero x y (a := edP (orbE S s c)) (b := edP (orbE S s (k + 1 + 1))) (show _ = _ from (a2.trans a1).symm), sg_zero x y (a := edP (orbE S s c)) (b := edP (orbE S s (k + 1))) (show _ = _ from a1.symm), sg_zero x y (a := edP (orbE S s (k + 1))) (b := edP (orbE S s (k + 1 + 1))) (show _ = _ from a2.symm)]
          rfl
        · have a1 := hv (.inr h)
          unfold sgE edP
          simp only
          rw [a1]
          cases decide (x < (orbE S s c).x) <;> cases decide ((orbE S s c).y ≤ y) <;> cases decide ((orbE S s (k + 1)).y ≤ y) <;> cases decide ((orbE S s (k + 1 + 1)).y ≤ y) <;> rfl
/-- The polygon of a closed list of edges crosses what its edges cross. -/
theorem corn_odd (hb : BoxE S r) (hS : Bnd S s) (h0 : cornB (folE S r s) 0 = true) (x y : Int) : oddG (cornG (folE S r s)) (8 * x + 4) (8 * y + 4) = parK (fun i => vE x y (orbE S s i)) (perE S r s) := by
  obtain ⟨hp, h1, h2, h3⟩ := perE_spec hb hS
  unfold folE at h0 ⊢
  generalize perE S r s = n at *
  obtain ⟨c, m, hc, hl, hp0, hpm, hd, hv, hh, hpar⟩ := corn_inv hS n (by omega) h0 x y (n - 1) (by omega)
  rw [show n - 1 + 1 = n by omega] at *
  unfold cornG
  rw [orbK_len]
  rw [← hpar]
  generalize cornK (orbK S s n) n = C at *
  unfold oddG
  rw [hl]
  show Bool.xor (parK (edgeB C (8 * x + 4) (8 * y + 4)) m) (edgeB C (8 * x + 4) (8 * y + 4) m) = _
  have e1 : edgeB C (8 * x + 4) (8 * y + 4) m = sgE x y (edP (orbE S s c)) (edP (orbE S s n)) := by
    have hend : edP (orbE S s n) = edP s := by rw [hp]
    unfold edgeB
    rw [hl, Nat.mod_self, hpm, hp0, ← hend]
    refine crs_axis ?_ x y
    rcases dir4 (orb_bnd hS c).1 with h | h | h | h
    · exact .inr (hh (.inl h)).symm
    · exact .inl (hv (.inl h)).symm
    · exact .inr (hh (.inr h)).symm
    · exact .inl (hv (.inr h)).symm
  rw [e1]
  congr 1
  refine parK_congr m fun j hj => ?_
  unfold edgeB
  rw [hl, Nat.mod_eq_of_lt (by omega)]
end
/- Plain: the scan finds every edge of the boundary once; the polygons filled give back the set. -/
def xorE (h : Ed → Bool) : List Ed → Bool
  | [] => false
  | e :: L => Bool.xor (h e) (xorE h L)
theorem xorE_append (h : Ed → Bool) (M : List Ed) : ∀ L, xorE h (L ++ M) = Bool.xor (xorE h L) (xorE h M)
  | [] => by show xorE h M = Bool.xor false _; cases xorE h M <;> rfl
  | e :: L => by
    show Bool.xor (h e) (xorE h (L ++ M)) = Bool.xor (Bool.xor (h e) (xorE h L)) _
    rw [xorE_append h M L, Bool.xor_assoc]
theorem xorE_orb (h : Ed → Bool) (S : Int → Int → Bool) (s : Ed) : ∀ n, xorE h (orbK S s n) = parK (fun i => h (orbE S s i)) n
  | 0 => rfl
  | n + 1 => by
    rw [orbK_snoc, xorE_append, xorE_orb h S s n]
    show Bool.xor _ (Bool.xor (h (orbE S s n)) false) = Bool.xor _ (h (orbE S s n))
    cases h (orbE S s n) <;> rfl
def inPB (LL : List (List Pnt)) (u v : Int) : Bool := parK (fun i => oddG (LL.getD i []) u v) LL.length
theorem inPB_snoc (LL : List (List Pnt)) (c : List Pnt) (u v : Int) : inPB (LL ++ [c]) u v = Bool.xor (inPB LL u v) (oddG c u v) := by
  unfold inPB
  rw [List.length_append]
  show Bool.xor (parK (fun i => oddG ((LL ++ [c]).getD i []) u v) LL.length) (oddG ((LL ++ [c]).getD LL.length []) u v) = _
  have e : (LL ++ [c]).getD LL.length [] = c := by
    rw [List.getD_eq_getElem?_getD, List.getElem?_append_right (Nat.le_refl _), Nat.sub_self]
    rfl
  rw [e]
  congr 1
  refine parK_congr _ fun i hi => ?_
  rw [List.getD_eq_getElem?_getD, List.getElem?_append_left hi, ← List.getD_eq_getElem?_getD]
section
variable {S : Int → Int → Bool} {r : Rc}
def CloE (S : Int → Int → Bool) (L : List Ed) : Prop := ∀ e, Bnd S e → (nextE S e ∈ L ↔ e ∈ L)
theorem clo_orb {L : List Ed} (hc : CloE S L) {e : Ed} (he : Bnd S e) : ∀ n, orbE S e n ∈ L ↔ e ∈ L
  | 0 => Iff.rfl
  | n + 1 => (hc _ (orb_bnd he n)).trans (clo_orb hc he n)
theorem mem_fol {s e : Ed} : e ∈ folE S r s ↔ ∃ i, i < perE S r s ∧ orbE S s i = e := by
  unfold folE orbK
  rw [List.mem_map]
  exact ⟨fun ⟨i, hi, h⟩ => ⟨i, List.mem_range.1 hi, h⟩, fun ⟨i, hi, h⟩ => ⟨i, List.mem_range.2 hi, h⟩⟩
theorem fol_clo (hb : BoxE S r) {s : Ed} (hs : Bnd S s) : CloE S (folE S r s) := by
  obtain ⟨hp, h1, _, _⟩ := perE_spec hb hs
  intro e he
  rw [mem_fol, mem_fol]
  constructor
  · rintro ⟨i, hi, h⟩
    cases i with
    | zero =>
      refine ⟨perE S r s - 1, by omega, ?_⟩
      refine next_inj (orb_bnd hs _) he ?_
      have : orbE S s (perE S r s - 1 + 1) = nextE S e := by rw [show perE S r s - 1 + 1 = perE S r s by omega, hp]; exact h
      exact this
    | succ i => exact ⟨i, by omega, next_inj (orb_bnd hs i) he h⟩
  · rintro ⟨i, hi, rfl⟩
    by_cases hl : i + 1 < perE S r s
    · exact ⟨i + 1, hl, rfl⟩
    · refine ⟨0, by omega, ?_⟩
      have : orbE S s (i + 1) = s := by rw [show i + 1 = perE S r s by omega]; exact hp
      exact this.symm
theorem fol_nodup (hb : BoxE S r) {s : Ed} (hs : Bnd S s) : (folE S r s).Nodup := by
  obtain ⟨hp, h1, _, h3⟩ := perE_spec hb hs
  unfold folE orbK List.Nodup
  rw [List.pairwise_map]
  refine List.pairwise_lt_range.imp_of_mem fun {i j} hi hj hij e => ?_
  have hj := List.mem_range.1 hj
  have := orb_back hs i (j - i) (by rw [show i + (j - i) = j by omega]; exact e)
  exact h3 (j - i) (by omega) (by omega) this.symm
/-- What holds between two steps of the scan. -/
structure ScI (S : Int → Int → Bool) (st : ScSt) : Prop where
  nd : st.1.Nodup
  bn : ∀ e ∈ st.1, Bnd S e
  cl : CloE S st.1
  par : ∀ x y, inPB st.2 (8 * x + 4) (8 * y + 4) = xorE (vE x y) st.1
/-- All edges to the right that lie ahead of the place are done. -/
def ScP (S : Int → Int → Bool) (st : ScSt) (x y : Int) : Prop := ∀ e, Bnd S e → e.d = 0 → (e.y < y ∨ e.y = y ∧ e.x < x) → e ∈ st.1
theorem sci_nil : ScI S ([], []) := ⟨List.Pairwise.nil, fun e h => (by cases h), fun e _ => ⟨fun h => (by cases h), fun h => by cases h⟩, fun x y => rfl⟩
theorem scan1_inv (hb : BoxE S r) {st : ScSt} (hI : ScI S st) {x y : Int} (hP : ScP S st x y) : ScI S (scan1 S r st x y) ∧ ScP S (scan1 S r st x y) (x + 1) y := by
  unfold scan1
  by_cases hsk : (decide ((⟨x, y, 0⟩ : Ed) ∈ st.1) || !hasE S x y 0) = true
  · rw [if_pos hsk]
    refine ⟨hI, fun e he hd hl => ?_⟩
    by_cases hl2 : e.y < y ∨ e.y = y ∧ e.x < x
    · exact hP e he hd hl2
    · obtain ⟨ex, ey, ed⟩ := e
      simp only at hd hl hl2
      have : ey = y ∧ ex = x := by omega
      obtain ⟨rfl, rfl⟩ := this
      subst hd
      rcases Bool.or_eq_true_iff.1 hsk with h | h
      · exact of_decide_eq_true h
      · have := he.2
        simp only at this
        rw [this] at h
        cases h
  · rw [if_neg hsk]
    have hsk' : (decide ((⟨x, y, 0⟩ : Ed) ∈ st.1) || !hasE S x y 0) = false := by simpa using hsk
    obtain ⟨h1, h2⟩ := Bool.or_eq_false_iff.1 hsk'
    have hni : (⟨x, y, 0⟩ : Ed) ∉ st.1 := of_decide_eq_false h1
    have hh : hasE S x y 0 = true := by simpa using h2
    have hs : Bnd S ⟨x, y, 0⟩ := ⟨by simp, hh⟩
    obtain ⟨hp, p1, p2, p3⟩ := perE_spec hb hs
    have hout : ∀ e ∈ folE S r ⟨x, y, 0⟩, e ∉ st.1 := fun e he hm => by
      obtain ⟨i, _, rfl⟩ := mem_fol.1 he
      exact hni ((clo_orb hI.cl hs i).1 hm)
    have hbn : ∀ e ∈ folE S r ⟨x, y, 0⟩, Bnd S e := fun e he => by
      obtain ⟨i, _, rfl⟩ := mem_fol.1 he
      exact orb_bnd hs i
    have hc0 : cornB (folE S r ⟨x, y, 0⟩) 0 = true := by
      unfold cornB
      refine decide_eq_true ?_
      have hlen : (folE S r ⟨x, y, 0⟩).length = perE S r ⟨x, y, 0⟩ := orbK_len _ _ _
      rw [hlen, Nat.zero_add, Nat.mod_eq_of_lt (by omega)]
      unfold folE
      rw [edG_orbV (by omega), edG_orbV (by omega)]
      intro hd
      have hd : (orbE S ⟨x, y, 0⟩ (perE S r ⟨x, y, 0⟩ - 1)).d = 0 := hd
      obtain ⟨n1, n2, _, _⟩ := next_cases (orb_bnd hs (perE S r ⟨x, y, 0⟩ - 1))
      have hnx : nextE S (orbE S ⟨x, y, 0⟩ (perE S r ⟨x, y, 0⟩ - 1)) = ⟨x, y, 0⟩ := by
        have : orbE S ⟨x, y, 0⟩ (perE S r ⟨x, y, 0⟩ - 1 + 1) = ⟨x, y, 0⟩ := by rw [show perE S r ⟨x, y, 0⟩ - 1 + 1 = perE S r ⟨x, y, 0⟩ by omega]; exact hp
        exact this
      rw [hnx, hd] at n1 n2
      have n1 : x = _ + 1 := n1
      have n2 : y = _ + 0 := n2
      have hm := hP _ (orb_bnd hs (perE S r ⟨x, y, 0⟩ - 1)) hd (.inr ⟨by omega, by omega⟩)
      exact hni ((clo_orb hI.cl hs _).1 hm)
    refine ⟨⟨?_, ?_, ?_, ?_⟩, ?_⟩
    · exact List.pairwise_append.2 ⟨hI.nd, fol_nodup hb hs, fun a ha b hbm e => hout b hbm (e ▸ ha)⟩
    · intro e he
      rcases List.mem_append.1 he with he | he
      · exact hI.bn e he
      · exact hbn e he
    · intro e he
      show nextE S e ∈ st.1 ++ folE S r _ ↔ e ∈ st.1 ++ folE S r _
      rw [List.mem_append, List.mem_append, hI.cl e he, fol_clo hb hs e he]
    · intro a b
      show inPB (st.2 ++ [_]) _ _ = xorE _ (st.1 ++ _)
      rw [inPB_snoc, xorE_append, hI.par, corn_odd hb hs hc0]
      congr 1
      exact (xorE_orb _ _ _ _).symm
    · intro e he hd hl
      refine List.mem_append.2 ?_
      by_cases hl2 : e.y < y ∨ e.y = y ∧ e.x < x
      · exact .inl (hP e he hd hl2)
      · obtain ⟨ex, ey, ed⟩ := e
        simp only at hd hl hl2
        have : ey = y ∧ ex = x := by omega
        obtain ⟨rfl, rfl⟩ := this
        subst hd
        exact .inr (mem_fol.2 ⟨0, by omega, rfl⟩)
theorem scanX_inv (hb : BoxE S r) {st : ScSt} (hI : ScI S st) {y : Int} (hP : ScP S st r.x0 y) : ∀ k, ScI S (scanX S r y st k) ∧ ScP S (scanX S r y st k) (r.x0 + (k : Int)) y
  | 0 => ⟨hI, by rw [show r.x0 + ((0 : Nat) : Int) = r.x0 by omega]; exact hP⟩
  | k + 1 => by
    obtain ⟨h1, h2⟩ := scanX_inv hb hI hP k
    have := scan1_inv hb h1 h2
    rw [show r.x0 + (k : Int) + 1 = r.x0 + ((k + 1 : Nat) : Int) by omega] at this
    exact this
theorem scanY_inv (hb : BoxE S r) (hin : ∀ x y, S x y = true → hasR r x y = true) (hx : r.x0 ≤ r.x1) : ∀ k, ScI S (scanY S r k) ∧ ScP S (scanY S r k) r.x0 (r.y0 + (k : Int))
  | 0 => by
    refine ⟨sci_nil, fun e he hd hl => ?_⟩
    have hh := he.2
    rw [hd, has0, Bool.and_eq_true_iff] at hh
    have := of_decide_eq_true (hin _ _ hh.1)
    omega
  | k + 1 => by
    obtain ⟨h1, h2⟩ := scanY_inv hb hin hx k
    obtain ⟨k1, k2⟩ := scanX_inv hb h1 h2 (r.x1 - r.x0).toNat
    refine ⟨k1, fun e he hd hl => k2 e he hd ?_⟩
    have hh := he.2
    rw [hd, has0, Bool.and_eq_true_iff] at hh
    have := of_decide_eq_true (hin _ _ hh.1)
    omega
theorem orb_add {e : Ed} {p : Nat} (h : orbE S e p = e) : ∀ i, orbE S e (i + p) = orbE S e i
  | 0 => by rw [Nat.zero_add]; exact h
  | i + 1 => by
    rw [show i + 1 + p = (i + p) + 1 by omega]
    show nextE S (orbE S e (i + p)) = nextE S (orbE S e i)
    rw [orb_add h i]
theorem orb_mul {e : Ed} {p : Nat} (h : orbE S e p = e) : ∀ m, orbE S e (m * p) = e
  | 0 => by rw [Nat.zero_mul]; rfl
  | m + 1 => by rw [Nat.add_mul, Nat.one_mul, orb_add h, orb_mul h m]
/-- An edge up or down: going round one goes right somewhere. -/
theorem orb_right (hb : BoxE S r) {e : Ed} (he : Bnd S e) (hd : e.d = 1 ∨ e.d = 3) : ∃ i, (orbE S e i).d = 0 := by
  refine Classical.byContradiction fun hno => ?_
  have hn : ∀ i, (orbE S e i).d ≠ 0 := fun i h => hno ⟨i, h⟩
  obtain ⟨p, hp0, _, hp⟩ := orb_per hb he
  have stp := fun i => next_cases (orb_bnd he i)
  have h1 : ∀ i j, (orbE S e (i + j)).x ≤ (orbE S e i).x := by
    intro i j
    induction j with
    | zero => exact Int.le_refl _
    | succ j ih =>
      have hx : (orbE S e (i + j + 1)).x = (orbE S e (i + j)).x + dxE (orbE S e (i + j)).d := (stp (i + j)).1
      have : dxE (orbE S e (i + j)).d ≤ 0 := by
        unfold dxE
        rw [if_neg (hn _)]
        split <;> omega
      rw [show i + (j + 1) = i + j + 1 by omega]
      omega
  have hc : ∀ i, (orbE S e i).x = e.x := fun i => by
    have a := h1 0 i
    have b := h1 i (i * p - i)
    have hip : i ≤ i * p := Nat.le_mul_of_pos_right i hp0
    rw [show i + (i * p - i) = i * p by omega, orb_mul hp i] at b
    rw [Nat.zero_add] at a
    have a : (orbE S e i).x ≤ e.x := a
    omega
  have h2 : ∀ i, (orbE S e i).d ≠ 2 := fun i h => by
    have hx : (orbE S e (i + 1)).x = (orbE S e i).x + dxE (orbE S e i).d := (stp i).1
    rw [hc, hc, h] at hx
    have hx : e.x = e.x + -1 := hx
    omega
  rcases hd with hd | hd
  · have key : ∀ i, (orbE S e i).d = 1 ∧ (orbE S e i).y = e.y + (i : Int) := by
      intro i
      induction i with
      | zero => exact ⟨hd, by show e.y = e.y + ((0 : Nat) : Int); omega⟩
      | succ i ih =>
        obtain ⟨_, c2, _, c4⟩ := stp i
        have n0 : (nextE S (orbE S e i)).d ≠ 0 := hn (i + 1)
        have n2 : (nextE S (orbE S e i)).d ≠ 2 := h2 (i + 1)
        have hdd : (nextE S (orbE S e i)).d = 1 := by
          rcases c4 with ⟨c, _⟩ | ⟨c, _⟩ | ⟨c, _⟩ <;> rw [ih.1] at c <;> omega
        have hyy : (nextE S (orbE S e i)).y = (orbE S e i).y + 1 := by rw [c2, ih.1]; rfl
        exact ⟨hdd, by show (nextE S (orbE S e i)).y = _; rw [hyy, ih.2]; omega⟩
    have := (key p).2
    rw [hp] at this
    omega
  · have key : ∀ i, (orbE S e i).d = 3 ∧ (orbE S e i).y = e.y - (i : Int) := by
      intro i
      induction i with
      | zero => exact ⟨hd, by show e.y = e.y - ((0 : Nat) : Int); omega⟩
      | succ i ih =>
        obtain ⟨_, c2, _, c4⟩ := stp i
        have n0 : (nextE S (orbE S e i)).d ≠ 0 := hn (i + 1)
        have n2 : (nextE S (orbE S e i)).d ≠ 2 := h2 (i + 1)
        have hdd : (nextE S (orbE S e i)).d = 3 := by
          rcases c4 with ⟨c, _⟩ | ⟨c, _⟩ | ⟨c, _⟩ <;> rw [ih.1] at c <;> omega
        have hyy : (nextE S (orbE S e i)).y = (orbE S e i).y + -1 := by rw [c2, ih.1]; rfl
        exact ⟨hdd, by show (nextE S (orbE S e i)).y = _; rw [hyy, ih.2]; omega⟩
    have := (key p).2
    rw [hp] at this
    omega
/-- The scan at its end. -/
def scanE (S : Int → Int → Bool) (r : Rc) : ScSt := scanY S r (r.y1 - r.y0).toNat
theorem scan_end (hb : BoxE S r) (hin : ∀ x y, S x y = true → hasR r x y = true) (hx : r.x0 ≤ r.x1) (hy : r.y0 ≤ r.y1) : ScI S (scanE S r) ∧ ∀ e, Bnd S e → e.d = 1 ∨ e.d = 3 → e ∈ (scanE S r).1 := by
  obtain ⟨h1, h2⟩ := scanY_inv hb hin hx (r.y1 - r.y0).toNat
  refine ⟨h1, fun e he hd => ?_⟩
  obtain ⟨i, hi⟩ := orb_right hb he hd
  have hbi := orb_bnd he i
  have hh := hbi.2
  rw [hi, has0, Bool.and_eq_true_iff] at hh
  have hr := of_decide_eq_true (hin _ _ hh.1)
  exact (clo_orb h1.cl he i).1 (h2 _ hbi hi (.inl (by omega)))
theorem parK_ind (j0 : Nat) : ∀ N, parK (fun j => decide (j = j0)) N = decide (j0 < N)
  | 0 => rfl
  | N + 1 => by
    show Bool.xor (parK (fun j => decide (j = j0)) N) (decide (N = j0)) = _
    rw [parK_ind j0 N]
    by_cases h : j0 < N
    · rw [decide_eq_true h, decide_eq_false (show ¬ N = j0 by omega), decide_eq_true (show j0 < N + 1 by omega)]; rfl
    · by_cases h2 : N = j0
      · rw [decide_eq_false h, decide_eq_true h2, decide_eq_true (show j0 < N + 1 by omega)]; rfl
      · rw [decide_eq_false h, decide_eq_false h2, decide_eq_false (show ¬ j0 < N + 1 by omega)]; rfl
theorem parK_xor (f g : Nat → Bool) : ∀ N, parK (fun j => Bool.xor (f j) (g j)) N = Bool.xor (parK f N) (parK g N)
  | 0 => rfl
  | N + 1 => by
    show Bool.xor (parK (fun j => Bool.xor (f j) (g j)) N) (Bool.xor (f N) (g N)) = Bool.xor (Bool.xor (parK f N) (f N)) (Bool.xor (parK g N) (g N))
    rw [parK_xor f g N]
    cases parK f N <;> cases parK g N <;> cases f N <;> cases g N <;> rfl
def cdA (x y : Int) (j : Nat) : Ed := ⟨x + 1 + (j : Int), y, 1⟩
def cdB (x y : Int) (j : Nat) : Ed := ⟨x + 1 + (j : Int), y + 1, 3⟩
theorem cd_one {e : Ed} {x y : Int} {N : Nat} (hN : e.x ≤ x + (N : Int)) : parK (fun j => Bool.xor (decide (cdA x y j = e)) (decide (cdB x y j = e))) N = vE x y e := by
  obtain ⟨ex, ey, ed⟩ := e
  simp only at hN
  unfold vE
  simp only
  by_cases h1 : ed = 1 ∧ ey = y
  · obtain ⟨rfl, rfl⟩ := h1
    have hf : ∀ j : Nat, Bool.xor (decide (cdA x ey j = ⟨ex, ey, 1⟩)) (decide (cdB x ey j = ⟨ex, ey, 1⟩)) = decide (x + 1 + (j : Int) = ex) := fun j => by
      unfold cdA cdB
      simp only [Ed.mk.injEq]
      rw [decide_eq_false (show ¬ (x + 1 + (j : Int) = ex ∧ ey + 1 = ey ∧ (3 : Int) = 1) by omega)]
      simp
    rw [parK_congr N fun j _ => hf j]
    rw [decide_eq_true (show (1 : Int) = 1 ∧ ey = ey from ⟨rfl, rfl⟩)]
    by_cases hx : x < ex
    · rw [decide_eq_true hx, parK_congr (g := fun j => decide (j = (ex - x - 1).toNat)) N (fun j _ => by
        by_cases k : x + 1 + (j : Int) = ex
        · rw [decide_eq_true k, decide_eq_true (by omega)]
        · rw [decide_eq_false k, decide_eq_false (by omega)]), parK_ind, decide_eq_true (by omega)]
      rfl
    · rw [decide_eq_false hx, parK_congr (g := fun _ => false) N (fun j _ => decide_eq_false (by omega))]
      exact parK_false (fun _ => rfl) N
  · by_cases h2 : ed = 3 ∧ ey = y + 1
    · obtain ⟨rfl, rfl⟩ := h2
      have hf : ∀ j : Nat, Bool.xor (decide (cdA x y j = ⟨ex, y + 1, 3⟩)) (decide (cdB x y j = ⟨ex, y + 1, 3⟩)) = decide (x + 1 + (j : Int) = ex) := fun j => by
        unfold cdA cdB
        simp only [Ed.mk.injEq]
        rw [decide_eq_false (show ¬ (x + 1 + (j : Int) = ex ∧ y = y + 1 ∧ (1 : Int) = 3) by omega)]
        simp
      rw [parK_congr N fun j _ => hf j]
      rw [decide_eq_false h1, decide_eq_true (show (3 : Int) = 3 ∧ y + 1 = y + 1 from ⟨rfl, rfl⟩)]
      by_cases hx : x < ex
      · rw [decide_eq_true hx, parK_congr (g := fun j => decide (j = (ex - x - 1).toNat)) N (fun j _ => by
          by_cases k : x + 1 + (j : Int) = ex
          · rw [decide_eq_true k, decide_eq_true (by omega)]
          · rw [decide_eq_false k, decide_eq_false (by omega)]), parK_ind, decide_eq_true (by omega)]
        rfl
      · rw [decide_eq_false hx, parK_congr (g := fun _ => false) N (fun j _ => decide_eq_false (by omega))]
        exact parK_false (fun _ => rfl) N
    · rw [decide_eq_false h1, decide_eq_false h2, parK_congr (g := fun _ => false) N (fun j _ => by
        unfold cdA cdB
        simp only [Ed.mk.injEq]
        rw [decide_eq_false (by omega), decide_eq_false (by omega)]
        rfl)]
      rw [parK_false (fun _ => rfl) N]
      cases decide (x < ex) <;> rfl
theorem cd_all {x y : Int} {N : Nat} : ∀ (L : List Ed), L.Nodup → (∀ e ∈ L, e.x ≤ x + (N : Int)) → xorE (vE x y) L = parK (fun j => Bool.xor (decide (cdA x y j ∈ L)) (decide (cdB x y j ∈ L))) N
  | [], _, _ => by
    rw [parK_congr (g := fun _ => false) N (fun j _ => by simp)]
    exact (parK_false (fun _ => rfl) N).symm
  | e :: L, hn, hx => by
    obtain ⟨h1, h2⟩ := List.pairwise_cons.1 hn
    have ih := cd_all (x := x) (y := y) (N := N) L h2 (fun f hf => hx f (List.mem_cons_of_mem _ hf))
    have key : ∀ c : Ed, decide (c ∈ e :: L) = Bool.xor (decide (c = e)) (decide (c ∈ L)) := fun c => by
      by_cases k : c = e
      · subst k
        rw [decide_eq_true (List.mem_cons_self ..), decide_eq_true rfl, decide_eq_false (fun h => h1 c h rfl)]
        rfl
      · rw [decide_eq_false k, Bool.false_xor]
        congr 1
        exact propext (by rw [List.mem_cons]; exact ⟨fun h => h.resolve_left k, .inr⟩)
    show Bool.xor (vE x y e) (xorE (vE x y) L) = _
    rw [ih, ← cd_one (hx e (List.mem_cons_self ..)), ← parK_xor]
    refine parK_congr N fun j _ => ?_
    rw [key, key]
    cases decide (cdA x y j = e) <;> cases decide (cdB x y j = e) <;> cases decide (cdA x y j ∈ L) <;> cases decide (cdB x y j ∈ L) <;> rfl
/-- The polygons of a set filled by their parity: the set. -/
theorem outl_set (hb : BoxE S r) (hin : ∀ x y, S x y = true → hasR r x y = true) (hx : r.x0 ≤ r.x1) (hy : r.y0 ≤ r.y1) (x y : Int) : inPB (outlG S r) (8 * x + 4) (8 * y + 4) = S x y := by
  obtain ⟨hI, hv⟩ := scan_end hb hin hx hy
  have e0 : outlG S r = (scanE S r).2 := rfl
  rw [e0, hI.par]
  have hN : ∃ N : Nat, r.x1 ≤ x + (N : Int) ∧ x < x + (N : Int) := ⟨(r.x1 - x).toNat + 1, by omega, by omega⟩
  obtain ⟨N, hN1, hN2⟩ := hN
  rw [cd_all (x := x) (y := y) (N := N) _ hI.nd (fun e he => by have := hb e (hI.bn e he); omega)]
  have hm : ∀ e, e.d = 1 ∨ e.d = 3 → decide (e ∈ (scanE S r).1) = hasE S e.x e.y e.d := fun e hd => by
    by_cases h : hasE S e.x e.y e.d = true
    · rw [h]
      exact decide_eq_true (hv e ⟨by omega, h⟩ hd)
    · rw [show hasE S e.x e.y e.d = false by simpa using h]
      exact decide_eq_false fun k => h (hI.bn e k).2
  rw [parK_congr (g := fun j => Bool.xor ((fun i : Nat => S (x + (i : Int)) y) j) ((fun i : Nat => S (x + (i : Int)) y) (j + 1))) N (fun j _ => by
    rw [hm _ (.inl rfl), hm _ (.inr rfl)]
    show Bool.xor (hasE S (x + 1 + (j : Int)) y 1) (hasE S (x + 1 + (j : Int)) (y + 1) 3) = Bool.xor (S (x + (j : Int)) y) (S (x + ((j + 1 : Nat) : Int)) y)
    rw [has1, has3, show x + 1 + (j : Int) - 1 = x + (j : Int) by omega, show y + 1 - 1 = y by omega, show x + ((j + 1 : Nat) : Int) = x + 1 + (j : Int) by omega]
    cases S (x + (j : Int)) y <;> cases S (x + 1 + (j : Int)) y <;> rfl), parK_change]
  show Bool.xor (S (x + ((0 : Nat) : Int)) y) (S (x + (N : Int)) y) = S x y
  have hz : S (x + (N : Int)) y = false := by
    by_cases h : S (x + (N : Int)) y = true
    · have := of_decide_eq_true (hin _ _ h)
      omega
    · simpa using h
  rw [hz, show x + ((0 : Nat) : Int) = x by omega]
  cases S x y <;> rfl
end
/- Plain: how long the polygons of an outline are, where their corners lie. -/
/-- What holds of the corners of each closed list of edges, holds of each polygon of the outline. -/
theorem scan_each {S : Int → Int → Bool} {r : Rc} (K : List Pnt → Prop) (hK : ∀ s, Bnd S s → K (cornG (folE S r s))) : ∀ k, ∀ l ∈ (scanY S r k).2, K l := by
  have h1 : ∀ (st : ScSt) (x y : Int), (∀ l ∈ st.2, K l) → ∀ l ∈ (scan1 S r st x y).2, K l := fun st x y h => by
    unfold scan1
    by_cases hc : (decide ((⟨x, y, 0⟩ : Ed) ∈ st.1) || !hasE S x y 0) = true
    · rw [if_pos hc]; exact h
    · rw [if_neg hc]
      simp only [Bool.or_eq_true, not_or, Bool.not_eq_true', Bool.not_eq_false] at hc
      intro l hl
      rcases List.mem_append.1 hl with hl | hl
      · exact h l hl
      · rw [List.mem_singleton.1 hl]
        exact hK _ ⟨⟨Int.le_refl _, by show (0 : Int) ≤ 3; omega⟩, hc.2⟩
  have h2 : ∀ (st : ScSt) (y : Int), (∀ l ∈ st.2, K l) → ∀ k, ∀ l ∈ (scanX S r y st k).2, K l := fun st y h k => by
    induction k with
    | zero => exact h
    | succ k ih => exact h1 _ _ _ ih
  intro k
  induction k with
  | zero => intro l hl; cases hl
  | succ k ih => exact h2 _ _ ih _
theorem outl_each {S : Int → Int → Bool} {r : Rc} (K : List Pnt → Prop) (hK : ∀ s, Bnd S s → K (cornG (folE S r s))) : ∀ l ∈ outlG S r, K l := scan_each K hK _
theorem corn_fol_len {S : Int → Int → Bool} {r : Rc} (hb : BoxE S r) {s : Ed} (h : Bnd S s) : (cornG (folE S r s)).length ≤ boxN r := by
  have h1 := cornK_len (folE S r s) (folE S r s).length
  have h2 := (perE_spec hb h).2.2.1
  have h3 : (folE S r s).length = perE S r s := orbK_len _ _ _
  unfold cornG
  omega
theorem outl_len {S : Int → Int → Bool} {r : Rc} (hb : BoxE S r) : (outlG S r).length ≤ (r.y1 - r.y0).toNat * (r.x1 - r.x0).toNat ∧ ∀ l ∈ outlG S r, l.length ≤ boxN r :=
  ⟨(scanY_len hb _).2, outl_each _ fun s h => corn_fol_len hb h⟩
theorem corn_mem (l : List Ed) : ∀ k, ∀ p ∈ cornK l k, ∃ i, i < k ∧ p = ((edG l i).x, (edG l i).y)
  | 0 => fun p h => by cases h
  | k + 1 => fun p h => by
    have h : p ∈ cornK l k ++ (if cornB l k = true then [((edG l k).x, (edG l k).y)] else []) := h
    rcases List.mem_append.1 h with h | h
    · obtain ⟨i, hi, e⟩ := corn_mem l k p h
      exact ⟨i, by omega, e⟩
    · split at h
      · exact ⟨k, by omega, List.mem_singleton.1 h⟩
      · cases h
/-- The corners lie within the box. -/
theorem outl_in {S : Int → Int → Bool} {r : Rc} (hb : BoxE S r) : ∀ l ∈ outlG S r, ∀ p ∈ l, r.x0 ≤ p.1 ∧ p.1 ≤ r.x1 ∧ r.y0 ≤ p.2 ∧ p.2 ≤ r.y1 :=
  outl_each _ fun s h p hp => by
    obtain ⟨i, hi, rfl⟩ := corn_mem _ _ p hp
    have h3 : (folE S r s).length = perE S r s := orbK_len _ _ _
    have e : edG (folE S r s) i = orbE S s i := edG_orb S s (by omega)
    rw [e]
    exact hb _ (orb_bnd h i)
end Go.Proofs.Ytamgpfblhlfhaaa
/- For Inside: no polygon is bad; lists of polygons put together. -/
namespace Go.Proofs.Ytamgpfblhlfhaaa
open Go.RowKit Go.Shelf Pl
set_option linter.unusedVariables false
set_option linter.unusedSimpArgs false
set_option maxRecDepth 20000
theorem near_any {l : List Pnt} (h : nearL l) : (l.any fun p => farP p) = false := any_no fun i hi => h _ (ptG_mem hi)
theorem P_ContainsFarO (v : Value) (l : List Pnt) (b : Bool) (w : World) (h : RSE ptE v l w) (hn : l.length ≤ maxLen) (e : (l.any fun p => farP p) = b) : Calls Try.prog 39 #[v, .func (.func 40) #[] #[]] w fun e w' => e = .returned (.bool b) ∧ Below w.heap.size w w' := e ▸ P_ContainsFar v l w h hn
theorem P_inBad (v : Value) (l : List Pnt) (w : World) (h : RSE ptE v l w) (hn : l.length ≤ 4096) (hnear : nearL l) : Calls Try.prog 78 #[v] w fun e w' => e = .returned (.bool false) ∧ Below w.heap.size w w' := by
  have B := Below.refl w.heap.size w
  obtain ⟨a, c, rfl, hc⟩ := h.len
  have HA := Lib.hid (near_any hnear)
  have q1 : decide ((4096 : Int) < (l.length : Int)) = false := decide_eq_false (by omega)
  have hm : l.length ≤ maxLen := by unfold maxLen; omega
  clear hnear
  go_enter Try.func78, Try.ntmps78
  go_upto_region 1 with fail
  refine wp_region_lit ?_
  try simp only [gelS]
  refine wpList_chunk 1 (by kernel_rfl) ?_
  simp only [takS, Nat.reduceAdd]
  repeat (first | go_big_quiet_skip | (go_big_quiet_want; first | (go_big_quiet_op; go_big_quiet_on)))
  refine wpQuiet_nil ?_
  refine wpList_lenS (by first | rfl | simp [Region.wanted, yielded]) rfl Try.underlying22 rfl ?_
  simp only [putS]
  refine wpList_chunk 3 (by kernel_rfl) ?_
  simp only [takS, Nat.reduceAdd]
  repeat (first | go_big_quiet_skip | (go_big_quiet_want; first | (go_big_quiet_op; go_big_quiet_on)))
  refine wpQuiet_nil ?_
  refine wpList_callF (by first | rfl | simp [Region.wanted, yielded]) rfl (enters_of Try.func39 (by kernel_rfl) rfl) (by simp only [List.map_toArray, List.map_cons, List.map_nil, Act.eval, Array.getD_eq_getD_getElem?, List.getElem?_toArray, List.getElem?_cons_succ, List.getElem?_cons_zero, Option.getD_some]; rfl) ?_
  refine (P_ContainsFarO _ l false _ h hm HA.out).mono ?_
  rintro e wn ⟨rfl, hbn⟩
  have hsz := B.size
  have hzn := hbn.size
  replace B := B.trans (hbn.mono B.size)
  refine ⟨_, rfl, ?_⟩
  simp only [putS]
  refine wpList_chunk 2 (by kernel_rfl) ?_
  simp only [takS, Nat.reduceAdd]
  repeat (first | go_big_quiet_skip | (go_big_quiet_want; first | (go_big_quiet_op; go_big_quiet_on)))
  refine wpQuiet_nil ?_
  refine wpList_nil ?_
  go_wp2
  go_ret
  exact ⟨by first | rfl | simp, B⟩
/-- Polygons that Inside takes. -/
structure FineP (P : List (List Pnt)) : Prop where
  n : P.length ≤ 1024
  l : ∀ l ∈ P, l.length ≤ 4096
  near : ∀ l ∈ P, nearL l
set_option maxHeartbeats 2000000 in
theorem P_IndexBad (v : Value) (P : List (List Pnt)) (w : World) (h : RPoly v P w) (hP : FineP P) : Calls Try.prog 111 #[v, .func (.func 78) #[] #[]] w fun e w' => e = .returned (.int .i64 (-1)) ∧ Below w.heap.size w w' := by
  have B := Below.refl w.heap.size w
  obtain ⟨a1, c1, rfl, _⟩ := h.len
  obtain ⟨vs, r1, e1, s1⟩ := h
  have R1 := Lib.hid r1
  have S1 := Lib.hid s1
  have HP := Lib.hid hP
  have hPn := hP.n
  have eg := enters_of Try.func78 (by kernel_rfl) rfl
  clear r1 s1 hP
  go_enter Try.func111, Try.ntmps111
  go_wp2
  go_loopw [5, 8] (fun _ i wr => ∃ k : Nat, k ≤ P.length ∧ i = .int .i64 k ∧ Below w.heap.size w wr) (fun _ i _ => (P.length - intOf i).toNat)
  case atStart => exact ⟨0, by omega, rfl, B⟩
  case round =>
    clear B
    obtain ⟨k, hk, rfl, B⟩ := hrel
    by_cases hkl : k < P.length
    · obtain ⟨g1, o1, rfl, ce1w⟩ := R1.out.at (by omega)
      obtain ⟨⟨sa, sn, sc⟩, hs1⟩ : ∃ s, vs[k]? = some s := ⟨_, List.getElem?_eq_getElem (by omega)⟩
      obtain ⟨l1, hl1⟩ : ∃ l, P[k]? = some l := ⟨_, List.getElem?_eq_getElem (by omega)⟩
      have p1 := S1.out k _ _ hs1 hl1
      obtain ⟨_, _, hv1, _⟩ := p1.len
      simp only [Slc.v, Value.slice.injEq] at hv1
      obtain ⟨rfl, rfl, rfl⟩ := hv1
      have hb1 := HP.out.l l1 (List.mem_of_getElem? hl1)
      have HN1 := Lib.hid (HP.out.near l1 (List.mem_of_getElem? hl1))
      have P1 := Lib.hid p1
      have ce1 := ce1w.of_eq (B.block _ ce1w.lt)
      clear ce1w p1 hl1
      go_wp2_with (first | (go_at_call 78; refine (P_inBad _ l1 _ (P1.out.below B) hb1 HN1.out).mono ?_; rintro e' wn ⟨rfl, hbn⟩; replace B := B.trans (hbn.mono B.size)) | (refine wpList_loadAny (t := 22) rfl _ rfl _ _ _ rfl (rce_sl ce1 hs1) (by first | rfl | omega) ?_; simp only [putS]) | fail)
      go_roundw
      case rel => exact ⟨k + 1, by omega, by go_num, B⟩
      case measure => simp [intOf]; omega
    · obtain rfl : k = P.length := by omega
      go_wp2
      go_ret
      exact ⟨rfl, B⟩
theorem P_ContainsBad (v : Value) (P : List (List Pnt)) (w : World) (h : RPoly v P w) (hP : FineP P) : Calls Try.prog 79 #[v, .func (.func 78) #[] #[]] w fun e w' => e = .returned (.bool false) ∧ Below w.heap.size w w' := by
  have B := Below.refl w.heap.size w
  go_enter Try.func79, Try.ntmps79
  go_upto_region 1 with fail
  refine wp_region_lit ?_
  try simp only [gelS]
  refine wpList_chunk 2 (by kernel_rfl) ?_
  simp only [takS, Nat.reduceAdd]
  repeat (first | go_big_quiet_skip | (go_big_quiet_want; first | (go_big_quiet_op; go_big_quiet_on)))
  refine wpQuiet_nil ?_
  refine wpList_callF (by first | rfl | simp [Region.wanted, yielded]) rfl (enters_of Try.func111 (by kernel_rfl) rfl) (by simp only [List.map_toArray, List.map_cons, List.map_nil, Act.eval, Array.getD_eq_getD_getElem?, List.getElem?_toArray, List.getElem?_cons_succ, List.getElem?_cons_zero, Option.getD_some]; rfl) ?_
  refine (P_IndexBad _ P _ h hP).mono ?_
  rintro e wn ⟨rfl, hbn⟩
  have hsz := B.size
  have hzn := hbn.size
  replace B := B.trans (hbn.mono B.size)
  refine ⟨_, rfl, ?_⟩
  simp only [putS]
  refine wpList_chunk 2 (by kernel_rfl) ?_
  simp only [takS, Nat.reduceAdd]
  repeat (first | go_big_quiet_skip | (go_big_quiet_want; first | (go_big_quiet_op; go_big_quiet_on)))
  refine wpQuiet_nil ?_
  refine wpList_nil ?_
  iterate 3 go_step
  go_ret
  exact ⟨by first | rfl | simp, B⟩
/-! ### Concat -/
theorem wpList_zeros {ops : Array Oper} {rest : List Oper} {o : Oper} {a : Act} {w : World} {Q : Exit → Act → World → Prop} (hg : o.guard = none) (s x : Operand) (ho : o.op = .call { callee := .builtin .append, args := #[s, x], argTypes := #[22, 3] }) (hs : a.eval s = .slice none 0 0) (n : Nat) (hx : a.eval x = .int .i64 n) (h0 : 0 < n) (hn : n ≤ 100000000)
    (h : ∀ b c w', n ≤ c → OwnE ptE w.heap.size (.slice (some ⟨b, 0, none⟩) 0 c) [] w' → Below w.heap.size w w' → wpList Try.prog ops Q rest (a.put o.dst (.slice (some ⟨b, 0, none⟩) n c)) w') : wpList Try.prog ops Q (o :: rest) a w := by
  obtain ⟨i, z, hi, hz, hsz, hby, hzc⟩ := ptE.facts
  have hzs : z.cells.size = 2 := by rw [hzc, ptE.size]
  have hb16 : i.bytes = 16 := hby
  have hr := Lib.run_append_nil_zeros (P := Try.prog) w 22 3 o.type 44 i z .i64 .i64 ptE.und Try.underlying3 hi hz n h0 (by omega) (by omega) (by rw [hb16]; omega)
  have hcap : n ≤ grownCap w n 0 44 := grownCap_ge w n 0 _
  have hmax : grownCap w n 0 44 ≤ maxLen := grownCap_le_maxLen w n 0 _ (by unfold maxLen; omega)
  refine Lib.wpList_append_run w hg s x _ _ ho _ _ hs hx _ _ hr (h _ _ _ hcap ?_ ?_)
  · refine World.ownsRow_made (w := w.drew) (e := 44) _ _ (Nat.le_refl _) hmax ?_
    rw [Array.size_append, size_zeroCells, size_zeroCells, hzs, ← Nat.add_mul, Nat.add_sub_cancel' hcap]
  · exact ((Below.refl _ _).drew).alloc (Nat.le_refl _) _
set_option maxHeartbeats 2000000 in
theorem P_Grow0 (n : Nat) (w : World) (hn : n ≤ 100000000) : Calls Try.prog 112 #[.slice none 0 0, .int .i64 (n : Int)] w fun e w' => ∃ a c, e = .returned (.slice a 0 c) ∧ OwnE ptE w.heap.size (.slice a 0 c) [] w' ∧ Below w.heap.size w w' := by
  have B := Below.refl w.heap.size w
  by_cases h0 : 0 < n
  · have q1 : decide ((n : Int) < 0) = false := decide_eq_false (by omega)
    have q2 : decide ((0 : Int) < (n : Int)) = true := decide_eq_true (by omega)
    have q3 : decide (0 < n) = true := decide_eq_true h0
    go_enter Try.func112, Try.ntmps112
    go_wp2_with (first | (at_builtin; refine wpList_zeros rfl _ _ rfl rfl n rfl h0 hn ?_; intro bz cz wn hcz od hbn; have hsz := B.size; replace B := B.trans (hbn.mono B.size); simp only [putS]) | fail)
    go_ret
    exact ⟨_, _, rfl, od, B⟩
  · obtain rfl : n = 0 := by omega
    go_enter Try.func112, Try.ntmps112
    go_wp2
    go_ret
    exact ⟨_, _, rfl, OwnE.nil _ _, B⟩
theorem flat_take {P : List (List Pnt)} {k : Nat} {l : List Pnt} (h : P[k]? = some l) : (P.take (k + 1)).flatten = (P.take k).flatten ++ l := by
  rw [List.take_add_one, h, List.flatten_append]
  simp
theorem flat_le (P : List (List Pnt)) (k : Nat) : (P.take k).flatten.length ≤ P.flatten.length := by
  have h : P.flatten = (P.take k).flatten ++ (P.drop k).flatten := by rw [← List.flatten_append, List.take_append_drop]
  rw [h, List.length_append]
  omega
theorem flat_bd {P : List (List Pnt)} {m : Nat} (h : ∀ l ∈ P, l.length ≤ m) : P.flatten.length ≤ P.length * m := by
  induction P with
  | nil => simp
  | cons l r ih =>
    have h1 := h l List.mem_cons_self
    have h2 := ih fun x hx => h x (List.mem_cons_of_mem _ hx)
    rw [List.flatten_cons, List.length_append, List.length_cons, Nat.add_mul]
    omega
set_option maxHeartbeats 4000000 in
theorem P_Concat (v : Value) (P : List (List Pnt)) (w : World) (h : RPoly v P w) (hP : FineP P) : Calls Try.prog 80 #[v] w fun e w' => ∃ a c, e = .returned (.slice a P.flatten.length c) ∧ RSE ptE (.slice a P.flatten.length c) P.flatten w' ∧ Below w.heap.size w w' := by
  have B := Below.refl w.heap.size w
  obtain ⟨a1, c1, rfl, _⟩ := h.len
  obtain ⟨vs, r1, e1, s1⟩ := h
  have R1 := Lib.hid r1
  have S1 := Lib.hid s1
  have hPn := hP.n
  have hT : P.flatten.length ≤ 5000000 := by
    have := flat_bd hP.l
    have := Nat.mul_le_mul_right 4096 hPn
    omega
  have HFL := Lib.hid (flat_le P)
  have HPL := Lib.hid hP.l
  clear r1 s1 hP
  go_enter Try.func80, Try.ntmps80
  go_upto_region 1 with fail
  refine wp_region_lit ?_
  try simp only [gelS]
  refine wpList_chunk 1 (by kernel_rfl) ?_
  simp only [takS, Nat.reduceAdd]
  repeat (first | go_big_quiet_skip | (go_big_quiet_want; first | (go_big_quiet_op; go_big_quiet_on)))
  refine wpQuiet_nil ?_
  refine wpList_nil ?_
  go_upto_region 2 with fail
  refine wp_region_lit ?_
  try simp only [gelS]
  refine wpList_chunk 1 (by kernel_rfl) ?_
  simp only [takS, Nat.reduceAdd]
  repeat (first | go_big_quiet_skip | (go_big_quiet_want; first | (go_big_quiet_op; go_big_quiet_on)))
  refine wpQuiet_nil ?_
  refine wpList_lenS (by first | rfl | simp [Region.wanted, yielded]) rfl Try.underlying39 rfl ?_
  simp only [putS]
  refine wpList_chunk 1 (by kernel_rfl) ?_
  simp only [takS, Nat.reduceAdd]
  repeat (first | go_big_quiet_skip | (go_big_quiet_want; first | (go_big_quiet_op; go_big_quiet_on)))
  refine wpQuiet_nil ?_
  refine wpList_nil ?_
  go_wp2
  go_loopw [3, 5, 11] (fun sv _ iv wr => ∃ (k n : Nat), k ≤ P.length ∧ iv = .int .i64 (k : Int) ∧ sv = .int .i64 (n : Int) ∧ Hid ((P.take k).flatten.length = n) ∧ Below w.heap.size w wr) (fun _ _ iv _ => (P.length - intOf iv).toNat)
  case atStart => exact ⟨0, 0, by omega, rfl, rfl, Lib.hid rfl, B⟩
  case round =>
    clear B
    obtain ⟨k, n, hk, rfl, rfl, HN, B⟩ := hrel
    have hn : n ≤ 5000000 := by have := HFL.out k; have := HN.out; omega
    by_cases hkl : k < P.length
    · have q1 : decide ((k : Int) < (P.length : Int)) = true := decide_eq_true (by omega)
      have q2 : decide (k < P.length) = true := decide_eq_true hkl
      obtain ⟨g1, o1, rfl, ce1w⟩ := R1.out.at (by omega)
      obtain ⟨⟨sa, sn, sc⟩, hs1⟩ : ∃ s, vs[k]? = some s := ⟨_, List.getElem?_eq_getElem (by omega)⟩
      obtain ⟨l1, hl1⟩ : ∃ l, P[k]? = some l := ⟨_, List.getElem?_eq_getElem (by omega)⟩
      have p1 := S1.out k _ _ hs1 hl1
      obtain ⟨_, _, hv1, _⟩ := p1.len
      simp only [Slc.v, Value.slice.injEq] at hv1
      obtain ⟨rfl, rfl, rfl⟩ := hv1
      have hb1 := HPL.out l1 (List.mem_of_getElem? hl1)
      have HST := Lib.hid (show (P.take (k + 1)).flatten.length = n + l1.length from by rw [flat_take hl1, List.length_append, HN.out])
      have ce1 := ce1w.of_eq (B.block _ ce1w.lt)
      clear ce1w p1 hl1
      go_upto_region 3 with fail
      refine wp_region_lit ?_
      try simp only [gelS]
      refine wpList_chunk 1 (by kernel_rfl) ?_
      simp only [takS, Nat.reduceAdd]
      repeat (first | go_big_quiet_skip | (go_big_quiet_want; first | (go_big_quiet_op; go_big_quiet_on)))
      refine wpQuiet_nil ?_
      refine wpList_nil ?_
      go_upto_region 4 with fail
      refine wp_region_lit ?_
      try simp only [gelS]
      refine wpList_chunk 3 (by kernel_rfl) ?_
      simp only [takS, Nat.reduceAdd]
      repeat (first | go_big_quiet_skip | (go_big_quiet_want; first | (refine quiet_loadAny (t := 22) rfl _ _ _ rfl (fun w hw => rce_sl (ov_rce ce1 w hw) hs1) (by first | rfl | omega) ?_; simp only [putS]; go_big_quiet_on) | (go_big_quiet_op; go_big_quiet_on)))
      refine wpQuiet_nil ?_
      refine wpList_nil ?_
      go_upto_region 5 with fail
      refine wp_region_lit ?_
      try simp only [gelS]
      refine wpList_chunk 2 (by kernel_rfl) ?_
      simp only [takS, Nat.reduceAdd]
      repeat (first | go_big_quiet_skip | (go_big_quiet_want; first | (go_big_quiet_op; go_big_quiet_on)))
      refine wpQuiet_nil ?_
      refine wpList_lenS (by first | rfl | simp [Region.wanted, yielded]) rfl Try.underlying22 rfl ?_
      simp only [putS]
      refine wpList_chunk 2 (by kernel_rfl) ?_
      simp only [takS, Nat.reduceAdd]
      repeat (first | go_big_quiet_skip | (go_big_quiet_want; first | (go_big_quiet_op; go_big_quiet_on)))
      refine wpQuiet_nil ?_
      refine wpList_nil ?_
      have q3 : decide ((n : Int) + (l1.length : Int) < 0) = false := decide_eq_false (by omega)
      go_upto_region 6 with fail
      refine wp_region_lit ?_
      try simp only [gelS]
      refine wpList_chunk 2 (by kernel_rfl) ?_
      simp only [takS, Nat.reduceAdd]
      repeat (first | go_big_quiet_skip | (go_big_quiet_want; first | (go_big_quiet_op; go_big_quiet_on)))
      refine wpQuiet_nil ?_
      refine wpList_nil ?_
      go_upto_region 8 with fail
      refine wp_region_lit ?_
      try simp only [gelS]
      refine wpList_chunk 2 (by kernel_rfl) ?_
      simp only [takS, Nat.reduceAdd]
      repeat (first | go_big_quiet_skip | (go_big_quiet_want; first | (go_big_quiet_op; go_big_quiet_on)))
      refine wpQuiet_nil ?_
      refine wpList_nil ?_
      go_wp2
      go_roundw
      case rel => exact ⟨k + 1, n + l1.length, by omega, by go_num, by go_num, HST, B⟩
      case measure => simp [intOf]; omega
    · obtain rfl : k = P.length := by omega
      have q1 : decide (((P.length : Nat) : Int) < (P.length : Int)) = false := decide_eq_false (by omega)
      go_upto_region 3 with fail
      refine wp_region_lit ?_
      try simp only [gelS]
      refine wpList_chunk 1 (by kernel_rfl) ?_
      simp only [takS, Nat.reduceAdd]
      repeat (first | go_big_quiet_skip | (go_big_quiet_want; first | (go_big_quiet_op; go_big_quiet_on)))
      refine wpQuiet_nil ?_
      refine wpList_nil ?_
      go_upto_region 9 with fail
      refine wp_region_lit ?_
      try simp only [gelS]
      refine wpList_chunk 1 (by kernel_rfl) ?_
      simp only [takS, Nat.reduceAdd]
      repeat (first | go_big_quiet_skip | (go_big_quiet_want; first | (go_big_quiet_op; go_big_quiet_on)))
      refine wpQuiet_nil ?_
      refine wpList_callF (by first | rfl | simp [Region.wanted, yielded]) rfl (enters_of Try.func112 (by kernel_rfl) rfl) (by simp only [List.map_toArray, List.map_cons, List.map_nil, Act.eval, Array.getD_eq_getD_getElem?, List.getElem?_toArray, List.getElem?_cons_succ, List.getElem?_cons_zero, Option.getD_some]; rfl) ?_
      refine (P_Grow0 n _ (by omega)).mono ?_
      rintro e wn ⟨ag, cg, rfl, od0, hbn⟩
      have hsz := B.size
      have hzn := hbn.size
      replace B := B.trans (hbn.mono B.size)
      refine ⟨_, rfl, ?_⟩
      simp only [putS]
      refine wpList_chunk 1 (by kernel_rfl) ?_
      simp only [takS, Nat.reduceAdd]
      repeat (first | go_big_quiet_skip | (go_big_quiet_want; first | (go_big_quiet_op; go_big_quiet_on)))
      refine wpQuiet_nil ?_
      refine wpList_nil ?_
      have od := od0.mono (show w.heap.size ≤ _ from by have := hsz; omega)
      clear od0
      go_upto_region 10 with fail
      refine wp_region_lit ?_
      try simp only [gelS]
      refine wpList_chunk 1 (by kernel_rfl) ?_
      simp only [takS, Nat.reduceAdd]
      repeat (first | go_big_quiet_skip | (go_big_quiet_want; first | (go_big_quiet_op; go_big_quiet_on)))
      refine wpQuiet_nil ?_
      refine wpList_lenS (by first | rfl | simp [Region.wanted, yielded]) rfl Try.underlying39 rfl ?_
      simp only [putS]
      refine wpList_chunk 1 (by kernel_rfl) ?_
      simp only [takS, Nat.reduceAdd]
      repeat (first | go_big_quiet_skip | (go_big_quiet_want; first | (go_big_quiet_op; go_big_quiet_on)))
      refine wpQuiet_nil ?_
      refine wpList_nil ?_
      go_wp2
      go_loopw [6, 8, 27] (fun nv _ iv wr => ∃ (k : Nat) (ao : Option Addr) (co : Nat) (L : List Pnt), k ≤ P.length ∧ iv = .int .i64 (k : Int) ∧ nv = .slice ao L.length co ∧ Hid ((P.take k).flatten = L) ∧ Below w.heap.size w wr ∧ OwnE ptE w.heap.size (.slice ao L.length co) L wr) (fun _ _ iv _ => (P.length - intOf iv).toNat)
      case atStart => exact ⟨0, ag, cg, [], by omega, rfl, rfl, Lib.hid rfl, B, od⟩
      case round =>
        clear B od
        obtain ⟨k, ao, co, L, hk, rfl, rfl, HL, B, od⟩ := hrel
        have hL : L.length ≤ 5000000 := by have := HFL.out k; rw [HL.out] at this; omega
        by_cases hkl : k < P.length
        · have q1 : decide ((k : Int) < (P.length : Int)) = true := decide_eq_true (by omega)
          have q2 : decide (k < P.length) = true := decide_eq_true hkl
          obtain ⟨g1, o1, rfl, ce1w⟩ := R1.out.at (by omega)
          obtain ⟨⟨sa, sn, sc⟩, hs1⟩ : ∃ s, vs[k]? = some s := ⟨_, List.getElem?_eq_getElem (by omega)⟩
          obtain ⟨l1, hl1⟩ : ∃ l, P[k]? = some l := ⟨_, List.getElem?_eq_getElem (by omega)⟩
          have p1 := S1.out k _ _ hs1 hl1
          obtain ⟨_, _, hv1, _⟩ := p1.len
          simp only [Slc.v, Value.slice.injEq] at hv1
          obtain ⟨rfl, rfl, rfl⟩ := hv1
          have hb1 := HPL.out l1 (List.mem_of_getElem? hl1)
          have P1 := Lib.hid (show RSE ptE (.slice sa l1.length sc) l1 w from p1)
          have HST := Lib.hid (show (P.take (k + 1)).flatten = L ++ l1 from by rw [flat_take hl1, HL.out])
          have ce1 := ce1w.of_eq (B.block _ ce1w.lt)
          clear ce1w p1 hl1
          go_upto_region 11 with fail
          refine wp_region_lit ?_
          try simp only [gelS]
          refine wpList_chunk 1 (by kernel_rfl) ?_
          simp only [takS, Nat.reduceAdd]
          repeat (first | go_big_quiet_skip | (go_big_quiet_want; first | (go_big_quiet_op; go_big_quiet_on)))
          refine wpQuiet_nil ?_
          refine wpList_nil ?_
          go_upto_region 12 with fail
          refine wp_region_lit ?_
          try simp only [gelS]
          refine wpList_chunk 3 (by kernel_rfl) ?_
          simp only [takS, Nat.reduceAdd]
          repeat (first | go_big_quiet_skip | (go_big_quiet_want; first | (refine quiet_loadAny (t := 22) rfl _ _ _ rfl (fun w hw => rce_sl (ov_rce ce1 w hw) hs1) (by first | rfl | omega) ?_; simp only [putS]; go_big_quiet_on) | (go_big_quiet_op; go_big_quiet_on)))
          refine wpQuiet_nil ?_
          refine wpList_nil ?_
          clear ce1
          have hBs := B.size
          go_upto_region 13 with fail
          refine wp_region_lit ?_
          try simp only [gelS]
          refine wpList_chunk 2 (by kernel_rfl) ?_
          simp only [takS, Nat.reduceAdd]
          repeat (first | go_big_quiet_skip | (go_big_quiet_want; first | (go_big_quiet_op; go_big_quiet_on)))
          refine wpQuiet_nil ?_
          (at_builtin; refine wpList_appendE rfl _ _ rfl _ _ rfl rfl od ((P1.out.below B)) (by omega) (by omega) ?_; intro v_od wn ht hbn; have hsz := B.size; have hbz := hbn.size; replace B := B.trans (hbn.mono (by omega)); clear od; have od := ht; clear ht; obtain ⟨a_od, c_od, hv, hco⟩ := od.len; (try simp only [List.length_append, List.length_cons, List.length_nil, Nat.zero_add] at hv hco); subst hv; simp only [putS])
          refine wpList_chunk 1 (by kernel_rfl) ?_
          simp only [takS, Nat.reduceAdd]
          repeat (first | go_big_quiet_skip | (go_big_quiet_want; first | (go_big_quiet_op; go_big_quiet_on)))
          refine wpQuiet_nil ?_
          refine wpList_nil ?_
          go_upto_region 14 with fail
          refine wp_region_lit ?_
          try simp only [gelS]
          refine wpList_chunk 2 (by kernel_rfl) ?_
          simp only [takS, Nat.reduceAdd]
          repeat (first | go_big_quiet_skip | (go_big_quiet_want; first | (go_big_quiet_op; go_big_quiet_on)))
          refine wpQuiet_nil ?_
          refine wpList_nil ?_
          go_wp2
          go_roundw
          case rel => exact ⟨k + 1, _, _, L ++ l1, by omega, by go_num, by rw [List.length_append], HST, B, by rw [List.length_append]; exact od⟩
          case measure => simp [intOf]; omega
        · obtain rfl : k = P.length := by omega
          have q1 : decide (((P.length : Nat) : Int) < (P.length : Int)) = false := decide_eq_false (by omega)
          have HE := Lib.hid (show P.flatten = L from by rw [← HL.out, List.take_length])
          go_upto_region 11 with fail
          refine wp_region_lit ?_
          try simp only [gelS]
          refine wpList_chunk 1 (by kernel_rfl) ?_
          simp only [takS, Nat.reduceAdd]
          repeat (first | go_big_quiet_skip | (go_big_quiet_want; first | (go_big_quiet_op; go_big_quiet_on)))
          refine wpQuiet_nil ?_
          refine wpList_nil ?_
          go_upto_region 15 with fail
          refine wp_region_lit ?_
          try simp only [gelS]
          refine wpList_chunk 2 (by kernel_rfl) ?_
          simp only [takS, Nat.reduceAdd]
          repeat (first | go_big_quiet_skip | (go_big_quiet_want; first | (go_big_quiet_op; go_big_quiet_on)))
          refine wpQuiet_nil ?_
          refine wpList_nil ?_
          go_wp2
          go_ret
          rw [HE.out]
          exact ⟨_, _, rfl, od.rs, B⟩
/- Contract of Paste of the reference. -/
end Go.Proofs.Ytamgpfblhlfhaaa
/- Paste of both packages, whether the rectangle fits or not. -/
namespace Go.Proofs.Ytamgpfblhlfhaaa
open Go.RowKit Go.Shelf Pl
set_option linter.unusedVariables false
set_option linter.unusedSimpArgs false
theorem P_PasteA (v : Value) (ls : List TA) (c : Rc) (u : Value) (L : List Px) (w : World) (h : RS v ls w) (tk : TokL ls) (hn : ls.length ≤ maxLen) (hu : RSE pxE u L w) (hLn : L.length ≤ maxLen) (okL : OkL L) : Calls Try.prog 103 #[.agg #[v], .agg (imgC c u)] w fun e w' => ∃ a cp, e = .returned (.tuple #[.agg #[.slice a (pstR c L ls).length cp], .int .i64 (pstE c L ls)]) ∧ RS (.slice a (pstR c L ls).length cp) (pstR c L ls) w' ∧ Below w.heap.size w w' := by
  obtain ⟨ad, cu, rfl, hcu⟩ := hu.len
  by_cases hV : validR c = true
  · by_cases hA : (L.length : Int) = areaR c
    · have e1 : pstR c L ls = if fitsE c = 0 then manyL (pstL c L (fineL ls) (posL c)) else [] := if_pos ⟨hV, hA⟩
      have e2 : pstE c L ls = if fitsE c = 0 then manyE (pstL c L (fineL ls) (posL c)) else fitsE c := if_pos ⟨hV, hA⟩
      by_cases hF : fitsE c = 0
      · rw [e1, e2, if_pos hF, if_pos hF]
        have hL : L.length = areaN c := by have := area_N (fitsE_zero hF); omega
        exact P_Paste_ok v ls c _ L w h tk hn hF hu hL okL
      · rw [e1, e2, if_neg hF, if_neg hF]
        refine (P_Paste_big v ls c ad L.length cu w h hLn hV hA.symm _ rfl hF).mono fun e w' ⟨he, hb⟩ => ?_
        exact ⟨none, 0, he, RS.nil _, hb⟩
    · have e1 : pstR c L ls = [] := if_neg (fun e => hA e.2)
      have e2 : pstE c L ls = 1 := if_neg (fun e => hA e.2)
      rw [e1, e2]
      refine (P_Paste_len v ls c ad L.length cu w h hLn hV _ rfl hA).mono fun e w' ⟨he, hb⟩ => ?_
      exact ⟨none, 0, he, RS.nil _, hb⟩
  · have e1 : pstR c L ls = [] := if_neg (fun e => hV e.1)
    have e2 : pstE c L ls = 1 := if_neg (fun e => hV e.1)
    rw [e1, e2]
    refine (P_Paste_inv v ls c ad L.length cu w h hLn (by simpa using hV)).mono fun e w' ⟨he, hb⟩ => ?_
    exact ⟨none, 0, he, RS.nil _, hb⟩
end Go.Proofs.Ytamgpfblhlfhaaa
/- Plain: a rectangle painted pixel by pixel, and by pasting one image. -/
namespace Go.Proofs.Ytamgpfblhlfhaaa
open Go.RowKit Pl
set_option linter.unusedVariables false
set_option linter.unusedSimpArgs false
/-- The pixels of a rectangle by a function. -/
def paintL (c : Rc) (f : Int → Int → Px) : List Px := (List.range (areaN c)).map fun j => f (pxX c j) (pxY c j)
theorem paintL_len (c : Rc) (f : Int → Int → Px) : (paintL c f).length = areaN c := by unfold paintL; rw [List.length_map, List.length_range]
theorem paintL_at (c : Rc) (f : Int → Int → Px) {j : Nat} (h : j < areaN c) : (paintL c f)[j]? = some (f (pxX c j) (pxY c j)) := by
  unfold paintL
  rw [List.getElem?_map, List.getElem?_range h]
  rfl
theorem paintL_ok {c : Rc} {f : Int → Int → Px} (h : ∀ x y, (f x y).ok) : OkL (paintL c f) := fun p hp => by
  unfold paintL at hp
  obtain ⟨j, _, rfl⟩ := List.mem_map.1 hp
  exact h _ _
theorem pix_paint {c : Rc} (hf : Fits c) (f : Int → Int → Px) {x y : Int} (h : hasR c x y = true) : pixL c (paintL c f) x y = f x y := by
  have hh := (hasR_iff _ _ _).1 h
  obtain ⟨k, e1, e2, e3, e4⟩ := px_xy hf (X := (x - c.x0).toNat) (Y := (y - c.y0).toNat) (by omega) (by omega)
  have ek : (idxI c x y).toNat = k := by
    unfold idxI
    have hy : (((y - c.y0).toNat : Nat) : Int) = y - c.y0 := by omega
    have hx : (((x - c.x0).toNat : Nat) : Int) = x - c.x0 := by omega
    rw [hy, hx] at e1
    omega
  unfold pixL
  rw [ek, List.getD_eq_getElem?_getD, paintL_at c f e2, e3, e4]
  show f _ _ = _
  congr 1 <;> omega
theorem paint_R {c : Rc} (hE : fitsE c = 0) (hA : tlN c ≤ 1000) (f : Int → Int → Px) : pstR c (paintL c f) [] = pstL c (paintL c f) [] (posL c) ∧ pstE c (paintL c f) [] = 0 := by
  have hF := fitsE_zero hE
  have hV := hF.valid
  have hl := pstL_len c (paintL c f) (posL c) []
  rw [posL_len, List.length_nil] at hl
  have hAr : ((paintL c f).length : Int) = areaR c := by rw [paintL_len, area_N hF]
  have e1 : pstR c (paintL c f) [] = if fitsE c = 0 then manyL (pstL c (paintL c f) (fineL []) (posL c)) else [] := if_pos ⟨hV, hAr⟩
  have e2 : pstE c (paintL c f) [] = if fitsE c = 0 then manyE (pstL c (paintL c f) (fineL []) (posL c)) else fitsE c := if_pos ⟨hV, hAr⟩
  rw [e1, e2, if_pos hE, if_pos hE, show fineL ([] : List TA) = [] from rfl]
  unfold manyL manyE
  rw [if_pos (by omega), if_pos (by omega)]
  exact ⟨rfl, rfl⟩
theorem paint_get {c : Rc} (hE : fitsE c = 0) (hA : tlN c ≤ 1000) (f : Int → Int → Px) (x y : Int) : getL (pstR c (paintL c f) []) x y = if hasR c x y = true then cleanP (f x y) else Px.zero := by
  have hF := fitsE_zero hE
  rw [(paint_R hE hA f).1, getL_pst hF _ (validL_srt rfl) (valid_clean rfl)]
  split
  · rename_i h
    rw [pix_paint hF f h]
  · rfl
/-- Pixel by pixel; a pixel that `g` bars is passed by. -/
def setsK (c : Rc) (f : Int → Int → Px) (g : Int → Int → Bool) : Nat → List TA
  | 0 => []
  | k + 1 => if g (pxX c k) (pxY c k) = true then setR (setsK c f g k) (pxX c k) (pxY c k) (f (pxX c k) (pxY c k)) else setsK c f g k
/- Plain: the polygon of a rectangle; a mask inverted within a rectangle. -/
def rcP (r : Rc) : List Pnt := [(r.x0, r.y0), (r.x1, r.y0), (r.x1, r.y1), (r.x0, r.y1)]
def rcQ (r : Rc) : List Pnt := [(r.x1, r.y1), (r.x1, r.y0), (r.x0, r.y0), (r.x0, r.y1)]
def cov2 (b : Bool) : Int := if b = true then 255 else 0
/-! ### A mask inverted -/
def invF (ls : List TA) (x y : Int) : Px := ⟨0, 0, 0, 255 - (getL ls x y).a⟩
def invL (r : Rc) (ls : List TA) : List TA := pstR r (paintL r (invF ls)) []
theorem fits_small {r : Rc} (h : -65536 ≤ r.x0 ∧ r.x1 ≤ 65536 ∧ -65536 ≤ r.y0 ∧ r.y1 ≤ 65536) (k : r.x0 < r.x1 ∧ r.y0 < r.y1) (s : r.x1 - r.x0 ≤ 256 ∧ r.y1 - r.y0 ≤ 256) : fitsE r = 0 := by
  unfold fitsE
  rw [if_pos ((validR_iff _).2 ⟨⟨by omega, by omega⟩, by omega, by omega, by omega, by omega⟩), if_neg (by omega)]
theorem tlN_small {r : Rc} (hE : fitsE r = 0) (s : r.x1 - r.x0 ≤ 40 ∧ r.y1 - r.y0 ≤ 40) : tlN r ≤ 1000 := by
  have e := (area_wid (tl_fits (fitsE_zero hE))).1
  unfold tlN
  rw [e]
  have w1 : widN (tlR r) ≤ 7 := by unfold widN tlR; simp only; omega
  have w2 : ((tlR r).y1 - (tlR r).y0).toNat ≤ 7 := by unfold tlR; simp only; omega
  exact Nat.le_trans (Nat.mul_le_mul w1 w2) (by omega)
end Go.Proofs.Ytamgpfblhlfhaaa
