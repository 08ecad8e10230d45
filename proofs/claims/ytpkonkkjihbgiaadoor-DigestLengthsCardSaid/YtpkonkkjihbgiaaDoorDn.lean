/- Lists of strings that a law has made, nil or not; Join of them; slices built of one and two strings. -/
import Derived.Test.YtpkonkkjihbgiaaDoorLdjoin
namespace Go.Proofs.YtpkonkkjihbgiaaDoor
open Go.RowKit Sha
set_option linter.unusedVariables false
set_option linter.unusedSimpArgs false

/-- v is a slice of the strings ls. -/
def LS (v : Value) (ls : List ByteArray) (w : World) : Prop := (v = .slice none 0 0 ∧ ls = []) ∨ ∃ g c, v = .slice (some ⟨g, 0, none⟩) ls.length c ∧ SCells g 0 ls w
theorem OwnS.ls {B : Nat} {v : Value} {ls : List ByteArray} {w : World} (h : OwnS B v ls w) : LS v ls w := by
  rcases h.scells with h | ⟨g, c, e, _, sc⟩
  · exact .inl h
  · exact .inr ⟨g, c, e, sc⟩
theorem LS.below {v : Value} {ls : List ByteArray} {w w' : World} (h : LS v ls w) (hb : Below w.heap.size w w') : LS v ls w' := by
  rcases h with h | ⟨g, c, e, sc⟩
  · exact .inl h
  · exact .inr ⟨g, c, e, sc.of_eq (hb.block _ sc.lt)⟩
theorem LS.len {v : Value} {ls : List ByteArray} {w : World} (h : LS v ls w) : ∃ a c, v = .slice a ls.length c := by
  rcases h with ⟨rfl, rfl⟩ | ⟨g, c, e, sc⟩
  · exact ⟨none, 0, rfl⟩
  · exact ⟨_, c, e⟩
def JL (ls : List ByteArray) : ByteArray := DS (ofL (joinP ls ls.length))
theorem JL_size (ls : List ByteArray) : (JL ls).size = 32 := DS_size _
theorem sAt_two (X Y : ByteArray) (h1 : X.size ≤ 100000) (h2 : Y.size ≤ 100000) : ∀ k, (sAt [X, Y] k).size ≤ 100000
  | 0 => h1
  | 1 => h2
  | k + 2 => Nat.zero_le _
theorem sAt_one (X : ByteArray) (h1 : X.size ≤ 100000) : ∀ k, (sAt [X] k).size ≤ 100000
  | 0 => h1
  | k + 1 => Nat.zero_le _
section
variable {v : Value} {ls : List ByteArray} {w : World}
theorem P_JoinL (h : LS v ls w) (hn : ls.length ≤ 1000) (hM : ∀ k, (sAt ls k).size ≤ 100000) (gs : GAt 0 8 w Sha.start.at) (kt : GAt 1 64 w kW) : Calls Tryd.prog 18 #[v] w fun e w' => e = .returned (.string (JL ls)) ∧ Below w.heap.size w w' := by
  rcases h with ⟨rfl, rfl⟩ | ⟨g, c, rfl, sc⟩
  · exact P_Join_nil w gs kt
  · exact P_Join _ _ _ _ _ sc hn hM gs kt
theorem R_PreimageL (h : LS v ls w) (hn : ls.length ≤ 1000) (hM : ∀ k, (sAt ls k).size ≤ 100000) : Calls Tryd.prog 21 #[v] w fun e w' => e = .returned (.string (ofL (joinP ls ls.length))) ∧ Below w.heap.size w w' := by
  rcases h with ⟨rfl, rfl⟩ | ⟨g, c, rfl, sc⟩
  · exact R_Preimage_nil w
  · exact R_Preimage _ _ _ _ _ sc hn hM
end
theorem run_bs2 (w : World) (o : Oper) (x y : Operand) (ho : o.op = .buildSlice 28 2 #[(0, x), (1, y)]) (ev : Operand → Value) (s t : ByteArray) (hx : ev x = .string s) (hy : ev y = .string t) : (execOp ev o).run Tryd.prog w = .ok (.value (.slice (some ⟨w.heap.size, 0, none⟩) 2 2)) (w.alloc (.cells #[.string s, .string t] 9)) := by
  obtain ⟨d, p, t, ps, af, gd⟩ := o
  simp only at ho
  subst ho
  unfold execOp
  simp only [List.map_toArray, List.map_cons, List.map_nil, hx, hy]
  kernel_rfl
section
variable {ops : Array Oper} {rest : List Oper} {o : Oper} {a : Act} {w : World} {Q : Exit → Act → World → Prop}
theorem wpList_bsS2 (hg : o.guard = none) (x y : Operand) (ho : o.op = .buildSlice 28 2 #[(0, x), (1, y)]) (s t : ByteArray) (hx : a.eval x = .string s) (hy : a.eval y = .string t)
    (h : ∀ b w', w.heap.size ≤ b → b ≤ w.heap.size → LS (.slice (some ⟨b, 0, none⟩) 2 2) [s, t] w' → Below b w w' → w'.heap.size = b + 1 → wpList Tryd.prog ops Q rest (a.put o.dst (.slice (some ⟨b, 0, none⟩) 2 2)) w') : wpList Tryd.prog ops Q (o :: rest) a w :=
  wpList_plain hg fun K hK => by
    unfold Oper.wp
    rw [run_bs2 w o x y ho _ s t hx hy]
    have hb : (w.alloc (.cells #[.string s, .string t] 9)).heap[w.heap.size]? = some (.cells #[.string s, .string t] 9 (0, 0)) := by rw [heap_get_alloc, if_pos rfl]
    refine hK _ _ (h _ _ (Nat.le_refl _) (Nat.le_refl _) (.inr ⟨w.heap.size, 2, rfl, by rw [World.size_alloc]; omega, fun i hi => ?_⟩) ((Below.refl _ _).alloc (Nat.le_refl _) _) (World.size_alloc _ _))
    rw [(cells_of_block hb).1, Nat.zero_add]
    match i, hi with
    | 0, _ => rfl
    | 1, _ => rfl
theorem wpList_bsS1 (hg : o.guard = none) (x : Operand) (ho : o.op = .buildSlice 28 1 #[(0, x)]) (s : ByteArray) (hx : a.eval x = .string s)
    (h : ∀ b w', w.heap.size ≤ b → b ≤ w.heap.size → LS (.slice (some ⟨b, 0, none⟩) 1 1) [s] w' → Below b w w' → w'.heap.size = b + 1 → wpList Tryd.prog ops Q rest (a.put o.dst (.slice (some ⟨b, 0, none⟩) 1 1)) w') : wpList Tryd.prog ops Q (o :: rest) a w :=
  wpList_bs1 hg x ho s hx fun b w' h1 h2 h3 h4 h5 => h b w' h1 h2 (.inr ⟨b, 1, rfl, by omega, fun i hi => by
    match i, hi with
    | 0, _ => exact h3⟩) h4 h5
end
/-- Join of a slice just built. -/
theorem P_Join2 (X Y : ByteArray) (w : World) (h1 : X.size ≤ 100000) (h2 : Y.size ≤ 100000) (gs : GAt 0 8 w Sha.start.at) (kt : GAt 1 64 w kW) : Calls Tryd.prog 18 #[.slice (some ⟨w.heap.size, 0, none⟩) 2 2] (w.alloc (.cells #[.string X, .string Y] 9)) fun e w' => e = .returned (.string (JL [X, Y])) ∧ Below w.heap.size w w' := by
  have hb : (w.alloc (.cells #[.string X, .string Y] 9)).heap[w.heap.size]? = some (.cells #[.string X, .string Y] 9 (0, 0)) := by rw [heap_get_alloc, if_pos rfl]
  have B : Below w.heap.size w (w.alloc (.cells #[.string X, .string Y] 9)) := (Below.refl _ _).alloc (Nat.le_refl _) _
  have hls : LS (.slice (some ⟨w.heap.size, 0, none⟩) 2 2) [X, Y] (w.alloc (.cells #[.string X, .string Y] 9)) := .inr ⟨w.heap.size, 2, rfl, by rw [World.size_alloc]; omega, fun i hi => by
    rw [(cells_of_block hb).1, Nat.zero_add]
    match i, hi with
    | 0, _ => rfl
    | 1, _ => rfl⟩
  exact (P_JoinL hls (by simp) (sAt_two X Y h1 h2) (gs.of_eq (B.block _ gs.lt)) (kt.of_eq (B.block _ kt.lt))).mono fun e w' ⟨he, hb'⟩ => ⟨he, B.trans (hb'.mono B.size)⟩
theorem P_Join1 (X : ByteArray) (w : World) (h1 : X.size ≤ 100000) (gs : GAt 0 8 w Sha.start.at) (kt : GAt 1 64 w kW) : Calls Tryd.prog 18 #[.slice (some ⟨w.heap.size, 0, none⟩) 1 1] (w.alloc (.cells #[.string X] 9)) fun e w' => e = .returned (.string (JL [X])) ∧ Below w.heap.size w w' := by
  have hb : (w.alloc (.cells #[.string X] 9)).heap[w.heap.size]? = some (.cells #[.string X] 9 (0, 0)) := by rw [heap_get_alloc, if_pos rfl]
  have B : Below w.heap.size w (w.alloc (.cells #[.string X] 9)) := (Below.refl _ _).alloc (Nat.le_refl _) _
  have hls : LS (.slice (some ⟨w.heap.size, 0, none⟩) 1 1) [X] (w.alloc (.cells #[.string X] 9)) := .inr ⟨w.heap.size, 1, rfl, by rw [World.size_alloc]; omega, fun i hi => by
    rw [(cells_of_block hb).1, Nat.zero_add]
    match i, hi with
    | 0, _ => rfl⟩
  exact (P_JoinL hls (by simp) (sAt_one X h1) (gs.of_eq (B.block _ gs.lt)) (kt.of_eq (B.block _ kt.lt))).mono fun e w' ⟨he, hb'⟩ => ⟨he, B.trans (hb'.mono B.size)⟩
theorem LS.at {a : Option Addr} {n c : Nat} {ls : List ByteArray} {w : World} (h : LS (.slice a n c) ls w) (hn : 0 < ls.length) : ∃ g, a = some ⟨g, 0, none⟩ ∧ SCells g 0 ls w := by
  rcases h with ⟨_, rfl⟩ | ⟨g, c', e, sc⟩
  · exact absurd hn (by decide)
  · injection e with e1 e2 e3
    exact ⟨g, e1, sc⟩
/-! ### Preimages are equal only of equal lists -/
theorem joinP_cons (s : ByteArray) (ls : List ByteArray) (k : Nat) : joinP (s :: ls) (k + 1) = big s.size 8 ++ bytes s ++ joinP ls k := by
  induction k with
  | zero => simp only [joinP_next, joinP, List.nil_append, List.append_nil]; rfl
  | succ k ih =>
    rw [joinP_next (s :: ls) (k + 1), ih, joinP_next ls k]
    have e : sAt (s :: ls) (k + 1) = sAt ls k := rfl
    rw [e]
    simp only [List.append_assoc]
theorem big_inj : ∀ (m n n' : Nat), n < 256 ^ m → n' < 256 ^ m → big n m = big n' m → n = n' := by
  intro m
  induction m with
  | zero => intro n n' h h' _; simp at h h'; omega
  | succ m ih =>
    intro n n' h h' e
    unfold big at e
    obtain ⟨e1, e2⟩ := List.append_inj' e rfl
    have q := ih (n / 256) (n' / 256) (by rw [Nat.pow_succ] at h; omega) (by rw [Nat.pow_succ] at h'; omega) e1
    have r : n % 256 = n' % 256 := by
      have e3 : UInt8.ofNat n = UInt8.ofNat n' := by simpa using e2
      have e4 := congrArg UInt8.toNat e3
      simpa using e4
    omega
theorem bytes_inj {s t : ByteArray} (h : bytes s = bytes t) : s = t := by rw [← ofL_bytes s, h, ofL_bytes]
theorem joinP_inj : ∀ (xs ys : List ByteArray), (∀ k, (sAt xs k).size ≤ 100000) → (∀ k, (sAt ys k).size ≤ 100000) → joinP xs xs.length = joinP ys ys.length → xs = ys := by
  intro xs
  induction xs with
  | nil =>
    intro ys _ _ h
    match ys with
    | [] => rfl
    | y :: ys =>
      rw [List.length_cons, joinP_cons] at h
      have := congrArg List.length h
      simp [joinP, big_length] at this
      omega
  | cons x xs ih =>
    intro ys hx hy h
    match ys with
    | [] =>
      rw [List.length_cons, joinP_cons] at h
      have := congrArg List.length h
      simp [joinP, big_length] at this
    | y :: ys =>
      rw [List.length_cons, List.length_cons, joinP_cons, joinP_cons, List.append_assoc, List.append_assoc] at h
      obtain ⟨h1, h2⟩ := List.append_inj h (by rw [big_length, big_length])
      have x0 : x.size ≤ 100000 := hx 0
      have y0 : y.size ≤ 100000 := hy 0
      have hs := big_inj 8 _ _ (by omega) (by omega) h1
      obtain ⟨h3, h4⟩ := List.append_inj h2 (by rw [bytes_length, bytes_length, hs])
      rw [bytes_inj h3, ih ys (fun k => hx (k + 1)) (fun k => hy (k + 1)) h4]
/-- Are the lists equal, as far as the first k elements tell? -/
def sameK (xs ys : List ByteArray) : Nat → Bool
  | 0 => decide (xs.length = ys.length)
  | k + 1 => sameK xs ys k && decide (sAt xs k = sAt ys k)
theorem sameK_next (xs ys : List ByteArray) (k : Nat) (h : sameK xs ys k = true) : sameK xs ys (k + 1) = decide (sAt xs k = sAt ys k) := by
  show (sameK xs ys k && _) = _
  rw [h, Bool.true_and]
theorem sameK_refl (xs : List ByteArray) (k : Nat) : sameK xs xs k = true := by
  induction k with
  | zero => simp [sameK]
  | succ k ih => rw [sameK_next _ _ _ ih]; simp
theorem sameK_len {xs ys : List ByteArray} {k : Nat} (h : sameK xs ys k = true) : xs.length = ys.length := by
  induction k with
  | zero => simpa [sameK] using h
  | succ k ih => exact ih (by unfold sameK at h; exact (Bool.and_eq_true_iff.1 h).1)
theorem sameK_at {xs ys : List ByteArray} {k : Nat} (h : sameK xs ys k = true) : ∀ j, j < k → sAt xs j = sAt ys j := by
  induction k with
  | zero => intro j hj; omega
  | succ k ih =>
    unfold sameK at h
    obtain ⟨h1, h2⟩ := Bool.and_eq_true_iff.1 h
    intro j hj
    by_cases e : j = k
    · subst e; simpa using h2
    · exact ih h1 j (by omega)
theorem same_no {xs ys : List ByteArray} {k : Nat} (h : sameK xs ys k = false) : xs ≠ ys := by
  rintro rfl
  rw [sameK_refl] at h; cases h
theorem same_yes {xs ys : List ByteArray} (h : sameK xs ys xs.length = true) : xs = ys := by
  apply List.ext_getElem (sameK_len h)
  intro i h1 h2
  have := sameK_at h i h1
  unfold sAt at this
  rw [List.getD_eq_getElem?_getD, List.getD_eq_getElem?_getD, List.getElem?_eq_getElem h1, List.getElem?_eq_getElem h2] at this
  exact this
end Go.Proofs.YtpkonkkjihbgiaaDoor
