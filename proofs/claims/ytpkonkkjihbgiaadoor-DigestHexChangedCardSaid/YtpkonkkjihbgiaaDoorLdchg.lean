/- DigestHexChanged: for every valid digest and every replaced character of its hexadecimal form, Parse fails if the character is not a lower-case hexadecimal digit, and otherwise returns the digest with that digit: the law returns true for every input, and its arguments read as they did. The two tables of package digest hold what the program's text lays. No other condition. -/
import Derived.Test.YtpkonkkjihbgiaaDoorDi
import Derived.Laws.IdiomStrings
namespace Go.Proofs.YtpkonkkjihbgiaaDoor
open Go.RowKit Sha
set_option linter.unusedVariables false
set_option linter.unusedSimpArgs false
set_option maxRecDepth 20000

theorem and63 (x : Int) : ∃ p : Nat, p < 64 ∧ bits .and .i64 x 63 = (p : Int) := by
  have e : bits .and .i64 x 63 = IntKind.i64.wrap ((BitVec.ofInt 64 x &&& BitVec.ofInt 64 63).toNat : Int) := rfl
  have h : (BitVec.ofInt 64 x &&& BitVec.ofInt 64 63).toNat ≤ 63 := by
    rw [BitVec.toNat_and]
    exact Nat.le_trans Nat.and_le_right (by decide)
  refine ⟨(BitVec.ofInt 64 x &&& BitVec.ofInt 64 63).toNat, by omega, ?_⟩
  rw [e]
  generalize (BitVec.ofInt 64 x &&& BitVec.ofInt 64 63).toNat = n at *
  unfold IntKind.wrap
  simp [IntKind.bits, IntKind.signed]
  omega
/-- The first cells of block b are the bytes l, and may be written. -/
def FB (w : World) (b : Nat) (l : List UInt8) : Prop := b < w.heap.size ∧ ∀ j, j < l.length → w.cell? ⟨b, j, none⟩ = some (Y (l.getD j 0)) ∧ w.frozen? ⟨b, j, none⟩ = false
section
variable {w : World} {b : Nat} {l : List UInt8}
theorem FB.lt (h : FB w b l) : b < w.heap.size := h.1
theorem FB.of_eq {w' : World} (h : FB w b l) (e : w'.heap[b]? = w.heap[b]?) : FB w' b l := by
  refine ⟨?_, fun j hj => ?_⟩
  · have := h.1
    rcases Nat.lt_or_ge b w'.heap.size with k | k
    · exact k
    · rw [Array.getElem?_eq_none k, Array.getElem?_eq_getElem this] at e
      cases e
  · obtain ⟨h1, h2⟩ := h.2 j hj
    refine ⟨(World.cell?_of_block (w := w) e).trans h1, ?_⟩
    rw [← h2]
    unfold World.frozen?
    simp only [e]
theorem FB.set (h : FB w b l) {p : Nat} (hp : p < l.length) (c : UInt8) : FB (w.setCell ⟨b, p, none⟩ (Y c)) b (l.set p c) := by
  refine ⟨by rw [World.size_setCell]; exact h.1, fun j hj => ?_⟩
  rw [List.length_set] at hj
  obtain ⟨h1, h2⟩ := h.2 j hj
  refine ⟨?_, by rw [World.frozen?_setCell]; exact h2⟩
  rw [List.getD_eq_getElem?_getD, List.getElem?_set]
  by_cases e : p = j
  · subst e
    rw [if_pos rfl, if_pos hp]
    exact World.cell?_setCell_same' _ _ _ (by rw [h1]; rfl)
  · rw [if_neg e, World.cell?_setCell_other _ _ _ _ (by intro e2; injection e2 with _ e3; exact e e3), h1, List.getD_eq_getElem?_getD]
theorem FB.conv (h : FB w b l) (cap : Nat) : (convert 45 9 (.slice (some ⟨b, 0, none⟩) l.length cap)).run Tryd.prog w = .ok (.string (ofL l)) w := by
  have hb : Lib.Bytes w b 0 (ofL l) := fun i hi => by
    have hi' : i < l.length := by rw [ofL_size] at hi; exact hi
    rw [Nat.zero_add, (h.2 i hi').1]
    have := byteAt_get (ofL l) i hi
    rw [this]
    rfl
  have := Lib.run_convert_whole (P := Tryd.prog) w 45 5 9 Tryd.underlying45 Tryd.underlying5 Tryd.underlying9 b 0 (ofL l) hb cap
  rw [ofL_size] at this
  exact this
end
theorem fb_made (w : World) (l : List UInt8) : ∃ cap w', (convert 9 45 (.string (ofL l))).run Tryd.prog w = .ok (.slice (some ⟨w.heap.size, 0, none⟩) l.length cap) w' ∧ FB w' w.heap.size l ∧ Below w.heap.size w w' ∧ w'.heap.size = w.heap.size + 1 := by
  have hr := run_bytes_of_string (P := Tryd.prog) w 9 45 5 (ofL l) Tryd.underlying9 Tryd.underlying45 Tryd.underlying5
  rw [ofL_size] at hr
  refine ⟨_, _, hr, ⟨by rw [World.size_alloc]; show w.heap.size < w.heap.size + 1; omega, fun j hj => ?_⟩, ((Below.refl _ _).drew).alloc (Nat.le_refl _) _, by rw [World.size_alloc]; rfl⟩
  generalize hN : grownCap w l.length 0 5 = cap
  have hb : (w.drew.alloc (.cells (bytesRow (ofL l) cap) 5 ((bytesRow (ofL l) cap).size, (bytesRow (ofL l) cap).size + 1))).heap[w.heap.size]? = some (.cells (bytesRow (ofL l) cap) 5 ((bytesRow (ofL l) cap).size, (bytesRow (ofL l) cap).size + 1)) := by
    rw [heap_get_alloc]; exact if_pos rfl
  have hsz : l.length ≤ (bytesRow (ofL l) cap).size := by
    unfold bytesRow
    rw [Array.size_append, Array.size_map]
    have : (ofL l).data.size = l.length := ofL_size l
    omega
  constructor
  · rw [cell_of_row _ _ _ _ _ _ hb]
    unfold bytesRow
    rw [Array.getElem?_append_left (by rw [Array.size_map]; have : (ofL l).data.size = l.length := ofL_size l; omega), Array.getElem?_map]
    have e : (ofL l).data[j]? = some (l.getD j 0) := by
      show (l.toArray)[j]? = _
      rw [List.getElem?_toArray, List.getD_eq_getElem?_getD, List.getElem?_eq_getElem hj]
      rfl
    rw [e]
    rfl
  · unfold World.frozen?
    simp only [hb]
    simp
    omega
section
variable {ops : Array Oper} {rest : List Oper} {o : Oper} {a : Act} {w : World} {Q : Exit → Act → World → Prop}
theorem wpList_convS (hg : o.guard = none) (x : Operand) (ho : o.op = .convert 9 45 x) (l : List UInt8) (hx : a.eval x = .string (ofL l))
    (h : ∀ b cap w', w.heap.size ≤ b → b ≤ w.heap.size → FB w' b l → Below b w w' → w'.heap.size = b + 1 → wpList Tryd.prog ops Q rest (a.put o.dst (.slice (some ⟨b, 0, none⟩) l.length cap)) w') : wpList Tryd.prog ops Q (o :: rest) a w :=
  wpList_plain hg fun K hK => by
    obtain ⟨cap, w', hr, h1, h2, h3⟩ := fb_made w l
    unfold Oper.wp execOp
    simp only [ho, hx, hr, Sem.run_bind, Sem.run_pure, Result.andThen_ok]
    exact hK _ _ (h _ cap _ (Nat.le_refl _) (Nat.le_refl _) h1 h2 h3)
theorem wpList_storeFB (hg : o.guard = none) (x y : Operand) (ho : o.op = .store 5 x y) (b j : Nat) (hx : a.eval x = .pointer (some ⟨b, j, none⟩)) (c : UInt8) (hy : a.eval y = Y c) {l : List UInt8} (ht : FB w b l) (i : Nat) (hi : i < l.length) (hj : j = i)
    (h : ∀ w', FB w' b (l.set i c) → Chg b w w' → w'.heap.size = w.heap.size → wpList Tryd.prog ops Q rest (a.put o.dst undef) w') : wpList Tryd.prog ops Q (o :: rest) a w := by
  subst hj
  refine wpList_storeAny hg x y ho _ ?_ (h _ (ht.set hi c) ((Chg.refl b w).setCell _) (by simp only [World.size_setCell]))
  rw [hx, hy]
  obtain ⟨c0, f0⟩ := ht.2 j hi
  unfold Y at c0 ⊢
  simp [go_sem, c0, f0]
end
theorem str_beq (s t : ByteArray) : (s.toList == t.toList) = decide (s = t) := by
  rw [ByteArray.toList_eq, ByteArray.toList_eq]
  by_cases h : s = t
  · rw [decide_eq_true h, h]; simp
  · rw [decide_eq_false h, beq_eq_false_iff_ne]
    exact fun e => h (by rw [← ofL_bytes s, ← ofL_bytes t]; exact congrArg ofL e)
theorem hexB_32 (l : List UInt8) : (hexB l 32).length = 64 := hexB_length l 32
theorem HS_hex (l : List UInt8) (h : l.length = 32) : HS (ofL l) = ofL (hexB l 32) := by
  unfold HS; rw [bytes_ofL]; unfold hexL; rw [if_pos h]
theorem byte_of (z : Int) (hz : (Lit.int .u8 z).wf = true) : ∃ c : UInt8, z = (c.toNat : Int) := by
  have hmin : IntKind.u8.min = 0 := rfl
  have hmax : IntKind.u8.max = 255 := rfl
  simp only [Lit.wf, Bool.and_eq_true, decide_eq_true_eq] at hz
  exact ⟨UInt8.ofNat z.toNat, by rw [UInt8.toNat_ofNat']; omega⟩
theorem ov_fb {w : World} {b : Nat} {l : List UInt8} (h : FB w b l) : ∀ w', (∃ u, w' = ov w u) → FB w' b l := by
  rintro w' ⟨u, rfl⟩
  exact h.of_eq ((ov_below w u).block _ h.lt)
theorem fb_conv64 {w : World} {b : Nat} {l : List UInt8} (h : FB w b l) (hl : l.length = 64) (cap : Nat) : (convert 45 9 (.slice (some ⟨b, 0, none⟩) 64 cap)).run Tryd.prog w = .ok (.string (ofL l)) w := by
  have := h.conv cap
  rw [hl] at this
  exact this
set_option maxHeartbeats 4000000 in
theorem walk_chg (L HB : List UInt8) (s : ByteArray) (z : Int) (c : UInt8) (p : Nat) (hp : p < 64) (ep : bits .and .i64 z 63 = (p : Int)) (h64 : HB.length = 64) (hset : (HB.set p c).length = 64) (w : World)
    (VLc : Hid (∀ w, Calls Tryd.prog 27 #[.string s] w fun e w' => e = .returned (.string (ofL L)) ∧ Below w.heap.size w w'))
    (HXc : Hid (∀ w, Calls Tryd.prog 24 #[.string (ofL L)] w fun e w' => e = .returned (.string (ofL HB)) ∧ Below w.heap.size w w'))
    (hbad : ¬ isDig c → PS (ofL (HB.set p c)) = ⟨#[]⟩ ∧ ES (ofL (HB.set p c)) = 11)
    (hgood : isDig c → ∃ D : List UInt8, PS (ofL (HB.set p c)) = ofL D ∧ ES (ofL (HB.set p c)) = 0 ∧ D.length = 32 ∧ HS (ofL D) = ofL (HB.set p c) ∧ D.take (p / 2) = L.take (p / 2) ∧ D.drop (p / 2 + 1) = L.drop (p / 2 + 1)) (hL : L.length = 32)
    (gs : GAt 0 8 w Sha.start.at) (kt : GAt 1 64 w kW) : Calls Tryd.prog 10 #[.string s, .int .i64 z, Y c] w fun e w' => e = .returned (.bool true) ∧ Below w.heap.size w w' := by
  have B := Below.refl w.heap.size w
  have hp0 : (0 : Int) ≤ (p : Int) := by omega
  have hp1 : (p : Int) < 64 := by omega
  by_cases hd : isDig c
  · obtain ⟨D, g1, g2, g3, g4, g5, g6⟩ := hgood hd
    obtain ⟨q, hq⟩ : ∃ q, q = p / 2 := ⟨_, rfl⟩
    have q1 : (p : Int) / 2 = (q : Int) := by omega
    have q2 : (p : Int).tdiv 2 = (q : Int) := by rw [hq]; rfl
    have q3 : q < 32 := by omega
    rw [← hq] at g5 g6
    clear hbad hgood hq
    rcases hd with ⟨d1, d2⟩ | ⟨d1, d2⟩
    · have c1 : decide ((48 : Int) ≤ (c.toNat : Int)) = true := decide_eq_true (by omega)
      have c2 : decide ((c.toNat : Int) ≤ 57) = true := decide_eq_true (by omega)
      clear d1 d2
      go_enter Tryd.func10, Tryd.ntmps10
      go_wp2_with (first | (go_at_call 22; refine (S_Parse _ _ (by rw [ofL_size]; omega)).mono ?_; rintro e wn ⟨rfl, hbn⟩; have hsz := B.size; have hzn := hbn.size; replace B := B.trans (hbn.mono B.size); (try first | replace fb := fb.of_eq (hbn.block _ fb.lt) | replace fb := fb.below hbn)) | (refine wpList_convAny (s := 45) (d := 9) rfl _ rfl rfl (fb_conv64 fb hset cap) ?_; simp only [Act.put, List.setIfInBounds_toArray, List.set_cons_zero, List.set_cons_succ]) | (refine wpList_storeFB rfl _ _ rfl _ _ rfl c rfl fb p (by omega) (by first | rfl | omega) ?_; clear fb; intro wn fb hcn hzn; have hsz := B.size; replace hzn := Nat.le_of_eq hzn.symm; replace B := Chg.below B hcn (by omega) B.size; simp only [Act.put, List.setIfInBounds_toArray, List.set_cons_zero, List.set_cons_succ]) | (refine wpList_convS rfl _ rfl HB rfl ?_; intro b_fb cap wn hle hge fb hbn hzn; have hsz := B.size; replace B := B.trans (hbn.mono (by omega)); have hln := Nat.lt_of_lt_of_eq (Nat.lt_succ_self _) hzn.symm; clear hzn; simp only [h64]; simp only [Act.put, List.setIfInBounds_toArray, List.set_cons_zero, List.set_cons_succ]) | (go_at_call 24; refine (HXc.out _).mono ?_; rintro e wn ⟨rfl, hbn⟩; have hsz := B.size; have hzn := hbn.size; replace B := B.trans (hbn.mono B.size); (try first | replace gs := gs.of_eq (hbn.block _ gs.lt) | replace gs := gs.below hbn); (try first | replace kt := kt.of_eq (hbn.block _ kt.lt) | replace kt := kt.below hbn)) | (go_at_call 27; refine (VLc.out _).mono ?_; rintro e wn ⟨rfl, hbn⟩; have hsz := B.size; have hzn := hbn.size; replace B := B.trans (hbn.mono B.size); (try first | replace gs := gs.of_eq (hbn.block _ gs.lt) | replace gs := gs.below hbn); (try first | replace kt := kt.of_eq (hbn.block _ kt.lt) | replace kt := kt.below hbn)) | (go_at_call 13; refine (sanity _ gs kt).mono ?_; rintro e wn ⟨rfl, hbn⟩; have hsz := B.size; have hzn := hbn.size; replace B := B.trans (hbn.mono B.size); (try first | replace gs := gs.of_eq (hbn.block _ gs.lt) | replace gs := gs.below hbn); (try first | replace kt := kt.of_eq (hbn.block _ kt.lt) | replace kt := kt.below hbn)) | fail)
      refine wp_region_ov (by kernel_rfl) (by kernel_rfl) ?_
      repeat (first | go_big_quiet_skip | (go_big_quiet_want; first | (refine quiet_convAny (s := 45) (d := 9) rfl rfl (fun w hw => fb_conv64 (ov_fb fb w hw) hset cap) ?_; simp only [Act.put, List.setIfInBounds_toArray, List.set_cons_zero, List.set_cons_succ]; go_big_quiet_on) | (go_big_quiet_op; first | go_big_quiet_on | go_big_quiet_call ((first | (go_at_call 24; exact calls_ov (S_Hex (ofL D) _ (by rw [ofL_size]; omega))))))))
      refine wpQuiet_nil ?_
      intro wn hbn
      have hsz := B.size
      have hzn := hbn.size
      replace B := B.trans (hbn.mono B.size)
      try replace fb := fb.of_eq (hbn.block _ fb.lt)
      go_wp2
      go_ret
      exact ⟨rfl, B⟩
    · have c1 : decide ((48 : Int) ≤ (c.toNat : Int)) = true := decide_eq_true (by omega)
      have c2 : decide ((c.toNat : Int) ≤ 57) = false := decide_eq_false (by omega)
      have c3 : decide ((97 : Int) ≤ (c.toNat : Int)) = true := decide_eq_true (by omega)
      have c4 : decide ((c.toNat : Int) ≤ 102) = true := decide_eq_true (by omega)
      clear d1 d2
      go_enter Tryd.func10, Tryd.ntmps10
      go_wp2_with (first | (go_at_call 22; refine (S_Parse _ _ (by rw [ofL_size]; omega)).mono ?_; rintro e wn ⟨rfl, hbn⟩; have hsz := B.size; have hzn := hbn.size; replace B := B.trans (hbn.mono B.size); (try first | replace fb := fb.of_eq (hbn.block _ fb.lt) | replace fb := fb.below hbn)) | (refine wpList_convAny (s := 45) (d := 9) rfl _ rfl rfl (fb_conv64 fb hset cap) ?_; simp only [Act.put, List.setIfInBounds_toArray, List.set_cons_zero, List.set_cons_succ]) | (refine wpList_storeFB rfl _ _ rfl _ _ rfl c rfl fb p (by omega) (by first | rfl | omega) ?_; clear fb; intro wn fb hcn hzn; have hsz := B.size; replace hzn := Nat.le_of_eq hzn.symm; replace B := Chg.below B hcn (by omega) B.size; simp only [Act.put, List.setIfInBounds_toArray, List.set_cons_zero, List.set_cons_succ]) | (refine wpList_convS rfl _ rfl HB rfl ?_; intro b_fb cap wn hle hge fb hbn hzn; have hsz := B.size; replace B := B.trans (hbn.mono (by omega)); have hln := Nat.lt_of_lt_of_eq (Nat.lt_succ_self _) hzn.symm; clear hzn; simp only [h64]; simp only [Act.put, List.setIfInBounds_toArray, List.set_cons_zero, List.set_cons_succ]) | (go_at_call 24; refine (HXc.out _).mono ?_; rintro e wn ⟨rfl, hbn⟩; have hsz := B.size; have hzn := hbn.size; replace B := B.trans (hbn.mono B.size); (try first | replace gs := gs.of_eq (hbn.block _ gs.lt) | replace gs := gs.below hbn); (try first | replace kt := kt.of_eq (hbn.block _ kt.lt) | replace kt := kt.below hbn)) | (go_at_call 27; refine (VLc.out _).mono ?_; rintro e wn ⟨rfl, hbn⟩; have hsz := B.size; have hzn := hbn.size; replace B := B.trans (hbn.mono B.size); (try first | replace gs := gs.of_eq (hbn.block _ gs.lt) | replace gs := gs.below hbn); (try first | replace kt := kt.of_eq (hbn.block _ kt.lt) | replace kt := kt.below hbn)) | (go_at_call 13; refine (sanity _ gs kt).mono ?_; rintro e wn ⟨rfl, hbn⟩; have hsz := B.size; have hzn := hbn.size; replace B := B.trans (hbn.mono B.size); (try first | replace gs := gs.of_eq (hbn.block _ gs.lt) | replace gs := gs.below hbn); (try first | replace kt := kt.of_eq (hbn.block _ kt.lt) | replace kt := kt.below hbn)) | fail)
      refine wp_region_ov (by kernel_rfl) (by kernel_rfl) ?_
      repeat (first | go_big_quiet_skip | (go_big_quiet_want; first | (refine quiet_convAny (s := 45) (d := 9) rfl rfl (fun w hw => fb_conv64 (ov_fb fb w hw) hset cap) ?_; simp only [Act.put, List.setIfInBounds_toArray, List.set_cons_zero, List.set_cons_succ]; go_big_quiet_on) | (go_big_quiet_op; first | go_big_quiet_on | go_big_quiet_call ((first | (go_at_call 24; exact calls_ov (S_Hex (ofL D) _ (by rw [ofL_size]; omega))))))))
      refine wpQuiet_nil ?_
      intro wn hbn
      have hsz := B.size
      have hzn := hbn.size
      replace B := B.trans (hbn.mono B.size)
      try replace fb := fb.of_eq (hbn.block _ fb.lt)
      go_wp2
      go_ret
      exact ⟨rfl, B⟩
  · obtain ⟨b1, b2⟩ := hbad hd
    have nd : ¬ ((48 ≤ c.toNat ∧ c.toNat ≤ 57) ∨ (97 ≤ c.toNat ∧ c.toNat ≤ 102)) := hd
    clear hd hbad hgood
    have hc3 : c.toNat < 48 ∨ (57 < c.toNat ∧ c.toNat < 97) ∨ 102 < c.toNat := by omega
    clear nd
    rcases hc3 with hc | hc | hc
    · have c1 : decide ((48 : Int) ≤ (c.toNat : Int)) = false := decide_eq_false (by omega)
      have c3 : decide ((97 : Int) ≤ (c.toNat : Int)) = false := decide_eq_false (by omega)
      clear hc
      go_enter Tryd.func10, Tryd.ntmps10
      go_wp2_with (first | (go_at_call 22; refine (S_Parse _ _ (by rw [ofL_size]; omega)).mono ?_; rintro e wn ⟨rfl, hbn⟩; have hsz := B.size; have hzn := hbn.size; replace B := B.trans (hbn.mono B.size); (try first | replace fb := fb.of_eq (hbn.block _ fb.lt) | replace fb := fb.below hbn)) | (refine wpList_convAny (s := 45) (d := 9) rfl _ rfl rfl (fb_conv64 fb hset cap) ?_; simp only [Act.put, List.setIfInBounds_toArray, List.set_cons_zero, List.set_cons_succ]) | (refine wpList_storeFB rfl _ _ rfl _ _ rfl c rfl fb p (by omega) (by first | rfl | omega) ?_; clear fb; intro wn fb hcn hzn; have hsz := B.size; replace hzn := Nat.le_of_eq hzn.symm; replace B := Chg.below B hcn (by omega) B.size; simp only [Act.put, List.setIfInBounds_toArray, List.set_cons_zero, List.set_cons_succ]) | (refine wpList_convS rfl _ rfl HB rfl ?_; intro b_fb cap wn hle hge fb hbn hzn; have hsz := B.size; replace B := B.trans (hbn.mono (by omega)); have hln := Nat.lt_of_lt_of_eq (Nat.lt_succ_self _) hzn.symm; clear hzn; simp only [h64]; simp only [Act.put, List.setIfInBounds_toArray, List.set_cons_zero, List.set_cons_succ]) | (go_at_call 24; refine (HXc.out _).mono ?_; rintro e wn ⟨rfl, hbn⟩; have hsz := B.size; have hzn := hbn.size; replace B := B.trans (hbn.mono B.size); (try first | replace gs := gs.of_eq (hbn.block _ gs.lt) | replace gs := gs.below hbn); (try first | replace kt := kt.of_eq (hbn.block _ kt.lt) | replace kt := kt.below hbn)) | (go_at_call 27; refine (VLc.out _).mono ?_; rintro e wn ⟨rfl, hbn⟩; have hsz := B.size; have hzn := hbn.size; replace B := B.trans (hbn.mono B.size); (try first | replace gs := gs.of_eq (hbn.block _ gs.lt) | replace gs := gs.below hbn); (try first | replace kt := kt.of_eq (hbn.block _ kt.lt) | replace kt := kt.below hbn)) | (go_at_call 13; refine (sanity _ gs kt).mono ?_; rintro e wn ⟨rfl, hbn⟩; have hsz := B.size; have hzn := hbn.size; replace B := B.trans (hbn.mono B.size); (try first | replace gs := gs.of_eq (hbn.block _ gs.lt) | replace gs := gs.below hbn); (try first | replace kt := kt.of_eq (hbn.block _ kt.lt) | replace kt := kt.below hbn)) | fail)
      go_ret
      exact ⟨rfl, B⟩
    · have c1 : decide ((48 : Int) ≤ (c.toNat : Int)) = true := decide_eq_true (by omega)
      have c2 : decide ((c.toNat : Int) ≤ 57) = false := decide_eq_false (by omega)
      have c3 : decide ((97 : Int) ≤ (c.toNat : Int)) = false := decide_eq_false (by omega)
      clear hc
      go_enter Tryd.func10, Tryd.ntmps10
      go_wp2_with (first | (go_at_call 22; refine (S_Parse _ _ (by rw [ofL_size]; omega)).mono ?_; rintro e wn ⟨rfl, hbn⟩; have hsz := B.size; have hzn := hbn.size; replace B := B.trans (hbn.mono B.size); (try first | replace fb := fb.of_eq (hbn.block _ fb.lt) | replace fb := fb.below hbn)) | (refine wpList_convAny (s := 45) (d := 9) rfl _ rfl rfl (fb_conv64 fb hset cap) ?_; simp only [Act.put, List.setIfInBounds_toArray, List.set_cons_zero, List.set_cons_succ]) | (refine wpList_storeFB rfl _ _ rfl _ _ rfl c rfl fb p (by omega) (by first | rfl | omega) ?_; clear fb; intro wn fb hcn hzn; have hsz := B.size; replace hzn := Nat.le_of_eq hzn.symm; replace B := Chg.below B hcn (by omega) B.size; simp only [Act.put, List.setIfInBounds_toArray, List.set_cons_zero, List.set_cons_succ]) | (refine wpList_convS rfl _ rfl HB rfl ?_; intro b_fb cap wn hle hge fb hbn hzn; have hsz := B.size; replace B := B.trans (hbn.mono (by omega)); have hln := Nat.lt_of_lt_of_eq (Nat.lt_succ_self _) hzn.symm; clear hzn; simp only [h64]; simp only [Act.put, List.setIfInBounds_toArray, List.set_cons_zero, List.set_cons_succ]) | (go_at_call 24; refine (HXc.out _).mono ?_; rintro e wn ⟨rfl, hbn⟩; have hsz := B.size; have hzn := hbn.size; replace B := B.trans (hbn.mono B.size); (try first | replace gs := gs.of_eq (hbn.block _ gs.lt) | replace gs := gs.below hbn); (try first | replace kt := kt.of_eq (hbn.block _ kt.lt) | replace kt := kt.below hbn)) | (go_at_call 27; refine (VLc.out _).mono ?_; rintro e wn ⟨rfl, hbn⟩; have hsz := B.size; have hzn := hbn.size; replace B := B.trans (hbn.mono B.size); (try first | replace gs := gs.of_eq (hbn.block _ gs.lt) | replace gs := gs.below hbn); (try first | replace kt := kt.of_eq (hbn.block _ kt.lt) | replace kt := kt.below hbn)) | (go_at_call 13; refine (sanity _ gs kt).mono ?_; rintro e wn ⟨rfl, hbn⟩; have hsz := B.size; have hzn := hbn.size; replace B := B.trans (hbn.mono B.size); (try first | replace gs := gs.of_eq (hbn.block _ gs.lt) | replace gs := gs.below hbn); (try first | replace kt := kt.of_eq (hbn.block _ kt.lt) | replace kt := kt.below hbn)) | fail)
      go_ret
      exact ⟨rfl, B⟩
    · have c1 : decide ((48 : Int) ≤ (c.toNat : Int)) = true := decide_eq_true (by omega)
      have c2 : decide ((c.toNat : Int) ≤ 57) = false := decide_eq_false (by omega)
      have c3 : decide ((97 : Int) ≤ (c.toNat : Int)) = true := decide_eq_true (by omega)
      have c4 : decide ((c.toNat : Int) ≤ 102) = false := decide_eq_false (by omega)
      clear hc
      go_enter Tryd.func10, Tryd.ntmps10
      go_wp2_with (first | (go_at_call 22; refine (S_Parse _ _ (by rw [ofL_size]; omega)).mono ?_; rintro e wn ⟨rfl, hbn⟩; have hsz := B.size; have hzn := hbn.size; replace B := B.trans (hbn.mono B.size); (try first | replace fb := fb.of_eq (hbn.block _ fb.lt) | replace fb := fb.below hbn)) | (refine wpList_convAny (s := 45) (d := 9) rfl _ rfl rfl (fb_conv64 fb hset cap) ?_; simp only [Act.put, List.setIfInBounds_toArray, List.set_cons_zero, List.set_cons_succ]) | (refine wpList_storeFB rfl _ _ rfl _ _ rfl c rfl fb p (by omega) (by first | rfl | omega) ?_; clear fb; intro wn fb hcn hzn; have hsz := B.size; replace hzn := Nat.le_of_eq hzn.symm; replace B := Chg.below B hcn (by omega) B.size; simp only [Act.put, List.setIfInBounds_toArray, List.set_cons_zero, List.set_cons_succ]) | (refine wpList_convS rfl _ rfl HB rfl ?_; intro b_fb cap wn hle hge fb hbn hzn; have hsz := B.size; replace B := B.trans (hbn.mono (by omega)); have hln := Nat.lt_of_lt_of_eq (Nat.lt_succ_self _) hzn.symm; clear hzn; simp only [h64]; simp only [Act.put, List.setIfInBounds_toArray, List.set_cons_zero, List.set_cons_succ]) | (go_at_call 24; refine (HXc.out _).mono ?_; rintro e wn ⟨rfl, hbn⟩; have hsz := B.size; have hzn := hbn.size; replace B := B.trans (hbn.mono B.size); (try first | replace gs := gs.of_eq (hbn.block _ gs.lt) | replace gs := gs.below hbn); (try first | replace kt := kt.of_eq (hbn.block _ kt.lt) | replace kt := kt.below hbn)) | (go_at_call 27; refine (VLc.out _).mono ?_; rintro e wn ⟨rfl, hbn⟩; have hsz := B.size; have hzn := hbn.size; replace B := B.trans (hbn.mono B.size); (try first | replace gs := gs.of_eq (hbn.block _ gs.lt) | replace gs := gs.below hbn); (try first | replace kt := kt.of_eq (hbn.block _ kt.lt) | replace kt := kt.below hbn)) | (go_at_call 13; refine (sanity _ gs kt).mono ?_; rintro e wn ⟨rfl, hbn⟩; have hsz := B.size; have hzn := hbn.size; replace B := B.trans (hbn.mono B.size); (try first | replace gs := gs.of_eq (hbn.block _ gs.lt) | replace gs := gs.below hbn); (try first | replace kt := kt.of_eq (hbn.block _ kt.lt) | replace kt := kt.below hbn)) | fail)
      go_ret
      exact ⟨rfl, B⟩
theorem walk_DigestHexChanged (s : ByteArray) (z zc : Int) (hs : s.size ≤ maxLen) (hz : (Lit.int .i64 z).wf = true) (hzc : (Lit.int .u8 zc).wf = true) (w : World) (gs : GAt 0 8 w Sha.start.at) (kt : GAt 1 64 w kW) : Calls Tryd.prog 10 #[.string s, .int .i64 z, .int .u8 zc] w fun e w' => e = .returned (.bool true) ∧ Below w.heap.size w w' := by
  obtain ⟨c, rfl⟩ := byte_of zc hzc
  obtain ⟨p, hp, ep⟩ := and63 z
  exact walk_chg (valL s) (hexB (valL s) 32) s z c p hp ep (hexB_32 _) (by rw [List.length_set]; exact hexB_32 _) w (Lib.hid fun w => L_valid s w hs)
    (Lib.hid fun w => by rw [← HS_hex _ (valL_length s)]; exact S_Hex _ _ (by rw [ofL_size, valL_length]; omega)) (chg_bad (valL s) p c hp) (chg_good (valL s) p c (valL_length s) hp) (valL_length s) gs kt

namespace digestHexChanged
open Go.ChangeShapes Go.WideShapes Go.ChangeAt Go.RowKit
open Go.ChangeMaps (open_string shut_string)
set_option maxRecDepth 100000 in
theorem lifted (os : Os) (started : os.Started) (H : Type) (enc : TypeId × Value → H) :
    ReturnsInHanded {} Tryd.checked os 10 .any (fun w args => (Rows.digestHexChangedSpec.pre enc Tryd.prog Tryd.f10 [] false w args ∧ laidMetH Tryd.prog laidD w) ∧ sizedMet enc Tryd.prog Tryd.f10 (OpenSpec.ofChange Rows.digestHexChangedSpec) false w args) (Rows.digestHexChangedSpec.post enc Tryd.prog Tryd.f10 false true false false) := by
  refine returnsInHanded_of_change_and (C := Tryd.checked) (X := fun w _ => laidMetH Tryd.prog laidD w) (fun _ _ _ hh h => h.of_heap hh) own started (by kernel_rfl) Tryd.func10
    (ChangeSpec.witness_shaped (enc := enc) (C := Tryd.checked) (os := os) (X := fun w _ => laidMetH Tryd.prog laidD w) false (World.doorLaid Tryd.prog 400 os) #[.string ⟨#[]⟩, .int .i64 0, .int .u8 0] 8 rfl (World.shaped_of_RefB (by kernel_rfl) (by kernel_rfl)) (by kernel_rfl) (by kernel_rfl) (by kernel_rfl) (door_met os _)) ?_
  intro W base args ds gs before hval0 hW _ _ hL _
  obtain ⟨hgs, hkt⟩ := of_laid hL
  have hval : ∀ (j : Nat) t v, Tryd.f10.params[j]? = some t → args[j]? = some v → Value.okWide Tryd.prog W .any base t v := hval0
  have hW' := hW
  obtain ⟨p, q, hA0, hV, rfl, hfz, hnd⟩ := hW
  have hA : DataW.TrodAll enc Tryd.prog W 0 (fun _ => true) true Tryd.f10.params.toList args.toList ds p := hA0
  rw [Tryd.params10] at hA hval
  obtain ⟨v0, vs0, d0, ds0, p0, q0, hargs, rfl, rfl, h0, r0⟩ := trodAll_cons hA
  obtain ⟨v1, vs1, d1, ds1, p1, q1, rfl, rfl, rfl, h1, r1⟩ := trodAll_cons r0
  obtain ⟨v2, vs2, d2, ds2, p2, q2, rfl, rfl, rfl, h2, r2⟩ := trodAll_cons r1
  obtain ⟨rfl, rfl, rfl⟩ := trodAll_nil r2
  obtain rfl : args = #[v0, v1, v2] := by cases args; simp_all
  obtain ⟨rfl, rfl⟩ := trodVars_none hV
  have k0 := h0
  have lt0 : ∀ x ∈ p0, x.block < W.heap.size := by obtain ⟨m, hm⟩ := k0; exact DataW.trod_lt m _ _ _ hm
  have k1 := h1
  have lt1 : ∀ x ∈ p1, x.block < W.heap.size := by obtain ⟨m, hm⟩ := k1; exact DataW.trod_lt m _ _ _ hm
  have k2 := h2
  have lt2 : ∀ x ∈ p2, x.block < W.heap.size := by obtain ⟨m, hm⟩ := k2; exact DataW.trod_lt m _ _ _ hm
  obtain ⟨a0, rfl, rfl, rfl, w0⟩ := open_string Tryd.underlying9 (hval 0 9 v0 rfl rfl) h0
  obtain ⟨a1, rfl, rfl, rfl, w1⟩ := open_int Tryd.underlying3 (hval 1 3 v1 rfl rfl) h1
  obtain ⟨a2, rfl, rfl, rfl, w2⟩ := open_int Tryd.underlying5 (hval 2 5 v2 rfl rfl) h2
  clear hA0 hval0
  refine (walk_DigestHexChanged a0 a1 a2 w0 w1 w2 W hgs hkt).mono fun e W' ⟨he, bel⟩ => ?_
  subst he
  exact ⟨_, rfl, _, _, _, [], _, [], hW', trodAll_mk1 (shut_bool Tryd.underlying4 _), (trodAll_cons_mk (Below.trod laidOut (by kernel_rfl) (of_decide_eq_true (by kernel_rfl)) k0 bel lt0) (trodAll_cons_mk (Below.trod laidOut (by kernel_rfl) (of_decide_eq_true (by kernel_rfl)) k1 bel lt1) (trodAll_cons_mk (Below.trod laidOut (by kernel_rfl) (of_decide_eq_true (by kernel_rfl)) k2 bel lt2) trodAll_mk0))), rfl, bel.frame _, fun h => by cases h⟩
theorem over : Rows.digestHexChangedRow.holds Tryd.pinned (OpenSpec.ofChange Rows.digestHexChangedSpec) :=
  OpenClaim.holds_of_wide 10 Tryd.f10 rfl rfl rfl rfl rfl rfl rfl ⟨rfl, rfl, rfl, rfl, rfl⟩ rfl rfl rfl rfl rfl (by kernel_rfl) Tryd.func10 (by kernel_rfl)
    (of_decide_eq_true (by kernel_rfl)) (by unfold Func.isWrapper; first | (rw [if_pos (by decide +kernel)]; kernel_rfl) | (rw [if_neg (by decide +kernel)]; exact ⟨rfl, rfl⟩))
    (fun os started H enc _ => lifted os started H enc)
/-- THE STATEMENT: DigestHexChanged returns true for every input, and its arguments read as they did; what the two tables hold is tied to the program's text. -/
theorem proved : Rows.DigestHexChangedCardSaid := by
  unfold Rows.DigestHexChangedCardSaid Rows.digestHexChangedCard
  exact Claim7.holds_tied_plain_at .later [] [.data, .data] true _ false over (fun _ h => by cases h) (by kernel_rfl) (fun _ h => by cases h) digestHexChanged_row_tie rfl ⟨rfl, rfl⟩ (by kernel_rfl) rfl
    (fun f fn hf hfn => by
      obtain rfl : f = 10 := Option.some.inj ((show Tryd.prog.funcNamed "gouache/gouachelaw02.DigestHexChanged" = some 10 by kernel_rfl).symm.trans hf) |>.symm
      obtain rfl : fn = Tryd.f10 := (Option.some.inj (Tryd.func10.symm.trans hfn)).symm
      exact ⟨by kernel_rfl, fun j t ht => by
        rw [Tryd.params10] at ht
        have hm : t ∈ [9, 3, 5] := by simpa using Array.mem_of_getElem? ht
        have hall : ([9, 3, 5].all fun u => !Tryd.prog.wantsStandIn u) = true := by kernel_rfl
        exact (show Tryd.prog.wantsStandIn t = false by simpa using List.all_eq_true.1 hall t hm)⟩)
    (by kernel_rfl)
end digestHexChanged

end Go.Proofs.YtpkonkkjihbgiaaDoor
