/- Lists of strings in memory; contracts of Join, of the reference's Preimage and Join. -/
import Derived.Test.YtpkonkkjihbgiaaDoorDw
namespace Go.Proofs.YtpkonkkjihbgiaaDoor
open Go.RowKit Sha
set_option linter.unusedVariables false
set_option linter.unusedSimpArgs false

/-- The string number k. -/
def sAt (ls : List ByteArray) (k : Nat) : ByteArray := ls.getD k ⟨#[]⟩
/-- What is hashed for the first k strings. -/
def joinP (ls : List ByteArray) : Nat → List UInt8
  | 0 => []
  | k + 1 => joinP ls k ++ big (sAt ls k).size 8 ++ bytes (sAt ls k)
theorem joinP_next (ls : List ByteArray) (k : Nat) : joinP ls (k + 1) = joinP ls k ++ big (sAt ls k).size 8 ++ bytes (sAt ls k) := rfl
theorem joinP_length (ls : List ByteArray) (M : Nat) (h : ∀ k, (sAt ls k).size ≤ M) (k : Nat) : (joinP ls k).length ≤ k * (M + 8) := by
  induction k with
  | zero => exact Nat.zero_le _
  | succ k ih =>
    rw [joinP_next, List.length_append, List.length_append, big_length, bytes_length, Nat.succ_mul]
    have := h k
    omega
/-- The strings' cells. -/
def SCells (g o : Nat) (ls : List ByteArray) (w : World) : Prop := g < w.heap.size ∧ ∀ i, i < ls.length → w.cell? ⟨g, o + i, none⟩ = some (.string (sAt ls i))
section
variable {g o : Nat} {w : World} {ls : List ByteArray}
theorem SCells.lt (h : SCells g o ls w) : g < w.heap.size := h.1
theorem SCells.of_eq {w' : World} (h : SCells g o ls w) (e : w'.heap[g]? = w.heap[g]?) : SCells g o ls w' := by
  refine ⟨?_, fun i hi => ?_⟩
  · have := h.1
    rcases Nat.lt_or_ge g w'.heap.size with k | k
    · exact k
    · rw [Array.getElem?_eq_none k, Array.getElem?_eq_getElem this] at e
      cases e
  · rw [World.cell?_of_block (w := w) e]
    exact h.2 i hi
theorem ov_s (h : SCells g o ls w) : ∀ w', (∃ u, w' = ov w u) → SCells g o ls w' := by
  rintro w' ⟨u, rfl⟩
  exact h.of_eq ((ov_below w u).block _ h.lt)
theorem run_load_str (h : SCells g o ls w) {i : Nat} (hi : i < ls.length) : (Instr.loadAt 9 (.pointer (some ⟨g, o + i, none⟩))).run Tryd.prog w = .ok (.string (sAt ls i)) w := by
  have c := h.2 i hi
  simp [go_sem, c]
end

set_option maxHeartbeats 1000000 in
set_option maxRecDepth 20000 in
theorem P_Join (g o c : Nat) (ls : List ByteArray) (w : World) (sc : SCells g o ls w) (hn : ls.length ≤ 1000) (hM : ∀ k, (sAt ls k).size ≤ 100000) (gs : GAt 0 8 w Sha.start.at) (kt : GAt 1 64 w kW) : Calls Tryd.prog 18 #[.slice (some ⟨g, o, none⟩) ls.length c] w fun e w' => e = .returned (.string (DS (ofL (joinP ls ls.length)))) ∧ Below w.heap.size w w' := by
  have B := Below.refl w.heap.size w
  have g0 := gs.lt
  have k0 := kt.lt
  have s0 := sc.lt
  go_enter Tryd.func18, Tryd.ntmps18
  go_wp2_with (first | (refine wpList_allocB rfl rfl ?_; intro b_bd wn hle hge ht hbn hzn; have hsz := B.size; replace B := B.trans (hbn.mono (by omega)); have hln := Nat.lt_of_lt_of_eq (Nat.lt_succ_self _) hzn.symm; clear hzn; (try first | (have hlt := gs.lt; replace gs := gs.of_eq (hbn.block _ (by omega))) | replace gs := gs.below (hbn.mono hle)); (try first | (have hlt := kt.lt; replace kt := kt.of_eq (hbn.block _ (by omega))) | replace kt := kt.below (hbn.mono hle)); (try first | (have hlt := sc.lt; replace sc := sc.of_eq (hbn.block _ (by omega))) | replace sc := sc.below (hbn.mono hle)); have bd := ht; clear ht; simp only [Act.put, List.setIfInBounds_toArray, List.set_cons_zero, List.set_cons_succ]))
  have hbd : w.heap.size ≤ b_bd := by omega
  go_loopw [5, 8] (fun _ i wr => ∃ k : Nat, k ≤ ls.length ∧ i = .int .i64 k ∧ Below w.heap.size w wr ∧ HoldsB b_bd b_bd (joinP ls k) wr ∧ GAt 0 8 wr Sha.start.at ∧ GAt 1 64 wr kW ∧ SCells g o ls wr) (fun _ i _ => ((ls.length : Int) - intOf i).toNat)
  case atStart => exact ⟨0, by omega, rfl, B, bd, gs, kt, sc⟩
  case round =>
    clear B bd gs kt sc
    obtain ⟨k, hk, rfl, B, bd, gs, kt, sc⟩ := hrel
    have hjl := joinP_length ls 100000 hM k
    have hjl2 : (joinP ls k).length ≤ 108000000 := by omega
    clear hjl
    have hbl := bd.lt
    by_cases hlt : k < ls.length
    · have hmk := hM k
      go_wp2_with (first | (go_at_call 20; refine (P_Put8 _ (by omega) _).mono ?_; rintro e wn ⟨rfl, hbn⟩; have hsz := B.size; have hzn := hbn.size; replace B := B.trans (hbn.mono B.size); replace bd := bd.below hbn; (try first | replace gs := gs.of_eq (hbn.block _ gs.lt) | replace gs := gs.below hbn); (try first | replace kt := kt.of_eq (hbn.block _ kt.lt) | replace kt := kt.below hbn); (try first | replace sc := sc.of_eq (hbn.block _ sc.lt) | replace sc := sc.below hbn)) | (go_at_call 30; refine (L_WriteString b_bd b_bd _ _ _ bd (by first | (rw [ofL_size, big_length]; omega) | (rw [List.length_append, bytes_ofL, big_length]; omega)) (Nat.le_of_lt bd.lt)).mono ?_; rintro e wn ⟨rfl, ht, hbn⟩; have hsz := B.size; have hzn := hbn.size; replace B := B.trans (hbn.mono (by omega)); replace bd := ht; clear ht; (try replace gs := gs.of_eq (hbn.block _ (by omega))); (try replace kt := kt.of_eq (hbn.block _ (by omega))); (try replace sc := sc.of_eq (hbn.block _ (by omega)))) | (refine wpList_loadAny (t := 9) rfl _ rfl _ _ _ rfl (run_load_str sc hlt) (by first | rfl | omega) ?_; simp only [Act.put, List.setIfInBounds_toArray, List.set_cons_zero, List.set_cons_succ]))
      rw [bytes_ofL, ← joinP_next] at bd
      go_roundw
      case rel => exact ⟨k + 1, by omega, by go_num, B, bd, gs, kt, sc⟩
      case measure => simp [intOf]; omega
    · obtain rfl : k = ls.length := by omega
      go_wp2_with (first | (go_at_call 15; refine (S_Of _ _ (by rw [ofL_size]; omega) gs kt).mono ?_; rintro e wn ⟨rfl, hbn⟩; have hsz := B.size; have hzn := hbn.size; replace B := B.trans (hbn.mono B.size); (try first | replace gs := gs.of_eq (hbn.block _ gs.lt) | replace gs := gs.below hbn); (try first | replace kt := kt.of_eq (hbn.block _ kt.lt) | replace kt := kt.below hbn)) | (go_at_call 31; refine (L_String b_bd b_bd _ _ bd (Nat.le_of_lt bd.lt)).mono ?_; rintro e wn ⟨rfl, hbn⟩; have hsz := B.size; have hzn := hbn.size; replace B := B.trans (hbn.mono (by omega)); replace gs := gs.of_eq (hbn.block _ (by omega)); replace kt := kt.of_eq (hbn.block _ (by omega))))
      go_ret
      exact ⟨rfl, B⟩

@[go_sem] theorem ofL_append_sAt (a : List UInt8) (ls : List ByteArray) (k : Nat) : ofL a ++ sAt ls k = ofL (a ++ bytes (sAt ls k)) := ofL_append a (bytes (sAt ls k))
set_option maxHeartbeats 1000000 in
set_option maxRecDepth 20000 in
theorem R_Preimage (g o c : Nat) (ls : List ByteArray) (w : World) (sc : SCells g o ls w) (hn : ls.length ≤ 1000) (hM : ∀ k, (sAt ls k).size ≤ 100000) : Calls Tryd.prog 21 #[.slice (some ⟨g, o, none⟩) ls.length c] w fun e w' => e = .returned (.string (ofL (joinP ls ls.length))) ∧ Below w.heap.size w w' := by
  have B := Below.refl w.heap.size w
  go_enter Tryd.func21, Tryd.ntmps21
  go_wp2
  go_loopw [3, 4] (fun d i wr => ∃ k : Nat, k ≤ ls.length ∧ d = .string (ofL (joinP ls k)) ∧ i = .int .i64 k ∧ Below w.heap.size w wr ∧ SCells g o ls wr) (fun _ i _ => ((ls.length : Int) - intOf i).toNat)
  case atStart => exact ⟨0, by omega, rfl, rfl, B, sc⟩
  case round =>
    clear B sc
    obtain ⟨k, hk, rfl, rfl, B, sc⟩ := hrel
    have hjl := joinP_length ls 100000 hM k
    have hjl2 : (joinP ls k).length ≤ 108000000 := by omega
    clear hjl
    by_cases hlt : k < ls.length
    · have hmk := hM k
      go_wp2
      refine wp_region_ov (by kernel_rfl) (by kernel_rfl) ?_
      repeat (first | go_big_quiet_skip | (go_big_quiet_want; first | (refine quiet_loadAny (t := 9) rfl _ _ _ rfl (fun w hw => run_load_str (ov_s sc w hw) hlt) (by first | rfl | omega) ?_; simp only [Act.put, List.setIfInBounds_toArray, List.set_cons_zero, List.set_cons_succ]; go_big_quiet_on) | (go_big_quiet_op; first | go_big_quiet_on | go_big_quiet_call ((first | (go_at_call 33; exact calls_ov (R_Big8 _ (by omega) _)))))))
      refine wpQuiet_nil ?_
      intro wn hbn
      have hsz := B.size
      have hzn := hbn.size
      replace B := B.trans (hbn.mono B.size)
      try replace sc := sc.of_eq (hbn.block _ sc.lt)
      go_wp2
      go_roundw
      case rel => exact ⟨k + 1, by omega, by rw [joinP_next, List.append_assoc], by go_num, B, sc⟩
      case measure => simp [intOf]; omega
    · obtain rfl : k = ls.length := by omega
      go_wp2
      go_ret
      exact ⟨rfl, B⟩

set_option maxHeartbeats 1000000 in
set_option maxRecDepth 20000 in
theorem R_Join (g o c : Nat) (ls : List ByteArray) (w : World) (sc : SCells g o ls w) (hn : ls.length ≤ 1000) (hM : ∀ k, (sAt ls k).size ≤ 100000) : Calls Tryd.prog 19 #[.slice (some ⟨g, o, none⟩) ls.length c] w fun e w' => e = .returned (.string (DS (ofL (joinP ls ls.length)))) ∧ Below w.heap.size w w' := by
  have B := Below.refl w.heap.size w
  have hjl := joinP_length ls 100000 hM ls.length
  have hjl2 : (joinP ls ls.length).length ≤ 108000000 := by omega
  clear hjl
  go_enter Tryd.func19, Tryd.ntmps19
  go_wp2_with (first | (go_at_call 21; refine (R_Preimage _ _ _ _ _ sc hn hM).mono ?_; rintro e wn ⟨rfl, hbn⟩; have hsz := B.size; have hzn := hbn.size; replace B := B.trans (hbn.mono B.size)) | (go_at_call 16; refine (S_OfR _ _ (by rw [ofL_size]; omega)).mono ?_; rintro e wn ⟨rfl, hbn⟩; have hsz := B.size; have hzn := hbn.size; replace B := B.trans (hbn.mono B.size)))
  go_ret
  exact ⟨rfl, B⟩
end Go.Proofs.YtpkonkkjihbgiaaDoor
