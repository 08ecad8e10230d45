/- The sanity check of the digest laws returns true. -/
import Derived.Test.YtpkonkkjihbgiaaDoorDu
import Derived.Test.YtpkonkkjihbgiaaDoorDk
namespace Go.Proofs.YtpkonkkjihbgiaaDoor
open Go.RowKit Sha
set_option linter.unusedVariables false
set_option linter.unusedSimpArgs false

/-- The digest of a string; its hexadecimal form; what is parsed out of a string; is it valid? -/
def DS (s : ByteArray) : ByteArray := ofL (ofB (bytes s))
def HS (s : ByteArray) : ByteArray := ofL (hexL (bytes s))
def PS (s : ByteArray) : ByteArray := ofL (parseD (bytes s))
def ES (s : ByteArray) : Int := parseE (bytes s)
def VS (s : ByteArray) : Bool := decide ((bytes s).length = 32)
theorem DS_size (s : ByteArray) : (DS s).size = 32 := by unfold DS; rw [ofL_size, ofB_length]
theorem bytes_lt {s : ByteArray} (h : s.size < 1099511627776) : (bytes s).length < 1099511627776 := by rw [bytes_length]; exact h
section
variable (s : ByteArray) (w : World)
theorem S_Of (h : s.size < 1099511627776) (gs : GAt 0 8 w Sha.start.at) (kt : GAt 1 64 w kW) : Calls Tryd.prog 15 #[.string s] w fun e w' => e = .returned (.string (DS s)) ∧ Below w.heap.size w w' := P_Of (bytes s) w (bytes_lt h) gs kt
theorem S_OfR (h : s.size < 1099511627776) : Calls Tryd.prog 16 #[.string s] w fun e w' => e = .returned (.string (DS s)) ∧ Below w.heap.size w w' := R_Of (bytes s) w (bytes_lt h)
theorem S_Hex (h : s.size < 1099511627776) : Calls Tryd.prog 24 #[.string s] w fun e w' => e = .returned (.string (HS s)) ∧ Below w.heap.size w w' := P_Hex (bytes s) w (bytes_lt h)
theorem S_Parse (h : s.size < 1099511627776) : Calls Tryd.prog 22 #[.string s] w fun e w' => e = .returned (.tuple #[.string (PS s), .int .i64 (ES s)]) ∧ Below w.heap.size w w' := P_Parse (bytes s) w (bytes_lt h)
theorem S_Valid (h : s.size < 1099511627776) : Calls Tryd.prog 26 #[.string s] w fun e w' => e = .returned (.bool (VS s)) ∧ w = w' := P_Valid (bytes s) w (bytes_lt h)
end
theorem of_abc : ofBL [97, 98, 99] = [186, 120, 22, 191, 143, 1, 207, 234, 65, 65, 64, 222, 93, 174, 34, 35, 176, 3, 97, 163, 150, 23, 122, 156, 180, 16, 255, 97, 242, 0, 21, 173] := by decide +kernel
theorem hs_empty : HS (DS ⟨#[]⟩) = ⟨#[101, 51, 98, 48, 99, 52, 52, 50, 57, 56, 102, 99, 49, 99, 49, 52, 57, 97, 102, 98, 102, 52, 99, 56, 57, 57, 54, 102, 98, 57, 50, 52, 50, 55, 97, 101, 52, 49, 101, 52, 54, 52, 57, 98, 57, 51, 52, 99, 97, 52, 57, 53, 57, 57, 49, 98, 55, 56, 53, 50, 98, 56, 53, 53]⟩ := by
  show ofL (hexL (ofB [])) = _
  rw [ofBL_eq, of_empty]
  exact congrArg ofL (show hexL _ = [101, 51, 98, 48, 99, 52, 52, 50, 57, 56, 102, 99, 49, 99, 49, 52, 57, 97, 102, 98, 102, 52, 99, 56, 57, 57, 54, 102, 98, 57, 50, 52, 50, 55, 97, 101, 52, 49, 101, 52, 54, 52, 57, 98, 57, 51, 52, 99, 97, 52, 57, 53, 57, 57, 49, 98, 55, 56, 53, 50, 98, 56, 53, 53] by decide +kernel)
theorem hs_abc : HS (DS ⟨#[97, 98, 99]⟩) = ⟨#[98, 97, 55, 56, 49, 54, 98, 102, 56, 102, 48, 49, 99, 102, 101, 97, 52, 49, 52, 49, 52, 48, 100, 101, 53, 100, 97, 101, 50, 50, 50, 51, 98, 48, 48, 51, 54, 49, 97, 51, 57, 54, 49, 55, 55, 97, 57, 99, 98, 52, 49, 48, 102, 102, 54, 49, 102, 50, 48, 48, 49, 53, 97, 100]⟩ := by
  show ofL (hexL (ofB [97, 98, 99])) = _
  rw [ofBL_eq, of_abc]
  exact congrArg ofL (show hexL _ = [98, 97, 55, 56, 49, 54, 98, 102, 56, 102, 48, 49, 99, 102, 101, 97, 52, 49, 52, 49, 52, 48, 100, 101, 53, 100, 97, 101, 50, 50, 50, 51, 98, 48, 48, 51, 54, 49, 97, 51, 57, 54, 49, 55, 55, 97, 57, 99, 98, 52, 49, 48, 102, 102, 54, 49, 102, 50, 48, 48, 49, 53, 97, 100] by decide +kernel)
theorem ps_b : PS ⟨#[98, 97, 55, 56, 49, 54, 98, 102, 56, 102, 48, 49, 99, 102, 101, 97, 52, 49, 52, 49, 52, 48, 100, 101, 53, 100, 97, 101, 50, 50, 50, 51, 98, 48, 48, 51, 54, 49, 97, 51, 57, 54, 49, 55, 55, 97, 57, 99, 98, 52, 49, 48, 102, 102, 54, 49, 102, 50, 48, 48, 49, 53, 97, 100]⟩ = DS ⟨#[97, 98, 99]⟩ := by
  show ofL (parseD [98, 97, 55, 56, 49, 54, 98, 102, 56, 102, 48, 49, 99, 102, 101, 97, 52, 49, 52, 49, 52, 48, 100, 101, 53, 100, 97, 101, 50, 50, 50, 51, 98, 48, 48, 51, 54, 49, 97, 51, 57, 54, 49, 55, 55, 97, 57, 99, 98, 52, 49, 48, 102, 102, 54, 49, 102, 50, 48, 48, 49, 53, 97, 100]) = ofL (ofB [97, 98, 99])
  rw [ofBL_eq, of_abc]
  exact congrArg ofL (show parseD _ = _ by decide +kernel)
theorem es_b : ES ⟨#[98, 97, 55, 56, 49, 54, 98, 102, 56, 102, 48, 49, 99, 102, 101, 97, 52, 49, 52, 49, 52, 48, 100, 101, 53, 100, 97, 101, 50, 50, 50, 51, 98, 48, 48, 51, 54, 49, 97, 51, 57, 54, 49, 55, 55, 97, 57, 99, 98, 52, 49, 48, 102, 102, 54, 49, 102, 50, 48, 48, 49, 53, 97, 100]⟩ = 0 := by
  show parseE [98, 97, 55, 56, 49, 54, 98, 102, 56, 102, 48, 49, 99, 102, 101, 97, 52, 49, 52, 49, 52, 48, 100, 101, 53, 100, 97, 101, 50, 50, 50, 51, 98, 48, 48, 51, 54, 49, 97, 51, 57, 54, 49, 55, 55, 97, 57, 99, 98, 52, 49, 48, 102, 102, 54, 49, 102, 50, 48, 48, 49, 53, 97, 100] = 0
  decide +kernel
theorem es_c (s : ByteArray) (h : s.size ≠ 64) : ES s = 11 := (parse_bad (bad_len (by rw [bytes_length]; exact h))).2
theorem vs_abc : VS (DS ⟨#[97, 98, 99]⟩) = true := decide_eq_true (by rw [bytes_length, DS_size])
theorem vs_empty : VS ⟨#[]⟩ = false := by decide

set_option maxHeartbeats 1000000 in
set_option maxRecDepth 20000 in
theorem P_Join_nil (w : World) (gs : GAt 0 8 w Sha.start.at) (kt : GAt 1 64 w kW) : Calls Tryd.prog 18 #[.slice none 0 0] w fun e w' => e = .returned (.string (DS ⟨#[]⟩)) ∧ Below w.heap.size w w' := by
  have B := Below.refl w.heap.size w
  have g0 := gs.lt
  have k0 := kt.lt
  go_enter Tryd.func18, Tryd.ntmps18
  go_wp2_with (first | (refine wpList_allocB rfl rfl ?_; intro b_bd wn hle hge ht hbn hzn; have hsz := B.size; replace B := B.trans (hbn.mono (by omega)); have hln := Nat.lt_of_lt_of_eq (Nat.lt_succ_self _) hzn.symm; clear hzn; (try first | (have hlt := gs.lt; replace gs := gs.of_eq (hbn.block _ (by omega))) | replace gs := gs.below (hbn.mono hle)); (try first | (have hlt := kt.lt; replace kt := kt.of_eq (hbn.block _ (by omega))) | replace kt := kt.below (hbn.mono hle)); have bd := ht; clear ht; simp only [Act.put, List.setIfInBounds_toArray, List.set_cons_zero, List.set_cons_succ]))
  have hbd : w.heap.size ≤ b_bd := hle
  go_loopw [5, 8] (fun _ i wr => i = .int .i64 0 ∧ Below w.heap.size w wr ∧ HoldsB b_bd b_bd [] wr ∧ GAt 0 8 wr Sha.start.at ∧ GAt 1 64 wr kW) (fun _ _ _ => 0)
  case atStart => exact ⟨rfl, B, bd, gs, kt⟩
  case round =>
    clear B bd gs kt
    obtain ⟨rfl, B, bd, gs, kt⟩ := hrel
    have hbl := bd.lt
    go_wp2_with (first | (go_at_call 15; refine (S_Of _ _ (by decide) gs kt).mono ?_; rintro e wn ⟨rfl, hbn⟩; have hsz := B.size; have hzn := hbn.size; replace B := B.trans (hbn.mono B.size); (try first | replace gs := gs.of_eq (hbn.block _ gs.lt) | replace gs := gs.below hbn); (try first | replace kt := kt.of_eq (hbn.block _ kt.lt) | replace kt := kt.below hbn)) | (go_at_call 31; refine (L_String b_bd b_bd _ _ bd (Nat.le_of_lt bd.lt)).mono ?_; rintro e wn ⟨rfl, hbn⟩; have hsz := B.size; have hzn := hbn.size; replace B := B.trans (hbn.mono (by omega)); replace gs := gs.of_eq (hbn.block _ (by have := gs.lt; omega)); replace kt := kt.of_eq (hbn.block _ (by have := kt.lt; omega))))
    go_ret
    exact ⟨rfl, B⟩

set_option maxHeartbeats 2000000 in
set_option maxRecDepth 20000 in
theorem sanity (w : World) (gs : GAt 0 8 w Sha.start.at) (kt : GAt 1 64 w kW) : Calls Tryd.prog 13 #[] w fun e w' => e = .returned (.bool true) ∧ Below w.heap.size w w' := by
  have B := Below.refl w.heap.size w
  have h1 := hs_empty
  have h2 := hs_abc
  have h3 := ps_b
  have h4 := es_b
  have h5 := vs_abc
  have h6 := vs_empty
  go_enter Tryd.func13, Tryd.ntmps13
  go_wp2_with (first | (go_at_call 22; refine (S_Parse _ _ (by decide)).mono ?_; rintro e wn ⟨rfl, hbn⟩; have hsz := B.size; have hzn := hbn.size; replace B := B.trans (hbn.mono B.size); (try first | replace gs := gs.of_eq (hbn.block _ gs.lt) | replace gs := gs.below hbn); (try first | replace kt := kt.of_eq (hbn.block _ kt.lt) | replace kt := kt.below hbn)) | (go_at_call 15; refine (S_Of _ _ (by decide) gs kt).mono ?_; rintro e wn ⟨rfl, hbn⟩; have hsz := B.size; have hzn := hbn.size; replace B := B.trans (hbn.mono B.size); (try first | replace gs := gs.of_eq (hbn.block _ gs.lt) | replace gs := gs.below hbn); (try first | replace kt := kt.of_eq (hbn.block _ kt.lt) | replace kt := kt.below hbn)) | (go_at_call 24; refine (S_Hex _ _ (by rw [DS_size]; decide)).mono ?_; rintro e wn ⟨rfl, hbn⟩; have hsz := B.size; have hzn := hbn.size; replace B := B.trans (hbn.mono B.size); (try first | replace gs := gs.of_eq (hbn.block _ gs.lt) | replace gs := gs.below hbn); (try first | replace kt := kt.of_eq (hbn.block _ kt.lt) | replace kt := kt.below hbn)) | (go_at_call 18; refine (P_Join_nil _ gs kt).mono ?_; rintro e wn ⟨rfl, hbn⟩; have hsz := B.size; have hzn := hbn.size; replace B := B.trans (hbn.mono B.size); (try first | replace gs := gs.of_eq (hbn.block _ gs.lt) | replace gs := gs.below hbn); (try first | replace kt := kt.of_eq (hbn.block _ kt.lt) | replace kt := kt.below hbn)) | (go_at_call 26; refine (S_Valid _ _ (by first | decide | (rw [DS_size]; decide))).mono ?_; rintro e wq ⟨rfl, rfl⟩))
  go_ret
  exact ⟨rfl, B⟩
theorem HS_DS (s : ByteArray) : HS (DS s) = ofL (hexL (ofB (bytes s))) := rfl
theorem DS_lt (s : ByteArray) : (DS s).size < 1099511627776 := by rw [DS_size]; decide
attribute [irreducible] DS HS PS ES VS
end Go.Proofs.YtpkonkkjihbgiaaDoor
