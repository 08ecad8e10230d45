/- DigestHexBack: for every valid digest, Parse inverts Hex, and the hexadecimal form consists of 64 digits from 0-9 and a-f: the law returns true for every input, and its argument reads as it did. The two tables of package digest hold what the program's text lays. No other condition. -/
import Derived.Test.YtpkonkkjihbgiaaDoorDx
namespace Go.Proofs.YtpkonkkjihbgiaaDoor
open Go.RowKit Sha
set_option linter.unusedVariables false
set_option linter.unusedSimpArgs false

theorem back_ps (l : List UInt8) (h : l.length = 32) : PS (HS (ofL l)) = ofL l := by
  unfold PS HS
  rw [bytes_ofL, bytes_ofL, (parse_hex l h).1]
theorem back_es (l : List UInt8) (h : l.length = 32) : ES (HS (ofL l)) = 0 := by
  unfold ES HS
  rw [bytes_ofL, bytes_ofL, (parse_hex l h).2]
theorem hs_size (l : List UInt8) (h : l.length = 32) : (HS (ofL l)).size = 64 := by
  unfold HS
  rw [ofL_size, bytes_ofL]
  unfold hexL
  rw [if_pos h, hexB_length]
theorem hs_dig (l : List UInt8) (h : l.length = 32) (k : Nat) (hk : k < 64) : isDig (byteAt (HS (ofL l)) k) := by
  have e : HS (ofL l) = ofL (hexB l 32) := by unfold HS; rw [bytes_ofL]; unfold hexL; rw [if_pos h]
  rw [e]
  exact hexB_all (P := isDig) l 32 hex_dig k (by omega)
section
variable (w : World) (b : UInt8)
@[go_sem] theorem Y_geq (n : Int) : (binOp .geq 5 (Y b) (.int .u8 n)).run Tryd.prog w = .ok (.bool (decide (n ≤ (b.toNat : Int)))) w := by
  unfold Y; simp [go_sem]
@[go_sem] theorem Y_leq (n : Int) : (binOp .leq 5 (Y b) (.int .u8 n)).run Tryd.prog w = .ok (.bool (decide ((b.toNat : Int) ≤ n))) w := by
  unfold Y; simp [go_sem]
@[go_sem] theorem guardY_geq (t : TypeId) (p q : Operand) (v : Value) : (eqGuard .geq t p q (Y b) v).run Tryd.prog w = .ok () w := by
  unfold Y; simp [go_sem]
@[go_sem] theorem guardY_leq (t : TypeId) (p q : Operand) (v : Value) : (eqGuard .leq t p q (Y b) v).run Tryd.prog w = .ok () w := by
  unfold Y; simp [go_sem]
end
set_option maxHeartbeats 2000000 in
set_option maxRecDepth 20000 in
theorem walk_DigestHexBack (s : ByteArray) (hs : s.size ≤ maxLen) (w : World) (gs : GAt 0 8 w Sha.start.at) (kt : GAt 1 64 w kW) : Calls Tryd.prog 9 #[.string s] w fun e w' => e = .returned (.bool true) ∧ Below w.heap.size w w' := by
  have B := Below.refl w.heap.size w
  have b1 := back_ps _ (valL_length s)
  have b2 := back_es _ (valL_length s)
  have b3 := hs_size _ (valL_length s)
  have b4 := Lib.hid (hs_dig _ (valL_length s))
  go_enter Tryd.func9, Tryd.ntmps9
  go_wp2_with (first | (go_at_call 13; refine (sanity _ gs kt).mono ?_; rintro e wn ⟨rfl, hbn⟩; have hsz := B.size; have hzn := hbn.size; replace B := B.trans (hbn.mono B.size); (try first | replace gs := gs.of_eq (hbn.block _ gs.lt) | replace gs := gs.below hbn); (try first | replace kt := kt.of_eq (hbn.block _ kt.lt) | replace kt := kt.below hbn)) | (go_at_call 27; refine (L_valid _ _ hs).mono ?_; rintro e wn ⟨rfl, hbn⟩; have hsz := B.size; have hzn := hbn.size; replace B := B.trans (hbn.mono B.size); (try first | replace gs := gs.of_eq (hbn.block _ gs.lt) | replace gs := gs.below hbn); (try first | replace kt := kt.of_eq (hbn.block _ kt.lt) | replace kt := kt.below hbn)) | (go_at_call 24; refine (S_Hex _ _ (by rw [ofL_size, valL_length]; omega)).mono ?_; rintro e wn ⟨rfl, hbn⟩; have hsz := B.size; have hzn := hbn.size; replace B := B.trans (hbn.mono B.size); (try first | replace gs := gs.of_eq (hbn.block _ gs.lt) | replace gs := gs.below hbn); (try first | replace kt := kt.of_eq (hbn.block _ kt.lt) | replace kt := kt.below hbn)) | (go_at_call 22; refine (S_Parse _ _ (by rw [hs_size _ (valL_length s)]; omega)).mono ?_; rintro e wn ⟨rfl, hbn⟩; have hsz := B.size; have hzn := hbn.size; replace B := B.trans (hbn.mono B.size); (try first | replace gs := gs.of_eq (hbn.block _ gs.lt) | replace gs := gs.below hbn); (try first | replace kt := kt.of_eq (hbn.block _ kt.lt) | replace kt := kt.below hbn)))
  generalize HS (ofL (valL s)) = H at *
  clear b1 b2 gs kt
  go_loopw [8] (fun i wr => ∃ k : Nat, k ≤ 64 ∧ i = .int .i64 k ∧ Below w.heap.size w wr) (fun i _ => (64 - intOf i).toNat)
  case atStart => exact ⟨0, by omega, rfl, B⟩
  case round =>
    clear B
    obtain ⟨k, hk, rfl, B⟩ := hrel
    by_cases hlt : k < 64
    · have hd := b4.out k hlt
      have hkz : k < H.size := by omega
      rw [← byteAt_get H k hkz] at hd
      rcases hd with ⟨d1, d2⟩ | ⟨d1, d2⟩
      · have c1 : decide ((48 : Int) ≤ ((H[k]'hkz).toNat : Int)) = true := decide_eq_true (by omega)
        have c2 : decide (((H[k]'hkz).toNat : Int) ≤ 57) = true := decide_eq_true (by omega)
        clear d1 d2
        go_wp2
        go_roundw
        case rel => exact ⟨k + 1, by omega, by go_num, B⟩
        case measure => simp [intOf]; omega
      · have c1 : decide ((48 : Int) ≤ ((H[k]'hkz).toNat : Int)) = true := decide_eq_true (by omega)
        have c2 : decide (((H[k]'hkz).toNat : Int) ≤ 57) = false := decide_eq_false (by omega)
        have c3 : decide ((97 : Int) ≤ ((H[k]'hkz).toNat : Int)) = true := decide_eq_true (by omega)
        have c4 : decide (((H[k]'hkz).toNat : Int) ≤ 102) = true := decide_eq_true (by omega)
        clear d1 d2
        go_wp2
        go_roundw
        case rel => exact ⟨k + 1, by omega, by go_num, B⟩
        case measure => simp [intOf]; omega
    · obtain rfl : k = 64 := by omega
      simp only [show ((64 : Nat) : Int) = 64 from rfl]
      go_wp2
      go_ret
      exact ⟨rfl, B⟩

namespace digestHexBack
open Go.ChangeShapes Go.WideShapes Go.ChangeAt Go.RowKit
open Go.ChangeMaps (open_string shut_string)
set_option maxRecDepth 100000 in
theorem lifted (os : Os) (started : os.Started) (H : Type) (enc : TypeId × Value → H) :
    ReturnsInHanded {} Tryd.checked os 9 .any (fun w args => (Rows.digestHexBackSpec.pre enc Tryd.prog Tryd.f9 [] false w args ∧ laidMetH Tryd.prog laidD w) ∧ sizedMet enc Tryd.prog Tryd.f9 (OpenSpec.ofChange Rows.digestHexBackSpec) false w args) (Rows.digestHexBackSpec.post enc Tryd.prog Tryd.f9 false true false false) := by
  refine returnsInHanded_of_change_and (C := Tryd.checked) (X := fun w _ => laidMetH Tryd.prog laidD w) (fun _ _ _ hh h => h.of_heap hh) own started (by kernel_rfl) Tryd.func9
    (ChangeSpec.witness_shaped (enc := enc) (C := Tryd.checked) (os := os) (X := fun w _ => laidMetH Tryd.prog laidD w) false (World.doorLaid Tryd.prog 400 os) #[.string ⟨#[]⟩] 8 rfl (World.shaped_of_RefB (by kernel_rfl) (by kernel_rfl)) (by kernel_rfl) (by kernel_rfl) (by kernel_rfl) (door_met os _)) ?_
  intro W base args ds gs before hval0 hW _ _ hL _
  obtain ⟨hgs, hkt⟩ := of_laid hL
  have hval : ∀ (j : Nat) t v, Tryd.f9.params[j]? = some t → args[j]? = some v → Value.okWide Tryd.prog W .any base t v := hval0
  have hW' := hW
  obtain ⟨p, q, hA0, hV, rfl, hfz, hnd⟩ := hW
  have hA : DataW.TrodAll enc Tryd.prog W 0 (fun _ => true) true Tryd.f9.params.toList args.toList ds p := hA0
  rw [Tryd.params9] at hA hval
  obtain ⟨v0, vs0, d0, ds0, p0, q0, hargs, rfl, rfl, h0, r0⟩ := trodAll_cons hA
  obtain ⟨rfl, rfl, rfl⟩ := trodAll_nil r0
  obtain rfl : args = #[v0] := by cases args; simp_all
  obtain ⟨rfl, rfl⟩ := trodVars_none hV
  have k0 := h0
  have lt0 : ∀ x ∈ p0, x.block < W.heap.size := by obtain ⟨m, hm⟩ := k0; exact DataW.trod_lt m _ _ _ hm
  obtain ⟨a0, rfl, rfl, rfl, w0⟩ := open_string Tryd.underlying9 (hval 0 9 v0 rfl rfl) h0
  clear hA0 hval0
  refine (walk_DigestHexBack a0 w0 W hgs hkt).mono fun e W' ⟨he, bel⟩ => ?_
  subst he
  exact ⟨_, rfl, _, _, _, [], _, [], hW', trodAll_mk1 (shut_bool Tryd.underlying4 _), (trodAll_cons_mk (Below.trod laidOut (by kernel_rfl) (of_decide_eq_true (by kernel_rfl)) k0 bel lt0) trodAll_mk0), rfl, bel.frame _, fun h => by cases h⟩
theorem over : Rows.digestHexBackRow.holds Tryd.pinned (OpenSpec.ofChange Rows.digestHexBackSpec) :=
  OpenClaim.holds_of_wide 9 Tryd.f9 rfl rfl rfl rfl rfl rfl rfl ⟨rfl, rfl, rfl, rfl, rfl⟩ rfl rfl rfl rfl rfl (by kernel_rfl) Tryd.func9 (by kernel_rfl)
    (of_decide_eq_true (by kernel_rfl)) (by unfold Func.isWrapper; first | (rw [if_pos (by decide +kernel)]; kernel_rfl) | (rw [if_neg (by decide +kernel)]; exact ⟨rfl, rfl⟩))
    (fun os started H enc _ => lifted os started H enc)
/-- THE STATEMENT: DigestHexBack returns true for every input, and its arguments read as they did; what the two tables hold is tied to the program's text. -/
theorem proved : Rows.DigestHexBackCardSaid := by
  unfold Rows.DigestHexBackCardSaid Rows.digestHexBackCard
  exact Claim7.holds_tied_plain_at .later [] [.data, .data] true _ false over (fun _ h => by cases h) (by kernel_rfl) (fun _ h => by cases h) digestHexBack_row_tie rfl ⟨rfl, rfl⟩ (by kernel_rfl) rfl
    (fun f fn hf hfn => by
      obtain rfl : f = 9 := Option.some.inj ((show Tryd.prog.funcNamed "gouache/gouachelaw02.DigestHexBack" = some 9 by kernel_rfl).symm.trans hf) |>.symm
      obtain rfl : fn = Tryd.f9 := (Option.some.inj (Tryd.func9.symm.trans hfn)).symm
      exact ⟨by kernel_rfl, fun j t ht => by
        rw [Tryd.params9] at ht
        have hm : t ∈ [9] := by simpa using Array.mem_of_getElem? ht
        have hall : ([9].all fun u => !Tryd.prog.wantsStandIn u) = true := by kernel_rfl
        exact (show Tryd.prog.wantsStandIn t = false by simpa using List.all_eq_true.1 hall t hm)⟩)
    (by kernel_rfl)
end digestHexBack

end Go.Proofs.YtpkonkkjihbgiaaDoor
