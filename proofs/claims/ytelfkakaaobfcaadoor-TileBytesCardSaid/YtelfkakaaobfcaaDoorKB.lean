import Derived.Test.YtelfkakaaobfcaaDoorDr
import Derived.Test.YtelfkakaaobfcaaDoorDk
import Derived.Test.YtelfkakaaobfcaaDoorTie
import Derived.Test.YtelfkakaaobfcaaDoorCards
import Derived.ProofKit
import Derived.OpenShut
import Derived.ShutString
import Derived.LaidMore
import Derived.Stop.Joined
import Derived.Stop.LaidErr
import Derived.Lib.LaidTab
import Derived.Lib.SmallJoins
import Derived.SevenTiedAt

/- Contracts of digest.Valid and digest.Hex. -/
namespace Go.Proofs.YtelfkakaaobfcaaDoor
open Go.RowKit Sha
set_option linter.unusedVariables false
set_option linter.unusedSimpArgs false

def digs : List UInt8 := [48, 49, 50, 51, 52, 53, 54, 55, 56, 57, 97, 98, 99, 100, 101, 102]
def hexD (b : UInt8) : UInt8 := digs.getD b.toNat 0
def hexB (l : List UInt8) : Nat → List UInt8
  | 0 => []
  | k + 1 => hexB l k ++ [hexD (l.getD k 0 >>> 4)] ++ [hexD (l.getD k 0 &&& 15)]
theorem hexB_next (l : List UInt8) (k : Nat) : hexB l (k + 1) = hexB l k ++ [hexD (l.getD k 0 >>> 4)] ++ [hexD (l.getD k 0 &&& 15)] := rfl
theorem hexB_length (l : List UInt8) (k : Nat) : (hexB l k).length = 2 * k := by
  induction k with
  | zero => rfl
  | succ k ih => rw [hexB_next, List.length_append, List.length_append, ih]; rfl
/-- What Hex returns. -/
def hexL (l : List UInt8) : List UInt8 := if l.length = 32 then hexB l 32 else []
section
variable (w : World) (b : UInt8)
@[go_sem] theorem Y_shr4 : (binOp .shr 5 (Y b) (.int .u64 4)).run Tryd.prog w = .ok (Y (b >>> 4)) w := by
  have e : ∀ b : UInt8, ((b >>> 4).toNat : Int) = (b.toNat : Int) / 16 := fun b => by
    rw [UInt8.toNat_shiftRight]
    show ((b.toNat >>> 4 : Nat) : Int) = _
    rw [Nat.shiftRight_eq_div_pow]
    rfl
  unfold Y
  rw [e]
  simp [go_sem]
@[go_sem] theorem Y_and15 : (binOp .and 5 (Y b) (.int .u8 15)).run Tryd.prog w = .ok (Y (b &&& 15)) w := by
  have e : (binOp .and 5 (Y b) (.int .u8 15)).run Tryd.prog w = .ok (.int .u8 (IntKind.u8.wrap ((BitVec.ofInt 8 (b.toNat : Int) &&& BitVec.ofInt 8 15).toNat : Int))) w := by kernel_rfl
  rw [e]
  have h : BitVec.ofInt 8 (b.toNat : Int) = b.toBitVec := by
    apply BitVec.eq_of_toNat_eq
    simp [BitVec.toNat_ofInt]
  rw [h]
  show _ = Result.ok (Value.int .u8 ((b &&& 15).toNat : Int)) w
  congr 2
  have h2 : (b &&& 15).toNat = (b.toBitVec &&& BitVec.ofInt 8 15).toNat := rfl
  rw [h2]
  have h3 : b.toNat &&& 15 ≤ 15 := Nat.and_le_right
  simp only [IntKind.wrap, IntKind.bits, IntKind.signed]
  simp
  omega
@[go_sem] theorem guardY_shr (t : TypeId) (p q : Operand) (v : Value) : (eqGuard .shr t p q (Y b) v).run Tryd.prog w = .ok () w := by
  unfold Y; simp [go_sem]
@[go_sem] theorem guardY_and (t : TypeId) (p q : Operand) (v : Value) : (eqGuard .and t p q (Y b) v).run Tryd.prog w = .ok () w := by
  unfold Y; simp [go_sem]
theorem run_index_digs (t : TypeId) (ht : Tryd.prog.underlying t = some .string) (h : b.toNat < 16) : (Instr.index t (.string ⟨#[48, 49, 50, 51, 52, 53, 54, 55, 56, 57, 97, 98, 99, 100, 101, 102]⟩) (Y b)).run Tryd.prog w = .ok (Y (hexD b)) w := by
  unfold Y
  have hs : (⟨#[48, 49, 50, 51, 52, 53, 54, 55, 56, 57, 97, 98, 99, 100, 101, 102]⟩ : ByteArray).size = 16 := rfl
  rw [run_index_string w t _ .u8 (b.toNat : Int) ht, dif_pos ⟨by omega, by omega⟩]
  simp only [Int.toNat_natCast]
  rw [byteAt_get _ b.toNat (by omega)]
  rfl
theorem shr4_lt : (b >>> 4).toNat < 16 := by
  have := b.toNat_lt
  rw [UInt8.toNat_shiftRight]
  show b.toNat >>> 4 < 16
  rw [Nat.shiftRight_eq_div_pow]
  omega
theorem and15_lt : (b &&& 15).toNat < 16 := by
  rw [UInt8.toNat_and]
  exact Nat.lt_of_le_of_lt Nat.and_le_right (by decide)
@[go_sem] theorem digs_hi : (Instr.index 9 (.string ⟨#[48, 49, 50, 51, 52, 53, 54, 55, 56, 57, 97, 98, 99, 100, 101, 102]⟩) (Y (b >>> 4))).run Tryd.prog w = .ok (Y (hexD (b >>> 4))) w := run_index_digs w _ _ Tryd.underlying9 (shr4_lt b)
@[go_sem] theorem digs_lo : (Instr.index 9 (.string ⟨#[48, 49, 50, 51, 52, 53, 54, 55, 56, 57, 97, 98, 99, 100, 101, 102]⟩) (Y (b &&& 15))).run Tryd.prog w = .ok (Y (hexD (b &&& 15))) w := run_index_digs w _ _ Tryd.underlying9 (and15_lt b)
end
section
variable {ops : Array Oper} {rest : List Oper} {o : Oper} {a : Act} {w : World} {Q : Exit → Act → World → Prop}
theorem wpList_indexS {t : TypeId} (hg : o.guard = none) (x i : Operand) (ho : o.op = .index t x i) (s : ByteArray) (hx : a.eval x = .string s) (j : Int) (hi : a.eval i = .int .i64 j) (m : Nat) (hm : m < s.size) (hj : j = m)
    (h : wpList Tryd.prog ops Q rest (a.put o.dst (Y (byteAt s m))) w) (ht : Tryd.prog.underlying t = some .string := by kernel_rfl) : wpList Tryd.prog ops Q (o :: rest) a w :=
  wpList_plain hg fun K hK => by
    subst hj
    unfold Oper.wp execOp
    simp only [ho, hx, hi, run_indexS t ht s m hm w, Sem.run_bind, Sem.run_pure, Result.andThen_ok]
    exact hK _ _ h
end

end Go.Proofs.YtelfkakaaobfcaaDoor
/- Contract of digest.Parse. -/
namespace Go.Proofs.YtelfkakaaobfcaaDoor
open Go.RowKit Sha
set_option linter.unusedVariables false
set_option linter.unusedSimpArgs false

def nib (c : UInt8) : Int := Lib.indexByte digs c
theorem nib_bd (c : UInt8) : -1 ≤ nib c ∧ nib c < 16 := by
  have h : ∀ l : List UInt8, -1 ≤ Lib.indexByte l c ∧ Lib.indexByte l c < l.length := by
    intro l
    induction l with
    | nil => simp [Lib.indexByte]
    | cons b l ih =>
      unfold Lib.indexByte
      split
      · simp
      · split
        · simp; omega
        · rw [List.length_cons]; omega
  exact h digs
/-- The byte of two digits. -/
def pairB (a b : UInt8) : UInt8 := UInt8.ofNat ((nib a).toNat * 16 + (nib b).toNat)
def parseP (l : List UInt8) : Nat → List UInt8
  | 0 => []
  | k + 1 => parseP l k ++ [pairB (l.getD (2 * k) 0) (l.getD (2 * k + 1) 0)]
theorem parseP_next (l : List UInt8) (k : Nat) : parseP l (k + 1) = parseP l k ++ [pairB (l.getD (2 * k) 0) (l.getD (2 * k + 1) 0)] := rfl
theorem parseP_length (l : List UInt8) (k : Nat) : (parseP l k).length = k := by
  induction k with
  | zero => rfl
  | succ k ih => rw [parseP_next, List.length_append, ih]; rfl
/-- Are all characters digits? -/
def allHex (l : List UInt8) : Bool := decide (∀ j ∈ List.range l.length, 0 ≤ nib (l.getD j 0))
def parseOk (l : List UInt8) : Bool := decide (l.length = 64) && allHex l
def parseD (l : List UInt8) : List UInt8 := if parseOk l = true then parseP l 32 else []
def parseE (l : List UInt8) : Int := if parseOk l = true then 0 else 11
theorem parse_bad {l : List UInt8} (h : parseOk l = false) : parseD l = [] ∧ parseE l = 11 := by
  unfold parseD parseE
  rw [h]
  exact ⟨rfl, rfl⟩
theorem parse_good {l : List UInt8} (h : parseOk l = true) : parseD l = parseP l 32 ∧ parseE l = 0 := by
  unfold parseD parseE
  rw [h]
  exact ⟨rfl, rfl⟩
theorem bad_len {l : List UInt8} (h : l.length ≠ 64) : parseOk l = false := by
  unfold parseOk
  rw [decide_eq_false h]; rfl
theorem bad_at {l : List UInt8} {j : Nat} (hj : j < l.length) (h : nib (l.getD j 0) < 0) : parseOk l = false := by
  unfold parseOk allHex
  rw [Bool.and_eq_false_iff]
  right
  exact decide_eq_false fun e => by
    have := e j (List.mem_range.2 hj)
    omega
theorem good_all {l : List UInt8} (h64 : l.length = 64) (h : ∀ j, j < 64 → 0 ≤ nib (l.getD j 0)) : parseOk l = true := by
  unfold parseOk allHex
  rw [decide_eq_true h64, Bool.true_and]
  exact decide_eq_true fun j hj => h j (by have := List.mem_range.1 hj; omega)
theorem pair_val (a b : UInt8) (ha : 0 ≤ nib a) (hb : 0 ≤ nib b) (w : World) : (bits .or .i64 (nib a * 16) (nib b)) = ((pairB a b).toNat : Int) := by
  have h1 := nib_bd a
  have h2 := nib_bd b
  unfold pairB
  obtain ⟨x, hx⟩ := Int.eq_ofNat_of_zero_le ha
  obtain ⟨y, hy⟩ := Int.eq_ofNat_of_zero_le hb
  rw [hx, hy]
  have hx2 : x < 16 := by omega
  have hy2 : y < 16 := by omega
  have key : ∀ x : Fin 16, ∀ y : Fin 16, bits .or .i64 ((x.val : Int) * 16) (y.val : Int) = ((UInt8.ofNat ((((x.val : Nat) : Int)).toNat * 16 + (((y.val : Nat) : Int)).toNat)).toNat : Int) := by decide +kernel
  exact key ⟨x, hx2⟩ ⟨y, hy2⟩
end Go.Proofs.YtelfkakaaobfcaaDoor
/- The sanity check of the digest laws returns true. -/
namespace Go.Proofs.YtelfkakaaobfcaaDoor
open Go.RowKit Sha
set_option linter.unusedVariables false
set_option linter.unusedSimpArgs false

/-- The digest of a string; its hexadecimal form; what is parsed out of a string; is it valid? -/
def DS (s : ByteArray) : ByteArray := ofL (ofB (bytes s))
def HS (s : ByteArray) : ByteArray := ofL (hexL (bytes s))
def PS (s : ByteArray) : ByteArray := ofL (parseD (bytes s))
def ES (s : ByteArray) : Int := parseE (bytes s)
def VS (s : ByteArray) : Bool := decide ((bytes s).length = 32)
theorem DS_size (s : ByteArray) : (DS s).size = 32 := by unfold DS; rw [ofL_size, ofB_length]
theorem bytes_lt {s : ByteArray} (h : s.size < 1099511627776) : (bytes s).length < 1099511627776 := by rw [bytes_length]; exact h
section
variable (s : ByteArray) (w : World)
theorem S_Of (h : s.size < 1099511627776) (gs : GAt 0 8 w Sha.start.at) (kt : GAt 1 64 w kW) : Calls Tryd.prog 8 #[.string s] w fun e w' => e = .returned (.string (DS s)) ∧ Below w.heap.size w w' := P_Of (bytes s) w (bytes_lt h) gs kt
theorem S_OfR (h : s.size < 1099511627776) : Calls Tryd.prog 24 #[.string s] w fun e w' => e = .returned (.string (DS s)) ∧ Below w.heap.size w w' := R_Of (bytes s) w (bytes_lt h)
end
theorem of_abc : ofBL [97, 98, 99] = [186, 120, 22, 191, 143, 1, 207, 234, 65, 65, 64, 222, 93, 174, 34, 35, 176, 3, 97, 163, 150, 23, 122, 156, 180, 16, 255, 97, 242, 0, 21, 173] := by decide +kernel
theorem hs_empty : HS (DS ⟨#[]⟩) = ⟨#[101, 51, 98, 48, 99, 52, 52, 50, 57, 56, 102, 99, 49, 99, 49, 52, 57, 97, 102, 98, 102, 52, 99, 56, 57, 57, 54, 102, 98, 57, 50, 52, 50, 55, 97, 101, 52, 49, 101, 52, 54, 52, 57, 98, 57, 51, 52, 99, 97, 52, 57, 53, 57, 57, 49, 98, 55, 56, 53, 50, 98, 56, 53, 53]⟩ := by
  show ofL (hexL (ofB [])) = _
  rw [ofBL_eq, of_empty]
  exact congrArg ofL (show hexL _ = [101, 51, 98, 48, 99, 52, 52, 50, 57, 56, 102, 99, 49, 99, 49, 52, 57, 97, 102, 98, 102, 52, 99, 56, 57, 57, 54, 102, 98, 57, 50, 52, 50, 55, 97, 101, 52, 49, 101, 52, 54, 52, 57, 98, 57, 51, 52, 99, 97, 52, 57, 53, 57, 57, 49, 98, 55, 56, 53, 50, 98, 56, 53, 53] by decide +kernel)
theorem hs_abc : HS (DS ⟨#[97, 98, 99]⟩) = ⟨#[98, 97, 55, 56, 49, 54, 98, 102, 56, 102, 48, 49, 99, 102, 101, 97, 52, 49, 52, 49, 52, 48, 100, 101, 53, 100, 97, 101, 50, 50, 50, 51, 98, 48, 48, 51, 54, 49, 97, 51, 57, 54, 49, 55, 55, 97, 57, 99, 98, 52, 49, 48, 102, 102, 54, 49, 102, 50, 48, 48, 49, 53, 97, 100]⟩ := by
  show ofL (hexL (ofB [97, 98, 99])) = _
  rw [ofBL_eq, of_abc]
  exact congrArg ofL (show hexL _ = [98, 97, 55, 56, 49, 54, 98, 102, 56, 102, 48, 49, 99, 102, 101, 97, 52, 49, 52, 49, 52, 48, 100, 101, 53, 100, 97, 101, 50, 50, 50, 51, 98, 48, 48, 51, 54, 49, 97, 51, 57, 54, 49, 55, 55, 97, 57, 99, 98, 52, 49, 48, 102, 102, 54, 49, 102, 50, 48, 48, 49, 53, 97, 100] by decide +kernel)
theorem ps_b : PS ⟨#[98, 97, 55, 56, 49, 54, 98, 102, 56, 102, 48, 49, 99, 102, 101, 97, 52, 49, 52, 49, 52, 48, 100, 101, 53, 100, 97, 101, 50, 50, 50, 51, 98, 48, 48, 51, 54, 49, 97, 51, 57, 54, 49, 55, 55, 97, 57, 99, 98, 52, 49, 48, 102, 102, 54, 49, 102, 50, 48, 48, 49, 53, 97, 100]⟩ = DS ⟨#[97, 98, 99]⟩ := by
  show ofL (parseD [98, 97, 55, 56, 49, 54, 98, 102, 56, 102, 48, 49, 99, 102, 101, 97, 52, 49, 52, 49, 52, 48, 100, 101, 53, 100, 97, 101, 50, 50, 50, 51, 98, 48, 48, 51, 54, 49, 97, 51, 57, 54, 49, 55, 55, 97, 57, 99, 98, 52, 49, 48, 102, 102, 54, 49, 102, 50, 48, 48, 49, 53, 97, 100]) = ofL (ofB [97, 98, 99])
  rw [ofBL_eq, of_abc]
  exact congrArg ofL (show parseD _ = _ by decide +kernel)
theorem es_b : ES ⟨#[98, 97, 55, 56, 49, 54, 98, 102, 56, 102, 48, 49, 99, 102, 101, 97, 52, 49, 52, 49, 52, 48, 100, 101, 53, 100, 97, 101, 50, 50, 50, 51, 98, 48, 48, 51, 54, 49, 97, 51, 57, 54, 49, 55, 55, 97, 57, 99, 98, 52, 49, 48, 102, 102, 54, 49, 102, 50, 48, 48, 49, 53, 97, 100]⟩ = 0 := by
  show parseE [98, 97, 55, 56, 49, 54, 98, 102, 56, 102, 48, 49, 99, 102, 101, 97, 52, 49, 52, 49, 52, 48, 100, 101, 53, 100, 97, 101, 50, 50, 50, 51, 98, 48, 48, 51, 54, 49, 97, 51, 57, 54, 49, 55, 55, 97, 57, 99, 98, 52, 49, 48, 102, 102, 54, 49, 102, 50, 48, 48, 49, 53, 97, 100] = 0
  decide +kernel
theorem es_c (s : ByteArray) (h : s.size ≠ 64) : ES s = 11 := (parse_bad (bad_len (by rw [bytes_length]; exact h))).2
theorem vs_abc : VS (DS ⟨#[97, 98, 99]⟩) = true := decide_eq_true (by rw [bytes_length, DS_size])
theorem vs_empty : VS ⟨#[]⟩ = false := by decide

theorem HS_DS (s : ByteArray) : HS (DS s) = ofL (hexL (ofB (bytes s))) := rfl
theorem DS_lt (s : ByteArray) : (DS s).size < 1099511627776 := by rw [DS_size]; decide
attribute [irreducible] DS HS PS ES VS
end Go.Proofs.YtelfkakaaobfcaaDoor
/- What the two listed tables give the walks, and the contracts of what the digest laws share. -/
namespace Go.Proofs.YtelfkakaaobfcaaDoor
open Go.ChangeShapes Go.WideShapes Go.ChangeAt Go.RowKit Sha
set_option linter.unusedVariables false
set_option linter.unusedSimpArgs false

def laidD : List (String × DataW Unit) := [("gouache/digest.round", Rows.laid_gouache_digest_round), ("gouache/digest.start", Rows.laid_gouache_digest_start)]
theorem door_met (os : Os) (args : Array Value) : laidMetH Tryd.prog laidD ((World.doorLaid Tryd.prog 400 os).forCall (fun _ _ => 0) ⟨#[], args, []⟩).memory :=
  laidMetH_of_parts3 (fuel := 8) (laidMet_of_run' 8 (by kernel_rfl) (by kernel_rfl)) (by kernel_rfl) (by kernel_rfl)
def kInts : List Int := kList.map Int.ofNat
def sInts : List Int := [1779033703, 3144134277, 1013904242, 2773480762, 1359893119, 2600822924, 528734635, 1541459225]
theorem gRound : Tryd.prog.globalNamed "gouache/digest.round" = some 1 := by kernel_rfl
theorem gStart : Tryd.prog.globalNamed "gouache/digest.start" = some 0 := by kernel_rfl
theorem kInts_at : ∀ i, i < 64 → (Value.int .u32 (kInts.getD i 0)) = U (kW i) := by
  have h : ∀ i ∈ List.range 64, kInts.getD i 0 = ((kW i).toNat : Int) := by decide +kernel
  intro i hi
  rw [h i (List.mem_range.2 hi)]
  rfl
theorem sInts_at : ∀ i, i < 8 → (Value.int .u32 (sInts.getD i 0)) = U (Sha.start.at i) := by
  have h : ∀ i ∈ List.range 8, sInts.getD i 0 = ((Sha.start.at i).toNat : Int) := by decide +kernel
  intro i hi
  rw [h i (List.mem_range.2 hi)]
  rfl
theorem gat_of_tab {W : World} {name : String} {g n : Nat} {zs : List Int} {f : Nat → W32} (h : Lib.TabIs Tryd.prog W name .u32 zs) (hg : Tryd.prog.globalNamed name = some g) (hn : zs.length = n) (h0 : 0 < n) (hf : ∀ i, i < n → Value.int .u32 (zs.getD i 0) = U (f i)) : GAt g n W f := by
  have hc : ∀ i, i < n → W.cell? ⟨g, i, none⟩ = some (U (f i)) := fun i hi => by
    rw [h.cell hg i (by omega), hf i hi]
  refine ⟨?_, hc⟩
  have := hc 0 h0
  rcases Nat.lt_or_ge g W.heap.size with k | k
  · exact k
  · unfold World.cell? at this
    rw [Array.getElem?_eq_none k] at this
    cases this
/-- WHAT THE CONDITION GIVES THE WALKS. -/
theorem of_laid {W : World} (h : laidMetH Tryd.prog laidD W) : GAt 0 8 W Sha.start.at ∧ GAt 1 64 W kW := by
  rw [MakeChecks.laidMetH_plain _ _ _ (by kernel_rfl)] at h
  have h1 : laidMet Tryd.prog (("gouache/digest.round", Lib.tabData .u32 kInts) :: [("gouache/digest.start", Rows.laid_gouache_digest_start)]) W := h
  have h2 : laidMet Tryd.prog (("gouache/digest.start", Lib.tabData .u32 sInts) :: []) W := laidMet.tail h
  have t1 := Lib.tabIs_of_head gRound (by kernel_rfl) Tryd.underlying80 Tryd.underlying45 (by kernel_rfl) (by kernel_rfl) h1
  have t2 := Lib.tabIs_of_head gStart (by kernel_rfl) Tryd.underlying46 Tryd.underlying45 (by kernel_rfl) (by kernel_rfl) h2
  exact ⟨gat_of_tab t2 gStart rfl (by omega) sInts_at, gat_of_tab t1 gRound rfl (by omega) kInts_at⟩

end Go.Proofs.YtelfkakaaobfcaaDoor
