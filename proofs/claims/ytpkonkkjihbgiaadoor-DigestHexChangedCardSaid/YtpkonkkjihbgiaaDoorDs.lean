/- Contracts of Go's library, out of the kit's shelf, in this seat's own numbers: strings.Builder, strings.Repeat, strings.IndexByte. -/
import Derived.Shelf.Strings.Builder1
import Derived.Shelf.Small.Strs
import Derived.Shelf.Strings.Repeat
import Derived.Test.YtpkonkkjihbgiaaDoorDf
namespace Go.Proofs.YtpkonkkjihbgiaaDoor
open Go.Shelf
def ren : Go.Shelf.Ren := ⟨fun | 105 => 28 | 212 => 40 | 99 => 41 | 165 => 42 | 166 => 30 | 167 => 37 | 170 => 43 | 169 => 31 | 263 => 49 | 264 => 50 | 206 => 51 | 240 => 46 | 241 => 52 | 276 => 53 | 277 => 55 | 137 => 36 | 217 => 48 | 266 => 54 | n => n, fun | 9 => 9 | 3 => 3 | 4 => 4 | 20 => 20 | 0 => 0 | 46 => 70 | 109 => 73 | 5 => 5 | 72 => 55 | 76 => 58 | 51 => 50 | 146 => 80 | 53 => 64 | 148 => 82 | 70 => 53 | 37 => 45 | 75 => 57 | 127 => 79 | 164 => 84 | 80 => 60 | n => n, fun | n => n⟩
theorem lays105 : Go.Proofs.Lays.n105 Tryd.prog ren := {
  mixed := by kernel_rfl
  f99 := Tryd.func41.trans (congrArg some (by kernel_rfl))
  f105 := Tryd.func28.trans (congrArg some (by kernel_rfl))
  f165 := Tryd.func42.trans (congrArg some (by kernel_rfl))
  f166 := Tryd.func30.trans (congrArg some (by kernel_rfl))
  f169 := Tryd.func31.trans (congrArg some (by kernel_rfl))
  f170 := Tryd.func43.trans (congrArg some (by kernel_rfl))
  f206 := Tryd.func51.trans (congrArg some (by kernel_rfl))
  f212 := Tryd.func40.trans (congrArg some (by kernel_rfl))
  f240 := Tryd.func46.trans (congrArg some (by kernel_rfl))
  f241 := Tryd.func52.trans (congrArg some (by kernel_rfl))
  f263 := Tryd.func49.trans (congrArg some (by kernel_rfl))
  f264 := Tryd.func50.trans (congrArg some (by kernel_rfl))
  f276 := Tryd.func53.trans (congrArg some (by kernel_rfl))
  f277 := Tryd.func55.trans (congrArg some (by kernel_rfl))
  t0 := Tryd.underlying0
  a0 := Tryd.isAgg0
  z0 := Tryd.sizeOf0
  v0 := Tryd.zeroValue0
  t3 := Tryd.underlying3
  a3 := Tryd.isAgg3
  z3 := Tryd.sizeOf3
  v3 := Tryd.zeroValue3
  t4 := Tryd.underlying4
  a4 := Tryd.isAgg4
  z4 := Tryd.sizeOf4
  v4 := Tryd.zeroValue4
  t5 := Tryd.underlying5
  a5 := Tryd.isAgg5
  z5 := Tryd.sizeOf5
  v5 := Tryd.zeroValue5
  t9 := Tryd.underlying9
  a9 := Tryd.isAgg9
  z9 := Tryd.sizeOf9
  v9 := Tryd.zeroValue9
  t20 := Tryd.underlying20
  a20 := Tryd.isAgg20
  z20 := Tryd.sizeOf20
  v20 := Tryd.zeroValue20
  t37 := Tryd.underlying45
  a37 := Tryd.isAgg45
  z37 := Tryd.sizeOf45
  v37 := Tryd.zeroValue45
  t46 := Tryd.underlying70
  a46 := Tryd.isAgg70
  z46 := Tryd.sizeOf70
  v46 := Tryd.zeroValue70
  t51 := Tryd.underlying50
  a51 := Tryd.isAgg50
  z51 := Tryd.sizeOf50
  v51 := Tryd.zeroValue50
  t53 := Tryd.underlying64
  a53 := Tryd.isAgg64
  z53 := Tryd.sizeOf64
  v53 := Tryd.zeroValue64
  t70 := Tryd.underlying53
  a70 := Tryd.isAgg53
  z70 := Tryd.sizeOf53
  v70 := Tryd.zeroValue53
  t72 := Tryd.underlying55
  a72 := Tryd.isAgg55
  z72 := Tryd.sizeOf55
  v72 := Tryd.zeroValue55
  t75 := Tryd.underlying57
  a75 := Tryd.isAgg57
  z75 := Tryd.sizeOf57
  v75 := Tryd.zeroValue57
  t76 := Tryd.underlying58
  a76 := Tryd.isAgg58
  z76 := Tryd.sizeOf58
  v76 := Tryd.zeroValue58
  t109 := Tryd.underlying73
  a109 := Tryd.isAgg73
  z109 := Tryd.sizeOf73
  v109 := Tryd.zeroValue73
  t127 := Tryd.underlying79
  a127 := Tryd.isAgg79
  z127 := Tryd.sizeOf79
  v127 := Tryd.zeroValue79
  t146 := Tryd.underlying80
  a146 := Tryd.isAgg80
  z146 := Tryd.sizeOf80
  v146 := Tryd.zeroValue80
  t148 := Tryd.underlying82
  a148 := Tryd.isAgg82
  z148 := Tryd.sizeOf82
  v148 := Tryd.zeroValue82
  t164 := Tryd.underlying84
  a164 := Tryd.isAgg84
  z164 := Tryd.sizeOf84
  v164 := Tryd.zeroValue84 }
theorem lays166 : Go.Proofs.Lays.n166 Tryd.prog ren := {
  mixed := by kernel_rfl
  f166 := Tryd.func30.trans (congrArg some (by kernel_rfl))
  f240 := Tryd.func46.trans (congrArg some (by kernel_rfl))
  f276 := Tryd.func53.trans (congrArg some (by kernel_rfl))
  t0 := Tryd.underlying0
  a0 := Tryd.isAgg0
  z0 := Tryd.sizeOf0
  v0 := Tryd.zeroValue0
  t3 := Tryd.underlying3
  a3 := Tryd.isAgg3
  z3 := Tryd.sizeOf3
  v3 := Tryd.zeroValue3
  t4 := Tryd.underlying4
  a4 := Tryd.isAgg4
  z4 := Tryd.sizeOf4
  v4 := Tryd.zeroValue4
  t9 := Tryd.underlying9
  a9 := Tryd.isAgg9
  z9 := Tryd.sizeOf9
  v9 := Tryd.zeroValue9
  t20 := Tryd.underlying20
  a20 := Tryd.isAgg20
  z20 := Tryd.sizeOf20
  v20 := Tryd.zeroValue20
  t37 := Tryd.underlying45
  a37 := Tryd.isAgg45
  z37 := Tryd.sizeOf45
  v37 := Tryd.zeroValue45
  t70 := Tryd.underlying53
  a70 := Tryd.isAgg53
  z70 := Tryd.sizeOf53
  v70 := Tryd.zeroValue53
  t72 := Tryd.underlying55
  a72 := Tryd.isAgg55
  z72 := Tryd.sizeOf55
  v72 := Tryd.zeroValue55
  t75 := Tryd.underlying57
  a75 := Tryd.isAgg57
  z75 := Tryd.sizeOf57
  v75 := Tryd.zeroValue57
  t164 := Tryd.underlying84
  a164 := Tryd.isAgg84
  z164 := Tryd.sizeOf84
  v164 := Tryd.zeroValue84 }
theorem lays167 : Go.Proofs.Lays.n167 Tryd.prog ren := {
  mixed := by kernel_rfl
  f167 := Tryd.func37.trans (congrArg some (by kernel_rfl))
  f240 := Tryd.func46.trans (congrArg some (by kernel_rfl))
  f276 := Tryd.func53.trans (congrArg some (by kernel_rfl))
  t0 := Tryd.underlying0
  a0 := Tryd.isAgg0
  z0 := Tryd.sizeOf0
  v0 := Tryd.zeroValue0
  t4 := Tryd.underlying4
  a4 := Tryd.isAgg4
  z4 := Tryd.sizeOf4
  v4 := Tryd.zeroValue4
  t5 := Tryd.underlying5
  a5 := Tryd.isAgg5
  z5 := Tryd.sizeOf5
  v5 := Tryd.zeroValue5
  t9 := Tryd.underlying9
  a9 := Tryd.isAgg9
  z9 := Tryd.sizeOf9
  v9 := Tryd.zeroValue9
  t20 := Tryd.underlying20
  a20 := Tryd.isAgg20
  z20 := Tryd.sizeOf20
  v20 := Tryd.zeroValue20
  t37 := Tryd.underlying45
  a37 := Tryd.isAgg45
  z37 := Tryd.sizeOf45
  v37 := Tryd.zeroValue45
  t70 := Tryd.underlying53
  a70 := Tryd.isAgg53
  z70 := Tryd.sizeOf53
  v70 := Tryd.zeroValue53
  t72 := Tryd.underlying55
  a72 := Tryd.isAgg55
  z72 := Tryd.sizeOf55
  v72 := Tryd.zeroValue55
  t75 := Tryd.underlying57
  a75 := Tryd.isAgg57
  z75 := Tryd.sizeOf57
  v75 := Tryd.zeroValue57
  t164 := Tryd.underlying84
  a164 := Tryd.isAgg84
  z164 := Tryd.sizeOf84
  v164 := Tryd.zeroValue84 }
theorem lays169 : Go.Proofs.Lays.n169 Tryd.prog ren := {
  mixed := by kernel_rfl
  f169 := Tryd.func31.trans (congrArg some (by kernel_rfl))
  t0 := Tryd.underlying0
  a0 := Tryd.isAgg0
  z0 := Tryd.sizeOf0
  v0 := Tryd.zeroValue0
  t3 := Tryd.underlying3
  a3 := Tryd.isAgg3
  z3 := Tryd.sizeOf3
  v3 := Tryd.zeroValue3
  t9 := Tryd.underlying9
  a9 := Tryd.isAgg9
  z9 := Tryd.sizeOf9
  v9 := Tryd.zeroValue9
  t37 := Tryd.underlying45
  a37 := Tryd.isAgg45
  z37 := Tryd.sizeOf45
  v37 := Tryd.zeroValue45
  t70 := Tryd.underlying53
  a70 := Tryd.isAgg53
  z70 := Tryd.sizeOf53
  v70 := Tryd.zeroValue53
  t72 := Tryd.underlying55
  a72 := Tryd.isAgg55
  z72 := Tryd.sizeOf55
  v72 := Tryd.zeroValue55
  t127 := Tryd.underlying79
  a127 := Tryd.isAgg79
  z127 := Tryd.sizeOf79
  v127 := Tryd.zeroValue79 }
theorem lays137 : Go.Proofs.Lays.n137 Tryd.prog ren := {
  mixed := by kernel_rfl
  f137 := Tryd.func36.trans (congrArg some (by kernel_rfl))
  f217 := Tryd.func48.trans (congrArg some (by kernel_rfl))
  f266 := Tryd.func54.trans (congrArg some (by kernel_rfl))
  t3 := Tryd.underlying3
  a3 := Tryd.isAgg3
  z3 := Tryd.sizeOf3
  v3 := Tryd.zeroValue3
  t5 := Tryd.underlying5
  a5 := Tryd.isAgg5
  z5 := Tryd.sizeOf5
  v5 := Tryd.zeroValue5
  t9 := Tryd.underlying9
  a9 := Tryd.isAgg9
  z9 := Tryd.sizeOf9
  v9 := Tryd.zeroValue9 }
theorem extra : Builder.Extra Tryd.prog ren := {
  sizeBuilder := by kernel_rfl
  liesBuilder := by kernel_rfl
  t5 := Tryd.underlying5
  a5 := Tryd.isAgg5
  z5 := Tryd.sizeOf5
  v5 := Tryd.zeroValue5
  infoByte := by kernel_rfl
  cellsByte := by kernel_rfl
  sizeByte := by kernel_rfl
  neB5 := by decide }
open Go.RowKit Go.Lib
theorem L_Repeat (s : ByteArray) (c : Nat) (w : World) (hc : c ≤ 9223372036854775807) (hlen : s.size * c ≤ 140737488355328) :
    Calls Tryd.prog 28 #[.string s, .int .i64 c] w fun e w' => e = .returned (.string ⟨(Lib.repeatL s.data.toList c).toArray⟩) ∧ Below w.heap.size w w' := Any.strings_Repeat lays105 extra s c w hc hlen
/-- A builder that holds the bytes l. -/
def HoldsB (B b : Nat) (l : List UInt8) (w : World) : Prop := Lib.IsBuilder 55 5 B b (Lib.byteCells l) w
theorem HoldsB.lt {B b : Nat} {l : List UInt8} {w : World} (h : HoldsB B b l w) : b < w.heap.size := h.elim (fun x => x.lt) (fun x => x.lt)
theorem HoldsB.below {B b : Nat} {l : List UInt8} {w w' : World} (h : HoldsB B b l w) (hb : Below w.heap.size w w') : HoldsB B b l w' := by
  have step : ∀ p, Lib.BuilderAt 55 5 B b p (Lib.byteCells l) w → Lib.BuilderAt 55 5 B b p (Lib.byteCells l) w' := fun p h => by
    have hlt := h.lt
    obtain ⟨hB, v, hv, hown, hne⟩ := h
    exact ⟨hB, v, (hb.block b hlt).trans hv, hown.kept (row := none) ⟨hb.os, hb.tape, hb.output, hb.size, fun k hk _ => hb.block k hk⟩ (Classical.em _), hne⟩
  exact h.elim (fun x => .inl (step _ x)) (fun x => .inr (step _ x))
theorem HoldsB.fresh (w : World) : HoldsB w.heap.size w.heap.size [] (w.alloc (.cells #[.pointer none, .slice none 0 0] 55)) := Lib.fresh_isBuilder _ _ w
theorem run_alloc_builder (w : World) (o : Oper) (ho : o.op = .alloc 55) (ev : Operand → Value) : (execOp ev o).run Tryd.prog w = .ok (.value (.pointer (some ⟨w.heap.size, 0, none⟩))) (w.alloc (.cells #[.pointer none, .slice none 0 0] 55)) := by
  obtain ⟨d, p, t, ps, af, gd⟩ := o
  simp only at ho
  subst ho
  kernel_rfl
theorem wpList_allocB {ops : Array Oper} {rest : List Oper} {o : Oper} {a : Act} {w : World} {Q : Exit → Act → World → Prop} (hg : o.guard = none) (ho : o.op = .alloc 55)
    (h : ∀ b w', w.heap.size ≤ b → b ≤ w.heap.size → HoldsB b b [] w' → Below b w w' → w'.heap.size = b + 1 → wpList Tryd.prog ops Q rest (a.put o.dst (.pointer (some ⟨b, 0, none⟩))) w') : wpList Tryd.prog ops Q (o :: rest) a w :=
  wpList_plain hg fun K hK => by
    unfold Oper.wp
    rw [run_alloc_builder w o ho]
    exact hK _ _ (h _ _ (Nat.le_refl _) (Nat.le_refl _) (HoldsB.fresh w) ((Below.refl _ _).alloc (Nat.le_refl _) _) (World.size_alloc _ _))
theorem bc_append (l k : List UInt8) : Lib.byteCells (l ++ k) = Lib.byteCells l ++ Lib.byteCells k := by simp [Lib.byteCells]
theorem L_WriteString (B b : Nat) (l : List UInt8) (s : ByteArray) (w : World) (h : HoldsB B b l w) (hlen : l.length + s.size ≤ 140737488355328) (hBw : B ≤ w.heap.size) :
    Calls Tryd.prog 30 #[.pointer (some ⟨b, 0, none⟩), .string s] w fun e w' => e = .returned (.tuple #[.int .i64 s.size, .nilIface]) ∧ HoldsB B b (l ++ bytes s) w' ∧ Below B w w' :=
  (Any.Builder_WriteString lays166 extra B b (Lib.byteCells l) s w h (by simpa [Lib.byteCells] using hlen) hBw).mono fun e w' ⟨h1, h2, h3⟩ => ⟨h1, Or.inr (by rw [bc_append]; exact h2), h3⟩
theorem L_WriteByte (B b : Nat) (l : List UInt8) (c : UInt8) (w : World) (h : HoldsB B b l w) (hlen : l.length + 1 ≤ 140737488355328) (hBw : B ≤ w.heap.size) :
    Calls Tryd.prog 37 #[.pointer (some ⟨b, 0, none⟩), Y c] w fun e w' => e = .returned .nilIface ∧ HoldsB B b (l ++ [c]) w' ∧ Below B w w' :=
  (Any.Builder_WriteByte lays167 extra B b (Lib.byteCells l) c.toNat w h (by simpa [Lib.byteCells] using hlen) hBw).mono fun e w' ⟨h1, h2, h3⟩ => ⟨h1, Or.inr (by rw [bc_append]; exact h2), h3⟩
theorem L_String (B b : Nat) (l : List UInt8) (w : World) (h : HoldsB B b l w) (hBw : B ≤ w.heap.size) :
    Calls Tryd.prog 31 #[.pointer (some ⟨b, 0, none⟩)] w fun e w' => e = .returned (.string (ofL l)) ∧ Below B w w' := Any.Builder_String_any lays169 extra B b l w h hBw
theorem L_IndexByte (s : ByteArray) (c : UInt8) (w : World) :
    Calls Tryd.prog 36 #[.string s, Y c] w fun e w' => e = .returned (.int .i64 (Lib.indexByte s.data.toList c)) ∧ w' = w :=
  (Any.strings_IndexByte lays137 s c.toNat w).mono fun e w' ⟨h1, h2⟩ => ⟨by rw [h1]; simp, h2⟩
end Go.Proofs.YtpkonkkjihbgiaaDoor
