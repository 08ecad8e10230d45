/- How this seat's arguments are opened: pixels, pairs of integers. -/
import Derived.Test.YtppccnjckiedlaaPx5
import Derived.ProofKit
import Derived.OpenShut
import Derived.ShutString
import Derived.ChangeOld
import Derived.Below
import Derived.Carry
import Derived.Lib.SmallJoins
namespace Go.Proofs.Ytppccnjckiedlaa
open Go.ChangeShapes Go.WideShapes Go.ChangeAt Go.RowKit Pl
set_option linter.unusedVariables false
set_option linter.unusedSimpArgs false
set_option maxRecDepth 20000

theorem own : ownKnob Try.prog.godebug = none := by kernel_rfl
theorem laidOut : laidOutB Try.prog = true := by kernel_rfl

theorem wf_u8 {n : Int} (h : (Lit.int .u8 n).wf = true) : 0 ≤ n ∧ n ≤ 255 := by
  have hmin : IntKind.u8.min = 0 := rfl
  have hmax : IntKind.u8.max = 255 := rfl
  simp only [Lit.wf, Bool.and_eq_true, decide_eq_true_eq] at h
  omega

section
variable {H : Type} {enc : TypeId × Value → H} {w : World} {base : Nat} {spare : Nat → Bool} {held : Bool}

theorem okWide_array {P : Program} {r : Reach} {t e : TypeId} {n b0 : Nat} {v : Value} (ht : P.underlying t = some (.array n e)) (h : Value.okWide P w r b0 t v) : ∃ cs, v = .agg cs ∧ cs.size = P.cellsOf t := by
  simp only [Value.okWide, ht] at h
  obtain ⟨cs, h1, h2, _⟩ := h
  exact ⟨cs, h1, h2⟩

theorem trod_px {fuel : Nat} {cs : List Value} {x : DataW H × List MemPlace} (h : DataW.trod enc Try.prog w base spare held fuel 37 cs = some x) :
    ∃ p : Px, cs = [.int .u8 p.r, .int .u8 p.g, .int .u8 p.b, .int .u8 p.a] ∧ p.ok := by
  have hC : Try.prog.cellsOf 37 = 4 := by kernel_rfl
  have hl : cs.length = 4 := by
    cases fuel with
    | zero => simp [DataW.trod] at h
    | succ m =>
      unfold DataW.trod at h
      rw [Try.underlying37] at h
      simp only [hC] at h
      split at h
      · assumption
      · cases h
  match cs, hl with
  | [c0, c1, c2, c3], _ =>
    obtain ⟨y0, y1, y2, y3, n, hx, _, h0, h1, h2, h3⟩ := Joins.trod_struct4 Try.underlying37 h
    have hC1 : Try.prog.cellsOf 5 = 1 := by kernel_rfl
    simp only [hC1, List.drop_zero, List.drop_succ_cons, List.take_succ_cons, List.take_zero] at h0 h1 h2 h3
    obtain ⟨r, er, _, wr⟩ := DataW.trod_int Try.underlying5 h0
    obtain ⟨g, eg, _, wg⟩ := DataW.trod_int Try.underlying5 h1
    obtain ⟨b, eb, _, wb⟩ := DataW.trod_int Try.underlying5 h2
    obtain ⟨a, ea, _, wa⟩ := DataW.trod_int Try.underlying5 h3
    simp only [List.cons.injEq, and_true] at er eg eb ea
    subst er; subst eg; subst eb; subst ea
    exact ⟨⟨r, g, b, a⟩, rfl, wf_u8 wr, wf_u8 wg, wf_u8 wb, wf_u8 wa⟩

theorem open_px {r : Reach} {b0 : Nat} {v : Value} {d : DataW H} {p : List MemPlace} (hv : Value.okWide Try.prog w r b0 37 v)
    (h : DataW.Trod enc Try.prog w base spare held 37 v d p) : ∃ q : Px, v = Px.v q ∧ q.ok := by
  obtain ⟨cs, rfl, hsz⟩ := okWide_struct Try.underlying37 hv
  obtain ⟨fuel, hf⟩ := h
  obtain ⟨q, e, ok⟩ := trod_px hf
  refine ⟨q, ?_, ok⟩
  simp only [Value.cells] at e
  unfold Px.v
  rw [← e]

theorem open_int2 {r : Reach} {b0 : Nat} {v : Value} {d : DataW H} {p : List MemPlace} (hv : Value.okWide Try.prog w r b0 43 v)
    (h : DataW.Trod enc Try.prog w base spare held 43 v d p) : ∃ x y : Int, v = .agg #[.int .i64 x, .int .i64 y] ∧ (Lit.int .i64 x).wf = true ∧ (Lit.int .i64 y).wf = true := by
  obtain ⟨cs, rfl, hsz⟩ := okWide_array Try.underlying43 hv
  obtain ⟨fuel, hf⟩ := h
  have hC : Try.prog.cellsOf 3 = 1 := by kernel_rfl
  have hC2 : Try.prog.cellsOf 43 = 2 := by kernel_rfl
  rw [hC2] at hsz
  obtain ⟨xs, m, _, _, _, _, hx⟩ := DataW.trod_array Try.underlying43 hf
  obtain ⟨l, rfl⟩ : ∃ l : List Value, cs = l.toArray := ⟨cs.toList, by simp⟩
  match l, (by simpa using hsz : l.length = 2) with
  | [c0, c1], _ =>
    have h0 := hx 0 (by omega)
    have h1 := hx 1 (by omega)
    simp only [hC, Value.cells] at h0 h1
    match xs, h0, h1 with
    | [x0, x1], h0, h1 =>
      obtain ⟨a, ea, _, wa⟩ := DataW.trod_int Try.underlying3 (x := x0) (by simpa using h0)
      obtain ⟨b, eb, _, wb⟩ := DataW.trod_int Try.underlying3 (x := x1) (by simpa using h1)
      simp at ea eb
      exact ⟨a, b, by rw [ea, eb], wa, wb⟩

end

end Go.Proofs.Ytppccnjckiedlaa
