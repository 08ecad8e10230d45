/- How this seat's arguments are opened: pixels, pairs of integers. -/
import Derived.Test.YtelfkakaaobfcaaDoorPx5
import Derived.ProofKit
import Derived.OpenShut
import Derived.ShutString
import Derived.ChangeOld
import Derived.Below
import Derived.Carry
import Derived.Lib.SmallJoins
namespace Go.Proofs.YtelfkakaaobfcaaDoor
open Go.ChangeShapes Go.WideShapes Go.ChangeAt Go.RowKit Pl
set_option linter.unusedVariables false
set_option linter.unusedSimpArgs false
set_option maxRecDepth 20000

theorem own : ownKnob Tryd.prog.godebug = none := by kernel_rfl
theorem laidOut : laidOutB Tryd.prog = true := by kernel_rfl

theorem wf_u8 {n : Int} (h : (Lit.int .u8 n).wf = true) : 0 ≤ n ∧ n ≤ 255 := by
  have hmin : IntKind.u8.min = 0 := rfl
  have hmax : IntKind.u8.max = 255 := rfl
  simp only [Lit.wf, Bool.and_eq_true, decide_eq_true_eq] at h
  omega

section
variable {H : Type} {enc : TypeId × Value → H} {w : World} {base : Nat} {spare : Nat → Bool} {held : Bool}

theorem okWide_array {P : Program} {r : Reach} {t e : TypeId} {n b0 : Nat} {v : Value} (ht : P.underlying t = some (.array n e)) (h : Value.okWide P w r b0 t v) : ∃ cs, v = .agg cs ∧ cs.size = P.cellsOf t := by
  simp only [Value.okWide, ht] at h
  obtain ⟨cs, h1, h2, _⟩ := h
  exact ⟨cs, h1, h2⟩

theorem trod_px {fuel : Nat} {cs : List Value} {x : DataW H × List MemPlace} (h : DataW.trod enc Tryd.prog w base spare held fuel 23 cs = some x) :
    ∃ p : Px, cs = [.int .u8 p.r, .int .u8 p.g, .int .u8 p.b, .int .u8 p.a] ∧ p.ok := by
  have hC : Tryd.prog.cellsOf 23 = 4 := by kernel_rfl
  have hl : cs.length = 4 := by
    cases fuel with
    | zero => simp [DataW.trod] at h
    | succ m =>
      unfold DataW.trod at h
      rw [Tryd.underlying23] at h
      simp only [hC] at h
      split at h
      · assumption
      · cases h
  match cs, hl with
  | [c0, c1, c2, c3], _ =>
    obtain ⟨y0, y1, y2, y3, n, hx, _, h0, h1, h2, h3⟩ := Joins.trod_struct4 Tryd.underlying23 h
    have hC1 : Tryd.prog.cellsOf 5 = 1 := by kernel_rfl
    simp only [hC1, List.drop_zero, List.drop_succ_cons, List.take_succ_cons, List.take_zero] at h0 h1 h2 h3
    obtain ⟨r, er, _, wr⟩ := DataW.trod_int Tryd.underlying5 h0
    obtain ⟨g, eg, _, wg⟩ := DataW.trod_int Tryd.underlying5 h1
    obtain ⟨b, eb, _, wb⟩ := DataW.trod_int Tryd.underlying5 h2
    obtain ⟨a, ea, _, wa⟩ := DataW.trod_int Tryd.underlying5 h3
    simp only [List.cons.injEq, and_true] at er eg eb ea
    subst er; subst eg; subst eb; subst ea
    exact ⟨⟨r, g, b, a⟩, rfl, wf_u8 wr, wf_u8 wg, wf_u8 wb, wf_u8 wa⟩

theorem open_px {r : Reach} {b0 : Nat} {v : Value} {d : DataW H} {p : List MemPlace} (hv : Value.okWide Tryd.prog w r b0 23 v)
    (h : DataW.Trod enc Tryd.prog w base spare held 23 v d p) : ∃ q : Px, v = Px.v q ∧ q.ok := by
  obtain ⟨cs, rfl, hsz⟩ := okWide_struct Tryd.underlying23 hv
  obtain ⟨fuel, hf⟩ := h
  obtain ⟨q, e, ok⟩ := trod_px hf
  refine ⟨q, ?_, ok⟩
  simp only [Value.cells] at e
  unfold Px.v
  rw [← e]


end

end Go.Proofs.YtelfkakaaobfcaaDoor
