/- Contracts of the closures of package pixel, of 'channels', Clean, Fade, and of the reference's. -/
import Derived.Test.YtppccnjckiedlaaPx4
namespace Go.Proofs.Ytppccnjckiedlaa
open Go.RowKit Pl
set_option linter.unusedVariables false
set_option linter.unusedSimpArgs false

def Px.v (p : Px) : Value := .agg #[.int .u8 p.r, .int .u8 p.g, .int .u8 p.b, .int .u8 p.a]

/-- A function value of two ints: what it does from the world w0 on. -/
def Clo (F : Nat) (caps : Array Value) (φ : Int → Int → Int) (w0 : World) : Prop :=
  ∀ (x y : Int) (wx : World), Below w0.heap.size w0 wx → 0 ≤ x → x ≤ 255 → 0 ≤ y → y ≤ 255 →
    Calls Try.prog F (#[.int .i64 x, .int .i64 y] ++ caps) wx fun e w' => e = .returned (.int .i64 (φ x y)) ∧ Below wx.heap.size wx w'

end Go.Proofs.Ytppccnjckiedlaa
