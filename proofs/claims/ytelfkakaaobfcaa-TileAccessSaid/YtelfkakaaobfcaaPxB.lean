/- Contracts of Over and Mix of package pixel. -/
import Derived.Test.YtelfkakaaobfcaaPxA
namespace Go.Proofs.Ytelfkakaaobfcaa
open Go.RowKit Pl
set_option linter.unusedVariables false
set_option linter.unusedSimpArgs false

theorem cf_Over1 (args : Array Value) (w : World) : (callFunc 47 args).run Try.prog w = .ok (.enter 47 args) w := by kernel_rfl


theorem Clo_Over (m u v W : Int) (au av am aw : Nat) (w : World) (hu0 : 0 ≤ u) (hu1 : u ≤ 255) (hv0 : 0 ≤ v) (hv1 : v ≤ 255) (hW0 : W = overW u v) (hW1 : 1 ≤ W)
    (cu : w.cell? ⟨au, 0, none⟩ = some (.int .i64 u)) (cv : w.cell? ⟨av, 0, none⟩ = some (.int .i64 v)) (cm : w.cell? ⟨am, 0, none⟩ = some (.int .i64 m)) (cw : w.cell? ⟨aw, 0, none⟩ = some (.int .i64 W)) :
    Clo 47 #[.pointer (some ⟨au, 0, none⟩), .pointer (some ⟨av, 0, none⟩), .pointer (some ⟨am, 0, none⟩), .pointer (some ⟨aw, 0, none⟩)] (overC m u v) w := by
  intro x y wx hb hx0 hx1 hy0 hy1
  have lu := World.block_lt_of_cell? w _ cu
  have lv := World.block_lt_of_cell? w _ cv
  have lm := World.block_lt_of_cell? w _ cm
  have lw := World.block_lt_of_cell? w _ cw
  exact P_Over1 m u v W x y au av am aw wx hu0 hu1 hv0 hv1 hx0 hx1 hy0 hy1 hW0 hW1 (Nat.lt_of_lt_of_le lu hb.size) (Nat.lt_of_lt_of_le lv hb.size) (Nat.lt_of_lt_of_le lm hb.size) (Nat.lt_of_lt_of_le lw hb.size)
    ((hb.cell lu).trans cu) ((hb.cell lv).trans cv) ((hb.cell lm).trans cm) ((hb.cell lw).trans cw)


end Go.Proofs.Ytelfkakaaobfcaa
