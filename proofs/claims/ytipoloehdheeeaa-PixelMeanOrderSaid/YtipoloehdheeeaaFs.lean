/- How slices of pixels and of items are opened. -/
import Derived.Test.YtipoloehdheeeaaFr
import Derived.Deep.Slices
namespace Go.Proofs.Ytipoloehdheeeaa
open Go.ChangeShapes Go.WideShapes Go.ChangeAt Go.RowKit Pl
set_option linter.unusedVariables false
set_option linter.unusedSimpArgs false

theorem addr_add (b off n : Nat) : (Addr.add ⟨b, off, none⟩ n) = ⟨b, off + n, none⟩ := by
  unfold Addr.add; split
  · rename_i h; subst h; rfl
  · rfl

/-- Four cells hold a pixel. -/
def PxAt (w : World) (b off : Nat) (p : Px) : Prop :=
  w.cell? ⟨b, off, none⟩ = some (.int .u8 p.r) ∧ w.cell? ⟨b, off + 1, none⟩ = some (.int .u8 p.g) ∧ w.cell? ⟨b, off + 2, none⟩ = some (.int .u8 p.b) ∧ w.cell? ⟨b, off + 3, none⟩ = some (.int .u8 p.a)
theorem PxAt.of_eq {w w' : World} {b off : Nat} {p : Px} (h : PxAt w b off p) (e : w'.heap[b]? = w.heap[b]?) : PxAt w' b off p := by
  have k : ∀ o, w'.cell? ⟨b, o, none⟩ = w.cell? ⟨b, o, none⟩ := fun o => World.cell?_of_block (w := w) e
  exact ⟨(k _).trans h.1, (k _).trans h.2.1, (k _).trans h.2.2.1, (k _).trans h.2.2.2⟩

section
variable {H : Type} {enc : TypeId × Value → H} {w : World} {base : Nat} {spare : Nat → Bool} {held : Bool}

theorem open_items {r : Reach} {b0 : Nat} {v : Value} {d : DataW H} {p : List MemPlace} (hv : Value.okWide Try.prog w r b0 44 v)
    (h : DataW.Trod enc Try.prog w base spare held 44 v d p) : ∃ (a : Option Addr) (len cap : Nat), v = .slice a len cap ∧ len ≤ maxLen ∧
    ∀ i, i < len → ∃ b off q n, a = some ⟨b, off, none⟩ ∧ b < w.heap.size ∧ Px.ok q ∧ PxAt w b (off + i * 5) q ∧ w.cell? ⟨b, off + i * 5 + 4, none⟩ = some (.int .i64 n) := by
  obtain ⟨a0, len, cap, rfl⟩ := okWide_slice Try.underlying44 hv
  obtain ⟨fuel, hf⟩ := h
  have hC : Try.prog.cellsOf 53 = 5 := by kernel_rfl
  have hC4 : Try.prog.cellsOf 27 = 4 := by kernel_rfl
  have hC1 : Try.prog.cellsOf 3 = 1 := by kernel_rfl
  rcases Deep.open_slice Try.underlying44 hf with ⟨hcs, _⟩ | ⟨a, len', cap', m, n, D, Pl, hcs, hb, hl, hcap, hm, _, hel⟩
  · simp [Value.cells] at hcs
    obtain ⟨rfl, rfl, rfl⟩ := hcs
    exact ⟨none, 0, 0, rfl, by unfold maxLen; omega, fun i hi => absurd hi (by omega)⟩
  · simp [Value.cells] at hcs
    obtain ⟨rfl, rfl, rfl⟩ := hcs
    refine ⟨some a, len, cap, rfl, Nat.le_trans hl hcap, fun i hi => ?_⟩
    have hspot : a.spot = none := by
      obtain ⟨cs, h1, h2⟩ := hel 0 (by rw [hm]; split <;> omega)
      rw [hC] at h1
      obtain ⟨_, hlen, hcell⟩ := World.cells?_some h1
      have := hcell 0 (by omega)
      rw [Nat.zero_mul] at this
      have e : (a.add 0).add 0 = a := rfl
      rw [e] at this
      match cs, hlen with
      | [c0, c1, c2, c3, c4], _ => exact World.cell?_spot this
    obtain ⟨b, off, spot⟩ := a
    simp only at hspot
    subst hspot
    obtain ⟨cs, h1, h2⟩ := hel i (by rw [hm]; split <;> omega)
    rw [hC] at h1
    obtain ⟨_, hlen, hcell⟩ := World.cells?_some h1
    obtain ⟨y0, y1, n', hx, _, g0, g1⟩ := trod_struct2 Try.underlying53 h2
    simp only [hC4, hC1, List.drop_zero] at g0 g1
    match cs, hlen with
    | [c0, c1, c2, c3, c4], _ =>
      obtain ⟨q, e, ok⟩ := trod_px g0
      obtain ⟨z, ez, _, _⟩ := DataW.trod_int Try.underlying3 g1
      simp at e ez
      obtain ⟨rfl, rfl, rfl, rfl⟩ := e
      subst ez
      simp only [addr_add] at hcell
      have k0 := hcell 0 (by omega)
      have k1 := hcell 1 (by omega)
      have k2 := hcell 2 (by omega)
      have k3 := hcell 3 (by omega)
      have k4 := hcell 4 (by omega)
      simp only [Nat.add_zero] at k0
      exact ⟨b, off, q, z, rfl, World.block_lt_of_cell? w _ k0, ok, ⟨k0, k1, k2, k3⟩, k4⟩

theorem open_pxs {r : Reach} {b0 : Nat} {v : Value} {d : DataW H} {p : List MemPlace} (hv : Value.okWide Try.prog w r b0 57 v)
    (h : DataW.Trod enc Try.prog w base spare held 57 v d p) : ∃ (a : Option Addr) (len cap : Nat), v = .slice a len cap ∧ len ≤ maxLen ∧
    ∀ i, i < len → ∃ b off q, a = some ⟨b, off, none⟩ ∧ b < w.heap.size ∧ Px.ok q ∧ PxAt w b (off + i * 4) q := by
  obtain ⟨a0, len, cap, rfl⟩ := okWide_slice Try.underlying57 hv
  obtain ⟨fuel, hf⟩ := h
  have hC4 : Try.prog.cellsOf 27 = 4 := by kernel_rfl
  rcases Deep.open_slice Try.underlying57 hf with ⟨hcs, _⟩ | ⟨a, len', cap', m, n, D, Pl, hcs, hb, hl, hcap, hm, _, hel⟩
  · simp [Value.cells] at hcs
    obtain ⟨rfl, rfl, rfl⟩ := hcs
    exact ⟨none, 0, 0, rfl, by unfold maxLen; omega, fun i hi => absurd hi (by omega)⟩
  · simp [Value.cells] at hcs
    obtain ⟨rfl, rfl, rfl⟩ := hcs
    refine ⟨some a, len, cap, rfl, Nat.le_trans hl hcap, fun i hi => ?_⟩
    have hspot : a.spot = none := by
      obtain ⟨cs, h1, h2⟩ := hel 0 (by rw [hm]; split <;> omega)
      rw [hC4] at h1
      obtain ⟨_, hlen, hcell⟩ := World.cells?_some h1
      have := hcell 0 (by omega)
      rw [Nat.zero_mul] at this
      have e : (a.add 0).add 0 = a := rfl
      rw [e] at this
      match cs, hlen with
      | [c0, c1, c2, c3], _ => exact World.cell?_spot this
    obtain ⟨b, off, spot⟩ := a
    simp only at hspot
    subst hspot
    obtain ⟨cs, h1, h2⟩ := hel i (by rw [hm]; split <;> omega)
    rw [hC4] at h1
    obtain ⟨_, hlen, hcell⟩ := World.cells?_some h1
    match cs, hlen with
    | [c0, c1, c2, c3], _ =>
      obtain ⟨q, e, ok⟩ := trod_px h2
      simp at e
      obtain ⟨rfl, rfl, rfl, rfl⟩ := e
      simp only [addr_add] at hcell
      have k0 := hcell 0 (by omega)
      have k1 := hcell 1 (by omega)
      have k2 := hcell 2 (by omega)
      have k3 := hcell 3 (by omega)
      simp only [Nat.add_zero] at k0
      exact ⟨b, off, q, rfl, World.block_lt_of_cell? w _ k0, ok, ⟨k0, k1, k2, k3⟩⟩
end

end Go.Proofs.Ytipoloehdheeeaa
