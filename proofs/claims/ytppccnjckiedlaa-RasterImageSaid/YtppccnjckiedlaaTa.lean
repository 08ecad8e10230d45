/- Plain: tiles as functions from indexes to pixels, and their cells. -/
import Derived.Test.YtppccnjckiedlaaFr
import Derived.Test.YtppccnjckiedlaaAb
namespace Go.Proofs.Ytppccnjckiedlaa
open Go.RowKit Pl
set_option linter.unusedVariables false
set_option linter.unusedSimpArgs false
set_option maxRecDepth 20000

/-- The cell number j (0 to 3) of a pixel. -/
def pxC (p : Px) (j : Nat) : Value := if j = 0 then .int .u8 p.r else if j = 1 then .int .u8 p.g else if j = 2 then .int .u8 p.b else .int .u8 p.a
/-- The 256 cells of a tile. -/
def tileC (f : Nat → Px) : Array Value := Array.ofFn (n := 256) fun k => pxC (f (k.val / 4)) (k.val % 4)
def Tile.v (f : Nat → Px) : Value := .agg (tileC f)
def upd (f : Nat → Px) (i : Nat) (p : Px) : Nat → Px := fun j => if j = i then p else f j
theorem size_tileC (f : Nat → Px) : (tileC f).size = 256 := by unfold tileC; simp
theorem get_tileC (f : Nat → Px) (k : Nat) : (tileC f)[k]? = if k < 256 then some (pxC (f (k / 4)) (k % 4)) else none := by
  unfold tileC
  rw [Array.getElem?_ofFn]
  split <;> rfl
theorem tileC_at (f : Nat → Px) (i j : Nat) (hi : i < 64) (hj : j < 4) : (tileC f)[i * 4 + j]? = some (pxC (f i) j) := by
  rw [get_tileC, if_pos (by omega), show (i * 4 + j) / 4 = i by omega, show (i * 4 + j) % 4 = j by omega]
theorem tileC_congr {f g : Nat → Px} (h : ∀ i, i < 64 → f i = g i) : tileC f = tileC g := by
  apply Array.ext_getElem?
  intro k
  rw [get_tileC, get_tileC]
  split
  · rw [h _ (by omega)]
  · rfl
theorem tileC_inj {f g : Nat → Px} (h : tileC f = tileC g) : ∀ i, i < 64 → f i = g i := by
  intro i hi
  have k : ∀ j, j < 4 → pxC (f i) j = pxC (g i) j := fun j hj => by
    have := congrArg (fun a : Array Value => a[i * 4 + j]?) h
    simp only [tileC_at _ i j hi hj] at this
    exact Option.some.inj this
  have k0 := k 0 (by omega)
  have k1 := k 1 (by omega)
  have k2 := k 2 (by omega)
  have k3 := k 3 (by omega)
  simp [pxC] at k0 k1 k2 k3
  cases hf : f i
  cases hg : g i
  rw [hf, hg] at k0 k1 k2 k3
  simp at k0 k1 k2 k3
  rw [k0, k1, k2, k3]
/-- Four cells written: one pixel replaced. -/
theorem set_tileC (f : Nat → Px) (i : Nat) (p : Px) (hi : i < 64) :
    ((((tileC f).setIfInBounds (i * 4) (.int .u8 p.r)).setIfInBounds (i * 4 + 1) (.int .u8 p.g)).setIfInBounds (i * 4 + 2) (.int .u8 p.b)).setIfInBounds (i * 4 + 3) (.int .u8 p.a) = tileC (upd f i p) := by
  apply Array.ext_getElem?
  intro k
  simp only [Array.getElem?_setIfInBounds, Array.size_setIfInBounds, size_tileC, get_tileC]
  by_cases hk : k < 256
  · simp only [hk, if_true]
    by_cases h : k / 4 = i
    · have hm : k = i * 4 + k % 4 := by omega
      have h4 : k % 4 < 4 := by omega
      have hu : upd f i p (k / 4) = p := by unfold upd; rw [if_pos h]
      rw [hu]
      have hc : k % 4 = 0 ∨ k % 4 = 1 ∨ k % 4 = 2 ∨ k % 4 = 3 := by omega
      rcases hc with hc | hc | hc | hc
      · rw [if_neg (by omega), if_neg (by omega), if_neg (by omega), if_pos (by omega), if_pos (by omega), hc]; rfl
      · rw [if_neg (by omega), if_neg (by omega), if_pos (by omega), if_pos (by omega), hc]; rfl
      · rw [if_neg (by omega), if_pos (by omega), if_pos (by omega), hc]; rfl
      · rw [if_pos (by omega), if_pos (by omega), hc]; rfl
    · have hu : upd f i p (k / 4) = f (k / 4) := by unfold upd; rw [if_neg h]
      rw [hu, if_neg (by omega), if_neg (by omega), if_neg (by omega), if_neg (by omega)]
  · rw [if_neg (by omega), if_neg (by omega), if_neg (by omega), if_neg (by omega), if_neg hk, if_neg hk]

theorem cells_tile (f : Nat → Px) : (Tile.v f).cells = tileC f := by simp only [Tile.v, Value.cells]
attribute [irreducible] tileC

/-- The block b holds a tile. -/
def TileAt (w : World) (b : Nat) (f : Nat → Px) : Prop := w.heap[b]? = some (.cells (tileC f) 40 (0, 0))
theorem TileAt.of_eq {w w' : World} {b : Nat} {f : Nat → Px} (h : TileAt w b f) (e : w'.heap[b]? = w.heap[b]?) : TileAt w' b f := e.trans h
theorem TileAt.lt {w : World} {b : Nat} {f : Nat → Px} (h : TileAt w b f) : b < w.heap.size := (Array.getElem?_eq_some_iff.1 h).1
/-- Its cells. -/
theorem TileAt.cells {w : World} {b : Nat} {f : Nat → Px} (h : TileAt w b f) {i : Nat} (hi : i < 64) :
    w.cell? ⟨b, i * 4, none⟩ = some (.int .u8 (f i).r) ∧ w.cell? ⟨b, i * 4 + 1, none⟩ = some (.int .u8 (f i).g) ∧ w.cell? ⟨b, i * 4 + 2, none⟩ = some (.int .u8 (f i).b) ∧ w.cell? ⟨b, i * 4 + 3, none⟩ = some (.int .u8 (f i).a) := by
  obtain ⟨hc, _⟩ := cells_of_block h
  refine ⟨?_, ?_, ?_, ?_⟩
  · have := (hc (i * 4 + 0)).trans (tileC_at f i 0 hi (by omega)); exact this
  · exact (hc _).trans (tileC_at f i 1 hi (by omega))
  · exact (hc _).trans (tileC_at f i 2 hi (by omega))
  · exact (hc _).trans (tileC_at f i 3 hi (by omega))
theorem TileAt.frozen {w : World} {b : Nat} {f : Nat → Px} (h : TileAt w b f) (j : Nat) : w.frozen? ⟨b, j, none⟩ = false := (cells_of_block h).2 j
/-- A pixel stored. -/
theorem TileAt.set {w : World} {b : Nat} {f : Nat → Px} (h : TileAt w b f) {i : Nat} (hi : i < 64) (p : Px) :
    TileAt ((((w.setCell ⟨b, i * 4, none⟩ (.int .u8 p.r)).setCell ⟨b, i * 4 + 1, none⟩ (.int .u8 p.g)).setCell ⟨b, i * 4 + 2, none⟩ (.int .u8 p.b)).setCell ⟨b, i * 4 + 3, none⟩ (.int .u8 p.a)) b (upd f i p) := by
  unfold TileAt
  rw [← set_tileC f i p hi]
  exact heap_setCell_same _ _ _ _ _ _ (heap_setCell_same _ _ _ _ _ _ (heap_setCell_same _ _ _ _ _ _ (heap_setCell_same _ _ _ _ _ _ h)))

/-- Every pixel's channels are bytes. -/
def Tok (f : Nat → Px) : Prop := ∀ i, i < 64 → (f i).ok

section
variable {H : Type} {enc : TypeId × Value → H} {w : World} {base : Nat} {spare : Nat → Bool} {held : Bool}
theorem trod_tile {fuel : Nat} {cs : List Value} {x : DataW H × List MemPlace} (h : DataW.trod enc Try.prog w base spare held fuel 40 cs = some x) :
    ∃ f : Nat → Px, cs = (tileC f).toList ∧ Tok f := by
  have hC : Try.prog.cellsOf 37 = 4 := by kernel_rfl
  have hCT : Try.prog.cellsOf 40 = 256 := by kernel_rfl
  obtain ⟨xs, m, _, _, hlen, hxs, hel⟩ := DataW.trod_array Try.underlying40 h
  rw [hCT] at hlen
  have hp : ∀ i, i < 64 → ∃ p : Px, (cs.drop (i * 4)).take 4 = [.int .u8 p.r, .int .u8 p.g, .int .u8 p.b, .int .u8 p.a] ∧ p.ok := fun i hi => by
    have h1 := hel i hi
    rw [hC] at h1
    cases hx : xs[i]? with
    | none =>
      have := List.getElem?_eq_none_iff.1 hx
      omega
    | some y =>
      rw [hx] at h1
      exact trod_px h1
  obtain ⟨f, hf⟩ : ∃ f : Nat → Px, ∀ i, i < 64 → (cs.drop (i * 4)).take 4 = [.int .u8 (f i).r, .int .u8 (f i).g, .int .u8 (f i).b, .int .u8 (f i).a] ∧ (f i).ok := by
    classical
    exact ⟨fun i => if hi : i < 64 then Classical.choose (hp i hi) else Px.zero, fun i hi => by simp only [dif_pos hi]; exact Classical.choose_spec (hp i hi)⟩
  refine ⟨f, ?_, fun i hi => (hf i hi).2⟩
  apply List.ext_getElem?
  intro k
  have eg : (tileC f).toList[k]? = (tileC f)[k]? := Array.getElem?_toList
  rw [eg, get_tileC]
  by_cases hk : k < 256
  · rw [if_pos hk]
    have h1 := congrArg (fun l : List Value => l[k % 4]?) (hf (k / 4) (by omega)).1
    simp only [List.getElem?_take, List.getElem?_drop] at h1
    rw [if_pos (by omega), show k / 4 * 4 + k % 4 = k by omega] at h1
    rw [h1]
    have hc : k % 4 = 0 ∨ k % 4 = 1 ∨ k % 4 = 2 ∨ k % 4 = 3 := by omega
    rcases hc with hc | hc | hc | hc <;> rw [hc] <;> rfl
  · rw [if_neg hk, List.getElem?_eq_none_iff]; omega

theorem open_tile {r : Reach} {b0 : Nat} {v : Value} {d : DataW H} {p : List MemPlace} (hv : Value.okWide Try.prog w r b0 40 v)
    (h : DataW.Trod enc Try.prog w base spare held 40 v d p) : ∃ f : Nat → Px, v = Tile.v f ∧ Tok f := by
  obtain ⟨cs, rfl, hsz⟩ := okWide_array Try.underlying40 hv
  obtain ⟨fuel, hf⟩ := h
  obtain ⟨f, e, ok⟩ := trod_tile hf
  have e2 : cs = tileC f := Array.toList_inj.1 e
  exact ⟨f, by rw [e2]; rfl, ok⟩
end

end Go.Proofs.Ytppccnjckiedlaa
