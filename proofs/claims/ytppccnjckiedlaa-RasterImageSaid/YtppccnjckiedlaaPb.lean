/- Plain laws of compositing: the ends and the symmetry of Mix, the identities and bounds of Over, the symmetries of the blend modes. -/
import Derived.Test.YtppccnjckiedlaaPa
namespace Go.Proofs.Ytppccnjckiedlaa.Pl
set_option linter.unusedVariables false

/-- A rounded quotient that is exact. -/
theorem roundI_mul {k x : Int} (hk : 1 ≤ k) : roundI (k * x) k = x := by
  unfold roundI
  have e : 2 * (k * x) + k = k + x * (2 * k) := by
    rw [Int.mul_comm k x, Int.mul_left_comm]; omega
  rw [e, Int.add_mul_ediv_right _ _ (by omega), Int.ediv_eq_zero_of_lt (by omega) (by omega)]
  omega
theorem roundI_255 (x : Int) : roundI (x * 255) 255 = x := by rw [Int.mul_comm]; exact roundI_mul (by omega)
theorem roundI_mono {m n d : Int} (hd : 1 ≤ d) (h : m ≤ n) : roundI m d ≤ roundI n d := by
  unfold roundI
  exact Int.ediv_le_ediv (by omega) (by omega)

theorem mixC_same {p q x : Int} (h : 1 ≤ p + q) : mixC p q x x = x := by
  unfold mixC
  rw [← Int.add_mul]
  exact roundI_mul h
theorem mixC_left {p x y : Int} (h : 1 ≤ p) : mixC p 0 x y = x := by
  unfold mixC
  rw [Int.zero_mul, Int.add_zero, Int.add_zero]
  exact roundI_mul h
theorem mixC_comm (p q x y : Int) : mixC p q x y = mixC q p y x := by
  unfold mixC
  rw [Int.add_comm (p * x), Int.add_comm p q]

theorem mixP_same {a : Px} (ha : a.ok) {t : Int} (h0 : 0 ≤ t) (h1 : t ≤ 255) : mixP a a t = cleanP a := by
  obtain ⟨r, g, b, a⟩ := a
  have h4 := ha.2.2.2
  simp only at h4
  unfold mixP cleanP
  simp only [clampI_id h0 h1]
  have e : a * (255 - t) + a * t = a * 255 := by rw [← Int.mul_add]; congr 1; omega
  rw [e, roundI_255]
  split
  · rfl
  · rw [mixC_same (by rw [e]; omega), mixC_same (by rw [e]; omega), mixC_same (by rw [e]; omega)]
theorem mixP_comm {a b : Px} {t : Int} (h0 : 0 ≤ t) (h1 : t ≤ 255) : mixP a b t = mixP b a (255 - t) := by
  unfold mixP
  rw [clampI_id h0 h1, clampI_id (n := 255 - t) (by omega) (by omega)]
  have e : 255 - (255 - t) = t := by omega
  rw [e, Int.add_comm (a.a * (255 - t))]
  split
  · rfl
  · rw [mixC_comm _ _ a.r, mixC_comm _ _ a.g, mixC_comm _ _ a.b]
theorem mixP_zero {a b : Px} (ha : a.ok) : mixP a b 0 = cleanP a := by
  obtain ⟨r, g, bb, a⟩ := a
  have h4 := ha.2.2.2
  simp only at h4
  unfold mixP cleanP
  have e1 : clampI 0 = 0 := rfl
  simp only [e1]
  have e : a * (255 - 0) + b.a * 0 = a * 255 := by omega
  rw [e, roundI_255]
  split
  · rfl
  · have e2 : b.a * 0 = 0 := by omega
    have e3 : a * (255 - 0) = a * 255 := by omega
    rw [e2, e3, mixC_left (by omega), mixC_left (by omega), mixC_left (by omega)]
theorem mixP_full {a b : Px} (hb : b.ok) : mixP a b 255 = cleanP b := by
  rw [mixP_comm (by omega) (by omega)]
  exact mixP_zero hb

/-! Over -/
theorem mulI_zero (x : Int) : mulI x 0 = 0 := by
  unfold mulI
  have e : clampI 0 = 0 := rfl
  rw [e, Int.mul_zero]; rfl
theorem zero_mulI (x : Int) : mulI 0 x = 0 := by rw [mulI_comm]; exact mulI_zero x
/-- No source: the backdrop, cleaned. -/
theorem over_none {q p : Px} (hq : q.ok) {m c : Int} (hu : mulI p.a c = 0) : overP q p m c = cleanP q := by
  obtain ⟨r, g, b, a⟩ := q
  have h4 := hq.2.2.2
  simp only at h4
  unfold overP cleanP
  rw [hu]
  have e : overW 0 a = a * 255 := by unfold overW; omega
  have ec : ∀ x y : Int, a ≠ 0 → overC m 0 a x y = x := by
    intro x y h
    unfold overC overN
    rw [e]
    have e2 : 0 * (255 - a) * y + 0 * a * blendI m x y + (255 - 0) * a * x = a * 255 * x := by
      rw [Int.zero_mul, Int.zero_mul, Int.zero_mul, Int.zero_mul, Int.mul_comm a 255, show (255 - 0 : Int) = 255 from rfl]; omega
    rw [e2]
    exact roundI_mul (by omega)
  simp only [e, roundI_255]
  by_cases h : a = 0
  · rw [if_pos (by omega), if_pos h]
  · rw [if_neg (by omega), if_neg h, ec _ _ h, ec _ _ h, ec _ _ h]
/-- No backdrop: the source, faded. -/
theorem over_clear {r g b : Int} {p : Px} (hp : p.ok) (m c : Int) : overP ⟨r, g, b, 0⟩ p m c = fadeP p c := by
  have hu := mulI_bd p.a c
  unfold overP fadeP cleanP
  have e : overW (mulI p.a c) 0 = mulI p.a c * 255 := by unfold overW; omega
  have ec : ∀ x y : Int, mulI p.a c ≠ 0 → overC m (mulI p.a c) 0 x y = y := by
    intro x y h
    unfold overC overN
    rw [e]
    have e2 : mulI p.a c * (255 - 0) * y + mulI p.a c * 0 * blendI m x y + (255 - mulI p.a c) * 0 * x = mulI p.a c * 255 * y := by
      rw [Int.mul_zero, Int.mul_zero, Int.zero_mul, Int.zero_mul, show (255 - 0 : Int) = 255 from rfl]; omega
    rw [e2]
    exact roundI_mul (by omega)
  simp only [e, roundI_255]
  by_cases h : mulI p.a c = 0
  · rw [if_pos (by omega), if_pos h]
  · rw [if_neg (by omega), if_neg h, ec _ _ h, ec _ _ h, ec _ _ h]
/-- An opaque source in mode Normal with full coverage: the source. -/
theorem over_solid {q : Px} {r g b : Int} (hr : 0 ≤ r ∧ r ≤ 255) (hg : 0 ≤ g ∧ g ≤ 255) (hb : 0 ≤ b ∧ b ≤ 255) : overP q ⟨r, g, b, 255⟩ 0 255 = ⟨r, g, b, 255⟩ := by
  unfold overP
  have e0 : mulI 255 255 = 255 := rfl
  simp only [e0]
  have e : overW 255 q.a = 65025 := by unfold overW; omega
  have ec : ∀ x y : Int, 0 ≤ y → y ≤ 255 → overC 0 255 q.a x y = y := by
    intro x y h0 h1
    unfold overC overN
    rw [e]
    have eb : blendI 0 x y = y := by
      have : blendI 0 x y = clampI y := rfl
      rw [this, clampI_id h0 h1]
    rw [eb]
    have e2 : 255 * (255 - q.a) * y + 255 * q.a * y + (255 - 255) * q.a * x = 65025 * y := by
      rw [← Int.add_mul]
      have e3 : 255 * (255 - q.a) + 255 * q.a = 65025 := by omega
      have e4 : (255 - 255 : Int) * q.a = 0 := by omega
      rw [e3, e4, Int.zero_mul, Int.add_zero]
    rw [e2]
    exact roundI_mul (by omega)
  rw [e, if_neg (by omega), ec _ _ hr.1 hr.2, ec _ _ hg.1 hg.2, ec _ _ hb.1 hb.2]
  rfl

/-- What Over's alpha is at least. -/
theorem overA_ge {u v : Int} (hu0 : 0 ≤ u) (hu1 : u ≤ 255) (hv0 : 0 ≤ v) (hv1 : v ≤ 255) : v ≤ roundI (overW u v) 255 ∧ u ≤ roundI (overW u v) 255 := by
  have h1 : 0 ≤ u * (255 - v) := Int.mul_nonneg hu0 (by omega)
  have h2 : u * (255 - v) = 255 * u - u * v := by rw [Int.mul_sub]; omega
  have h3 : 0 ≤ (255 - u) * v := Int.mul_nonneg (by omega) hv0
  have h4 : (255 - u) * v = 255 * v - u * v := by rw [Int.sub_mul]
  constructor
  · have := roundI_mono (d := 255) (by omega) (show v * 255 ≤ overW u v by unfold overW; omega)
    rwa [roundI_255] at this
  · have := roundI_mono (d := 255) (by omega) (show u * 255 ≤ overW u v by unfold overW; omega)
    rwa [roundI_255] at this
theorem overP_alpha {q p : Px} (hq : q.ok) (hp : p.ok) (m c : Int) : q.a ≤ (overP q p m c).a ∧ (fadeP p c).a ≤ (overP q p m c).a := by
  have hu := mulI_bd p.a c
  have hv := hq.2.2.2
  have k := overA_ge hu.1 hu.2 hv.1 hv.2
  have hf : (fadeP p c).a = mulI p.a c := by
    unfold fadeP cleanP
    split
    · rename_i h; simp only at h; rw [h]; rfl
    · rfl
  rw [hf]
  unfold overP
  split
  · rename_i h
    rw [h] at k
    have e : roundI 0 255 = 0 := rfl
    rw [e] at k
    exact k
  · exact k
theorem overP_zero {q p : Px} (hq : q.ok) (hp : p.ok) {m c : Int} (h : (overP q p m c).a = 0) : overP q p m c = Px.zero := by
  have hu := mulI_bd p.a c
  have hv := hq.2.2.2
  have k := overA_ge hu.1 hu.2 hv.1 hv.2
  unfold overP at h ⊢
  split
  · rfl
  · rename_i hw
    rw [if_neg hw] at h
    simp only at h
    rw [h] at k
    exfalso
    apply hw
    have e1 : mulI p.a c = 0 := by omega
    have e2 : q.a = 0 := by omega
    rw [e1, e2]; rfl
/-- A rounded mean of three numbers lies between the least and the greatest of them. -/
theorem overC_between {m u v b s W : Int} (hu0 : 0 ≤ u) (hu1 : u ≤ 255) (hv0 : 0 ≤ v) (hv1 : v ≤ 255) (hw : 1 ≤ overW u v) :
    min b (min s (blendI m b s)) ≤ overC m u v b s ∧ overC m u v b s ≤ max b (max s (blendI m b s)) := by
  obtain ⟨x, hx⟩ : ∃ x, x = blendI m b s := ⟨_, rfl⟩
  unfold overC overN
  rw [← hx]
  have w1 : 0 ≤ u * (255 - v) := Int.mul_nonneg hu0 (by omega)
  have w2 : 0 ≤ u * v := Int.mul_nonneg hu0 hv0
  have w3 : 0 ≤ (255 - u) * v := Int.mul_nonneg (by omega) hv0
  have e := overW_eq u v
  generalize hW : overW u v = W at *
  generalize u * (255 - v) = p at *
  generalize u * v = q at *
  generalize (255 - u) * v = r at *
  obtain ⟨lo, hlo⟩ : ∃ lo, lo = min b (min s x) := ⟨_, rfl⟩
  obtain ⟨hi, hhi⟩ : ∃ hi, hi = max b (max s x) := ⟨_, rfl⟩
  rw [← hlo, ← hhi]
  have a1 := Int.mul_le_mul_of_nonneg_left (show lo ≤ s by omega) w1
  have a2 := Int.mul_le_mul_of_nonneg_left (show lo ≤ x by omega) w2
  have a3 := Int.mul_le_mul_of_nonneg_left (show lo ≤ b by omega) w3
  have b1 := Int.mul_le_mul_of_nonneg_left (show s ≤ hi by omega) w1
  have b2 := Int.mul_le_mul_of_nonneg_left (show x ≤ hi by omega) w2
  have b3 := Int.mul_le_mul_of_nonneg_left (show b ≤ hi by omega) w3
  have c1 : p * lo + q * lo + r * lo = W * lo := by rw [← Int.add_mul, ← Int.add_mul, ← e]
  have c2 : p * hi + q * hi + r * hi = W * hi := by rw [← Int.add_mul, ← Int.add_mul, ← e]
  constructor
  · have := roundI_mono (d := W) hw (show W * lo ≤ p * s + q * x + r * b by omega)
    rwa [roundI_mul hw] at this
  · have := roundI_mono (d := W) hw (show p * s + q * x + r * b ≤ W * hi by omega)
    rwa [roundI_mul hw] at this

/-! The blend modes -/
theorem scrI_comm (b s : Int) : scrI b s = scrI s b := by unfold scrI; rw [mulI_comm]; omega
theorem blendI_comm {m b s : Int} (h : m = 1 ∨ m = 2 ∨ m = 4 ∨ m = 5 ∨ m = 10 ∨ m = 11 ∨ m = 12 ∨ m = 14 ∨ m = 15) : blendI m b s = blendI m s b := by
  unfold blendI
  generalize clampI b = x
  generalize clampI s = y
  rcases h with rfl | rfl | rfl | rfl | rfl | rfl | rfl | rfl | rfl <;> simp only [modeI, reduceIte, Int.reduceEq]
  · exact mulI_comm _ _
  · exact scrI_comm _ _
  · omega
  · omega
  · omega
  · rw [mulI_comm]; omega
  · omega
  · omega
  · omega
theorem blendI_overlay (b s : Int) : blendI 3 b s = blendI 8 s b := rfl

end Go.Proofs.Ytppccnjckiedlaa.Pl
