/- Plain arithmetic of 8-bit compositing, in Int: what package pixel and its reference compute. -/
import Derived.IntWalk
import Derived.RowKit
namespace Go.Proofs.Ytppccnjckiedlaa.Pl

def clampI (n : Int) : Int := max 0 (min n 255)
def roundI (n d : Int) : Int := (2 * n + d) / (2 * d)
def mulI (a b : Int) : Int := roundI (clampI a * clampI b) 255
def scrI (b s : Int) : Int := b + s - mulI b s
def hardI (b s : Int) : Int := if s < 128 then mulI b (2 * s) else scrI b (2 * s - 255)
def dodgeI (b s : Int) : Int := if b = 0 then 0 else if s = 255 then 255 else min 255 (255 * b / (255 - s))
def burnI (b s : Int) : Int := if b = 255 then 255 else if s = 0 then 0 else 255 - min 255 (255 * (255 - b) / s)
def softI (b s : Int) : Int := min 255 (mulI (255 - b) (mulI b s) + mulI b (scrI b s))
def absI (x : Int) : Int := max x (-x)

theorem clampI_bd (n : Int) : 0 ≤ clampI n ∧ clampI n ≤ 255 := by unfold clampI; omega
theorem clampI_id {n : Int} (h0 : 0 ≤ n) (h1 : n ≤ 255) : clampI n = n := by unfold clampI; omega
theorem roundI_bd {n d m : Int} (h0 : 0 ≤ n) (h1 : n ≤ m * d) (hd : 1 ≤ d) : 0 ≤ roundI n d ∧ roundI n d ≤ m := by
  unfold roundI
  refine ⟨Int.ediv_nonneg (by omega) (by omega), ?_⟩
  have : (2 * n + d) / (2 * d) < m + 1 := by
    apply Int.ediv_lt_of_lt_mul (by omega)
    have e1 : (m + 1) * (2 * d) = 2 * (m * d) + 2 * d := by rw [Int.add_mul, Int.one_mul, Int.mul_left_comm]
    omega
  omega
theorem mul_bd {a b : Int} {m k : Int} (ha : 0 ≤ a) (ha' : a ≤ m) (hb : 0 ≤ b) (hb' : b ≤ k) : 0 ≤ a * b ∧ a * b ≤ m * k :=
  ⟨Int.mul_nonneg ha hb, Int.mul_le_mul ha' hb' hb (by omega)⟩
theorem mulI_bd (a b : Int) : 0 ≤ mulI a b ∧ mulI a b ≤ 255 := by
  have h1 := clampI_bd a
  have h2 := clampI_bd b
  have h3 := mul_bd h1.1 h1.2 h2.1 h2.2
  exact roundI_bd h3.1 (by omega) (by omega)
theorem mulI_comm (a b : Int) : mulI a b = mulI b a := by unfold mulI; rw [Int.mul_comm]

/-- The sixteen modes; all others are Normal. -/
def modeI (m b s : Int) : Int :=
  if m = 1 then mulI b s else if m = 2 then scrI b s else if m = 3 then hardI s b else if m = 4 then min b s else if m = 5 then max b s
  else if m = 6 then dodgeI b s else if m = 7 then burnI b s else if m = 8 then hardI b s else if m = 9 then softI b s else if m = 10 then max (b - s) (s - b)
  else if m = 11 then max 0 (b + s - 2 * mulI b s) else if m = 12 then min 255 (b + s) else if m = 13 then max 0 (b - s) else if m = 14 then (b + s + 1) / 2
  else if m = 15 then 255 - max (255 - b - s) (s - (255 - b)) else s
def blendI (m b s : Int) : Int := modeI m (clampI b) (clampI s)

theorem mulI_le {b s : Int} (h0 : 0 ≤ b) (h1 : b ≤ 255) : mulI b s ≤ b := by
  have h2 := clampI_bd s
  unfold mulI
  rw [clampI_id h0 h1]
  have h3 := mul_bd h0 (Int.le_refl b) h2.1 h2.2
  exact (roundI_bd h3.1 (by omega) (by omega)).2
theorem scrI_bd {b s : Int} (hb0 : 0 ≤ b) (hb1 : b ≤ 255) (hs0 : 0 ≤ s) (hs1 : s ≤ 255) : max b s ≤ scrI b s ∧ scrI b s ≤ 255 := by
  have h1 := mulI_le (s := s) hb0 hb1
  have h2 := mulI_le (s := b) hs0 hs1
  rw [mulI_comm] at h2
  refine ⟨by unfold scrI; omega, ?_⟩
  -- b + s - 255 ≤ mul
  have h3 : b + s - 255 ≤ mulI b s := by
    unfold mulI roundI
    rw [clampI_id hb0 hb1, clampI_id hs0 hs1]
    have h4 : 0 ≤ (255 - b) * (255 - s) := Int.mul_nonneg (by omega) (by omega)
    have h5 : (255 - b) * (255 - s) = 65025 - 255 * b - 255 * s + b * s := by
      rw [Int.sub_mul, Int.mul_sub, Int.mul_sub]; omega
    apply Int.le_ediv_of_mul_le (by omega)
    omega
  unfold scrI; omega
theorem hardI_bd {b s : Int} (hb0 : 0 ≤ b) (hb1 : b ≤ 255) (hs0 : 0 ≤ s) (hs1 : s ≤ 255) : 0 ≤ hardI b s ∧ hardI b s ≤ 255 := by
  unfold hardI
  split
  · exact mulI_bd _ _
  · have := scrI_bd hb0 hb1 (s := 2 * s - 255) (by omega) (by omega)
    omega
theorem excl_le {b s : Int} (hb0 : 0 ≤ b) (hb1 : b ≤ 255) (hs0 : 0 ≤ s) (hs1 : s ≤ 255) : b + s - 2 * mulI b s ≤ 255 := by
  unfold mulI roundI
  rw [clampI_id hb0 hb1, clampI_id hs0 hs1]
  have h4 : 0 ≤ (255 - b) * (255 - s) := Int.mul_nonneg (by omega) (by omega)
  have h5 : (255 - b) * (255 - s) = 65025 - 255 * b - 255 * s + b * s := by
    rw [Int.sub_mul, Int.mul_sub, Int.mul_sub]; omega
  have h6 : 0 ≤ b * s := Int.mul_nonneg hb0 hs0
  generalize b * s = x at *
  omega
theorem modeI_bd {m b s : Int} (hb0 : 0 ≤ b) (hb1 : b ≤ 255) (hs0 : 0 ≤ s) (hs1 : s ≤ 255) : 0 ≤ modeI m b s ∧ modeI m b s ≤ 255 := by
  have h1 := mulI_bd b s
  have h2 := scrI_bd hb0 hb1 hs0 hs1
  have h8 := excl_le hb0 hb1 hs0 hs1
  have h3 := hardI_bd hb0 hb1 hs0 hs1
  have h4 := hardI_bd hs0 hs1 hb0 hb1
  have h5 : 0 ≤ dodgeI b s ∧ dodgeI b s ≤ 255 := by
    unfold dodgeI
    split
    · omega
    · split
      · omega
      · have : 0 ≤ 255 * b / (255 - s) := Int.ediv_nonneg (by omega) (by omega)
        omega
  have h6 : 0 ≤ burnI b s ∧ burnI b s ≤ 255 := by
    unfold burnI
    split
    · omega
    · split
      · omega
      · have : 0 ≤ 255 * (255 - b) / s := Int.ediv_nonneg (by omega) (by omega)
        omega
  have h7 : 0 ≤ softI b s ∧ softI b s ≤ 255 := by
    unfold softI
    have := mulI_bd (255 - b) (mulI b s)
    have := mulI_bd b (scrI b s)
    omega
  unfold modeI
  repeat' split
  all_goals omega
theorem blendI_bd (m b s : Int) : 0 ≤ blendI m b s ∧ blendI m b s ≤ 255 :=
  modeI_bd (clampI_bd b).1 (clampI_bd b).2 (clampI_bd s).1 (clampI_bd s).2

/-! ### Pixels -/
structure Px where
  r : Int
  g : Int
  b : Int
  a : Int
/-- Every channel is a byte. -/
def Px.ok (p : Px) : Prop := (0 ≤ p.r ∧ p.r ≤ 255) ∧ (0 ≤ p.g ∧ p.g ≤ 255) ∧ (0 ≤ p.b ∧ p.b ≤ 255) ∧ (0 ≤ p.a ∧ p.a ≤ 255)
def Px.zero : Px := ⟨0, 0, 0, 0⟩
theorem Px.zero_ok : Px.zero.ok := by unfold Px.ok Px.zero; simp
def cleanP (p : Px) : Px := if p.a = 0 then Px.zero else p
theorem cleanP_ok {p : Px} (h : p.ok) : (cleanP p).ok := by unfold cleanP; split; exact Px.zero_ok; exact h
def fadeP (p : Px) (c : Int) : Px := cleanP { p with a := mulI p.a c }
theorem fadeP_ok {p : Px} (h : p.ok) (c : Int) : (fadeP p c).ok := by
  unfold fadeP
  apply cleanP_ok
  have := mulI_bd p.a c
  exact ⟨h.1, h.2.1, h.2.2.1, this⟩

/-! Over -/
def overW (u v : Int) : Int := 255 * u + 255 * v - u * v
def overN (m u v b s : Int) : Int := u * (255 - v) * s + u * v * blendI m b s + (255 - u) * v * b
def overC (m u v b s : Int) : Int := roundI (overN m u v b s) (overW u v)
def overP (q p : Px) (m c : Int) : Px :=
  if overW (mulI p.a c) q.a = 0 then Px.zero else
    ⟨overC m (mulI p.a c) q.a q.r p.r, overC m (mulI p.a c) q.a q.g p.g, overC m (mulI p.a c) q.a q.b p.b, roundI (overW (mulI p.a c) q.a) 255⟩

theorem overW_eq (u v : Int) : overW u v = u * (255 - v) + u * v + (255 - u) * v := by
  unfold overW; rw [Int.mul_sub, Int.sub_mul]; omega
theorem overW_bd {u v : Int} (hu0 : 0 ≤ u) (hu1 : u ≤ 255) (hv0 : 0 ≤ v) (hv1 : v ≤ 255) : 0 ≤ overW u v ∧ overW u v ≤ 65025 := by
  have h1 : 0 ≤ (255 - u) * (255 - v) := Int.mul_nonneg (by omega) (by omega)
  have h2 : (255 - u) * (255 - v) = 65025 - overW u v := by
    unfold overW; rw [Int.sub_mul, Int.mul_sub, Int.mul_sub]; omega
  have h3 : 0 ≤ u * (255 - v) := Int.mul_nonneg hu0 (by omega)
  have h4 : u * (255 - v) = 255 * u - u * v := by rw [Int.mul_sub]; omega
  constructor
  · unfold overW; omega
  · omega
/-- A weighted sum of three numbers of at most 255 is at most 255 times the weights. -/
theorem overN_bd {m u v b s : Int} (hu0 : 0 ≤ u) (hu1 : u ≤ 255) (hv0 : 0 ≤ v) (hv1 : v ≤ 255) (hb0 : 0 ≤ b) (hb1 : b ≤ 255) (hs0 : 0 ≤ s) (hs1 : s ≤ 255) :
    0 ≤ overN m u v b s ∧ overN m u v b s ≤ 255 * overW u v := by
  have hx := blendI_bd m b s
  have w1 : 0 ≤ u * (255 - v) := Int.mul_nonneg hu0 (by omega)
  have w2 : 0 ≤ u * v := Int.mul_nonneg hu0 hv0
  have w3 : 0 ≤ (255 - u) * v := Int.mul_nonneg (by omega) hv0
  have a1 := Int.mul_nonneg w1 hs0
  have a2 := Int.mul_nonneg w2 hx.1
  have a3 := Int.mul_nonneg w3 hb0
  have b1 := Int.mul_le_mul_of_nonneg_left hs1 w1
  have b2 := Int.mul_le_mul_of_nonneg_left hx.2 w2
  have b3 := Int.mul_le_mul_of_nonneg_left hb1 w3
  have e := overW_eq u v
  unfold overN
  omega
theorem overC_bd {m u v b s : Int} (hu0 : 0 ≤ u) (hu1 : u ≤ 255) (hv0 : 0 ≤ v) (hv1 : v ≤ 255) (hb0 : 0 ≤ b) (hb1 : b ≤ 255) (hs0 : 0 ≤ s) (hs1 : s ≤ 255) (hw : overW u v ≠ 0) :
    0 ≤ overC m u v b s ∧ overC m u v b s ≤ 255 := by
  have h := overN_bd (m := m) hu0 hu1 hv0 hv1 hb0 hb1 hs0 hs1
  have k := overW_bd hu0 hu1 hv0 hv1
  exact roundI_bd h.1 h.2 (by omega)
theorem overP_ok {q p : Px} (hq : q.ok) (hp : p.ok) (m c : Int) : (overP q p m c).ok := by
  have hu := mulI_bd p.a c
  unfold overP
  split
  · exact Px.zero_ok
  · rename_i hw
    obtain ⟨⟨q1, q2⟩, ⟨q3, q4⟩, ⟨q5, q6⟩, ⟨q7, q8⟩⟩ := hq
    obtain ⟨⟨p1, p2⟩, ⟨p3, p4⟩, ⟨p5, p6⟩, ⟨p7, p8⟩⟩ := hp
    have k := overW_bd hu.1 hu.2 q7 q8
    exact ⟨overC_bd hu.1 hu.2 q7 q8 q1 q2 p1 p2 hw, overC_bd hu.1 hu.2 q7 q8 q3 q4 p3 p4 hw, overC_bd hu.1 hu.2 q7 q8 q5 q6 p5 p6 hw, roundI_bd k.1 (by omega) (by omega)⟩

/-! Mix -/
def mixC (p q x y : Int) : Int := roundI (p * x + q * y) (p + q)
def mixP (a b : Px) (t : Int) : Px :=
  if roundI (a.a * (255 - clampI t) + b.a * clampI t) 255 = 0 then Px.zero else
    ⟨mixC (a.a * (255 - clampI t)) (b.a * clampI t) a.r b.r, mixC (a.a * (255 - clampI t)) (b.a * clampI t) a.g b.g, mixC (a.a * (255 - clampI t)) (b.a * clampI t) a.b b.b, roundI (a.a * (255 - clampI t) + b.a * clampI t) 255⟩
theorem mixN_bd {p q x y : Int} (hp : 0 ≤ p) (hq : 0 ≤ q) (hx : 0 ≤ x ∧ x ≤ 255) (hy : 0 ≤ y ∧ y ≤ 255) : 0 ≤ p * x + q * y ∧ p * x + q * y ≤ 255 * (p + q) := by
  have a1 := Int.mul_nonneg hp hx.1
  have a2 := Int.mul_nonneg hq hy.1
  have b1 := Int.mul_le_mul_of_nonneg_left hx.2 hp
  have b2 := Int.mul_le_mul_of_nonneg_left hy.2 hq
  omega
theorem mixC_bd {p q x y : Int} (hp : 0 ≤ p) (hq : 0 ≤ q) (hx : 0 ≤ x ∧ x ≤ 255) (hy : 0 ≤ y ∧ y ≤ 255) (h : 1 ≤ p + q) : 0 ≤ mixC p q x y ∧ mixC p q x y ≤ 255 := by
  have k := mixN_bd hp hq hx hy
  exact roundI_bd k.1 k.2 h
/-- The alpha of a mix, its weights' bounds. -/
theorem mixW_bd {a b t : Int} (ha : 0 ≤ a ∧ a ≤ 255) (hb : 0 ≤ b ∧ b ≤ 255) (ht : 0 ≤ t ∧ t ≤ 255) : 0 ≤ a * (255 - t) ∧ 0 ≤ b * t ∧ a * (255 - t) + b * t ≤ 65025 := by
  have h1 : 0 ≤ a * (255 - t) := Int.mul_nonneg ha.1 (by omega)
  have h2 : 0 ≤ b * t := Int.mul_nonneg hb.1 ht.1
  have h3 : a * (255 - t) ≤ 255 * (255 - t) := Int.mul_le_mul_of_nonneg_right ha.2 (by omega)
  have h4 : b * t ≤ 255 * t := Int.mul_le_mul_of_nonneg_right hb.2 ht.1
  omega
theorem round_ne {n d : Int} (hd : 1 ≤ d) (h0 : 0 ≤ n) (h : roundI n d ≠ 0) : 1 ≤ n := by
  unfold roundI at h
  apply Int.not_lt.1
  intro hn
  apply h
  have : n = 0 := by omega
  subst this
  exact Int.ediv_eq_zero_of_lt (by omega) (by omega)
theorem mixP_ok {a b : Px} (ha : a.ok) (hb : b.ok) (t : Int) : (mixP a b t).ok := by
  unfold mixP
  split
  · exact Px.zero_ok
  · rename_i hw
    obtain ⟨a1, a2, a3, a4⟩ := ha
    obtain ⟨b1, b2, b3, b4⟩ := hb
    have k := mixW_bd a4 b4 (clampI_bd t)
    have h1 := round_ne (by omega) (by omega) hw
    exact ⟨mixC_bd k.1 k.2.1 a1 b1 h1, mixC_bd k.1 k.2.1 a2 b2 h1, mixC_bd k.1 k.2.1 a3 b3 h1, roundI_bd (by omega) (by omega) (by omega)⟩

end Go.Proofs.Ytppccnjckiedlaa.Pl
