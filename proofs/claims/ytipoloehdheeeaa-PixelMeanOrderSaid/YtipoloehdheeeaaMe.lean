/- Plain: sums over pixels, in either order, with multiplicities. -/
import Derived.Test.YtipoloehdheeeaaMa
namespace Go.Proofs.Ytipoloehdheeeaa.Pl
set_option linter.unusedVariables false

def psum (h : Nat → Int) : Nat → Int
  | 0 => 0
  | i + 1 => psum h i + h i
theorem psum_shift (h : Nat → Int) : ∀ n, psum h (n + 1) = h 0 + psum (fun j => h (j + 1)) n
  | 0 => by simp [psum]
  | n + 1 => by
    have e : psum h (n + 1 + 1) = psum h (n + 1) + h (n + 1) := rfl
    rw [e, psum_shift h n]
    have e2 : psum (fun j => h (j + 1)) (n + 1) = psum (fun j => h (j + 1)) n + h (n + 1) := rfl
    rw [e2]; omega
theorem psum_congr {h g : Nat → Int} : ∀ n, (∀ j, j < n → h j = g j) → psum h n = psum g n
  | 0, _ => rfl
  | n + 1, e => by
    show psum h n + h n = psum g n + g n
    rw [psum_congr n (fun j hj => e j (by omega)), e n (by omega)]
/-- The sum from the back. -/
theorem psum_rev : ∀ (n : Nat) (h : Nat → Int), psum (fun j => h (n - 1 - j)) n = psum h n
  | 0, _ => rfl
  | n + 1, h => by
    show psum (fun j => h (n + 1 - 1 - j)) n + h (n + 1 - 1 - n) = _
    have e1 : n + 1 - 1 - n = 0 := by omega
    rw [e1, psum_shift]
    have e2 : psum (fun j => h (n + 1 - 1 - j)) n = psum (fun j => h (n - 1 - j + 1)) n := psum_congr n fun j hj => by
      have : n + 1 - 1 - j = n - 1 - j + 1 := by omega
      rw [this]
    rw [e2, psum_rev n (fun j => h (j + 1))]
    omega

/-- The sums of the first i pixels, each k times. -/
def mkAcc (f : Nat → Px) (k : Int) (i : Nat) : Acc :=
  ⟨k * psum (fun j => (f j).a) i, k * psum (fun j => (f j).a * (f j).r) i, k * psum (fun j => (f j).a * (f j).g) i, k * psum (fun j => (f j).a * (f j).b) i, k * i⟩
theorem mkAcc_zero (f : Nat → Px) (k : Int) : mkAcc f k 0 = Acc.zero := by simp [mkAcc, Acc.zero, psum]
theorem mkAcc_rev (f : Nat → Px) (k : Int) (n : Nat) : mkAcc (fun j => f (n - 1 - j)) k n = mkAcc f k n := by
  unfold mkAcc
  have e1 := psum_rev n (fun j => (f j).a)
  have e2 := psum_rev n (fun j => (f j).a * (f j).r)
  have e3 := psum_rev n (fun j => (f j).a * (f j).g)
  have e4 := psum_rev n (fun j => (f j).a * (f j).b)
  simp only at e1 e2 e3 e4 ⊢
  rw [e1, e2, e3, e4]
/-- s, and the pixel p m times. -/
def plusAcc (s : Acc) (p : Px) (m : Int) : Acc := ⟨s.a + m * p.a, s.r + m * (p.a * p.r), s.g + m * (p.a * p.g), s.b + m * (p.a * p.b), s.n + m⟩
theorem addAcc_plus {s : Acc} {p : Px} {n : Int} (h : 1 ≤ n) (h' : n ≤ 65536) : addAcc s p n = plusAcc s p n := by
  unfold addAcc plusAcc
  have e : min n 65536 = n := by omega
  rw [if_neg (by omega), e, Int.mul_assoc, Int.mul_assoc, Int.mul_assoc]
theorem plus_zero (s : Acc) (p : Px) : plusAcc s p 0 = s := by simp [plusAcc]
theorem plus_plus (s : Acc) (p : Px) (m n : Int) : plusAcc (plusAcc s p m) p n = plusAcc s p (m + n) := by
  simp only [plusAcc, Int.add_mul, Int.add_assoc]
theorem mkAcc_succ (f : Nat → Px) (k : Int) (i : Nat) : plusAcc (mkAcc f k i) (f i) k = mkAcc f k (i + 1) := by
  simp only [plusAcc, mkAcc, psum, Int.mul_add]
  have e : k * ((i + 1 : Nat) : Int) = k * i + k := by rw [Int.natCast_add, Int.mul_add]; simp
  rw [e]
/-- The mean of one pixel, m times. -/
theorem mean_mult {p : Px} (hp : p.ok) {m : Int} (hm : 1 ≤ m) : meanP (plusAcc Acc.zero p m) = cleanP p := by
  obtain ⟨r, g, b, a⟩ := p
  have ha := hp.2.2.2
  simp only at ha
  have e0 : plusAcc Acc.zero ⟨r, g, b, a⟩ m = ⟨m * a, m * a * r, m * a * g, m * a * b, m⟩ := by
    simp [plusAcc, Acc.zero, Int.mul_assoc]
  rw [e0]
  unfold meanP cleanP
  rw [if_neg (by simp only; omega)]
  simp only [roundI_mul hm]
  split
  · rfl
  · rename_i h
    have : 1 ≤ m * a := by
      have := Int.mul_le_mul_of_nonneg_left (show 1 ≤ a by omega) (show 0 ≤ m by omega)
      omega
    rw [roundI_mul this, roundI_mul this, roundI_mul this]

end Go.Proofs.Ytipoloehdheeeaa.Pl
