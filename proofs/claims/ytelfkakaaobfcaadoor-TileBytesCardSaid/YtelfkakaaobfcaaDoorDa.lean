/- Plain: SHA-256 over words of 32 bits, with no program in sight. -/
import Derived.Test.YtelfkakaaobfcaaDoorRows
namespace Go.Proofs.YtelfkakaaobfcaaDoor
namespace Sha
set_option linter.unusedVariables false
set_option linter.unusedSimpArgs false

abbrev W32 := BitVec 32
def rotr (x : W32) (n : Nat) : W32 := (x >>> n) ||| (x <<< (32 - n))
def s0 (x : W32) : W32 := rotr x 7 ^^^ rotr x 18 ^^^ x >>> 3
def s1 (x : W32) : W32 := rotr x 17 ^^^ rotr x 19 ^^^ x >>> 10
def S0 (x : W32) : W32 := rotr x 2 ^^^ rotr x 13 ^^^ rotr x 22
def S1 (x : W32) : W32 := rotr x 6 ^^^ rotr x 11 ^^^ rotr x 25
def ch (e f g : W32) : W32 := (e &&& f) ^^^ (~~~e &&& g)
def maj (a b c : W32) : W32 := (a &&& b) ^^^ (a &&& c) ^^^ (b &&& c)
theorem ch_or (e f g : W32) : (e &&& f) ||| ((4294967295#32 - e) &&& g) = ch e f g := by
  have h : (4294967295#32 - e) = ~~~e := by
    have := BitVec.neg_eq_not_add e
    have h2 : (4294967295#32 : BitVec 32) = -1#32 := by decide
    rw [h2, BitVec.sub_eq_add_neg, this, BitVec.add_comm (-1#32), BitVec.add_assoc]
    have h3 : (1#32 + -1#32 : BitVec 32) = 0#32 := by decide
    rw [h3, BitVec.add_zero]
  rw [h]
  unfold ch
  ext i
  simp only [BitVec.getElem_or, BitVec.getElem_and, BitVec.getElem_xor, BitVec.getElem_not]
  cases e[i] <;> cases f[i] <;> cases g[i] <;> rfl
theorem maj_or (a b c : W32) : (a &&& b) ||| (a &&& c) ||| (b &&& c) = maj a b c := by
  unfold maj
  ext i
  simp only [BitVec.getElem_or, BitVec.getElem_and, BitVec.getElem_xor]
  cases a[i] <;> cases b[i] <;> cases c[i] <;> rfl
/-- A word out of four bytes. -/
def be (a b c d : UInt8) : W32 := BitVec.ofNat 32 (a.toNat * 16777216 + b.toNat * 65536 + c.toNat * 256 + d.toNat)
def wb (a : UInt8) : W32 := BitVec.ofNat 32 a.toNat
theorem be_add (a b c d : UInt8) : (wb a <<< 24) + (wb b <<< 16) + (wb c <<< 8) + wb d = be a b c d := by
  have ha := a.toNat_lt
  have hb := b.toNat_lt
  have hc := c.toNat_lt
  have hd := d.toNat_lt
  apply BitVec.eq_of_toNat_eq
  unfold wb be
  simp only [BitVec.toNat_add, BitVec.toNat_shiftLeft, BitVec.toNat_ofNat, Nat.shiftLeft_eq]
  omega
theorem wb_bit (a : UInt8) (i : Nat) (h : 8 ≤ i) : (wb a).getLsbD i = false := by
  unfold wb
  rw [BitVec.getLsbD_ofNat]
  have ha := a.toNat_lt
  have : a.toNat.testBit i = false := Nat.testBit_lt_two_pow (Nat.lt_of_lt_of_le ha (Nat.pow_le_pow_right (by omega) h))
  simp [this]
theorem be_or (a b c d : UInt8) : (wb a <<< 24) ||| (wb b <<< 16) ||| (wb c <<< 8) ||| wb d = be a b c d := by
  rw [← be_add]
  have k1 : (wb a <<< 24) + (wb b <<< 16) = (wb a <<< 24) ||| (wb b <<< 16) := BitVec.add_eq_or_of_and_eq_zero _ _ (by
    apply BitVec.eq_of_getLsbD_eq
    intro i hi
    simp only [BitVec.getLsbD_and, BitVec.getLsbD_shiftLeft, BitVec.getLsbD_zero]
    by_cases h : i < 24
    · simp [h]
    · rw [wb_bit b (i - 16) (by omega)]; simp)
  have k2 : (wb a <<< 24 ||| wb b <<< 16) + (wb c <<< 8) = (wb a <<< 24 ||| wb b <<< 16) ||| (wb c <<< 8) := BitVec.add_eq_or_of_and_eq_zero _ _ (by
    apply BitVec.eq_of_getLsbD_eq
    intro i hi
    simp only [BitVec.getLsbD_and, BitVec.getLsbD_or, BitVec.getLsbD_shiftLeft, BitVec.getLsbD_zero]
    by_cases h : i < 16
    · have h1 : i < 24 := by omega
      simp [h, h1]
    · rw [wb_bit c (i - 8) (by omega)]; simp)
  have k3 : (wb a <<< 24 ||| wb b <<< 16 ||| wb c <<< 8) + wb d = (wb a <<< 24 ||| wb b <<< 16 ||| wb c <<< 8) ||| wb d := BitVec.add_eq_or_of_and_eq_zero _ _ (by
    apply BitVec.eq_of_getLsbD_eq
    intro i hi
    simp only [BitVec.getLsbD_and, BitVec.getLsbD_or, BitVec.getLsbD_shiftLeft, BitVec.getLsbD_zero]
    by_cases h : i < 8
    · have h1 : i < 24 := by omega
      have h2 : i < 16 := by omega
      simp [h, h1, h2]
    · rw [wb_bit d i (by omega)]; simp)
  rw [k1, k2, k3]

/-- A function with one value replaced. -/
def updW (f : Nat → W32) (i : Nat) (x : W32) : Nat → W32 := fun j => if j = i then x else f j
/-- The first sixteen words, read off a block. -/
def first (m : Nat → W32) (k : Nat) : Nat → W32 := fun j => if j < k then m j else 0
theorem first_next (m : Nat → W32) (k : Nat) : updW (first m k) k (m k) = first m (k + 1) := by
  funext j
  unfold updW first
  by_cases h : j = k
  · subst h; simp
  · rw [if_neg h]
    by_cases h2 : j < k
    · rw [if_pos h2, if_pos (by omega)]
    · rw [if_neg h2, if_neg (by omega)]
/-- The message schedule after k more words. -/
def sch (m : Nat → W32) : Nat → Nat → W32
  | 0 => first m 16
  | k + 1 => updW (sch m k) (16 + k) (sch m k k + s0 (sch m k (k + 1)) + sch m k (k + 9) + s1 (sch m k (k + 14)))
/-- The message schedule. -/
def wrd (m : Nat → W32) : Nat → W32 := sch m 48

structure St where
  a : W32
  b : W32
  c : W32
  d : W32
  e : W32
  f : W32
  g : W32
  h : W32
deriving DecidableEq
def St.at (s : St) (i : Nat) : W32 := if i = 0 then s.a else if i = 1 then s.b else if i = 2 then s.c else if i = 3 then s.d else if i = 4 then s.e else if i = 5 then s.f else if i = 6 then s.g else s.h
/-- One round, with the round's constant and word. -/
def rnd (k w : W32) (s : St) : St :=
  { a := s.h + S1 s.e + ch s.e s.f s.g + k + w + (S0 s.a + maj s.a s.b s.c), b := s.a, c := s.b, d := s.c, e := s.d + (s.h + S1 s.e + ch s.e s.f s.g + k + w), f := s.e, g := s.f, h := s.g }
def rounds (K W : Nat → W32) (s : St) : Nat → St
  | 0 => s
  | i + 1 => rnd (K i) (W i) (rounds K W s i)
def addSt (s t : St) : St := ⟨s.a + t.a, s.b + t.b, s.c + t.c, s.d + t.d, s.e + t.e, s.f + t.f, s.g + t.g, s.h + t.h⟩
/-- The round constants. -/
def kList : List Nat := [1116352408, 1899447441, 3049323471, 3921009573, 961987163, 1508970993, 2453635748, 2870763221, 3624381080, 310598401, 607225278, 1426881987, 1925078388, 2162078206, 2614888103, 3248222580, 3835390401, 4022224774, 264347078, 604807628, 770255983, 1249150122, 1555081692, 1996064986, 2554220882, 2821834349, 2952996808, 3210313671, 3336571891, 3584528711, 113926993, 338241895, 666307205, 773529912, 1294757372, 1396182291, 1695183700, 1986661051, 2177026350, 2456956037, 2730485921, 2820302411, 3259730800, 3345764771, 3516065817, 3600352804, 4094571909, 275423344, 430227734, 506948616, 659060556, 883997877, 958139571, 1322822218, 1537002063, 1747873779, 1955562222, 2024104815, 2227730452, 2361852424, 2428436474, 2756734187, 3204031479, 3329325298]
def kW (i : Nat) : W32 := BitVec.ofNat 32 (kList.getD i 0)
def start : St := ⟨1779033703#32, 3144134277#32, 1013904242#32, 2773480762#32, 1359893119#32, 2600822924#32, 528734635#32, 1541459225#32⟩
/-- The words of a block of bytes. -/
def msg (p : List UInt8) (j : Nat) : W32 := be (p.getD (4 * j) 0) (p.getD (4 * j + 1) 0) (p.getD (4 * j + 2) 0) (p.getD (4 * j + 3) 0)
/-- One block taken in. -/
def comp (s : St) (p : List UInt8) : St := addSt (rounds kW (wrd (msg p)) s 64) s
/-- The first n blocks of p taken in. -/
def blocks (s : St) (p : List UInt8) : Nat → St
  | 0 => s
  | n + 1 => comp (blocks s p n) ((p.drop (64 * n)).take 64)
/-- n big endian in k bytes. -/
def big (n : Nat) : Nat → List UInt8
  | 0 => []
  | k + 1 => big (n / 256) k ++ [UInt8.ofNat n]
/-- How many zero bytes are padded. -/
def zeros (n : Nat) : Nat := (119 - n % 64) % 64
def pad (s : List UInt8) : List UInt8 := s ++ 128 :: (List.replicate (zeros s.length) 0 ++ big (8 * s.length) 8)
def outB (s : St) : List UInt8 := big s.a.toNat 4 ++ big s.b.toNat 4 ++ big s.c.toNat 4 ++ big s.d.toNat 4 ++ big s.e.toNat 4 ++ big s.f.toNat 4 ++ big s.g.toNat 4 ++ big s.h.toNat 4
/-- The digest. -/
def ofB (s : List UInt8) : List UInt8 := outB (blocks start (pad s) ((pad s).length / 64))

theorem big_length (n k : Nat) : (big n k).length = k := by
  induction k generalizing n with
  | zero => rfl
  | succ k ih => simp [big, ih]
theorem pad_length (s : List UInt8) : (pad s).length = s.length + 9 + zeros s.length := by
  unfold pad
  simp [big_length]
  omega
theorem outB_length (s : St) : (outB s).length = 32 := by simp [outB, big_length]
theorem ofB_length (s : List UInt8) : (ofB s).length = 32 := outB_length _
/-- The schedule while it is being filled from the left. -/
def fullW (m : Nat → W32) (k : Nat) : Nat → W32 := if k ≤ 16 then first m k else sch m (k - 16)
theorem fullW_lo (m : Nat → W32) {k : Nat} (h : k ≤ 16) : fullW m k = first m k := by unfold fullW; rw [if_pos h]
theorem fullW_hi (m : Nat → W32) {k : Nat} (h : 16 ≤ k) : fullW m k = sch m (k - 16) := by
  unfold fullW
  by_cases h2 : k ≤ 16
  · obtain rfl : k = 16 := by omega
    rw [if_pos (by omega)]; rfl
  · rw [if_neg h2]
theorem rnd_step (s : St) (k w : W32) : (⟨s.at 7 + (rotr (s.at 4) 6 ^^^ rotr (s.at 4) 11 ^^^ rotr (s.at 4) 25) + ((s.at 4 &&& s.at 5) ^^^ (~~~(s.at 4) &&& s.at 6)) + k + w + ((rotr (s.at 0) 2 ^^^ rotr (s.at 0) 13 ^^^ rotr (s.at 0) 22) + ((s.at 0 &&& s.at 1) ^^^ (s.at 0 &&& s.at 2) ^^^ (s.at 1 &&& s.at 2))), s.at 0, s.at 1, s.at 2, s.at 3 + (s.at 7 + (rotr (s.at 4) 6 ^^^ rotr (s.at 4) 11 ^^^ rotr (s.at 4) 25) + ((s.at 4 &&& s.at 5) ^^^ (~~~(s.at 4) &&& s.at 6)) + k + w), s.at 4, s.at 5, s.at 6⟩ : St) = rnd k w s := rfl
theorem rnd_step' (s : St) (k w : W32) : (⟨s.at 7 + (rotr (s.at 4) 6 ^^^ rotr (s.at 4) 11 ^^^ rotr (s.at 4) 25) + ((s.at 4 &&& s.at 5) ||| ((4294967295#32 - s.at 4) &&& s.at 6)) + k + w + (rotr (s.at 0) 2 ^^^ rotr (s.at 0) 13 ^^^ rotr (s.at 0) 22) + ((s.at 0 &&& s.at 1) ||| (s.at 0 &&& s.at 2) ||| (s.at 1 &&& s.at 2)), s.at 0, s.at 1, s.at 2, s.at 3 + (s.at 7 + (rotr (s.at 4) 6 ^^^ rotr (s.at 4) 11 ^^^ rotr (s.at 4) 25) + ((s.at 4 &&& s.at 5) ||| ((4294967295#32 - s.at 4) &&& s.at 6)) + k + w), s.at 4, s.at 5, s.at 6⟩ : St) = rnd k w s := by
  rw [ch_or, maj_or, BitVec.add_assoc _ (rotr (s.at 0) 2 ^^^ rotr (s.at 0) 13 ^^^ rotr (s.at 0) 22) _]
  rfl
theorem rounds_next (K W : Nat → W32) (s : St) (i : Nat) : rounds K W s (i + 1) = rnd (K i) (W i) (rounds K W s i) := rfl
theorem rounds_zero (K W : Nat → W32) (s : St) : rounds K W s 0 = s := rfl
theorem addSt_at (s t : St) (i : Nat) : (addSt s t).at i = s.at i + t.at i := by
  unfold St.at addSt
  split
  · rfl
  · split
    · rfl
    · split
      · rfl
      · split
        · rfl
        · split
          · rfl
          · split
            · rfl
            · split <;> rfl
theorem at0 (s : St) : s.at 0 = s.a := rfl
theorem at1 (s : St) : s.at 1 = s.b := rfl
theorem at2 (s : St) : s.at 2 = s.c := rfl
theorem at3 (s : St) : s.at 3 = s.d := rfl
theorem at4 (s : St) : s.at 4 = s.e := rfl
theorem at5 (s : St) : s.at 5 = s.f := rfl
theorem at6 (s : St) : s.at 6 = s.g := rfl
theorem at7 (s : St) : s.at 7 = s.h := rfl
/-- The first k words are those of g. -/
def stepW (f g : Nat → W32) (k : Nat) : Nat → W32 := fun j => if j < k then g j else f j
theorem stepW_zero (f g : Nat → W32) : stepW f g 0 = f := by funext j; simp [stepW]
theorem stepW_next (f g : Nat → W32) (k : Nat) : updW (stepW f g k) k (g k) = stepW f g (k + 1) := by
  funext j
  unfold updW stepW
  by_cases h : j = k
  · subst h; simp
  · rw [if_neg h]
    by_cases h2 : j < k
    · rw [if_pos h2, if_pos (by omega)]
    · rw [if_neg h2, if_neg (by omega)]
theorem stepW_at (f g : Nat → W32) (k : Nat) : stepW f g k k = f k := by simp [stepW]
theorem stepW_all (f g : Nat → W32) (n : Nat) : ∀ i, i < n → stepW f g n i = g i := fun i hi => by simp [stepW, hi]
theorem comp_at (s : St) (p : List UInt8) (i : Nat) : (comp s p).at i = (rounds kW (wrd (msg p)) s 64).at i + s.at i := addSt_at _ _ _
theorem rotr_def (x : W32) (n : Nat) : rotr x n = (x >>> n) ||| (x <<< (32 - n)) := rfl
/- The words below are shut for the walks. -/
theorem s0_def (x : W32) : s0 x = rotr x 7 ^^^ rotr x 18 ^^^ x >>> 3 := rfl
theorem s1_def (x : W32) : s1 x = rotr x 17 ^^^ rotr x 19 ^^^ x >>> 10 := rfl
theorem sch_next (m : Nat → W32) (k : Nat) : sch m (k + 1) = updW (sch m k) (16 + k) (sch m k k + s0 (sch m k (k + 1)) + sch m k (k + 9) + s1 (sch m k (k + 14))) := rfl
theorem first_zero (m : Nat → W32) : first m 0 = fun _ => 0 := by funext j; simp [first]
theorem sch_zero (m : Nat → W32) : sch m 0 = first m 16 := rfl
attribute [irreducible] sch s0 s1 first St.at rnd rounds comp kW rotr
end Sha
end Go.Proofs.YtelfkakaaobfcaaDoor
