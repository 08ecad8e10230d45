/- Plain: the hexadecimal form with one character replaced. -/
import Derived.Test.YtpkonkkjihbgiaaDoorLdback
namespace Go.Proofs.YtpkonkkjihbgiaaDoor
open Go.RowKit Sha
set_option linter.unusedVariables false
set_option linter.unusedSimpArgs false

theorem nib_hexD (c : UInt8) : 0 ≤ nib c → hexD (UInt8.ofNat (nib c).toNat) = c := by
  have h : ∀ n : Fin 256, 0 ≤ nib (UInt8.ofNat n.val) → hexD (UInt8.ofNat (nib (UInt8.ofNat n.val)).toNat) = UInt8.ofNat n.val := by decide +kernel
  have := h ⟨c.toNat, c.toNat_lt⟩
  simpa using this
theorem dig_iff (c : UInt8) : isDig c ↔ 0 ≤ nib c := by
  have h : ∀ n : Fin 256, isDig (UInt8.ofNat n.val) ↔ 0 ≤ nib (UInt8.ofNat n.val) := by decide +kernel
  have := h ⟨c.toNat, c.toNat_lt⟩
  simpa using this
theorem pair_parts (a b : UInt8) (ha : 0 ≤ nib a) (hb : 0 ≤ nib b) : hexD (pairB a b >>> 4) = a ∧ hexD (pairB a b &&& 15) = b := by
  have h1 := nib_bd a
  have h2 := nib_bd b
  have key : ∀ x : Fin 16, ∀ y : Fin 16, (UInt8.ofNat (x.val * 16 + y.val)) >>> 4 = UInt8.ofNat x.val ∧ (UInt8.ofNat (x.val * 16 + y.val)) &&& 15 = UInt8.ofNat y.val := by decide +kernel
  have k := key ⟨(nib a).toNat, by omega⟩ ⟨(nib b).toNat, by omega⟩
  unfold pairB
  simp only at k
  rw [k.1, k.2, nib_hexD a ha, nib_hexD b hb]
  exact ⟨rfl, rfl⟩
theorem parseP_at (l : List UInt8) : ∀ n k, k < n → (parseP l n).getD k 0 = pairB (l.getD (2 * k) 0) (l.getD (2 * k + 1) 0) := by
  intro n
  induction n with
  | zero => intro k hk; omega
  | succ n ih =>
    intro k hk
    rw [parseP_next, List.getD_eq_getElem?_getD]
    by_cases h : k < n
    · have := ih k h
      rw [List.getD_eq_getElem?_getD] at this
      rw [List.getElem?_append_left (by rw [parseP_length]; exact h)]
      exact this
    · obtain rfl : k = n := by omega
      rw [List.getElem?_append_right (by rw [parseP_length]; omega), parseP_length, Nat.sub_self]
      rfl
theorem ext_getD {a b : List UInt8} (h : a.length = b.length) (k : ∀ j, j < a.length → a.getD j 0 = b.getD j 0) : a = b := by
  apply List.ext_getElem h
  intro j h1 h2
  have := k j h1
  rw [List.getD_eq_getElem?_getD, List.getD_eq_getElem?_getD, List.getElem?_eq_getElem h1, List.getElem?_eq_getElem h2] at this
  exact this
/-- Hex inverts Parse on 64 digits. -/
theorem hex_parse (l : List UInt8) (h : l.length = 64) (hn : ∀ j, j < 64 → 0 ≤ nib (l.getD j 0)) : hexB (parseP l 32) 32 = l := by
  refine ext_getD (by rw [hexB_length, h]) fun j hj => ?_
  rw [hexB_length] at hj
  have e := hexB_at (parseP l 32) 32 (j / 2) (by omega)
  rw [parseP_at l 32 (j / 2) (by omega)] at e
  have q := pair_parts (l.getD (2 * (j / 2)) 0) (l.getD (2 * (j / 2) + 1) 0) (hn _ (by omega)) (hn _ (by omega))
  rw [q.1, q.2] at e
  generalize hexB (parseP l 32) 32 = A at *
  by_cases c : j % 2 = 0
  · have : j = 2 * (j / 2) := by omega
    rw [← this] at e; exact e.1
  · have : j = 2 * (j / 2) + 1 := by omega
    rw [← this] at e; exact e.2
/-- The digits of l with one replaced. -/
def chg (l : List UInt8) (p : Nat) (c : UInt8) : List UInt8 := (hexB l 32).set p c
theorem chg_length (l : List UInt8) (p : Nat) (c : UInt8) : (chg l p c).length = 64 := by unfold chg; rw [List.length_set, hexB_length]
theorem chg_at (l : List UInt8) (p : Nat) (c : UInt8) (hp : p < 64) (j : Nat) : (chg l p c).getD j 0 = if j = p then c else (hexB l 32).getD j 0 := by
  unfold chg
  rw [List.getD_eq_getElem?_getD, List.getElem?_set, List.getD_eq_getElem?_getD]
  by_cases h : p = j
  · subst h
    rw [if_pos rfl, if_pos (by rw [hexB_length]; omega), if_pos rfl]; rfl
  · rw [if_neg h, if_neg (fun e => h e.symm)]
theorem chg_bad (l : List UInt8) (p : Nat) (c : UInt8) (hp : p < 64) (h : ¬ isDig c) : PS (ofL (chg l p c)) = ⟨#[]⟩ ∧ ES (ofL (chg l p c)) = 11 := by
  have hb : parseOk (chg l p c) = false := bad_at (j := p) (by rw [chg_length]; exact hp) (by
    rw [chg_at l p c hp, if_pos rfl]
    have := (dig_iff c).2
    have := nib_bd c
    by_cases h0 : 0 ≤ nib c
    · exact absurd ((dig_iff c).2 h0) h
    · omega)
  have g := parse_bad hb
  unfold PS ES
  rw [bytes_ofL, g.1, g.2]
  exact ⟨rfl, rfl⟩
theorem chg_good (l : List UInt8) (p : Nat) (c : UInt8) (hl : l.length = 32) (hp : p < 64) (h : isDig c) :
    ∃ D : List UInt8, PS (ofL (chg l p c)) = ofL D ∧ ES (ofL (chg l p c)) = 0 ∧ D.length = 32 ∧ HS (ofL D) = ofL (chg l p c) ∧ D.take (p / 2) = l.take (p / 2) ∧ D.drop (p / 2 + 1) = l.drop (p / 2 + 1) := by
  have hn : ∀ j, j < 64 → 0 ≤ nib ((chg l p c).getD j 0) := fun j hj => by
    rw [chg_at l p c hp]
    split
    · exact (dig_iff c).1 h
    · exact hexB_all (P := fun c => 0 ≤ nib c) l 32 hex_nib j (by omega)
  have g := parse_good (good_all (chg_length l p c) hn)
  have hg : ∀ k, k < 32 → k ≠ p / 2 → (parseP (chg l p c) 32).getD k 0 = l.getD k 0 := fun k hk hne => by
    rw [parseP_at _ 32 k hk, chg_at l p c hp, chg_at l p c hp, if_neg (by omega), if_neg (by omega)]
    have e := hexB_at l 32 k hk
    rw [e.1, e.2, hex_pair]
  have hel : ∀ k, k ≠ p / 2 → (parseP (chg l p c) 32)[k]? = l[k]? := fun k hne => by
    by_cases hk : k < 32
    · have := hg k hk hne
      rw [List.getD_eq_getElem?_getD, List.getD_eq_getElem?_getD, List.getElem?_eq_getElem (by rw [parseP_length]; exact hk), List.getElem?_eq_getElem (by omega)] at this
      rw [List.getElem?_eq_getElem (by rw [parseP_length]; exact hk), List.getElem?_eq_getElem (by omega)]
      exact congrArg some this
    · rw [List.getElem?_eq_none (by rw [parseP_length]; omega), List.getElem?_eq_none (by omega)]
  refine ⟨parseP (chg l p c) 32, ?_, ?_, parseP_length _ _, ?_, ?_, ?_⟩
  · unfold PS; rw [bytes_ofL, g.1]
  · unfold ES; rw [bytes_ofL, g.2]
  · unfold HS; rw [bytes_ofL]; unfold hexL; rw [if_pos (parseP_length _ _), hex_parse _ (chg_length l p c) hn]
  · apply List.ext_getElem?
    intro k
    rw [List.getElem?_take, List.getElem?_take]
    split
    · exact hel k (by omega)
    · rfl
  · apply List.ext_getElem?
    intro k
    rw [List.getElem?_drop, List.getElem?_drop]
    exact hel _ (by omega)
end Go.Proofs.YtpkonkkjihbgiaaDoor
