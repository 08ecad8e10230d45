/- Contracts of Clean, Fade of package pixel and of the reference, and of the reference's Blend, Over, Mix. -/
import Derived.Test.YtelfkakaaobfcaaPx6
namespace Go.Proofs.Ytelfkakaaobfcaa
open Go.RowKit Pl
set_option linter.unusedVariables false
set_option linter.unusedSimpArgs false

set_option maxHeartbeats 400000 in
theorem P_Clean (q : Px) (w : World) (hq : q.ok) :
    Calls Try.prog 38 #[Px.v q] w fun e w' => e = .returned (Px.v (cleanP q)) ∧ Below w.heap.size w w' := by
  obtain ⟨r, g, b, a⟩ := q
  obtain ⟨⟨p1, p2⟩, ⟨p3, p4⟩, ⟨p5, p6⟩, ⟨p7, p8⟩⟩ := hq
  simp only at p1 p2 p3 p4 p5 p6 p7 p8
  by_cases h : a = 0
  · subst h
    have e1 : cleanP ⟨r, g, b, 0⟩ = ⟨0, 0, 0, 0⟩ := rfl
    rw [e1]; clear e1
    simp only [Px.v]
    go_enter Try.func38, Try.ntmps38
    go_wp2
    go_returns
    refine ⟨rfl, ?_⟩
    repeat' (first | (with_reducible exact Below.refl _ _) | (with_reducible assumption) | (with_reducible refine Below.setCell ?_ (by dsimp only; omega) _) | (with_reducible refine Below.alloc ?_ (by first | omega | (simp only [World.size_alloc, World.size_setCell, World.size_drew]; omega)) _) | (with_reducible refine Below.drew ?_))
  · have e1 : cleanP ⟨r, g, b, a⟩ = ⟨r, g, b, a⟩ := if_neg h
    have h' : (a == 0) = false := by simpa using h
    rw [e1]; clear e1 h
    simp only [Px.v]
    go_enter Try.func38, Try.ntmps38
    go_wp2
    go_returns
    refine ⟨rfl, ?_⟩
    repeat' (first | (with_reducible exact Below.refl _ _) | (with_reducible assumption) | (with_reducible refine Below.setCell ?_ (by dsimp only; omega) _) | (with_reducible refine Below.alloc ?_ (by first | omega | (simp only [World.size_alloc, World.size_setCell, World.size_drew]; omega)) _) | (with_reducible refine Below.drew ?_))

set_option maxHeartbeats 400000 in
theorem R_Clean (q : Px) (w : World) (hq : q.ok) :
    Calls Try.prog 40 #[Px.v q] w fun e w' => e = .returned (Px.v (cleanP q)) ∧ Below w.heap.size w w' := by
  obtain ⟨r, g, b, a⟩ := q
  obtain ⟨⟨p1, p2⟩, ⟨p3, p4⟩, ⟨p5, p6⟩, ⟨p7, p8⟩⟩ := hq
  simp only at p1 p2 p3 p4 p5 p6 p7 p8
  by_cases h : a = 0
  · subst h
    have e1 : cleanP ⟨r, g, b, 0⟩ = ⟨0, 0, 0, 0⟩ := rfl
    rw [e1]; clear e1
    simp only [Px.v]
    go_enter Try.func40, Try.ntmps40
    go_wp2
    go_returns
    refine ⟨rfl, ?_⟩
    repeat' (first | (with_reducible exact Below.refl _ _) | (with_reducible assumption) | (with_reducible refine Below.setCell ?_ (by dsimp only; omega) _) | (with_reducible refine Below.alloc ?_ (by first | omega | (simp only [World.size_alloc, World.size_setCell, World.size_drew]; omega)) _) | (with_reducible refine Below.drew ?_))
  · have e1 : cleanP ⟨r, g, b, a⟩ = ⟨r, g, b, a⟩ := if_neg h
    have h' : (a == 0) = false := by simpa using h
    rw [e1]; clear e1 h
    simp only [Px.v]
    go_enter Try.func40, Try.ntmps40
    go_wp2
    go_returns
    refine ⟨rfl, ?_⟩
    repeat' (first | (with_reducible exact Below.refl _ _) | (with_reducible assumption) | (with_reducible refine Below.setCell ?_ (by dsimp only; omega) _) | (with_reducible refine Below.alloc ?_ (by first | omega | (simp only [World.size_alloc, World.size_setCell, World.size_drew]; omega)) _) | (with_reducible refine Below.drew ?_))

set_option maxHeartbeats 400000 in
theorem P_Fade (q : Px) (c : Int) (w : World) (hq : q.ok) :
    Calls Try.prog 31 #[Px.v q, .int .i64 c] w fun e w' => e = .returned (Px.v (fadeP q c)) ∧ Below w.heap.size w w' := by
  obtain ⟨r, g, b, a⟩ := q
  obtain ⟨⟨p1, p2⟩, ⟨p3, p4⟩, ⟨p5, p6⟩, ⟨p7, p8⟩⟩ := hq
  simp only at p1 p2 p3 p4 p5 p6 p7 p8
  have m1 := mulI_bd a c
  have hk : Px.ok ⟨r, g, b, mulI a c⟩ := ⟨⟨p1, p2⟩, ⟨p3, p4⟩, ⟨p5, p6⟩, m1⟩
  simp only [fadeP, Px.v]
  go_enter Try.func31, Try.ntmps31
  go_wp2_with (first | (go_at_call 44; refine (P_Mul _ _ _).mono ?_; rintro e w' ⟨rfl, rfl⟩))
  refine (P_Clean ⟨_, _, _, _⟩ _ hk).mono ?_
  rintro e w1 ⟨rfl, hb1⟩
  obtain ⟨hc1, hf1⟩ := bcell hb1
  have hs1 := hb1.size
  try simp only [World.size_alloc, World.size_setCell, World.size_drew] at hs1
  have hbb1 := hb1.mono (B' := w.heap.size) (by first | omega | (simp only [World.size_alloc, World.size_setCell, World.size_drew]; omega))
  simp only [Px.v]
  obtain ⟨hk1, hz1⟩ := cells_of_block (show w1.heap[w.heap.size + 1]? = some (.cells #[.int .u8 0, .int .u8 0, .int .u8 0, .int .u8 0] 23 (0, 0)) from by rw [hb1.block _ (by simp)]; simp only [heap_get_alloc, World.size_alloc]; simp)
  go_wp2
  refine bodyPost_ret (by simp [results, Try.results31, go_sem, hk1]; try rfl) rfl ?_
  refine ⟨rfl, ?_⟩
  repeat' (first | (with_reducible exact Below.refl _ _) | (with_reducible assumption) | (with_reducible refine Below.setCell ?_ (by dsimp only; omega) _) | (with_reducible refine Below.alloc ?_ (by first | omega | (simp only [World.size_alloc, World.size_setCell, World.size_drew]; omega)) _) | (with_reducible refine Below.drew ?_) | (with_reducible refine Below.trans ?_ hbb1))

set_option maxHeartbeats 400000 in
theorem R_Fade (q : Px) (c : Int) (w : World) (hq : q.ok) :
    Calls Try.prog 43 #[Px.v q, .int .i64 c] w fun e w' => e = .returned (Px.v (fadeP q c)) ∧ Below w.heap.size w w' := by
  obtain ⟨r, g, b, a⟩ := q
  obtain ⟨⟨p1, p2⟩, ⟨p3, p4⟩, ⟨p5, p6⟩, ⟨p7, p8⟩⟩ := hq
  simp only at p1 p2 p3 p4 p5 p6 p7 p8
  have m1 := mulI_bd a c
  have hk : Px.ok ⟨r, g, b, mulI a c⟩ := ⟨⟨p1, p2⟩, ⟨p3, p4⟩, ⟨p5, p6⟩, m1⟩
  simp only [fadeP, Px.v]
  go_enter Try.func43, Try.ntmps43
  go_wp2_with (first | (go_at_call 52; refine (R_Mul _ _ _).mono ?_; rintro e w' ⟨rfl, rfl⟩))
  refine (R_Clean ⟨_, _, _, _⟩ _ hk).mono ?_
  rintro e w1 ⟨rfl, hb1⟩
  obtain ⟨hc1, hf1⟩ := bcell hb1
  have hs1 := hb1.size
  try simp only [World.size_alloc, World.size_setCell, World.size_drew] at hs1
  have hbb1 := hb1.mono (B' := w.heap.size) (by first | omega | (simp only [World.size_alloc, World.size_setCell, World.size_drew]; omega))
  simp only [Px.v]
  obtain ⟨hk1, hz1⟩ := cells_of_block (show w1.heap[w.heap.size + 1]? = some (.cells #[.int .u8 0, .int .u8 0, .int .u8 0, .int .u8 0] 23 (0, 0)) from by rw [hb1.block _ (by simp)]; simp only [heap_get_alloc, World.size_alloc]; simp)
  go_wp2
  refine bodyPost_ret (by simp [results, Try.results43, go_sem, hk1]; try rfl) rfl ?_
  refine ⟨rfl, ?_⟩
  repeat' (first | (with_reducible exact Below.refl _ _) | (with_reducible assumption) | (with_reducible refine Below.setCell ?_ (by dsimp only; omega) _) | (with_reducible refine Below.alloc ?_ (by first | omega | (simp only [World.size_alloc, World.size_setCell, World.size_drew]; omega)) _) | (with_reducible refine Below.drew ?_) | (with_reducible refine Below.trans ?_ hbb1))

end Go.Proofs.Ytelfkakaaobfcaa
