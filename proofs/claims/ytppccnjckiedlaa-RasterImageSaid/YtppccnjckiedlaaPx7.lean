/- Contracts of Clean, Fade of package pixel and of the reference, and of the reference's Blend, Over, Mix. -/
import Derived.Test.YtppccnjckiedlaaPx6
namespace Go.Proofs.Ytppccnjckiedlaa
open Go.RowKit Pl
set_option linter.unusedVariables false
set_option linter.unusedSimpArgs false

set_option maxHeartbeats 400000 in
theorem P_Clean (q : Px) (w : World) (hq : q.ok) :
    Calls Try.prog 95 #[Px.v q] w fun e w' => e = .returned (Px.v (cleanP q)) ∧ Below w.heap.size w w' := by
  obtain ⟨r, g, b, a⟩ := q
  obtain ⟨⟨p1, p2⟩, ⟨p3, p4⟩, ⟨p5, p6⟩, ⟨p7, p8⟩⟩ := hq
  simp only at p1 p2 p3 p4 p5 p6 p7 p8
  by_cases h : a = 0
  · subst h
    have e1 : cleanP ⟨r, g, b, 0⟩ = ⟨0, 0, 0, 0⟩ := rfl
    rw [e1]; clear e1
    simp only [Px.v]
    go_enter Try.func95, Try.ntmps95
    go_wp2
    go_returns
    refine ⟨rfl, ?_⟩
    repeat' (first | (with_reducible exact Below.refl _ _) | (with_reducible assumption) | (with_reducible refine Below.setCell ?_ (by dsimp only; omega) _) | (with_reducible refine Below.alloc ?_ (by first | omega | (simp only [World.size_alloc, World.size_setCell, World.size_drew]; omega)) _) | (with_reducible refine Below.drew ?_))
  · have e1 : cleanP ⟨r, g, b, a⟩ = ⟨r, g, b, a⟩ := if_neg h
    have h' : (a == 0) = false := by simpa using h
    rw [e1]; clear e1 h
    simp only [Px.v]
    go_enter Try.func95, Try.ntmps95
    go_wp2
    go_returns
    refine ⟨rfl, ?_⟩
    repeat' (first | (with_reducible exact Below.refl _ _) | (with_reducible assumption) | (with_reducible refine Below.setCell ?_ (by dsimp only; omega) _) | (with_reducible refine Below.alloc ?_ (by first | omega | (simp only [World.size_alloc, World.size_setCell, World.size_drew]; omega)) _) | (with_reducible refine Below.drew ?_))

set_option maxHeartbeats 400000 in
theorem R_Clean (q : Px) (w : World) (hq : q.ok) :
    Calls Try.prog 31 #[Px.v q] w fun e w' => e = .returned (Px.v (cleanP q)) ∧ Below w.heap.size w w' := by
  obtain ⟨r, g, b, a⟩ := q
  obtain ⟨⟨p1, p2⟩, ⟨p3, p4⟩, ⟨p5, p6⟩, ⟨p7, p8⟩⟩ := hq
  simp only at p1 p2 p3 p4 p5 p6 p7 p8
  by_cases h : a = 0
  · subst h
    have e1 : cleanP ⟨r, g, b, 0⟩ = ⟨0, 0, 0, 0⟩ := rfl
    rw [e1]; clear e1
    simp only [Px.v]
    go_enter Try.func31, Try.ntmps31
    go_wp2
    go_returns
    refine ⟨rfl, ?_⟩
    repeat' (first | (with_reducible exact Below.refl _ _) | (with_reducible assumption) | (with_reducible refine Below.setCell ?_ (by dsimp only; omega) _) | (with_reducible refine Below.alloc ?_ (by first | omega | (simp only [World.size_alloc, World.size_setCell, World.size_drew]; omega)) _) | (with_reducible refine Below.drew ?_))
  · have e1 : cleanP ⟨r, g, b, a⟩ = ⟨r, g, b, a⟩ := if_neg h
    have h' : (a == 0) = false := by simpa using h
    rw [e1]; clear e1 h
    simp only [Px.v]
    go_enter Try.func31, Try.ntmps31
    go_wp2
    go_returns
    refine ⟨rfl, ?_⟩
    repeat' (first | (with_reducible exact Below.refl _ _) | (with_reducible assumption) | (with_reducible refine Below.setCell ?_ (by dsimp only; omega) _) | (with_reducible refine Below.alloc ?_ (by first | omega | (simp only [World.size_alloc, World.size_setCell, World.size_drew]; omega)) _) | (with_reducible refine Below.drew ?_))

end Go.Proofs.Ytppccnjckiedlaa
