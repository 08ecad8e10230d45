/- Contracts of 'channels', Clean, Fade, of package pixel and of the reference's. -/
import Derived.Test.YtelfkakaaobfcaaPx5
import Derived.Test.YtelfkakaaobfcaaAb
namespace Go.Proofs.Ytelfkakaaobfcaa
open Go.RowKit Pl
set_option linter.unusedVariables false
set_option linter.unusedSimpArgs false

set_option maxHeartbeats 400000 in
theorem P_channels (p q : Px) (al : Int) (F : Nat) (caps : Array Value) (φ : Int → Int → Int) (w : World) (hp : p.ok) (hq : q.ok) (ha0 : 0 ≤ al) (ha1 : al ≤ 255)
    (hφ : ∀ x y, 0 ≤ x → x ≤ 255 → 0 ≤ y → y ≤ 255 → 0 ≤ φ x y ∧ φ x y ≤ 255)
    (hcf : ∀ (args : Array Value) (wx : World), (callFunc F args).run Try.prog wx = .ok (.enter F args) wx)
    (hF : Clo F caps φ w) :
    Calls Try.prog 45 #[Px.v p, Px.v q, .int .i64 al, .func (.func F) #[] caps] w
      fun e w' => e = .returned (Px.v ⟨φ p.r q.r, φ p.g q.g, φ p.b q.b, al⟩) ∧ Below w.heap.size w w' := by
  obtain ⟨pr, pg, pb, pa⟩ := p
  obtain ⟨qr, qg, qb, qa⟩ := q
  obtain ⟨⟨p1, p2⟩, ⟨p3, p4⟩, ⟨p5, p6⟩, ⟨p7, p8⟩⟩ := hp
  obtain ⟨⟨q1, q2⟩, ⟨q3, q4⟩, ⟨q5, q6⟩, ⟨q7, q8⟩⟩ := hq
  simp only at p1 p2 p3 p4 p5 p6 p7 p8 q1 q2 q3 q4 q5 q6 q7 q8
  simp only [Px.v]
  have b1 := hφ pr qr p1 p2 q1 q2
  have b2 := hφ pg qg p3 p4 q3 q4
  have b3 := hφ pb qb p5 p6 q5 q6
  have HF := Lib.hid hF
  have Hφ := Lib.hid hφ
  have Hcf := Lib.hid hcf
  clear hF hφ hcf
  go_enter Try.func45, Try.ntmps45
  go_wp2
  refine wp_region_ov_tail 21 (by kernel_rfl) (by kernel_rfl) ?_
  simp only [List.take_succ_cons, List.take_zero, List.drop_succ_cons, List.drop_zero]
  repeat (go_big_quiet_step ((first | (go_at_call 56; exact calls_ov (P_chan1 _ _ (φ _ _) F _ caps _ (by omega) (by omega) (by omega) (by omega) (by omega) (by omega) Hcf.out (HF.out _ _ _ (below_ov (by go_grown) (by simp; omega) _) (by omega) (by omega) (by omega) (by omega)) (by simp [go_sem]))))))
  refine wpQuiet_nil ?_
  intro w1 hb1
  obtain ⟨hc1, hf1⟩ := bcell hb1
  have hs1 := hb1.size
  try simp only [World.size_alloc, World.size_setCell, World.size_drew] at hs1
  have hbb1 := hb1.mono (B' := w.heap.size) (by first | omega | (simp only [World.size_alloc, World.size_setCell, World.size_drew]; omega))
  obtain ⟨hk1, hz1⟩ := cells_of_block (show w1.heap[w.heap.size + 1 + 1 + 1]? = some (.cells #[.int .u8 0, .int .u8 0, .int .u8 0, .int .u8 0] 23 (0, 0)) from by rw [hb1.block _ (by simp)]; simp only [heap_get_alloc, World.size_alloc]; simp)
  go_wp2
  refine bodyPost_ret (by simp [results, Try.results45, go_sem, hk1]; try rfl) rfl ?_
  refine ⟨rfl, ?_⟩
  repeat' (first | (with_reducible exact Below.refl _ _) | (with_reducible assumption) | (with_reducible refine Below.setCell ?_ (by dsimp only; omega) _) | (with_reducible refine Below.alloc ?_ (by first | omega | (simp only [World.size_alloc, World.size_setCell, World.size_drew]; omega)) _) | (with_reducible refine Below.drew ?_) | (with_reducible refine Below.trans ?_ hbb1))

end Go.Proofs.Ytelfkakaaobfcaa
