/- The contract of (*Mean).Add of package pixel. -/
import Derived.Test.YtelfkakaaobfcaaDoorMb
namespace Go.Proofs.YtelfkakaaobfcaaDoor
open Go.RowKit Pl
set_option linter.unusedVariables false
set_option linter.unusedSimpArgs false

/-- A nil Mean ignores Add. -/
theorem P_Add_nil (p : Px) (n : Int) (w : World) : Calls Tryd.prog 27 #[.pointer none, Px.v p, .int .i64 n] w fun e w' => e = .returned (.tuple #[]) ∧ Below w.heap.size w w' := by
  obtain ⟨pr, pg, pb, pa⟩ := p
  simp only [Px.v]
  go_enter Tryd.func27, Tryd.ntmps27
  go_wp2
  go_returns
  refine ⟨rfl, ?_⟩
  repeat' (first | (with_reducible exact Below.refl _ _) | (with_reducible assumption) | (with_reducible refine Below.setCell ?_ (by dsimp only; omega) _) | (with_reducible refine Below.alloc ?_ (by first | omega | (simp only [World.size_alloc, World.size_setCell, World.size_drew]; omega)) _) | (with_reducible refine Below.drew ?_))

set_option maxHeartbeats 2000000 in
theorem P_Add (b : Nat) (s : Acc) (p : Px) (n M : Int) (w : World) (hs : s.ok M) (hM : M ≤ 1000000000) (hp : p.ok) (hm : PMean w b s) :
    Calls Tryd.prog 27 #[.pointer (some ⟨b, 0, none⟩), Px.v p, .int .i64 n] w fun e w' => e = .returned (.tuple #[]) ∧ PMean w' b (addAcc s p n) ∧ Chg b w w' := by
  obtain ⟨pr, pg, pb, pa⟩ := p
  have lb : b < w.heap.size := (Array.getElem?_eq_some_iff.1 hm).1
  by_cases hn : n < 1
  · have e1 : addAcc s ⟨pr, pg, pb, pa⟩ n = s := if_pos hn
    rw [e1]; clear e1
    have Hm := Lib.hid hm
    clear hm hp
    simp only [Px.v]
    go_enter Tryd.func27, Tryd.ntmps27
    go_wp2
    go_returns
    exact ⟨rfl, alloc_blk Hm.out, (Chg.refl b w).alloc _⟩
  · have hn' : ¬ n < 1 := hn
    obtain ⟨sa, sr, sg, sb, sn⟩ := s
    have e1 : addAcc ⟨sa, sr, sg, sb, sn⟩ ⟨pr, pg, pb, pa⟩ n = ⟨sa + min n 65536 * pa, sr + min n 65536 * pa * pr, sg + min n 65536 * pa * pg, sb + min n 65536 * pa * pb, sn + min n 65536⟩ := if_neg hn
    rw [e1]; clear e1
    obtain ⟨⟨n0, n1⟩, ⟨a0, a1⟩, ⟨r0, r1⟩, ⟨g0, g1⟩, ⟨b0, b1⟩⟩ := hs
    obtain ⟨hr, hg, hb, ha⟩ := hp
    simp only at n0 n1 a0 a1 r0 r1 g0 g1 b0 b1 hr hg hb ha
    have k0 : 1 ≤ min n 65536 := by omega
    have k1 : min n 65536 ≤ 65536 := by omega
    have x0 := Int.mul_nonneg (show 0 ≤ min n 65536 by omega) ha.1
    have x1 := Int.mul_le_mul_of_nonneg_left ha.2 (show 0 ≤ min n 65536 by omega)
    have y1 := Int.mul_nonneg x0 hr.1
    have y2 := Int.mul_le_mul_of_nonneg_left hr.2 x0
    have y3 := Int.mul_nonneg x0 hg.1
    have y4 := Int.mul_le_mul_of_nonneg_left hg.2 x0
    have y5 := Int.mul_nonneg x0 hb.1
    have y6 := Int.mul_le_mul_of_nonneg_left hb.2 x0
    have Hm := Lib.hid hm
    obtain ⟨hc, hf⟩ := cells_of_block (show w.heap[b]? = some (.cells #[.int .i64 sr, .int .i64 sg, .int .i64 sb, .int .i64 sa, .int .i64 sn] 66 (0, 0)) from hm)
    have hne : ¬ (b = w.heap.size) := by omega
    have hix := fun x0 x1 x2 x3 w => (index4 x0 x1 x2 x3 w).1
    have hix1 := fun x0 x1 x2 x3 w => (index4 x0 x1 x2 x3 w).2.1
    have hix2 := fun x0 x1 x2 x3 w => (index4 x0 x1 x2 x3 w).2.2.1
    have hix3 := fun x0 x1 x2 x3 w => (index4 x0 x1 x2 x3 w).2.2.2
    clear hm hn
    simp only [Px.v]
    go_enter Tryd.func27, Tryd.ntmps27
    go_wp2
    go_loopw [7, 8, 40] (fun _ _ i wr => ∃ k : Nat, k ≤ 4 ∧ i = .int .i64 k ∧ Chg b w wr ∧ wr.heap[b]? = some (.cells #[.int .i64 (if 0 < k then sr + min n 65536 * pa * pr else sr), .int .i64 (if 1 < k then sg + min n 65536 * pa * pg else sg), .int .i64 (if 2 < k then sb + min n 65536 * pa * pb else sb), .int .i64 (if 3 < k then sa + min n 65536 * pa else sa), .int .i64 (sn + min n 65536)] 66 (0, 0))) (fun _ _ i _ => (4 - intOf i).toNat)
    case atStart => exact ⟨0, by omega, rfl, ((Chg.refl b w).setCell _).alloc _, alloc_blk (set_blk Hm.out (by rfl))⟩
    case round =>
      obtain ⟨k, hk, rfl, hch, hblk⟩ := hrel
      have lbr : b < wr.heap.size := (Array.getElem?_eq_some_iff.1 hblk).1
      by_cases hlt : k < 4
      · have hcs : k = 0 ∨ k = 1 ∨ k = 2 ∨ k = 3 := by omega
        clear hc hf hk hlt
        rcases hcs with rfl | rfl | rfl | rfl
        · obtain ⟨hc, hf⟩ := cells_of_block (show wr.heap[b]? = some (.cells #[.int .i64 (sr), .int .i64 (sg), .int .i64 (sb), .int .i64 (sa), .int .i64 (sn + min n 65536)] 66 (0, 0)) from hblk)
          have Hblk := Lib.hid hblk
          clear hblk
          go_wp2
          refine wp_region_ov_tail 13 (by kernel_rfl) (by kernel_rfl) ?_
          simp only [List.take_succ_cons, List.take_zero, List.drop_succ_cons, List.drop_zero]
          repeat (go_big_quiet_step (fail))
          refine wpQuiet_nil ?_
          intro w1 hb1
          obtain ⟨hc1, hf1⟩ := bcell hb1
          have hs1 := hb1.size
          have lb1 : b < w1.heap.size := by omega
          go_wp2
          go_roundw
          case rel => exact ⟨1, by omega, rfl, (hch.trans (Chg.of_below hb1)).setCell _, set_blk ((hb1.block b lbr).trans Hblk.out) (by rfl)⟩
          case measure => simp [intOf]
        · obtain ⟨hc, hf⟩ := cells_of_block (show wr.heap[b]? = some (.cells #[.int .i64 (sr + min n 65536 * pa * pr), .int .i64 (sg), .int .i64 (sb), .int .i64 (sa), .int .i64 (sn + min n 65536)] 66 (0, 0)) from hblk)
          have Hblk := Lib.hid hblk
          clear hblk
          go_wp2
          refine wp_region_ov_tail 13 (by kernel_rfl) (by kernel_rfl) ?_
          simp only [List.take_succ_cons, List.take_zero, List.drop_succ_cons, List.drop_zero]
          repeat (go_big_quiet_step (fail))
          refine wpQuiet_nil ?_
          intro w1 hb1
          obtain ⟨hc1, hf1⟩ := bcell hb1
          have hs1 := hb1.size
          have lb1 : b < w1.heap.size := by omega
          go_wp2
          go_roundw
          case rel => exact ⟨2, by omega, rfl, (hch.trans (Chg.of_below hb1)).setCell _, set_blk ((hb1.block b lbr).trans Hblk.out) (by rfl)⟩
          case measure => simp [intOf]
        · obtain ⟨hc, hf⟩ := cells_of_block (show wr.heap[b]? = some (.cells #[.int .i64 (sr + min n 65536 * pa * pr), .int .i64 (sg + min n 65536 * pa * pg), .int .i64 (sb), .int .i64 (sa), .int .i64 (sn + min n 65536)] 66 (0, 0)) from hblk)
          have Hblk := Lib.hid hblk
          clear hblk
          go_wp2
          refine wp_region_ov_tail 13 (by kernel_rfl) (by kernel_rfl) ?_
          simp only [List.take_succ_cons, List.take_zero, List.drop_succ_cons, List.drop_zero]
          repeat (go_big_quiet_step (fail))
          refine wpQuiet_nil ?_
          intro w1 hb1
          obtain ⟨hc1, hf1⟩ := bcell hb1
          have hs1 := hb1.size
          have lb1 : b < w1.heap.size := by omega
          go_wp2
          go_roundw
          case rel => exact ⟨3, by omega, rfl, (hch.trans (Chg.of_below hb1)).setCell _, set_blk ((hb1.block b lbr).trans Hblk.out) (by rfl)⟩
          case measure => simp [intOf]
        · obtain ⟨hc, hf⟩ := cells_of_block (show wr.heap[b]? = some (.cells #[.int .i64 (sr + min n 65536 * pa * pr), .int .i64 (sg + min n 65536 * pa * pg), .int .i64 (sb + min n 65536 * pa * pb), .int .i64 (sa), .int .i64 (sn + min n 65536)] 66 (0, 0)) from hblk)
          have Hblk := Lib.hid hblk
          clear hblk
          go_wp2
          refine wp_region_ov_tail 13 (by kernel_rfl) (by kernel_rfl) ?_
          simp only [List.take_succ_cons, List.take_zero, List.drop_succ_cons, List.drop_zero]
          repeat (go_big_quiet_step (fail))
          refine wpQuiet_nil ?_
          intro w1 hb1
          obtain ⟨hc1, hf1⟩ := bcell hb1
          have hs1 := hb1.size
          have lb1 : b < w1.heap.size := by omega
          go_wp2
          go_roundw
          case rel => exact ⟨4, by omega, rfl, (hch.trans (Chg.of_below hb1)).setCell _, set_blk ((hb1.block b lbr).trans Hblk.out) (by rfl)⟩
          case measure => simp [intOf]
      · obtain rfl : k = 4 := by omega
        have Hblk := Lib.hid hblk
        clear hblk
        go_wp2
        go_returns
        exact ⟨rfl, Hblk.out, hch⟩

end Go.Proofs.YtelfkakaaobfcaaDoor
