/- Contracts of (*Mean).Pixel, of package pixel and of the reference. -/
import Derived.Test.YtelfkakaaobfcaaDoorMc
namespace Go.Proofs.YtelfkakaaobfcaaDoor
open Go.RowKit Pl
set_option linter.unusedVariables false
set_option linter.unusedSimpArgs false


set_option maxHeartbeats 1000000 in
theorem P_MPixel1_0 (b c : Nat) (sa sr sg sb sn : Int) (w : World) (h1 : 1 ≤ sa) (h2 : sa ≤ 300000000000) (h3 : 0 ≤ sr) (h4 : sr ≤ 255 * sa) (h5 : 0 ≤ roundI sr sa ∧ roundI sr sa ≤ 255)
    (hm : PMean w b ⟨sa, sr, sg, sb, sn⟩) (hp : w.cell? ⟨c, 0, none⟩ = some (.pointer (some ⟨b, 0, none⟩))) :
    Calls Tryd.prog 45 #[.int .i64 0, .pointer (some ⟨c, 0, none⟩)] w fun e w' => e = .returned (.int .u8 (roundI sr sa)) ∧ Below w.heap.size w w' := by
  have lb : b < w.heap.size := (Array.getElem?_eq_some_iff.1 hm).1
  have lc := World.block_lt_of_cell? w _ hp
  simp only at lc
  obtain ⟨hc, hf⟩ := cells_of_block (show w.heap[b]? = some (.cells #[.int .i64 sr, .int .i64 sg, .int .i64 sb, .int .i64 sa, .int .i64 sn] 66 (0, 0)) from hm)
  clear hm
  go_enter Tryd.func45, Tryd.ntmps45
  go_wp2
  refine wp_region_ov (by kernel_rfl) (by kernel_rfl) ?_
  repeat (go_big_quiet_step ((first | (go_at_call 44; exact calls_ov_same (P_round _ _ _ (by omega) (by omega) (by omega) (by omega))))))
  refine wpQuiet_nil ?_
  intro w1 hb1
  obtain ⟨hc1, hf1⟩ := bcell hb1
  have hs1 := hb1.size
  try simp only [World.size_alloc, World.size_setCell, World.size_drew] at hs1
  have hbb1 := hb1.mono (B' := w.heap.size) (by first | omega | (simp only [World.size_alloc, World.size_setCell, World.size_drew]; omega))
  go_wp2
  go_ret
  exact ⟨rfl, hb1⟩
set_option maxHeartbeats 1000000 in
theorem P_MPixel1_1 (b c : Nat) (sa sr sg sb sn : Int) (w : World) (h1 : 1 ≤ sa) (h2 : sa ≤ 300000000000) (h3 : 0 ≤ sg) (h4 : sg ≤ 255 * sa) (h5 : 0 ≤ roundI sg sa ∧ roundI sg sa ≤ 255)
    (hm : PMean w b ⟨sa, sr, sg, sb, sn⟩) (hp : w.cell? ⟨c, 0, none⟩ = some (.pointer (some ⟨b, 0, none⟩))) :
    Calls Tryd.prog 45 #[.int .i64 1, .pointer (some ⟨c, 0, none⟩)] w fun e w' => e = .returned (.int .u8 (roundI sg sa)) ∧ Below w.heap.size w w' := by
  have lb : b < w.heap.size := (Array.getElem?_eq_some_iff.1 hm).1
  have lc := World.block_lt_of_cell? w _ hp
  simp only at lc
  obtain ⟨hc, hf⟩ := cells_of_block (show w.heap[b]? = some (.cells #[.int .i64 sr, .int .i64 sg, .int .i64 sb, .int .i64 sa, .int .i64 sn] 66 (0, 0)) from hm)
  clear hm
  go_enter Tryd.func45, Tryd.ntmps45
  go_wp2
  refine wp_region_ov (by kernel_rfl) (by kernel_rfl) ?_
  repeat (go_big_quiet_step ((first | (go_at_call 44; exact calls_ov_same (P_round _ _ _ (by omega) (by omega) (by omega) (by omega))))))
  refine wpQuiet_nil ?_
  intro w1 hb1
  obtain ⟨hc1, hf1⟩ := bcell hb1
  have hs1 := hb1.size
  try simp only [World.size_alloc, World.size_setCell, World.size_drew] at hs1
  have hbb1 := hb1.mono (B' := w.heap.size) (by first | omega | (simp only [World.size_alloc, World.size_setCell, World.size_drew]; omega))
  go_wp2
  go_ret
  exact ⟨rfl, hb1⟩
set_option maxHeartbeats 1000000 in
theorem P_MPixel1_2 (b c : Nat) (sa sr sg sb sn : Int) (w : World) (h1 : 1 ≤ sa) (h2 : sa ≤ 300000000000) (h3 : 0 ≤ sb) (h4 : sb ≤ 255 * sa) (h5 : 0 ≤ roundI sb sa ∧ roundI sb sa ≤ 255)
    (hm : PMean w b ⟨sa, sr, sg, sb, sn⟩) (hp : w.cell? ⟨c, 0, none⟩ = some (.pointer (some ⟨b, 0, none⟩))) :
    Calls Tryd.prog 45 #[.int .i64 2, .pointer (some ⟨c, 0, none⟩)] w fun e w' => e = .returned (.int .u8 (roundI sb sa)) ∧ Below w.heap.size w w' := by
  have lb : b < w.heap.size := (Array.getElem?_eq_some_iff.1 hm).1
  have lc := World.block_lt_of_cell? w _ hp
  simp only at lc
  obtain ⟨hc, hf⟩ := cells_of_block (show w.heap[b]? = some (.cells #[.int .i64 sr, .int .i64 sg, .int .i64 sb, .int .i64 sa, .int .i64 sn] 66 (0, 0)) from hm)
  clear hm
  go_enter Tryd.func45, Tryd.ntmps45
  go_wp2
  refine wp_region_ov (by kernel_rfl) (by kernel_rfl) ?_
  repeat (go_big_quiet_step ((first | (go_at_call 44; exact calls_ov_same (P_round _ _ _ (by omega) (by omega) (by omega) (by omega))))))
  refine wpQuiet_nil ?_
  intro w1 hb1
  obtain ⟨hc1, hf1⟩ := bcell hb1
  have hs1 := hb1.size
  try simp only [World.size_alloc, World.size_setCell, World.size_drew] at hs1
  have hbb1 := hb1.mono (B' := w.heap.size) (by first | omega | (simp only [World.size_alloc, World.size_setCell, World.size_drew]; omega))
  go_wp2
  go_ret
  exact ⟨rfl, hb1⟩

theorem cf_MPixel1 (args : Array Value) (w : World) : (callFunc 45 args).run Tryd.prog w = .ok (.enter 45 args) w := by kernel_rfl

theorem P_MPixel_nil (w : World) : Calls Tryd.prog 28 #[.pointer none] w fun e w' => e = .returned (.agg #[.int .u8 0, .int .u8 0, .int .u8 0, .int .u8 0]) ∧ Below w.heap.size w w' := by
  go_enter Tryd.func28, Tryd.ntmps28
  go_wp2
  go_returns
  refine ⟨rfl, ?_⟩
  repeat' (first | (with_reducible exact Below.refl _ _) | (with_reducible assumption) | (with_reducible refine Below.setCell ?_ (by dsimp only; omega) _) | (with_reducible refine Below.alloc ?_ (by first | omega | (simp only [World.size_alloc, World.size_setCell, World.size_drew]; omega)) _) | (with_reducible refine Below.drew ?_))

set_option maxHeartbeats 2000000 in
theorem P_MPixel (b : Nat) (s : Acc) (M : Int) (w : World) (hs : s.ok M) (hM : M ≤ 1000000000) (hm : PMean w b s) :
    Calls Tryd.prog 28 #[.pointer (some ⟨b, 0, none⟩)] w fun e w' => e = .returned (Px.v (meanP s)) ∧ Below w.heap.size w w' := by
  have lb : b < w.heap.size := (Array.getElem?_eq_some_iff.1 hm).1
  have hfacts := mean_facts hs
  obtain ⟨sa, sr, sg, sb, sn⟩ := s
  obtain ⟨⟨n0, n1⟩, ⟨a0, a1⟩, ⟨r0, r1⟩, ⟨g0, g1⟩, ⟨b0, b1⟩⟩ := hs
  simp only at n0 n1 a0 a1 r0 r1 g0 g1 b0 b1 hfacts
  obtain ⟨hc, hf⟩ := cells_of_block (show w.heap[b]? = some (.cells #[.int .i64 sr, .int .i64 sg, .int .i64 sb, .int .i64 sa, .int .i64 sn] 66 (0, 0)) from hm)
  have hne : ¬ (b = w.heap.size) := by omega
  have lb0 : b < w.heap.size + 1 := by omega
  have lb00 : b < w.heap.size + 1 + 1 := by omega
  have Hm := Lib.hid hm
  clear hm
  by_cases h1 : sn = 0
  · have e1 : meanP ⟨sa, sr, sg, sb, sn⟩ = ⟨0, 0, 0, 0⟩ := if_pos h1
    have h1' : (sn == 0) = true := by simpa using h1
    rw [e1]; clear e1 h1 hfacts
    simp only [Px.v]
    go_enter Tryd.func28, Tryd.ntmps28
    go_wp2
    go_returns
    refine ⟨rfl, ?_⟩
    repeat' (first | (with_reducible exact Below.refl _ _) | (with_reducible assumption) | (with_reducible refine Below.setCell ?_ (by dsimp only; omega) _) | (with_reducible refine Below.alloc ?_ (by first | omega | (simp only [World.size_alloc, World.size_setCell, World.size_drew]; omega)) _) | (with_reducible refine Below.drew ?_))
  · have h1' : (sn == 0) = false := by simpa using h1
    obtain ⟨k1, k2, k3, k4⟩ := hfacts h1
    by_cases h2 : roundI sa sn = 0
    · have e1 : meanP ⟨sa, sr, sg, sb, sn⟩ = ⟨0, 0, 0, 0⟩ := by unfold meanP; rw [if_neg h1]; exact if_pos h2
      have h2' : (roundI sa sn == 0) = true := by simpa using h2
      rw [e1]; clear e1 h1 h2 hfacts k4
      simp only [Px.v]
      go_enter Tryd.func28, Tryd.ntmps28
      go_wp2
      refine wp_region_ov (by kernel_rfl) (by kernel_rfl) ?_
      repeat (go_big_quiet_step ((first | (go_at_call 44; exact calls_ov_same (P_round _ _ _ (by omega) (by omega) (by omega) (by omega))))))
      refine wpQuiet_nil ?_
      intro w1 hb1
      obtain ⟨hc1, hf1⟩ := bcell hb1
      have hs1 := hb1.size
      try simp only [World.size_alloc, World.size_setCell, World.size_drew] at hs1
      have hbb1 := hb1.mono (B' := w.heap.size) (by first | omega | (simp only [World.size_alloc, World.size_setCell, World.size_drew]; omega))
      have l1_0 : w.heap.size < w1.heap.size := by omega
      have l1_1 : w.heap.size + 1 < w1.heap.size := by omega
      go_wp2
      refine bodyPost_ret (by simp [results, Tryd.results28, go_sem, hc1, l1_0, l1_1]; try rfl) rfl ?_
      refine ⟨rfl, ?_⟩
      repeat' (first | (with_reducible exact Below.refl _ _) | (with_reducible assumption) | (with_reducible refine Below.setCell ?_ (by dsimp only; omega) _) | (with_reducible refine Below.alloc ?_ (by first | omega | (simp only [World.size_alloc, World.size_setCell, World.size_drew]; omega)) _) | (with_reducible refine Below.drew ?_) | (with_reducible refine Below.trans ?_ hbb1))
    · have e1 : meanP ⟨sa, sr, sg, sb, sn⟩ = ⟨roundI sr sa, roundI sg sa, roundI sb sa, roundI sa sn⟩ := by unfold meanP; rw [if_neg h1]; exact if_neg h2
      have h2' : (roundI sa sn == 0) = false := by simpa using h2
      obtain ⟨k5, k6, k7, k8⟩ := k4 h2
      rw [e1]; clear e1 h1 h2 hfacts k4
      simp only [Px.v]
      go_enter Tryd.func28, Tryd.ntmps28
      go_wp2
      refine wp_region_ov (by kernel_rfl) (by kernel_rfl) ?_
      repeat (go_big_quiet_step ((first | (go_at_call 44; exact calls_ov_same (P_round _ _ _ (by omega) (by omega) (by omega) (by omega))))))
      refine wpQuiet_nil ?_
      intro w1 hb1
      obtain ⟨hc1, hf1⟩ := bcell hb1
      have hs1 := hb1.size
      try simp only [World.size_alloc, World.size_setCell, World.size_drew] at hs1
      have hbb1 := hb1.mono (B' := w.heap.size) (by first | omega | (simp only [World.size_alloc, World.size_setCell, World.size_drew]; omega))
      have l1_0 : w.heap.size < w1.heap.size := by omega
      have l1_1 : w.heap.size + 1 < w1.heap.size := by omega
      have lb1 : b < w1.heap.size := by omega
      have hm1 : PMean w1 b ⟨sa, sr, sg, sb, sn⟩ := (hb1.block b (by simp; omega)).trans (alloc_blk (alloc_blk Hm.out))
      have hp1 : w1.cell? ⟨w.heap.size, 0, none⟩ = some (.pointer (some ⟨b, 0, none⟩)) := by rw [hc1 _ _ (by simp; omega)]; simp [go_sem]
      have Hm1 := Lib.hid hm1
      have Hp1 := Lib.hid hp1
      clear hm1 hp1
      go_wp2_with fail
      refine (P_MPixel1_0 b _ sa sr sg sb sn _ (by omega) (by omega) (by omega) (by omega) k6 Hm1.out Hp1.out).mono ?_
      rintro e w2 ⟨rfl, hb2⟩
      obtain ⟨hc2, hf2⟩ := bcell hb2
      have hs2 := hb2.size
      try simp only [World.size_alloc, World.size_setCell, World.size_drew] at hs2
      have hbb2 := hb2.mono (B' := w.heap.size) (by first | omega | (simp only [World.size_alloc, World.size_setCell, World.size_drew]; omega))
      have l2_0 : w.heap.size < w2.heap.size := by omega
      have l2_1 : w.heap.size + 1 < w2.heap.size := by omega
      have hm2 : PMean w2 b ⟨sa, sr, sg, sb, sn⟩ := (hb2.block b lb1).trans Hm1.out
      have hp2 : w2.cell? ⟨w.heap.size, 0, none⟩ = some (.pointer (some ⟨b, 0, none⟩)) := (hb2.cell (p := ⟨w.heap.size, 0, none⟩) l1_0).trans Hp1.out
      have lb2 : b < w2.heap.size := by omega
      have Hm2 := Lib.hid hm2
      have Hp2 := Lib.hid hp2
      clear hm2 hp2
      go_wp2_with fail
      refine (P_MPixel1_1 b _ sa sr sg sb sn _ (by omega) (by omega) (by omega) (by omega) k7 Hm2.out Hp2.out).mono ?_
      rintro e w3 ⟨rfl, hb3⟩
      obtain ⟨hc3, hf3⟩ := bcell hb3
      have hs3 := hb3.size
      try simp only [World.size_alloc, World.size_setCell, World.size_drew] at hs3
      have hbb3 := hb3.mono (B' := w.heap.size) (by first | omega | (simp only [World.size_alloc, World.size_setCell, World.size_drew]; omega))
      have l3_0 : w.heap.size < w3.heap.size := by omega
      have l3_1 : w.heap.size + 1 < w3.heap.size := by omega
      have hm3 : PMean w3 b ⟨sa, sr, sg, sb, sn⟩ := (hb3.block b lb2).trans Hm2.out
      have hp3 : w3.cell? ⟨w.heap.size, 0, none⟩ = some (.pointer (some ⟨b, 0, none⟩)) := (hb3.cell (p := ⟨w.heap.size, 0, none⟩) l2_0).trans Hp2.out
      have Hm3 := Lib.hid hm3
      have Hp3 := Lib.hid hp3
      clear hm3 hp3
      go_wp2_with fail
      refine (P_MPixel1_2 b _ sa sr sg sb sn _ (by omega) (by omega) (by omega) (by omega) k8 Hm3.out Hp3.out).mono ?_
      rintro e w4 ⟨rfl, hb4⟩
      obtain ⟨hc4, hf4⟩ := bcell hb4
      have hs4 := hb4.size
      try simp only [World.size_alloc, World.size_setCell, World.size_drew] at hs4
      have hbb4 := hb4.mono (B' := w.heap.size) (by first | omega | (simp only [World.size_alloc, World.size_setCell, World.size_drew]; omega))
      have l4_0 : w.heap.size < w4.heap.size := by omega
      have l4_1 : w.heap.size + 1 < w4.heap.size := by omega
      go_wp2_with fail
      refine bodyPost_ret (by simp [results, Tryd.results28, go_sem, hc1, hc2, hc3, hc4, l1_0, l1_1, l2_0, l2_1, l3_0, l3_1, l4_0, l4_1]; try rfl) rfl ?_
      refine ⟨rfl, ?_⟩
      repeat' (first | (with_reducible exact Below.refl _ _) | (with_reducible assumption) | (with_reducible refine Below.setCell ?_ (by dsimp only; omega) _) | (with_reducible refine Below.alloc ?_ (by first | omega | (simp only [World.size_alloc, World.size_setCell, World.size_drew]; omega)) _) | (with_reducible refine Below.drew ?_) | (with_reducible refine Below.trans ?_ hbb1) | (with_reducible refine Below.trans ?_ hbb2) | (with_reducible refine Below.trans ?_ hbb3) | (with_reducible refine Below.trans ?_ hbb4))

end Go.Proofs.YtelfkakaaobfcaaDoor
