import Derived.Test.YtamgpfblhlfhaaaSh2
import Derived.RangeFuncFrom
import Derived.Sort.CutIn
import Derived.LoopNIn
import Derived.RangeFuncWrites
import Derived.DeepKeys5
import Derived.Maps.Keyed
import Derived.Maps.OwnOps
import Derived.Maps.OwnSet
import Derived.Maps.Views
import Derived.Lib.SmallJoins

/- Contracts of cover, Cover of package selection and of its reference; of Path. -/
namespace Go.Proofs.Ytamgpfblhlfhaaa
open Go.RowKit Go.Shelf Pl
set_option linter.unusedVariables false
set_option linter.unusedSimpArgs false
set_option maxRecDepth 20000
theorem cntK_step {f : Nat → Bool} {k c : Nat} {b : Bool} (h : cntK f k = c) (hf : f k = b) : cntK f (k + 1) = if b = true then c + 1 else c := by
  show cntK f k + (if f k = true then 1 else 0) = _
  rw [h, hf]
  cases b <;> rfl
set_option maxHeartbeats 4000000 in
theorem P_cover (v : Value) (l : List Pnt) (x y : Int) (w : World) (h : RSE ptE v l w) (hn : l.length ≤ 17592186044416) (hnear : nearL l) (hx : -70000 ≤ x ∧ x ≤ 70000) (hy : -70000 ≤ y ∧ y ≤ 70000) : Calls Try.prog 43 #[v, .int .i64 x, .int .i64 y] w fun e w' => e = .returned (.int .i64 (covG l x y)) ∧ Below w.heap.size w w' := by
  have B := Below.refl w.heap.size w
  have HS := Lib.hid h
  have HN := Lib.hid hnear
  have hx1 := hx
  have hy1 := hy
  clear h hnear hx hy
  have HC := Lib.hid (show covG l x y = (255 * (cntK (smpG l x y) 16 : Int) + 8) / 16 from rfl)
  go_enter Try.func43, Try.ntmps43
  go_wp2
  go_loopw [7, 8, 9] (fun nv _ kv wr => ∃ k : Nat, k ≤ 16 ∧ kv = .int .i64 (k : Int) ∧ nv = .int .i64 (cntK (smpG l x y) k : Int) ∧ Below w.heap.size w wr) (fun _ _ kv _ => (16 - intOf kv).toNat)
  case atStart => exact ⟨0, by omega, rfl, rfl, B⟩
  case round =>
    clear B
    obtain ⟨k, hk, rfl, rfl, B⟩ := hrel
    have hcl := cntK_le (smpG l x y) k
    obtain ⟨c, hc⟩ : ∃ c, cntK (smpG l x y) k = c := ⟨_, rfl⟩
    rw [hc] at hcl ⊢
    have HCN := Lib.hid hc
    clear hc
    by_cases hk6 : k < 16
    · have q1 : decide ((k : Int) < 16) = true := decide_eq_true (by omega)
      have q2 : decide (k < 16) = true := decide_eq_true hk6
      cases ho : oddG l (8 * x + 2 * ((k : Int) % 4) + 1) (8 * y + 2 * ((k : Int) / 4) + 1) with
      | true =>
        have HO := Lib.hid ho
        have HST := Lib.hid (cntK_step HCN.out (show smpG l x y k = true from ho))
        clear ho
        go_upto_region 3 with fail
        refine wp_region_lit ?_
        try simp only [List.getElem_toArray, List.getElem_cons_zero, List.getElem_cons_succ]
        refine wpList_chunk 1 (by kernel_rfl) ?_
        simp only [takS, Nat.reduceAdd]
        repeat (first | go_big_quiet_skip | (go_big_quiet_want; first | (go_big_quiet_op; go_big_quiet_on)))
        refine wpQuiet_nil ?_
        refine wpList_nil ?_
        go_upto_region 5 with fail
        refine wp_region_lit ?_
        try simp only [List.getElem_toArray, List.getElem_cons_zero, List.getElem_cons_succ]
        refine wpList_chunk 15 (by kernel_rfl) ?_
        simp only [takS, Nat.reduceAdd]
        repeat (first | go_big_quiet_skip | (go_big_quiet_want; first | (go_big_quiet_op; go_big_quiet_on)))
        refine wpQuiet_nil ?_
        refine wpList_callF (by first | rfl | simp [Region.wanted, yielded]) rfl (enters_of Try.func82 (by kernel_rfl) rfl) (by simp only [List.map_toArray, List.map_cons, List.map_nil, Act.eval, Array.getD_eq_getD_getElem?, List.getElem?_toArray, List.getElem?_cons_succ, List.getElem?_cons_zero, Option.getD_some]; rfl) ?_
        refine (P_oddO _ l (8 * x + 2 * ((k : Int) % 4) + 1) (8 * y + 2 * ((k : Int) / 4) + 1) true _ (HS.out.below B) (by omega) HN.out (by omega) (by omega) HO.out).mono ?_
        rintro e wn ⟨rfl, hbn⟩
        have hsz := B.size
        have hzn := hbn.size
        replace B := B.trans (hbn.mono B.size)
        refine ⟨_, rfl, ?_⟩
        simp only [Act.put, putS]
        refine wpList_nil ?_
        go_wp2
        go_roundw
        case rel => exact ⟨k + 1, by omega, by go_num, by rw [HST.out]; try (first | rfl | go_num), B⟩
        case measure => simp [intOf]; omega
      | false =>
        have HO := Lib.hid ho
        have HST := Lib.hid (cntK_step HCN.out (show smpG l x y k = false from ho))
        clear ho
        go_upto_region 3 with fail
        refine wp_region_lit ?_
        try simp only [List.getElem_toArray, List.getElem_cons_zero, List.getElem_cons_succ]
        refine wpList_chunk 1 (by kernel_rfl) ?_
        simp only [takS, Nat.reduceAdd]
        repeat (first | go_big_quiet_skip | (go_big_quiet_want; first | (go_big_quiet_op; go_big_quiet_on)))
        refine wpQuiet_nil ?_
        refine wpList_nil ?_
        go_upto_region 5 with fail
        refine wp_region_lit ?_
        try simp only [List.getElem_toArray, List.getElem_cons_zero, List.getElem_cons_succ]
        refine wpList_chunk 15 (by kernel_rfl) ?_
        simp only [takS, Nat.reduceAdd]
        repeat (first | go_big_quiet_skip | (go_big_quiet_want; first | (go_big_quiet_op; go_big_quiet_on)))
        refine wpQuiet_nil ?_
        refine wpList_callF (by first | rfl | simp [Region.wanted, yielded]) rfl (enters_of Try.func82 (by kernel_rfl) rfl) (by simp only [List.map_toArray, List.map_cons, List.map_nil, Act.eval, Array.getD_eq_getD_getElem?, List.getElem?_toArray, List.getElem?_cons_succ, List.getElem?_cons_zero, Option.getD_some]; rfl) ?_
        refine (P_oddO _ l (8 * x + 2 * ((k : Int) % 4) + 1) (8 * y + 2 * ((k : Int) / 4) + 1) false _ (HS.out.below B) (by omega) HN.out (by omega) (by omega) HO.out).mono ?_
        rintro e wn ⟨rfl, hbn⟩
        have hsz := B.size
        have hzn := hbn.size
        replace B := B.trans (hbn.mono B.size)
        refine ⟨_, rfl, ?_⟩
        simp only [Act.put, putS]
        refine wpList_nil ?_
        go_wp2
        go_roundw
        case rel => exact ⟨k + 1, by omega, by go_num, by rw [HST.out]; try (first | rfl | go_num), B⟩
        case measure => simp [intOf]; omega
    · obtain rfl : k = 16 := by omega
      have q1 : decide (((16 : Nat) : Int) < 16) = false := rfl
      rw [HCN.out] at HC
      go_wp2
      go_ret
      exact ⟨by rw [HC.out]; try rfl, B⟩
theorem P_BoundGO (v : Value) (l : List Pnt) (r : Rc) (w : World) (h : RSE ptE v l w) (hn : l.length ≤ maxLen) (e : boundG l = r) : Calls Try.prog 17 #[v] w fun e w' => e = .returned (.agg (rcA r)) ∧ Below w.heap.size w w' := e ▸ P_BoundG v l w h hn
set_option maxHeartbeats 4000000 in
theorem P_CoverG (v : Value) (l : List Pnt) (x y : Int) (w : World) (h : RSE ptE v l w) (hn : l.length ≤ maxLen) (hx : -70000 ≤ x ∧ x ≤ 70000) (hy : -70000 ≤ y ∧ y ≤ 70000) : Calls Try.prog 15 #[v, .int .i64 x, .int .i64 y] w fun e w' => e = .returned (.int .i64 (coverP l x y)) ∧ Below w.heap.size w w' := by
  have B := Below.refl w.heap.size w
  have HS := Lib.hid h
  have hx1 := hx
  have hy1 := hy
  clear h hx hy
  cases hh : hasR (boundG l) x y with
  | true =>
    have HH := Lib.hid hh
    have e1 : coverP l x y = covG l x y := if_pos hh
    have hv : validG l = true := by
      cases hv : validG l with
      | true => rfl
      | false =>
        have : boundG l = Rc.zero := by unfold boundG; rw [hv]; rfl
        rw [this] at hh
        have := of_decide_eq_true hh
        simp only [Rc.zero] at this
        omega
    obtain ⟨⟨hl1, hl2⟩, hne⟩ := validG_iff.1 hv
    have HN := Lib.hid hne
    rw [e1]
    clear hh hv hne e1
    go_enter Try.func15, Try.ntmps15
    go_upto_region 1 with fail
    refine wp_region_lit ?_
    try simp only [List.getElem_toArray, List.getElem_cons_zero, List.getElem_cons_succ]
    refine wpList_chunk 1 (by kernel_rfl) ?_
    simp only [takS, Nat.reduceAdd]
    repeat (first | go_big_quiet_skip | (go_big_quiet_want; first | (go_big_quiet_op; go_big_quiet_on)))
    refine wpQuiet_nil ?_
    refine wpList_callF (by first | rfl | simp [Region.wanted, yielded]) rfl (enters_of Try.func17 (by kernel_rfl) rfl) (by simp only [List.map_toArray, List.map_cons, List.map_nil, Act.eval, Array.getD_eq_getD_getElem?, List.getElem?_toArray, List.getElem?_cons_succ, List.getElem?_cons_zero, Option.getD_some]; rfl) ?_
    refine (P_BoundG _ l _ (HS.out.below B) hn).mono ?_
    rintro e wn ⟨rfl, hbn⟩
    have hsz := B.size
    have hzn := hbn.size
    replace B := B.trans (hbn.mono B.size)
    refine ⟨_, rfl, ?_⟩
    simp only [Act.put, putS]
    refine wpList_chunk 3 (by kernel_rfl) ?_
    simp only [takS, Nat.reduceAdd]
    repeat (first | go_big_quiet_skip | (go_big_quiet_want; first | (go_big_quiet_op; go_big_quiet_on)))
    refine wpQuiet_nil ?_
    refine wpList_callF (by first | rfl | simp [Region.wanted, yielded]) rfl (enters_of Try.func42 (by kernel_rfl) rfl) (by simp only [List.map_toArray, List.map_cons, List.map_nil, Act.eval, Array.getD_eq_getD_getElem?, List.getElem?_toArray, List.getElem?_cons_succ, List.getElem?_cons_zero, Option.getD_some]; rfl) ?_
    refine (P_HasO (boundG l) x y true _ HH.out).mono ?_
    rintro e wn ⟨rfl, hbn⟩
    have hsz := B.size
    have hzn := hbn.size
    replace B := B.trans (hbn.mono B.size)
    refine ⟨_, rfl, ?_⟩
    simp only [Act.put, putS]
    refine wpList_chunk 1 (by kernel_rfl) ?_
    simp only [takS, Nat.reduceAdd]
    repeat (first | go_big_quiet_skip | (go_big_quiet_want; first | (go_big_quiet_op; go_big_quiet_on)))
    refine wpQuiet_nil ?_
    refine wpList_nil ?_
    go_upto_region 3 with fail
    refine wp_region_lit ?_
    try simp only [List.getElem_toArray, List.getElem_cons_zero, List.getElem_cons_succ]
    refine wpList_chunk 3 (by kernel_rfl) ?_
    simp only [takS, Nat.reduceAdd]
    repeat (first | go_big_quiet_skip | (go_big_quiet_want; first | (go_big_quiet_op; go_big_quiet_on)))
    refine wpQuiet_nil ?_
    refine wpList_callF (by first | rfl | simp [Region.wanted, yielded]) rfl (enters_of Try.func43 (by kernel_rfl) rfl) (by simp only [List.map_toArray, List.map_cons, List.map_nil, Act.eval, Array.getD_eq_getD_getElem?, List.getElem?_toArray, List.getElem?_cons_succ, List.getElem?_cons_zero, Option.getD_some]; rfl) ?_
    refine (P_cover _ l x y _ (HS.out.below B) (by omega) HN.out hx1 hy1).mono ?_
    rintro e wn ⟨rfl, hbn⟩
    have hsz := B.size
    have hzn := hbn.size
    replace B := B.trans (hbn.mono B.size)
    refine ⟨_, rfl, ?_⟩
    simp only [Act.put, putS]
    refine wpList_chunk 1 (by kernel_rfl) ?_
    simp only [takS, Nat.reduceAdd]
    repeat (first | go_big_quiet_skip | (go_big_quiet_want; first | (go_big_quiet_op; go_big_quiet_on)))
    refine wpQuiet_nil ?_
    refine wpList_nil ?_
    iterate 3 go_step
    go_ret
    exact ⟨by try rfl, B⟩
  | false =>
    have HH := Lib.hid hh
    have e1 : coverP l x y = 0 := if_neg (by rw [hh]; decide)
    rw [e1]
    clear hh e1
    go_enter Try.func15, Try.ntmps15
    go_upto_region 1 with fail
    refine wp_region_lit ?_
    try simp only [List.getElem_toArray, List.getElem_cons_zero, List.getElem_cons_succ]
    refine wpList_chunk 1 (by kernel_rfl) ?_
    simp only [takS, Nat.reduceAdd]
    repeat (first | go_big_quiet_skip | (go_big_quiet_want; first | (go_big_quiet_op; go_big_quiet_on)))
    refine wpQuiet_nil ?_
    refine wpList_callF (by first | rfl | simp [Region.wanted, yielded]) rfl (enters_of Try.func17 (by kernel_rfl) rfl) (by simp only [List.map_toArray, List.map_cons, List.map_nil, Act.eval, Array.getD_eq_getD_getElem?, List.getElem?_toArray, List.getElem?_cons_succ, List.getElem?_cons_zero, Option.getD_some]; rfl) ?_
    refine (P_BoundG _ l _ (HS.out.below B) hn).mono ?_
    rintro e wn ⟨rfl, hbn⟩
    have hsz := B.size
    have hzn := hbn.size
    replace B := B.trans (hbn.mono B.size)
    refine ⟨_, rfl, ?_⟩
    simp only [Act.put, putS]
    refine wpList_chunk 3 (by kernel_rfl) ?_
    simp only [takS, Nat.reduceAdd]
    repeat (first | go_big_quiet_skip | (go_big_quiet_want; first | (go_big_quiet_op; go_big_quiet_on)))
    refine wpQuiet_nil ?_
    refine wpList_callF (by first | rfl | simp [Region.wanted, yielded]) rfl (enters_of Try.func42 (by kernel_rfl) rfl) (by simp only [List.map_toArray, List.map_cons, List.map_nil, Act.eval, Array.getD_eq_getD_getElem?, List.getElem?_toArray, List.getElem?_cons_succ, List.getElem?_cons_zero, Option.getD_some]; rfl) ?_
    refine (P_HasO (boundG l) x y false _ HH.out).mono ?_
    rintro e wn ⟨rfl, hbn⟩
    have hsz := B.size
    have hzn := hbn.size
    replace B := B.trans (hbn.mono B.size)
    refine ⟨_, rfl, ?_⟩
    simp only [Act.put, putS]
    refine wpList_chunk 1 (by kernel_rfl) ?_
    simp only [takS, Nat.reduceAdd]
    repeat (first | go_big_quiet_skip | (go_big_quiet_want; first | (go_big_quiet_op; go_big_quiet_on)))
    refine wpQuiet_nil ?_
    refine wpList_nil ?_
    go_wp2
    go_ret
    exact ⟨by try rfl, B⟩
set_option maxHeartbeats 4000000 in
theorem R_Path (v : Value) (q : List Int) (w : World) (h : RSE inE v q w) (hn : q.length ≤ 17592186044416) : Calls Try.prog 11 #[v] w fun e w' => ∃ a c, e = .returned (.slice a (pathG q).length c) ∧ RSE ptE (.slice a (pathG q).length c) (pathG q) w' ∧ Below w.heap.size w w' := by
  have B := Below.refl w.heap.size w
  obtain ⟨a, c, rfl, hc⟩ := h.len
  have HS := Lib.hid h
  clear h
  have od : OwnE ptE w.heap.size (.slice none 0 0) [] w := OwnE.nil _ _
  go_enter Try.func11, Try.ntmps11
  go_wp2
  go_loopw [3, 4] (fun ov iv wr => ∃ (k : Nat) (ao : Option Addr) (co : Nat), k ≤ pathN q ∧ iv = .int .i64 (2 * (k : Int)) ∧ ov = .slice ao (pathK q k).length co ∧ Below w.heap.size w wr ∧ OwnE ptE w.heap.size (.slice ao (pathK q k).length co) (pathK q k) wr) (fun _ iv _ => (24 - intOf iv).toNat)
  case atStart => exact ⟨0, _, _, Nat.zero_le _, rfl, rfl, B, od⟩
  case round =>
    clear B od
    obtain ⟨k, ao, co, hk, rfl, rfl, B, od⟩ := hrel
    have hpd : pathN q = min (q.length / 2) 12 := rfl
    have hpn : pathN q ≤ 12 ∧ 2 * pathN q ≤ q.length := by omega
    have hkl := pathK_len q k
    obtain ⟨O, hO⟩ : ∃ O, pathK q k = O := ⟨_, rfl⟩
    rw [hO] at od hkl ⊢
    have HO := Lib.hid hO
    clear hO
    by_cases hkn : k < pathN q
    · have q1 : decide (2 * (k : Int) + 1 < (q.length : Int)) = true := decide_eq_true (by omega)
      have q2 : decide (2 * (k : Int) < 24) = true := decide_eq_true (by omega)
      have HST := Lib.hid (show pathK q (k + 1) = O ++ [pathP q k] from by rw [pathK_snoc, HO.out])
      obtain ⟨g, o, rfl, rc0⟩ := HS.out.at (by omega)
      have rc := rc0.of_eq (B.block _ rc0.lt)
      clear rc0
      obtain ⟨x, hx⟩ : ∃ x, numI q (2 * k) = x := ⟨_, rfl⟩
      obtain ⟨y, hy⟩ : ∃ y, numI q (2 * k + 1) = y := ⟨_, rfl⟩
      have hq0 : q[2 * k]? = some x := by rw [← hx]; unfold numI; rw [List.getD_eq_getElem?_getD, List.getElem?_eq_getElem (by omega)]; rfl
      have hq1 : q[2 * k + 1]? = some y := by rw [← hy]; unfold numI; rw [List.getD_eq_getElem?_getD, List.getElem?_eq_getElem (by omega)]; rfl
      have HPP := Lib.hid (show pathP q k = (x % 28 - 8, y % 28 - 8) from by unfold pathP; rw [hx, hy])
      clear hx hy
      go_upto_region 3 with fail
      refine wp_region_lit ?_
      try simp only [List.getElem_toArray, List.getElem_cons_zero, List.getElem_cons_succ]
      refine wpList_chunk 3 (by kernel_rfl) ?_
      simp only [takS, Nat.reduceAdd]
      repeat (first | go_big_quiet_skip | (go_big_quiet_want; first | (go_big_quiet_op; go_big_quiet_on)))
      refine wpQuiet_nil ?_
      refine wpList_lenS (by first | rfl | simp [Region.wanted, yielded]) rfl Try.underlying23 rfl ?_
      simp only [Act.put, putS]
      refine wpList_chunk 5 (by kernel_rfl) ?_
      simp only [takS, Nat.reduceAdd]
      repeat (first | go_big_quiet_skip | (go_big_quiet_want; first | (go_big_quiet_op; go_big_quiet_on)))
      refine wpQuiet_nil ?_
      refine wpList_nil ?_
      go_upto_region 5 with fail
      try simp only [List.getElem_toArray, List.getElem_cons_zero, List.getElem_cons_succ]
      try have lx_rc := rc.lt
      try have lx_od := od.lt
      refine wp_region_RL 15 [(5, detS ?v1_5), (12, detS ?v1_12)] (by kernel_rfl) (by kernel_rfl) (by kernel_rfl) ?_
      rotate_left 2
      simp only [takS, Nat.reduceAdd]
      refine wpRL_chunk 5 (by kernel_rfl) ?_
      simp only [takS, Nat.reduceAdd]
      repeat (first | go_big_quiet_skip | (go_big_quiet_want; first | (refine quiet_loadAny (t := 3) rfl _ _ _ rfl (fun w hw => run_load_int (rci_int (ov_rce rc w hw) hq0)) (by first | rfl | omega) ?_; simp only [Act.put, putS]; go_big_quiet_on) | (refine quiet_loadAny (t := 3) rfl _ _ _ rfl (fun w hw => run_load_int (rci_int (ov_rce rc w hw) hq1)) (by first | rfl | omega) ?_; simp only [Act.put, putS]; go_big_quiet_on) | (go_big_quiet_op; go_big_quiet_on)))
      refine wpQuiet_nil ?_
      refine wpRL_callB (by rfl) (by first | rfl | simp [Region.wanted, yielded]) ?_ ?_
      · intro wn hbn hE Kx hKx
        have hsz := B.size
        have hzn := hbn.size
        replace B := B.trans (hbn.mono B.size)
        (try first | replace rc := rc.of_eq (hbn.block _ rc.lt) | replace rc := rc.below hbn)
        (try first | replace od := od.of_eq (hbn.block _ od.lt) | replace od := od.below hbn)
        refine wp_callF rfl (enters_of Try.func38 (by kernel_rfl) rfl) (by simp only [List.map_toArray, List.map_cons, List.map_nil, Act.eval, Array.getD_eq_getD_getElem?, List.getElem?_toArray, List.getElem?_cons_succ, List.getElem?_cons_zero, Option.getD_some]; rfl) ?_
        refine (R15_rest x 28 (by omega) _).mono ?_
        rintro e wm ⟨rfl, hbm⟩
        refine ⟨_, rfl, ?_⟩
        have hz := hKx () wm trivial hbm
        dsimp only [detS] at hz
        exact hz
      rintro ⟨⟩
      dsimp only [detS]
      simp only [Act.put, putS]
      refine wpRL_chunk 6 (by kernel_rfl) ?_
      simp only [takS, Nat.reduceAdd]
      repeat (first | go_big_quiet_skip | (go_big_quiet_want; first | (refine quiet_loadAny (t := 3) rfl _ _ _ rfl (fun w hw => run_load_int (rci_int (ov_rce rc w hw) hq0)) (by first | rfl | omega) ?_; simp only [Act.put, putS]; go_big_quiet_on) | (refine quiet_loadAny (t := 3) rfl _ _ _ rfl (fun w hw => run_load_int (rci_int (ov_rce rc w hw) hq1)) (by first | rfl | omega) ?_; simp only [Act.put, putS]; go_big_quiet_on) | (go_big_quiet_op; go_big_quiet_on)))
      refine wpQuiet_nil ?_
      refine wpRL_callB (by rfl) (by first | rfl | simp [Region.wanted, yielded]) ?_ ?_
      · intro wn hbn hE Kx hKx
        have hsz := B.size
        have hzn := hbn.size
        replace B := B.trans (hbn.mono B.size)
        (try first | replace rc := rc.of_eq (hbn.block _ rc.lt) | replace rc := rc.below hbn)
        (try first | replace od := od.of_eq (hbn.block _ od.lt) | replace od := od.below hbn)
        refine wp_callF rfl (enters_of Try.func38 (by kernel_rfl) rfl) (by simp only [List.map_toArray, List.map_cons, List.map_nil, Act.eval, Array.getD_eq_getD_getElem?, List.getElem?_toArray, List.getElem?_cons_succ, List.getElem?_cons_zero, Option.getD_some]; rfl) ?_
        refine (R15_rest y 28 (by omega) _).mono ?_
        rintro e wm ⟨rfl, hbm⟩
        refine ⟨_, rfl, ?_⟩
        have hz := hKx () wm trivial hbm
        dsimp only [detS] at hz
        exact hz
      rintro ⟨⟩
      dsimp only [detS]
      simp only [Act.put, putS]
      refine wpRL_chunk 2 (by kernel_rfl) ?_
      simp only [takS, Nat.reduceAdd]
      repeat (first | go_big_quiet_skip | (go_big_quiet_want; first | (go_big_quiet_op; go_big_quiet_on)))
      refine wpQuiet_nil ?_
      refine wpRL_nil ?_
      intro wn hbn hE
      have hsz := B.size
      have hzn := hbn.size
      replace B := B.trans (hbn.mono B.size)
      (try first | replace rc := rc.of_eq (hbn.block _ rc.lt) | replace rc := rc.below hbn)
      (try first | replace od := od.of_eq (hbn.block _ od.lt) | replace od := od.below hbn)
      clear hE
      try simp only [List.drop_succ_cons, List.drop_zero]
      go_wp2_with (first | (at_builtin; refine wpList_appendE rfl _ _ rfl _ _ rfl rfl od ((RSE.one s1)) (by simp only [List.length_append, List.length_cons, List.length_nil]; omega) (by omega) ?_; intro v_od wn ht hbn; have hsz := B.size; have hbz := hbn.size; replace B := B.trans (hbn.mono (by omega)); clear od; (try replace rc := rc.of_eq (hbn.block _ (by omega))); have od := ht; clear ht; obtain ⟨a_od, c_od, hv, hco⟩ := od.len; (try simp only [List.length_append, List.length_cons, List.length_nil, Nat.zero_add] at hv hco); subst hv; simp only [Act.put, putS]) | (refine wpList_bs1E (E := ptE) rfl _ rfl ((x % 28 - 8, y % 28 - 8)) rfl (by omega) ?_; intro b_s1 wn hle hge ht hbn hzn; replace od := od.below (hbn.mono hle); have hsz := B.size; replace B := B.trans (hbn.mono (by omega)); have hln := Nat.lt_of_lt_of_eq (Nat.lt_succ_self _) hzn.symm; clear hzn; (try first | (have hlt := rc.lt; replace rc := rc.of_eq (hbn.block _ (by omega))) | replace rc := rc.below (hbn.mono hle)); have s1 := ht; clear ht; simp only [Act.put, putS]) | fail)
      refine NoPan.normal ?_
      go_wp2
      go_roundw
      case rel => exact ⟨k + 1, _, _, by omega, by go_num, by rw [HST.out, List.length_append]; rfl, B, by rw [HST.out, HPP.out, List.length_append]; exact od⟩
      case measure => simp [intOf]; omega
    · obtain rfl : k = pathN q := by omega
      have HE := Lib.hid (show pathG q = O from HO.out)
      clear hkl
      by_cases h1 : 2 * pathN q + 1 < q.length
      · have q1 : decide (2 * (pathN q : Int) + 1 < (q.length : Int)) = true := decide_eq_true (by omega)
        have q2 : decide (2 * (pathN q : Int) < 24) = false := decide_eq_false (by omega)
        go_wp2
        go_ret
        rw [HE.out]
        exact ⟨_, _, rfl, od.rs, B⟩
      · have q1 : decide (2 * (pathN q : Int) + 1 < (q.length : Int)) = false := decide_eq_false (by omega)
        go_wp2
        go_ret
        rw [HE.out]
        exact ⟨_, _, rfl, od.rs, B⟩
end Go.Proofs.Ytamgpfblhlfhaaa
/- Plain: the positions at which two rasters differ, in order; replacing them. -/
namespace Go.Proofs.Ytamgpfblhlfhaaa
open Go.RowKit Pl
set_option linter.unusedVariables false
set_option linter.unusedSimpArgs false
def ltP (a b : Int × Int) : Bool := lessB a.1 a.2 b.1 b.2
def posA (e : TA) : Int × Int := (e.x, e.y)
def SrtP (l : List (Int × Int)) : Prop := l.Pairwise fun a b => ltP a b = true
theorem eqT_symm {t u : Nat → Px} (h : eqT t u = true) : eqT u t = true := eqT_true fun i hi => (eqT_at h hi).symm
theorem eqT_comm (t u : Nat → Px) : eqT t u = eqT u t := by
  rw [Bool.eq_iff_iff]
  exact ⟨eqT_symm, eqT_symm⟩
/-- No tile without a visible pixel. -/
def Nz (ls : List TA) : Prop := ∀ e ∈ ls, zeroB e.t = false
def Diff (a b : List TA) (p : Int × Int) : Prop := eqT (tileL a p.1 p.2) (tileL b p.1 p.2) = false
theorem Diff.symm {a b : List TA} {p : Int × Int} (h : Diff a b p) : Diff b a p := by unfold Diff at *; rw [eqT_comm]; exact h
/-! ### Changed of package raster: two lists merged -/
def chgP : List TA → List TA → List (Int × Int)
  | [], [] => []
  | [], e :: r => posA e :: chgP [] r
  | d :: q, [] => posA d :: chgP q []
  | d :: q, e :: r => if lessB d.x d.y e.x e.y = true then posA d :: chgP q (e :: r) else if lessB e.x e.y d.x d.y = true then posA e :: chgP (d :: q) r else (if eqT d.t e.t = true then [] else [posA d]) ++ chgP q r
termination_by a b => a.length + b.length
/-! ### Changed of the reference: what differs of the first, then the second's inserted -/
def insP : List (Int × Int) → Int × Int → List (Int × Int)
  | [], p => [p]
  | q :: r, p => if q = p then q :: r else if ltP p q = true then p :: q :: r else q :: insP r p
def chg1 (a b : List TA) : List (Int × Int) := (a.filter fun e => !eqT e.t (tileL b e.x e.y)).map posA
def chg2 (a : List TA) (o : List (Int × Int)) (b : List TA) : List (Int × Int) := b.foldl (fun o e => if eqT e.t (tileL a e.x e.y) = true then o else insP o (posA e)) o
def chgR (a b : List TA) : List (Int × Int) := chg2 a (chg1 a b) b
/-! ### The changed tiles replaced -/
def mv1 (b : List TA) (s : List TA) (p : Int × Int) : List TA := putR s p.1 p.2 (tileL b p.1 p.2)
def mvL (b : List TA) (s : List TA) (ps : List (Int × Int)) : List TA := ps.foldl (mv1 b) s
end Go.Proofs.Ytamgpfblhlfhaaa
/- Plain: an image of one raster pasted into another. -/
namespace Go.Proofs.Ytamgpfblhlfhaaa
open Go.RowKit Pl
set_option linter.unusedVariables false
set_option linter.unusedSimpArgs false
theorem getL_okL {ls : List TA} (h : TokL ls) (x y : Int) : (getL ls x y).ok := tileL_tok h _ _ _ (by omega)
end Go.Proofs.Ytamgpfblhlfhaaa
/- Plain: the boundary of a set of pixels: edges, the edge that follows, the closed lists of edges, their corners. -/
namespace Go.Proofs.Ytamgpfblhlfhaaa
open Go.RowKit Pl
set_option linter.unusedVariables false
set_option linter.unusedSimpArgs false
structure Ed where
  x : Int
  y : Int
  d : Int
deriving DecidableEq
def dxE (d : Int) : Int := if d = 0 then 1 else if d = 2 then -1 else 0
def dyE (d : Int) : Int := if d = 1 then 1 else if d = 3 then -1 else 0
def hasE (S : Int → Int → Bool) (x y d : Int) : Bool :=
  if d = 0 then S x y && !S x (y - 1) else if d = 1 then S (x - 1) y && !S x y else if d = 2 then S (x - 1) (y - 1) && !S (x - 1) y else S x (y - 1) && !S (x - 1) (y - 1)
def nextE (S : Int → Int → Bool) (e : Ed) : Ed :=
  if hasE S (e.x + dxE e.d) (e.y + dyE e.d) ((e.d + 1) % 4) = true then ⟨e.x + dxE e.d, e.y + dyE e.d, (e.d + 1) % 4⟩
  else if hasE S (e.x + dxE e.d) (e.y + dyE e.d) e.d = true then ⟨e.x + dxE e.d, e.y + dyE e.d, e.d⟩
  else if hasE S (e.x + dxE e.d) (e.y + dyE e.d) ((e.d + 3) % 4) = true then ⟨e.x + dxE e.d, e.y + dyE e.d, (e.d + 3) % 4⟩
  else e
/-- The edge belongs to the boundary. -/
def Bnd (S : Int → Int → Bool) (e : Ed) : Prop := (0 ≤ e.d ∧ e.d ≤ 3) ∧ hasE S e.x e.y e.d = true
theorem dir4 {d : Int} (h : 0 ≤ d ∧ d ≤ 3) : d = 0 ∨ d = 1 ∨ d = 2 ∨ d = 3 := by omega
theorem has0 (S : Int → Int → Bool) (x y : Int) : hasE S x y 0 = (S x y && !S x (y - 1)) := rfl
theorem has1 (S : Int → Int → Bool) (x y : Int) : hasE S x y 1 = (S (x - 1) y && !S x y) := rfl
theorem has2 (S : Int → Int → Bool) (x y : Int) : hasE S x y 2 = (S (x - 1) (y - 1) && !S (x - 1) y) := rfl
theorem has3 (S : Int → Int → Bool) (x y : Int) : hasE S x y 3 = (S x (y - 1) && !S (x - 1) (y - 1)) := rfl
/-- What is known of the edge that follows: it starts where this one ends, its direction is the first one of the three. -/
theorem next_cases {S : Int → Int → Bool} {e : Ed} (h : Bnd S e) :
    (nextE S e).x = e.x + dxE e.d ∧ (nextE S e).y = e.y + dyE e.d ∧ Bnd S (nextE S e) ∧
    ((nextE S e).d = (e.d + 1) % 4 ∧ hasE S (e.x + dxE e.d) (e.y + dyE e.d) ((e.d + 1) % 4) = true ∨
     (nextE S e).d = e.d ∧ hasE S (e.x + dxE e.d) (e.y + dyE e.d) ((e.d + 1) % 4) = false ∧ hasE S (e.x + dxE e.d) (e.y + dyE e.d) e.d = true ∨
     (nextE S e).d = (e.d + 3) % 4 ∧ hasE S (e.x + dxE e.d) (e.y + dyE e.d) ((e.d + 1) % 4) = false ∧ hasE S (e.x + dxE e.d) (e.y + dyE e.d) e.d = false ∧ hasE S (e.x + dxE e.d) (e.y + dyE e.d) ((e.d + 3) % 4) = true) := by
  obtain ⟨x, y, d⟩ := e
  obtain ⟨hd, hh⟩ := h
  simp only at hd hh
  have three : hasE S (x + dxE d) (y + dyE d) ((d + 1) % 4) = true ∨ hasE S (x + dxE d) (y + dyE d) d = true ∨ hasE S (x + dxE d) (y + dyE d) ((d + 3) % 4) = true := by
    rcases dir4 hd with rfl | rfl | rfl | rfl
    · show hasE S (x + 1) (y + 0) 1 = true ∨ hasE S (x + 1) (y + 0) 0 = true ∨ hasE S (x + 1) (y + 0) 3 = true
      rw [has0] at hh
      rw [has1, has0, has3, Int.add_zero, show x + 1 - 1 = x by omega]
      cases h1 : S x y <;> cases h2 : S x (y - 1) <;> rw [h1, h2] at hh <;> first | (cases hh; done) | (cases S (x + 1) y <;> cases S (x + 1) (y - 1) <;> simp)
    · show hasE S (x + 0) (y + 1) 2 = true ∨ hasE S (x + 0) (y + 1) 1 = true ∨ hasE S (x + 0) (y + 1) 0 = true
      rw [has1] at hh
      rw [has2, has1, has0, Int.add_zero, show y + 1 - 1 = y by omega]
      cases h1 : S (x - 1) y <;> cases h2 : S x y <;> rw [h1, h2] at hh <;> first | (cases hh; done) | (cases S (x - 1) (y + 1) <;> cases S x (y + 1) <;> simp)
    · show hasE S (x + -1) (y + 0) 3 = true ∨ hasE S (x + -1) (y + 0) 2 = true ∨ hasE S (x + -1) (y + 0) 1 = true
      rw [has2] at hh
      rw [has3, has2, has1, Int.add_zero, show x + -1 = x - 1 by omega]
      cases h1 : S (x - 1) (y - 1) <;> cases h2 : S (x - 1) y <;> rw [h1, h2] at hh <;> first | (cases hh; done) | (cases S (x - 1 - 1) y <;> cases S (x - 1 - 1) (y - 1) <;> simp)
    · show hasE S (x + 0) (y + -1) 0 = true ∨ hasE S (x + 0) (y + -1) 3 = true ∨ hasE S (x + 0) (y + -1) 2 = true
      rw [has3] at hh
      rw [has0, has3, has2, Int.add_zero, show y + -1 = y - 1 by omega]
      cases h1 : S x (y - 1) <;> cases h2 : S (x - 1) (y - 1) <;> rw [h1, h2] at hh <;> first | (cases hh; done) | (cases S x (y - 1 - 1) <;> cases S (x - 1) (y - 1 - 1) <;> simp)
  have m1 : 0 ≤ (d + 1) % 4 ∧ (d + 1) % 4 ≤ 3 := by omega
  have m3 : 0 ≤ (d + 3) % 4 ∧ (d + 3) % 4 ≤ 3 := by omega
  unfold nextE
  simp only
  by_cases c1 : hasE S (x + dxE d) (y + dyE d) ((d + 1) % 4) = true
  · rw [if_pos c1]
    exact ⟨rfl, rfl, ⟨m1, c1⟩, .inl ⟨rfl, c1⟩⟩
  · rw [if_neg c1]
    have c1' : hasE S (x + dxE d) (y + dyE d) ((d + 1) % 4) = false := by simpa using c1
    by_cases c2 : hasE S (x + dxE d) (y + dyE d) d = true
    · rw [if_pos c2]
      exact ⟨rfl, rfl, ⟨hd, c2⟩, .inr (.inl ⟨rfl, c1', c2⟩)⟩
    · rw [if_neg c2]
      have c2' : hasE S (x + dxE d) (y + dyE d) d = false := by simpa using c2
      have c3 : hasE S (x + dxE d) (y + dyE d) ((d + 3) % 4) = true := by
        rcases three with h | h | h
        · exact absurd h c1
        · exact absurd h c2
        · exact h
      rw [if_pos c3]
      exact ⟨rfl, rfl, ⟨m3, c3⟩, .inr (.inr ⟨rfl, c1', c2', c3⟩)⟩
/-- The directions at a corner: which one comes in, which one goes out; nw, ne, sw, se are the pixels around it. -/
def inD (nw ne sw se : Bool) (d : Int) : Bool := if d = 0 then sw && !nw else if d = 1 then nw && !ne else if d = 2 then ne && !se else se && !sw
def outD (nw ne sw se : Bool) (d : Int) : Bool := if d = 0 then se && !ne else if d = 1 then sw && !se else if d = 2 then nw && !sw else ne && !nw
def selD (nw ne sw se : Bool) (d : Int) : Int := if outD nw ne sw se ((d + 1) % 4) = true then (d + 1) % 4 else if outD nw ne sw se d = true then d else (d + 3) % 4
theorem sel_inj (nw ne sw se : Bool) {d d' : Int} (hd : 0 ≤ d ∧ d ≤ 3) (hd' : 0 ≤ d' ∧ d' ≤ 3) (h : inD nw ne sw se d = true) (h' : inD nw ne sw se d' = true) (e : selD nw ne sw se d = selD nw ne sw se d') : d = d' := by
  rcases dir4 hd with rfl | rfl | rfl | rfl <;> rcases dir4 hd' with rfl | rfl | rfl | rfl <;> first | rfl | (exfalso; revert h h' e; cases nw <;> cases ne <;> cases sw <;> cases se <;> decide)
theorem has_out (S : Int → Int → Bool) (x y : Int) (d : Int) : hasE S x y d = outD (S (x - 1) (y - 1)) (S x (y - 1)) (S (x - 1) y) (S x y) d := rfl
theorem bnd_in {S : Int → Int → Bool} {e : Ed} (h : Bnd S e) : inD (S (e.x + dxE e.d - 1) (e.y + dyE e.d - 1)) (S (e.x + dxE e.d) (e.y + dyE e.d - 1)) (S (e.x + dxE e.d - 1) (e.y + dyE e.d)) (S (e.x + dxE e.d) (e.y + dyE e.d)) e.d = true := by
  obtain ⟨x, y, d⟩ := e
  obtain ⟨hd, hh⟩ := h
  simp only at hd hh ⊢
  rcases dir4 hd with rfl | rfl | rfl | rfl
  · show (S (x + 1 - 1) (y + 0) && !S (x + 1 - 1) (y + 0 - 1)) = true
    rw [has0] at hh
    rw [show x + 1 - 1 = x by omega, Int.add_zero]
    exact hh
  · show (S (x + 0 - 1) (y + 1 - 1) && !S (x + 0) (y + 1 - 1)) = true
    rw [has1] at hh
    rw [show y + 1 - 1 = y by omega, Int.add_zero]
    exact hh
  · show (S (x + -1) (y + 0 - 1) && !S (x + -1) (y + 0)) = true
    rw [has2] at hh
    rw [show x + -1 = x - 1 by omega, Int.add_zero]
    exact hh
  · show (S (x + 0) (y + -1) && !S (x + 0 - 1) (y + -1)) = true
    rw [has3] at hh
    rw [show y + -1 = y - 1 by omega, Int.add_zero]
    exact hh
theorem next_sel {S : Int → Int → Bool} {e : Ed} (h : Bnd S e) : (nextE S e).d = selD (S (e.x + dxE e.d - 1) (e.y + dyE e.d - 1)) (S (e.x + dxE e.d) (e.y + dyE e.d - 1)) (S (e.x + dxE e.d - 1) (e.y + dyE e.d)) (S (e.x + dxE e.d) (e.y + dyE e.d)) e.d := by
  obtain ⟨_, _, _, h4⟩ := next_cases h
  simp only [has_out] at h4
  unfold selD
  rcases h4 with ⟨h1, h2⟩ | ⟨h1, h2, h3⟩ | ⟨h1, h2, h3, h4⟩
  · rw [if_pos h2, h1]
  · rw [if_neg (by rw [h2]; decide), if_pos h3, h1]
  · rw [if_neg (by rw [h2]; decide), if_neg (by rw [h3]; decide), h1]
theorem next_inj {S : Int → Int → Bool} {e f : Ed} (he : Bnd S e) (hf : Bnd S f) (h : nextE S e = nextE S f) : e = f := by
  obtain ⟨a1, a2, _, _⟩ := next_cases he
  obtain ⟨b1, b2, _, _⟩ := next_cases hf
  have hx : e.x + dxE e.d = f.x + dxE f.d := by rw [← a1, ← b1, h]
  have hy : e.y + dyE e.d = f.y + dyE f.d := by rw [← a2, ← b2, h]
  have s1 := next_sel he
  have s2 := next_sel hf
  have i1 := bnd_in he
  have i2 := bnd_in hf
  rw [← hx, ← hy] at s2 i2
  have hd : e.d = f.d := sel_inj _ _ _ _ he.1 hf.1 i1 i2 (by rw [← s1, ← s2, h])
  obtain ⟨x, y, d⟩ := e
  obtain ⟨x', y', d'⟩ := f
  simp only at hd hx hy
  subst hd
  have : x = x' := by omega
  have : y = y' := by omega
  subst x' y'
  rfl
/-! ### Going round -/
def orbE (S : Int → Int → Bool) (s : Ed) : Nat → Ed
  | 0 => s
  | n + 1 => nextE S (orbE S s n)
theorem orb_bnd {S : Int → Int → Bool} {s : Ed} (h : Bnd S s) : ∀ n, Bnd S (orbE S s n)
  | 0 => h
  | n + 1 => (next_cases (orb_bnd h n)).2.2.1
theorem orb_back {S : Int → Int → Bool} {s : Ed} (h : Bnd S s) : ∀ i j, orbE S s i = orbE S s (i + j) → s = orbE S s j
  | 0, j, e => by rw [Nat.zero_add] at e; exact e
  | i + 1, j, e => orb_back h i j (by
      rw [show i + 1 + j = (i + j) + 1 by omega] at e
      exact next_inj (orb_bnd h i) (orb_bnd h (i + j)) e)
theorem pigeon : ∀ (N : Nat) (f : Nat → Nat), (∀ i, i ≤ N → f i < N) → ∃ i j, i < j ∧ j ≤ N ∧ f i = f j := by
  intro N
  induction N with
  | zero => intro f h; exact absurd (h 0 (Nat.le_refl _)) (by omega)
  | succ N ih =>
    intro f h
    by_cases hx : ∃ i, i < N + 1 ∧ f i = f (N + 1)
    · obtain ⟨i, h1, h2⟩ := hx
      exact ⟨i, N + 1, h1, Nat.le_refl _, h2⟩
    · obtain ⟨i, j, h1, h2, h3⟩ := ih (fun i => if f i = N then f (N + 1) else f i) (by
        intro i hi
        have a := h i (by omega)
        have b := h (N + 1) (Nat.le_refl _)
        show (if f i = N then f (N + 1) else f i) < N
        by_cases c : f i = N
        · rw [if_pos c]
          have : f (N + 1) ≠ N := fun e => hx ⟨i, by omega, by rw [c, e]⟩
          omega
        · rw [if_neg c]; omega)
      have e3 : (if f i = N then f (N + 1) else f i) = (if f j = N then f (N + 1) else f j) := h3
      refine ⟨i, j, h1, by omega, ?_⟩
      by_cases c : f i = N
      · by_cases c' : f j = N
        · rw [c, c']
        · rw [if_pos c, if_neg c'] at e3
          exact absurd ⟨j, by omega, e3.symm⟩ hx
      · by_cases c' : f j = N
        · rw [if_neg c, if_pos c'] at e3
          exact absurd ⟨i, by omega, e3⟩ hx
        · rw [if_neg c, if_neg c'] at e3
          exact e3
/-- All edges of the boundary lie between these corners. -/
def BoxE (S : Int → Int → Bool) (r : Rc) : Prop := ∀ e, Bnd S e → r.x0 ≤ e.x ∧ e.x ≤ r.x1 ∧ r.y0 ≤ e.y ∧ e.y ≤ r.y1
def boxN (r : Rc) : Nat := 4 * ((r.x1 - r.x0).toNat + 1) * ((r.y1 - r.y0).toNat + 1)
def codE (r : Rc) (e : Ed) : Nat := (e.d.toNat + 4 * (e.x - r.x0).toNat) + 4 * ((r.x1 - r.x0).toNat + 1) * (e.y - r.y0).toNat
theorem cod_lt {r : Rc} {e : Ed} (hd : 0 ≤ e.d ∧ e.d ≤ 3) (h : r.x0 ≤ e.x ∧ e.x ≤ r.x1 ∧ r.y0 ≤ e.y ∧ e.y ≤ r.y1) : codE r e < boxN r := by
  unfold codE boxN
  have h1 : (e.y - r.y0).toNat + 1 ≤ (r.y1 - r.y0).toNat + 1 := by omega
  have h2 := Nat.mul_le_mul_left (4 * ((r.x1 - r.x0).toNat + 1)) h1
  rw [Nat.mul_add, Nat.mul_one] at h2
  omega
theorem cod_inj {r : Rc} {e f : Ed} (hd : 0 ≤ e.d ∧ e.d ≤ 3) (h : r.x0 ≤ e.x ∧ e.x ≤ r.x1 ∧ r.y0 ≤ e.y ∧ e.y ≤ r.y1) (hd' : 0 ≤ f.d ∧ f.d ≤ 3) (h' : r.x0 ≤ f.x ∧ f.x ≤ r.x1 ∧ r.y0 ≤ f.y ∧ f.y ≤ r.y1) (k : codE r e = codE r f) : e = f := by
  unfold codE at k
  have hW : 0 < 4 * ((r.x1 - r.x0).toNat + 1) := by omega
  have a1 : e.d.toNat + 4 * (e.x - r.x0).toNat < 4 * ((r.x1 - r.x0).toNat + 1) := by omega
  have a2 : f.d.toNat + 4 * (f.x - r.x0).toNat < 4 * ((r.x1 - r.x0).toNat + 1) := by omega
  have k1 := congrArg (· % (4 * ((r.x1 - r.x0).toNat + 1))) k
  have k2 := congrArg (· / (4 * ((r.x1 - r.x0).toNat + 1))) k
  simp only [Nat.add_mul_mod_self_left, Nat.mod_eq_of_lt a1, Nat.mod_eq_of_lt a2] at k1
  simp only [Nat.add_mul_div_left _ _ hW, Nat.div_eq_of_lt a1, Nat.div_eq_of_lt a2, Nat.zero_add] at k2
  obtain ⟨x, y, d⟩ := e
  obtain ⟨x', y', d'⟩ := f
  simp only at *
  have : d = d' := by omega
  have : x = x' := by omega
  have : y = y' := by omega
  subst d' x' y'
  rfl
theorem orb_per {S : Int → Int → Bool} {r : Rc} (hb : BoxE S r) {s : Ed} (h : Bnd S s) : ∃ p, 0 < p ∧ p ≤ boxN r ∧ orbE S s p = s := by
  have hin := fun n => hb _ (orb_bnd h n)
  obtain ⟨i, j, h1, h2, h3⟩ := pigeon (boxN r) (fun n => codE r (orbE S s n)) (fun n _ => cod_lt (orb_bnd h n).1 (hin n))
  have e := cod_inj (orb_bnd h i).1 (hin i) (orb_bnd h j).1 (hin j) h3
  rw [show j = i + (j - i) by omega] at e
  exact ⟨j - i, by omega, by omega, (orb_back h i (j - i) e).symm⟩
def perF (f : Nat → Ed) (s : Ed) : Nat → Nat → Nat
  | 0, k => k
  | n + 1, k => if f k = s then k else perF f s n (k + 1)
theorem perF_spec (f : Nat → Ed) (s : Ed) : ∀ n k, (∃ p, k ≤ p ∧ p < k + n ∧ f p = s) → f (perF f s n k) = s ∧ k ≤ perF f s n k ∧ perF f s n k < k + n ∧ ∀ i, k ≤ i → i < perF f s n k → f i ≠ s
  | 0, k, ⟨p, h1, h2, _⟩ => absurd h2 (by omega)
  | n + 1, k, ⟨p, h1, h2, h3⟩ => by
    unfold perF
    by_cases h : f k = s
    · rw [if_pos h]
      exact ⟨h, Nat.le_refl _, by omega, fun i a b => absurd b (by omega)⟩
    · rw [if_neg h]
      have hp : p ≠ k := fun e => h (by rw [← e]; exact h3)
      obtain ⟨c1, c2, c3, c4⟩ := perF_spec f s n (k + 1) ⟨p, by omega, by omega, h3⟩
      refine ⟨c1, by omega, by omega, fun i a b => ?_⟩
      by_cases hi : i = k
      · subst hi; exact h
      · exact c4 i (by omega) b
/-- After so many steps the start is met again, for the first time. -/
def perE (S : Int → Int → Bool) (r : Rc) (s : Ed) : Nat := perF (orbE S s) s (boxN r) 1
theorem perE_spec {S : Int → Int → Bool} {r : Rc} (hb : BoxE S r) {s : Ed} (h : Bnd S s) : orbE S s (perE S r s) = s ∧ 1 ≤ perE S r s ∧ perE S r s ≤ boxN r ∧ ∀ i, 1 ≤ i → i < perE S r s → orbE S s i ≠ s := by
  obtain ⟨p, h1, h2, h3⟩ := orb_per hb h
  obtain ⟨c1, c2, c3, c4⟩ := perF_spec (orbE S s) s (boxN r) 1 ⟨p, h1, by omega, h3⟩
  exact ⟨c1, c2, by unfold perE; omega, c4⟩
def orbK (S : Int → Int → Bool) (s : Ed) (n : Nat) : List Ed := (List.range n).map (orbE S s)
def folE (S : Int → Int → Bool) (r : Rc) (s : Ed) : List Ed := orbK S s (perE S r s)
theorem orbK_len (S : Int → Int → Bool) (s : Ed) (n : Nat) : (orbK S s n).length = n := by unfold orbK; rw [List.length_map, List.length_range]
theorem orbK_snoc (S : Int → Int → Bool) (s : Ed) (n : Nat) : orbK S s (n + 1) = orbK S s n ++ [orbE S s n] := by
  unfold orbK
  rw [List.range_succ, List.map_append]
  rfl
/-! ### The corners of a closed list of edges; the polygons -/
def edG (l : List Ed) (i : Nat) : Ed := l.getD i ⟨0, 0, 0⟩
def cornB (l : List Ed) (i : Nat) : Bool := decide ((edG l ((i + l.length - 1) % l.length)).d ≠ (edG l i).d)
def cornK (l : List Ed) : Nat → List Pnt
  | 0 => []
  | k + 1 => cornK l k ++ (if cornB l k = true then [((edG l k).x, (edG l k).y)] else [])
def cornG (l : List Ed) : List Pnt := cornK l l.length
theorem cornK_len (l : List Ed) : ∀ k, (cornK l k).length ≤ k
  | 0 => Nat.le_refl _
  | k + 1 => by
    have := cornK_len l k
    show (cornK l k ++ (if cornB l k = true then [((edG l k).x, (edG l k).y)] else [])).length ≤ _
    rw [List.length_append]
    split
    · simp only [List.length_cons, List.length_nil]; omega
    · simp only [List.length_nil]; omega
/-- What the scan has: the edges that are done, the polygons. -/
abbrev ScSt := List Ed × List (List Pnt)
def scan1 (S : Int → Int → Bool) (r : Rc) (st : ScSt) (x y : Int) : ScSt :=
  if (decide ((⟨x, y, 0⟩ : Ed) ∈ st.1) || !hasE S x y 0) = true then st else (st.1 ++ folE S r ⟨x, y, 0⟩, st.2 ++ [cornG (folE S r ⟨x, y, 0⟩)])
def scanX (S : Int → Int → Bool) (r : Rc) (y : Int) (st : ScSt) : Nat → ScSt
  | 0 => st
  | k + 1 => scan1 S r (scanX S r y st k) (r.x0 + (k : Int)) y
def scanY (S : Int → Int → Bool) (r : Rc) : Nat → ScSt
  | 0 => ([], [])
  | k + 1 => scanX S r (r.y0 + (k : Int)) (scanY S r k) (r.x1 - r.x0).toNat
def outlG (S : Int → Int → Bool) (r : Rc) : List (List Pnt) := (scanY S r (r.y1 - r.y0).toNat).2
end Go.Proofs.Ytamgpfblhlfhaaa
/- Plain: the mask that numbers describe; the box of a small raster's visible pixels. -/
namespace Go.Proofs.Ytamgpfblhlfhaaa
open Go.RowKit Pl
set_option linter.unusedVariables false
set_option linter.unusedSimpArgs false
def mkX (a : Int) : Int := a % 16 - 4
def mkY (a : Int) : Int := a.tdiv 16 % 16 - 4
def mkN (a : Int) : Nat := (1 + a.tdiv 256 % 3).toNat
def mkP (b : Int) : Px := ⟨0, 0, 0, b % 256⟩
def mrunK (ls : List TA) (a b : Int) : Nat → List TA
  | 0 => ls
  | k + 1 => setR (mrunK ls a b k) (mkX a + (k : Int)) (mkY a) (mkP b)
def maskK (q : List Int) : Nat → List TA
  | 0 => []
  | j + 1 => mrunK (maskK q j) (numI q (2 * j)) (numI q (2 * j + 1)) (mkN (numI q (2 * j)))
def maskN (q : List Int) : Nat := min (q.length / 2) 30
def maskG (q : List Int) : List TA := maskK q (maskN q)
/-- Valid, few tiles, whole pixels; visible pixels near the origin. -/
structure MaskP (ls : List TA) : Prop where
  v : validL ls = true
  s : Small ls
  t : TokL ls
  g : ∀ x y, 0 < (getL ls x y).a → -4 ≤ x ∧ x ≤ 13 ∧ -4 ≤ y ∧ y ≤ 11
  c : ∀ x y, (getL ls x y).r = 0 ∧ (getL ls x y).g = 0 ∧ (getL ls x y).b = 0
theorem MaskP.len {ls : List TA} (h : MaskP ls) : ls.length ≤ 16 := small_len (validL_srt h.v) h.s
/-- The set of the pixels whose alpha reaches t. -/
def setG (ls : List TA) (t : Int) (x y : Int) : Bool := decide (t ≤ (getL ls x y).a)
theorem setG_has {ls : List TA} {t : Int} (ht : 1 ≤ t) {x y : Int} (h : setG ls t x y = true) : hasR (boundL ls) x y = true :=
  boundL_has (getL_vis (by have := of_decide_eq_true h; omega))
theorem setG_box (ls : List TA) {t : Int} (ht : 1 ≤ t) : BoxE (setG ls t) (boundL ls) := by
  intro e ⟨hd, hh⟩
  have key : ∀ {x y : Int}, setG ls t x y = true → (boundL ls).x0 ≤ x ∧ x < (boundL ls).x1 ∧ (boundL ls).y0 ≤ y ∧ y < (boundL ls).y1 := fun h => (hasR_iff _ _ _).1 (setG_has ht h)
  obtain ⟨x, y, d⟩ := e
  simp only at hd hh ⊢
  rcases dir4 hd with rfl | rfl | rfl | rfl
  · rw [has0, Bool.and_eq_true_iff] at hh
    have := key hh.1
    omega
  · rw [has1, Bool.and_eq_true_iff] at hh
    have := key hh.1
    omega
  · rw [has2, Bool.and_eq_true_iff] at hh
    have := key hh.1
    omega
  · rw [has3, Bool.and_eq_true_iff] at hh
    have := key hh.1
    omega
end Go.Proofs.Ytamgpfblhlfhaaa
/- Image of both packages, whether the rectangle fits or not. -/
namespace Go.Proofs.Ytamgpfblhlfhaaa
open Go.RowKit Go.Shelf Pl
set_option linter.unusedVariables false
set_option linter.unusedSimpArgs false
set_option maxRecDepth 20000
def imR (c : Rc) : Rc := if fitsE c = 0 then c else Rc.zero
def imLs (c : Rc) (ks : List TA) : List Px := if fitsE c = 0 then imgL c ks else []
end Go.Proofs.Ytamgpfblhlfhaaa
/- Contract of Paste of package raster. -/
namespace Go.Proofs.Ytamgpfblhlfhaaa
open Go.RowKit Go.Shelf Pl
attribute [local go_sem] Oper.semAt_some
set_option linter.unusedVariables false
set_option linter.unusedSimpArgs false
set_option maxRecDepth 20000
end Go.Proofs.Ytamgpfblhlfhaaa
/- A range over a function whose loop variable lies in memory: the round's head makes its block. -/
namespace Go.Proofs.Ytamgpfblhlfhaaa
open Go Go.RowKit
set_option linter.unusedVariables false
set_option linter.unusedSimpArgs false
section
variable {F : Fence} {n : Nat} {P : Program}
end
section
variable {P : Program} {ops : Array Oper} {md : Region.Mode} {Q : Exit → Act → World → Prop} {S : World → Prop} {t0 f : Nat} {a : Act} {w : World} {T : Array Bool}
end
theorem KpB.below {b : Nat} {W W' : World} (h : Below W.heap.size W W') : KpB b W W' :=
  ⟨h.size, fun k o _ ho _ => (h.block k (Array.getElem?_eq_some_iff.1 ho).1).trans ho⟩
theorem RCells.own {g o : Nat} {ls : List TA} {A B : World} {row : Option Nat} (h : RCells g o ls A) (hn : 0 < ls.length) (hg : A.grownBy B row) (hr : ∀ r, row = some r → ∃ o : Obj, A.heap[r]? = some o ∧ o.isCells = false) : RCells g o ls B := by
  refine h.of_eq (hg.block g h.lt fun e => ?_)
  obtain ⟨x, hx, hc⟩ := hr g e.symm
  have h0 := h.2 0 hn 0 (by omega)
  have hs : ∃ v, (taC (aT ls 0))[0]? = some v := ⟨_, taC_x _⟩
  obtain ⟨v, hv⟩ := hs
  rw [hv] at h0
  have := cell_not h0 x hx
  rw [hc] at this
  cases this
theorem RS.own {v : Value} {ls : List TA} {A B : World} {row : Option Nat} (h : RS v ls A) (hg : A.grownBy B row) (hr : ∀ r, row = some r → ∃ o : Obj, A.heap[r]? = some o ∧ o.isCells = false) : RS v ls B := by
  rcases h with h | ⟨g, o, c, e, hc, sc⟩
  · exact .inl h
  · exact .inr ⟨g, o, c, e, hc, fun hn => (sc hn).own hn hg hr⟩
end Go.Proofs.Ytamgpfblhlfhaaa
/- The iterator over the tiles of a rectangle: its contract. -/
namespace Go.Proofs.Ytamgpfblhlfhaaa
open Go.RowKit Go.Shelf Pl
attribute [local go_sem] Oper.semAt_some
set_option linter.unusedVariables false
set_option linter.unusedSimpArgs false
set_option maxRecDepth 20000
/-- The first k of N. -/
def fpre (N k : Nat) : List (Fin N) := (List.finRange N).take k
def posF (c : Rc) (i : Fin (tlN c)) : Int × Int := posP c i.val
end Go.Proofs.Ytamgpfblhlfhaaa
/- Contract of Paste of package raster, where the rectangle fits. -/
namespace Go.Proofs.Ytamgpfblhlfhaaa
open Go.RowKit Go.Shelf Pl
attribute [local go_sem] Oper.semAt_some
set_option linter.unusedVariables false
set_option linter.unusedSimpArgs false
set_option maxRecDepth 20000
theorem wpList_val {ops : Array Oper} {rest : List Oper} {o : Oper} {a : Act} {w : World} {Q : Exit → Act → World → Prop} (hg : o.guard = none) (v : Value) (hrun : (execOp a.eval o).run Try.prog w = .ok (.value v) w)
    (h : wpList Try.prog ops Q rest (a.put o.dst v) w) : wpList Try.prog ops Q (o :: rest) a w :=
  wpList_plain hg fun K hK => by
    unfold Oper.wp
    rw [hrun]
    exact hK _ _ h
theorem zip1_wp {F : Fence} {n : Nat} {P : Program} {c : Code} {Q : Exit → Act → World → Prop} {W : World} {t : Array Value} {p : Tmp} {v : Value} (h : c.wpIn F n P Q { tmps := t.setIfInBounds p v, defers := [] } W) :
    c.wpIn F n P Q { tmps := (#[p].zip #[v]).foldl (fun t (p, v) => t.setIfInBounds p v) t, defers := [] } W := by
  have e : (#[p].zip #[v]).foldl (fun t (p, v) => t.setIfInBounds p v) t = t.setIfInBounds p v := by
    show Array.foldl _ t (Array.zip (List.toArray [p]) (List.toArray [v])) = _
    rw [List.zip_toArray]
    simp
  rw [e]
  exact h
theorem arr_fn (t : Array Value) (n : Nat) (h : t.size = n) : ∃ U : Nat → Value, t = ((List.range n).map U).toArray ∧ ∀ i, U i = t.getD i undef := by
  refine ⟨fun i => t.getD i undef, ?_, fun _ => rfl⟩
  apply Array.ext_getElem?
  intro k
  by_cases hk : k < n
  · simp [hk, h]
  · simp [hk, h]
/-- A block of deferred calls, empty. -/
def DefAt (w : World) (D : Nat) : Prop := w.heap[D]? = some (.deferred (some []))
theorem DefAt.of_eq {w w' : World} {D : Nat} (h : DefAt w D) (e : w'.heap[D]? = w.heap[D]?) : DefAt w' D := e.trans h
theorem DefAt.lt {w : World} {D : Nat} (h : DefAt w D) : D < w.heap.size := (Array.getElem?_eq_some_iff.1 h).1
theorem DefAt.ne {w : World} {D b : Nat} {t : TypeId} {cs : Array Value} (h : DefAt w D) (k : AtB t w b cs) : b ≠ D := fun e => by
  subst e
  have k' : w.heap[b]? = _ := k
  rw [show w.heap[b]? = _ from h] at k'
  cases k'
end Go.Proofs.Ytamgpfblhlfhaaa
/- The set of an outline (the closure of Outline), its boundary's edges; the reference's in, edge. -/
namespace Go.Proofs.Ytamgpfblhlfhaaa
open Go.RowKit Go.Shelf Pl
set_option linter.unusedVariables false
set_option linter.unusedSimpArgs false
set_option maxRecDepth 20000
/-- The closure of Outline: its raster and its threshold lie in blocks. -/
def InB (r t : Nat) (ls : List TA) (th : Int) (w : World) : Prop := ∃ v, AtB 36 w r #[v] ∧ AtB 3 w t #[.int .i64 th] ∧ RS v ls w
theorem InB.below {r t : Nat} {ls : List TA} {th : Int} {w w' : World} (h : InB r t ls th w) (hb : Below w.heap.size w w') : InB r t ls th w' := by
  obtain ⟨v, h1, h2, h3⟩ := h
  exact ⟨v, AtB.of_eq h1 (hb.block _ (AtB.lt h1)), AtB.of_eq h2 (hb.block _ (AtB.lt h2)), h3.below hb⟩
def fB (r t : Nat) : Value := .func (.func 50) #[] #[.pointer (some ⟨r, 0, none⟩), .pointer (some ⟨t, 0, none⟩)]
theorem P_GetO (v : Value) (ls : List TA) (x y : Int) (pr pg pb pa : Int) (w : World) (h : RS v ls w) (hn : ls.length ≤ maxLen) (hx : (Lit.int .i64 x).wf = true) (hy : (Lit.int .i64 y).wf = true) (e1 : getL ls x y = ⟨pr, pg, pb, pa⟩) : Calls Try.prog 30 #[.agg #[v], .int .i64 x, .int .i64 y] w fun e w' => e = .returned (.agg #[.int .u8 pr, .int .u8 pg, .int .u8 pb, .int .u8 pa]) ∧ Below w.heap.size w w' := by
  have h0 := P_GetR v ls x y w h hn hx hy
  rw [e1] at h0
  exact h0
set_option maxHeartbeats 2000000 in
theorem P_in (r t : Nat) (ls : List TA) (th x y : Int) (b : Bool) (w : World) (h : InB r t ls th w) (tk : TokL ls) (hn : ls.length ≤ maxLen) (hx : (Lit.int .i64 x).wf = true) (hy : (Lit.int .i64 y).wf = true) (e : setG ls th x y = b) : Calls Try.prog 50 #[.int .i64 x, .int .i64 y, .pointer (some ⟨r, 0, none⟩), .pointer (some ⟨t, 0, none⟩)] w fun e w' => e = .returned (.bool b) ∧ Below w.heap.size w w' := by
  have B := Below.refl w.heap.size w
  obtain ⟨v, r2, r3, rs⟩ := h
  obtain ⟨⟨pr, pg, pb, pa⟩, hp⟩ : ∃ p, getL ls x y = p := ⟨_, rfl⟩
  have ok := getL_okL tk x y
  rw [hp] at ok
  have o1 : 0 ≤ pa ∧ pa ≤ 255 := ok.2.2.2
  have he : decide (th ≤ pa) = b := by rw [← e]; unfold setG; rw [hp]
  clear e ok
  go_enter Try.func50, Try.ntmps50
  go_upto_region 1 with fail
  try simp only [List.getElem_toArray, List.getElem_cons_zero, List.getElem_cons_succ]
  try have lx_r2 := r2.lt
  try have lx_r3 := r3.lt
  try have lx_rs := rs.lt
  refine wp_region_RL 9 [(3, detS ?v1_3)] (by kernel_rfl) (by kernel_rfl) (by kernel_rfl) ?_
  rotate_left 1
  simp only [takS, Nat.reduceAdd]
  refine wpRL_chunk 3 (by kernel_rfl) ?_
  simp only [takS, Nat.reduceAdd]
  repeat (first | go_big_quiet_skip | (go_big_quiet_want; first | (refine quiet_loadAny (t := 36) rfl _ _ _ rfl (fun w hw => run_load_ras ((ov_B r2 w hw).cell 0 rfl)) (by first | rfl | omega) ?_; simp only [Act.put, putS]; go_big_quiet_on) | (go_big_quiet_op; go_big_quiet_on)))
  refine wpQuiet_nil ?_
  refine wpRL_callB (by rfl) (by first | rfl | simp [Region.wanted, yielded]) ?_ ?_
  · intro wn hbn hE Kx hKx
    have hsz := B.size
    have hzn := hbn.size
    replace B := B.trans (hbn.mono B.size)
    (try first | replace r2 := r2.of_eq (hbn.block _ r2.lt) | replace r2 := r2.below hbn)
    (try first | replace r3 := r3.of_eq (hbn.block _ r3.lt) | replace r3 := r3.below hbn)
    (try first | replace rs := rs.of_eq (hbn.block _ rs.lt) | replace rs := rs.below hbn)
    refine wp_callF rfl (enters_of Try.func30 (by kernel_rfl) rfl) (by simp only [List.map_toArray, List.map_cons, List.map_nil, Act.eval, Array.getD_eq_getD_getElem?, List.getElem?_toArray, List.getElem?_cons_succ, List.getElem?_cons_zero, Option.getD_some]; rfl) ?_
    refine (P_GetO v ls x y pr pg pb pa _ rs hn hx hy hp).mono ?_
    rintro e wm ⟨rfl, hbm⟩
    refine ⟨_, rfl, ?_⟩
    have hz := hKx () wm trivial hbm
    dsimp only [detS] at hz
    exact hz
  rintro ⟨⟩
  dsimp only [detS]
  simp only [Act.put, putS]
  refine wpRL_chunk 5 (by kernel_rfl) ?_
  simp only [takS, Nat.reduceAdd]
  repeat (first | go_big_quiet_skip | (go_big_quiet_want; first | (refine quiet_loadAny (t := 3) rfl _ _ _ rfl (fun w hw => run_load_int ((ov_B r3 w hw).cell 0 rfl)) (by first | rfl | omega) ?_; simp only [Act.put, putS]; go_big_quiet_on) | (go_big_quiet_op; go_big_quiet_on)))
  refine wpQuiet_nil ?_
  refine wpRL_nil ?_
  intro wn hbn hE
  have hsz := B.size
  have hzn := hbn.size
  replace B := B.trans (hbn.mono B.size)
  (try first | replace r2 := r2.of_eq (hbn.block _ r2.lt) | replace r2 := r2.below hbn)
  (try first | replace r3 := r3.of_eq (hbn.block _ r3.lt) | replace r3 := r3.below hbn)
  (try first | replace rs := rs.of_eq (hbn.block _ rs.lt) | replace rs := rs.below hbn)
  clear hE
  try simp only [List.drop_succ_cons, List.drop_zero]
  refine NoPan.normal ?_
  go_wp2
  go_ret
  exact ⟨by rw [← he]; try rfl, B⟩
theorem run_load_fn {w : World} {b j : Nat} {f : Fn} {x y : Array Value} (h : w.cell? ⟨b, j, none⟩ = some (.func f x y)) : (Instr.loadAt 78 (.pointer (some ⟨b, j, none⟩))).run Try.prog w = .ok (.func f x y) w := by
  simp [go_sem, h]
set_option maxHeartbeats 4000000 in
theorem P_has (r t : Nat) (ls : List TA) (th x y d : Int) (b : Bool) (w : World) (hI : InB r t ls th w) (tk : TokL ls) (hn : ls.length ≤ maxLen) (hx : -100000 ≤ x ∧ x ≤ 100000) (hy : -100000 ≤ y ∧ y ≤ 100000) (hd : 0 ≤ d ∧ d ≤ 3) (e : hasE (setG ls th) x y d = b) : Calls Try.prog 51 #[.agg #[fB r t], .agg #[.int .i64 x, .int .i64 y, .int .i64 d]] w fun e w' => e = .returned (.bool b) ∧ Below w.heap.size w w' := by
  have B := Below.refl w.heap.size w
  have wx := wf_mk (x := x) (by omega) (by omega)
  have wy := wf_mk (x := y) (by omega) (by omega)
  have wx1 := wf_mk (x := x - 1) (by omega) (by omega)
  have wy1 := wf_mk (x := y - 1) (by omega) (by omega)
  have HE := Lib.hid e
  clear e
  unfold fB
  go_enter Try.func51, Try.ntmps51
  go_upto_region 0 with fail
  refine wp_region_lit ?_
  try simp only [List.getElem_toArray, List.getElem_cons_zero, List.getElem_cons_succ]
  (refine wpList_boxB (t := 80) rfl _ rfl _ rfl ?_; intro b_r2 wn hle hge ht hbn hzn; have hsz := B.size; replace B := B.trans (hbn.mono (by omega)); have hln := Nat.lt_of_lt_of_eq (Nat.lt_succ_self _) hzn.symm; clear hzn; (try first | (have hlt := hI.lt; replace hI := hI.of_eq (hbn.block _ (by omega))) | replace hI := hI.below (hbn.mono hle)); have r2 := ht; clear ht; simp only [Act.put, putS])
  (refine wpList_boxB (t := 83) rfl _ rfl _ rfl ?_; intro b_r3 wn hle hge ht hbn hzn; have hsz := B.size; replace B := B.trans (hbn.mono (by omega)); have hln := Nat.lt_of_lt_of_eq (Nat.lt_succ_self _) hzn.symm; clear hzn; (try first | (have hlt := hI.lt; replace hI := hI.of_eq (hbn.block _ (by omega))) | replace hI := hI.below (hbn.mono hle)); (try first | (have hlt := r2.lt; replace r2 := r2.of_eq (hbn.block _ (by omega))) | replace r2 := r2.below (hbn.mono hle)); have r3 := ht; clear ht; simp only [Act.put, putS])
  refine wpList_chunk 1 (by kernel_rfl) ?_
  simp only [takS, Nat.reduceAdd]
  repeat (first | go_big_quiet_skip | (go_big_quiet_want; first | (go_big_quiet_op; go_big_quiet_on)))
  refine wpQuiet_nil ?_
  refine wpList_nil ?_
  go_upto_region 1 with fail
  try simp only [List.getElem_toArray, List.getElem_cons_zero, List.getElem_cons_succ]
  try have lx_r2 := r2.lt
  try have lx_r3 := r3.lt
  try have lx_hI := hI.lt
  refine wp_region_RL 36 [(7, detS ?v2_7), (14, detS ?v2_14), (23, detS ?v2_23), (31, detS ?v2_31)] (by kernel_rfl) (by kernel_rfl) (by kernel_rfl) ?_
  rotate_left 4
  simp only [takS, Nat.reduceAdd]
  refine wpRL_chunk 7 (by kernel_rfl) ?_
  simp only [takS, Nat.reduceAdd]
  repeat (first | go_big_quiet_skip | (go_big_quiet_want; first | (refine quiet_loadAny (t := 78) rfl _ _ _ rfl (fun w hw => run_load_fn ((ov_B r2 w hw).cellL 0 rfl)) (by first | rfl | omega) ?_; simp only [Act.put, putS]; go_big_quiet_on) | (refine quiet_loadAny (t := 3) rfl _ _ _ rfl (fun w hw => run_load_int ((ov_B r3 w hw).cellL 0 rfl)) (by first | rfl | omega) ?_; simp only [Act.put, putS]; go_big_quiet_on) | (refine quiet_loadAny (t := 3) rfl _ _ _ rfl (fun w hw => run_load_int ((ov_B r3 w hw).cellL 1 rfl)) (by first | rfl | omega) ?_; simp only [Act.put, putS]; go_big_quiet_on) | (refine quiet_loadAny (t := 3) rfl _ _ _ rfl (fun w hw => run_load_int ((ov_B r3 w hw).cellL 2 rfl)) (by first | rfl | omega) ?_; simp only [Act.put, putS]; go_big_quiet_on) | (go_big_quiet_op; go_big_quiet_on)))
  refine wpQuiet_nil ?_
  refine wpRL_callB (by rfl) (by first | rfl | simp [Region.wanted, yielded]) ?_ ?_
  · intro wn hbn hE Kx hKx
    have hsz := B.size
    have hzn := hbn.size
    replace B := B.trans (hbn.mono B.size)
    (try first | replace r2 := r2.of_eq (hbn.block _ r2.lt) | replace r2 := r2.below hbn)
    (try first | replace r3 := r3.of_eq (hbn.block _ r3.lt) | replace r3 := r3.below hbn)
    (try first | replace hI := hI.of_eq (hbn.block _ hI.lt) | replace hI := hI.below hbn)
    refine wp_callV rfl (by simp only [List.map_toArray, List.map_cons, List.map_nil, Act.eval, Array.getD_eq_getD_getElem?, List.getElem?_toArray, List.getElem?_cons_succ, List.getElem?_cons_zero, Option.getD_some]; rfl) (enters_of Try.func50 (by kernel_rfl) rfl) (by simp only [List.map_toArray, List.map_cons, List.map_nil, Act.eval, Array.getD_eq_getD_getElem?, List.getElem?_toArray, List.getElem?_cons_succ, List.getElem?_cons_zero, Option.getD_some]; rfl) ?_
    refine (P_in r t ls th (x - 1) (y) _ _ hI tk hn wx1 wy rfl).mono ?_
    rintro e wm ⟨rfl, hbm⟩
    refine ⟨_, rfl, ?_⟩
    have hz := hKx () wm trivial hbm
    dsimp only [detS] at hz
    exact hz
  rintro ⟨⟩
  dsimp only [detS]
  simp only [Act.put, putS]
  refine wpRL_chunk 6 (by kernel_rfl) ?_
  simp only [takS, Nat.reduceAdd]
  repeat (first | go_big_quiet_skip | (go_big_quiet_want; first | (refine quiet_loadAny (t := 78) rfl _ _ _ rfl (fun w hw => run_load_fn ((ov_B r2 w hw).cellL 0 rfl)) (by first | rfl | omega) ?_; simp only [Act.put, putS]; go_big_quiet_on) | (refine quiet_loadAny (t := 3) rfl _ _ _ rfl (fun w hw => run_load_int ((ov_B r3 w hw).cellL 0 rfl)) (by first | rfl | omega) ?_; simp only [Act.put, putS]; go_big_quiet_on) | (refine quiet_loadAny (t := 3) rfl _ _ _ rfl (fun w hw => run_load_int ((ov_B r3 w hw).cellL 1 rfl)) (by first | rfl | omega) ?_; simp only [Act.put, putS]; go_big_quiet_on) | (refine quiet_loadAny (t := 3) rfl _ _ _ rfl (fun w hw => run_load_int ((ov_B r3 w hw).cellL 2 rfl)) (by first | rfl | omega) ?_; simp only [Act.put, putS]; go_big_quiet_on) | (go_big_quiet_op; go_big_quiet_on)))
  refine wpQuiet_nil ?_
  refine wpRL_callB (by rfl) (by first | rfl | simp [Region.wanted, yielded]) ?_ ?_
  · intro wn hbn hE Kx hKx
    have hsz := B.size
    have hzn := hbn.size
    replace B := B.trans (hbn.mono B.size)
    (try first | replace r2 := r2.of_eq (hbn.block _ r2.lt) | replace r2 := r2.below hbn)
    (try first | replace r3 := r3.of_eq (hbn.block _ r3.lt) | replace r3 := r3.below hbn)
    (try first | replace hI := hI.of_eq (hbn.block _ hI.lt) | replace hI := hI.below hbn)
    refine wp_callV rfl (by simp only [List.map_toArray, List.map_cons, List.map_nil, Act.eval, Array.getD_eq_getD_getElem?, List.getElem?_toArray, List.getElem?_cons_succ, List.getElem?_cons_zero, Option.getD_some]; rfl) (enters_of Try.func50 (by kernel_rfl) rfl) (by simp only [List.map_toArray, List.map_cons, List.map_nil, Act.eval, Array.getD_eq_getD_getElem?, List.getElem?_toArray, List.getElem?_cons_succ, List.getElem?_cons_zero, Option.getD_some]; rfl) ?_
    refine (P_in r t ls th (x) (y) _ _ hI tk hn wx wy rfl).mono ?_
    rintro e wm ⟨rfl, hbm⟩
    refine ⟨_, rfl, ?_⟩
    have hz := hKx () wm trivial hbm
    dsimp only [detS] at hz
    exact hz
  rintro ⟨⟩
  dsimp only [detS]
  simp only [Act.put, putS]
  refine wpRL_chunk 8 (by kernel_rfl) ?_
  simp only [takS, Nat.reduceAdd]
  repeat (first | go_big_quiet_skip | (go_big_quiet_want; first | (refine quiet_loadAny (t := 78) rfl _ _ _ rfl (fun w hw => run_load_fn ((ov_B r2 w hw).cellL 0 rfl)) (by first | rfl | omega) ?_; simp only [Act.put, putS]; go_big_quiet_on) | (refine quiet_loadAny (t := 3) rfl _ _ _ rfl (fun w hw => run_load_int ((ov_B r3 w hw).cellL 0 rfl)) (by first | rfl | omega) ?_; simp only [Act.put, putS]; go_big_quiet_on) | (refine quiet_loadAny (t := 3) rfl _ _ _ rfl (fun w hw => run_load_int ((ov_B r3 w hw).cellL 1 rfl)) (by first | rfl | omega) ?_; simp only [Act.put, putS]; go_big_quiet_on) | (refine quiet_loadAny (t := 3) rfl _ _ _ rfl (fun w hw => run_load_int ((ov_B r3 w hw).cellL 2 rfl)) (by first | rfl | omega) ?_; simp only [Act.put, putS]; go_big_quiet_on) | (go_big_quiet_op; go_big_quiet_on)))
  refine wpQuiet_nil ?_
  refine wpRL_callB (by rfl) (by first | rfl | simp [Region.wanted, yielded]) ?_ ?_
  · intro wn hbn hE Kx hKx
    have hsz := B.size
    have hzn := hbn.size
    replace B := B.trans (hbn.mono B.size)
    (try first | replace r2 := r2.of_eq (hbn.block _ r2.lt) | replace r2 := r2.below hbn)
    (try first | replace r3 := r3.of_eq (hbn.block _ r3.lt) | replace r3 := r3.below hbn)
    (try first | replace hI := hI.of_eq (hbn.block _ hI.lt) | replace hI := hI.below hbn)
    refine wp_callV rfl (by simp only [List.map_toArray, List.map_cons, List.map_nil, Act.eval, Array.getD_eq_getD_getElem?, List.getElem?_toArray, List.getElem?_cons_succ, List.getElem?_cons_zero, Option.getD_some]; rfl) (enters_of Try.func50 (by kernel_rfl) rfl) (by simp only [List.map_toArray, List.map_cons, List.map_nil, Act.eval, Array.getD_eq_getD_getElem?, List.getElem?_toArray, List.getElem?_cons_succ, List.getElem?_cons_zero, Option.getD_some]; rfl) ?_
    refine (P_in r t ls th (x - 1) (y - 1) _ _ hI tk hn wx1 wy1 rfl).mono ?_
    rintro e wm ⟨rfl, hbm⟩
    refine ⟨_, rfl, ?_⟩
    have hz := hKx () wm trivial hbm
    dsimp only [detS] at hz
    exact hz
  rintro ⟨⟩
  dsimp only [detS]
  simp only [Act.put, putS]
  refine wpRL_chunk 7 (by kernel_rfl) ?_
  simp only [takS, Nat.reduceAdd]
  repeat (first | go_big_quiet_skip | (go_big_quiet_want; first | (refine quiet_loadAny (t := 78) rfl _ _ _ rfl (fun w hw => run_load_fn ((ov_B r2 w hw).cellL 0 rfl)) (by first | rfl | omega) ?_; simp only [Act.put, putS]; go_big_quiet_on) | (refine quiet_loadAny (t := 3) rfl _ _ _ rfl (fun w hw => run_load_int ((ov_B r3 w hw).cellL 0 rfl)) (by first | rfl | omega) ?_; simp only [Act.put, putS]; go_big_quiet_on) | (refine quiet_loadAny (t := 3) rfl _ _ _ rfl (fun w hw => run_load_int ((ov_B r3 w hw).cellL 1 rfl)) (by first | rfl | omega) ?_; simp only [Act.put, putS]; go_big_quiet_on) | (refine quiet_loadAny (t := 3) rfl _ _ _ rfl (fun w hw => run_load_int ((ov_B r3 w hw).cellL 2 rfl)) (by first | rfl | omega) ?_; simp only [Act.put, putS]; go_big_quiet_on) | (go_big_quiet_op; go_big_quiet_on)))
  refine wpQuiet_nil ?_
  refine wpRL_callB (by rfl) (by first | rfl | simp [Region.wanted, yielded]) ?_ ?_
  · intro wn hbn hE Kx hKx
    have hsz := B.size
    have hzn := hbn.size
    replace B := B.trans (hbn.mono B.size)
    (try first | replace r2 := r2.of_eq (hbn.block _ r2.lt) | replace r2 := r2.below hbn)
    (try first | replace r3 := r3.of_eq (hbn.block _ r3.lt) | replace r3 := r3.below hbn)
    (try first | replace hI := hI.of_eq (hbn.block _ hI.lt) | replace hI := hI.below hbn)
    refine wp_callV rfl (by simp only [List.map_toArray, List.map_cons, List.map_nil, Act.eval, Array.getD_eq_getD_getElem?, List.getElem?_toArray, List.getElem?_cons_succ, List.getElem?_cons_zero, Option.getD_some]; rfl) (enters_of Try.func50 (by kernel_rfl) rfl) (by simp only [List.map_toArray, List.map_cons, List.map_nil, Act.eval, Array.getD_eq_getD_getElem?, List.getElem?_toArray, List.getElem?_cons_succ, List.getElem?_cons_zero, Option.getD_some]; rfl) ?_
    refine (P_in r t ls th (x) (y - 1) _ _ hI tk hn wx wy1 rfl).mono ?_
    rintro e wm ⟨rfl, hbm⟩
    refine ⟨_, rfl, ?_⟩
    have hz := hKx () wm trivial hbm
    dsimp only [detS] at hz
    exact hz
  rintro ⟨⟩
  dsimp only [detS]
  simp only [Act.put, putS]
  refine wpRL_chunk 4 (by kernel_rfl) ?_
  simp only [takS, Nat.reduceAdd]
  repeat (first | go_big_quiet_skip | (go_big_quiet_want; first | (go_big_quiet_op; go_big_quiet_on)))
  refine wpQuiet_nil ?_
  refine wpRL_nil ?_
  intro wn hbn hE
  have hsz := B.size
  have hzn := hbn.size
  replace B := B.trans (hbn.mono B.size)
  (try first | replace r2 := r2.of_eq (hbn.block _ r2.lt) | replace r2 := r2.below hbn)
  (try first | replace r3 := r3.of_eq (hbn.block _ r3.lt) | replace r3 := r3.below hbn)
  (try first | replace hI := hI.of_eq (hbn.block _ hI.lt) | replace hI := hI.below hbn)
  clear hE
  try simp only [List.drop_succ_cons, List.drop_zero]
  refine NoPan.normal ?_
  go_upto_region 2 with fail
  have he := Lib.hid (show outD (setG ls th (x - 1) (y - 1)) (setG ls th x (y - 1)) (setG ls th (x - 1) y) (setG ls th x y) d = b from HE.out)
  generalize setG ls th (x - 1) y = b1 at *
  generalize setG ls th x y = b2 at *
  generalize setG ls th (x - 1) (y - 1) = b3 at *
  generalize setG ls th x (y - 1) = b4 at *
  clear HE wx wy wx1 wy1 hx hy
  cases b1 <;> cases b2 <;> cases b3 <;> cases b4 <;> (
    refine wp_region_lit ?_
    try simp only [List.getElem_toArray, List.getElem_cons_zero, List.getElem_cons_succ]
    refine wpList_chunk 23 (by kernel_rfl) ?_
    simp only [takS, Nat.reduceAdd]
    repeat (first | go_big_quiet_skip | (go_big_quiet_want; first | (refine quiet_loadAny (t := 3) rfl _ _ _ rfl (fun w hw => run_load_int ((ov_B r3 w hw).cellL 2 rfl)) (by first | rfl | omega) ?_; simp only [Act.put, putS]; go_big_quiet_on) | (go_big_quiet_op; go_big_quiet_on)))
    refine wpQuiet_nil ?_
    rcases dir4 hd with rfl | rfl | rfl | rfl <;> (
      refine wpList_val rfl (.bool b) (by rw [← he.out]; kernel_rfl) ?_
      simp only [Act.put, putS]
      try simp only [List.getElem_toArray, List.getElem_cons_zero, List.getElem_cons_succ]
      refine wpList_chunk 1 (by kernel_rfl) ?_
      simp only [takS, Nat.reduceAdd]
      repeat (first | go_big_quiet_skip | (go_big_quiet_want; first | (go_big_quiet_op; go_big_quiet_on)))
      refine wpQuiet_nil ?_
      refine wpList_nil ?_
      go_wp2
      go_ret
      exact ⟨rfl, B⟩))
end Go.Proofs.Ytamgpfblhlfhaaa
/- The end of an edge; the reference's in, edge. -/
namespace Go.Proofs.Ytamgpfblhlfhaaa
open Go.RowKit Go.Shelf Pl
set_option linter.unusedVariables false
set_option linter.unusedSimpArgs false
set_option maxRecDepth 20000
section
variable {o : Oper} {a : Act} {C : World → Prop} {K : Act → Prop}
theorem quiet_indexA {t : TypeId} {x i : Operand} (h : o.op = .index t x i) (vs : Array Value) (hx : a.eval x = .agg vs) (j : Int) (hi : a.eval i = .int .i64 j) (u : Value) (hr : ∀ w, (Instr.index t (.agg vs) (.int .i64 j)).run Try.prog w = .ok u w) (hk : K (a.put o.dst u)) : o.quiet Try.prog a C K :=
  ⟨_, fun w hw => by unfold Oper.quietAt execOp; simp only [h, hx, hi, hr w, Sem.run_bind, Sem.run_pure, Result.andThen_ok]; exact ⟨rfl, rfl⟩, hk⟩
end
set_option maxHeartbeats 2000000 in
theorem P_on (x y d : Int) (w : World) (hx : -100000 ≤ x ∧ x ≤ 100000) (hy : -100000 ≤ y ∧ y ≤ 100000) (hd : 0 ≤ d ∧ d ≤ 3) : Calls Try.prog 97 #[.agg #[.int .i64 x, .int .i64 y, .int .i64 d]] w fun e w' => e = .returned (.tuple #[.int .i64 (x + dxE d), .int .i64 (y + dyE d)]) ∧ Below w.heap.size w w' := by
  have B := Below.refl w.heap.size w
  rcases dir4 hd with rfl | rfl | rfl | rfl
  · go_enter Try.func97, Try.ntmps97
    go_upto_region 0 with fail
    refine wp_region_lit ?_
    try simp only [List.getElem_toArray, List.getElem_cons_zero, List.getElem_cons_succ]
    (refine wpList_boxB (t := 83) rfl _ rfl _ rfl ?_; intro b_r1 wn hle hge ht hbn hzn; have hsz := B.size; replace B := B.trans (hbn.mono (by omega)); have hln := Nat.lt_of_lt_of_eq (Nat.lt_succ_self _) hzn.symm; clear hzn; have r1 := ht; clear ht; simp only [Act.put, putS])
    refine wpList_chunk 2 (by kernel_rfl) ?_
    simp only [takS, Nat.reduceAdd]
    repeat (first | go_big_quiet_skip | (go_big_quiet_want; first | (go_big_quiet_op; go_big_quiet_on)))
    refine wpQuiet_nil ?_
    refine wpList_nil ?_
    go_upto_region 1 with fail
    try simp only [List.getElem_toArray, List.getElem_cons_zero, List.getElem_cons_succ]
    try have lx_r1 := r1.lt
    refine wp_region_RL 16 [] (by kernel_rfl) (by kernel_rfl) (by kernel_rfl) ?_
    rotate_left 0
    simp only [takS, Nat.reduceAdd]
    refine wpRL_chunk 16 (by kernel_rfl) ?_
    simp only [takS, Nat.reduceAdd]
    repeat (first | go_big_quiet_skip | (go_big_quiet_want; first | (refine quiet_loadAny (t := 3) rfl _ _ _ rfl (fun w hw => run_load_int ((ov_B r1 w hw).cellL 0 rfl)) (by first | rfl | omega) ?_; simp only [Act.put, putS]; go_big_quiet_on) | (refine quiet_loadAny (t := 3) rfl _ _ _ rfl (fun w hw => run_load_int ((ov_B r1 w hw).cellL 1 rfl)) (by first | rfl | omega) ?_; simp only [Act.put, putS]; go_big_quiet_on) | (refine quiet_loadAny (t := 3) rfl _ _ _ rfl (fun w hw => run_load_int ((ov_B r1 w hw).cellL 2 rfl)) (by first | rfl | omega) ?_; simp only [Act.put, putS]; go_big_quiet_on) | (refine quiet_indexA rfl #[.int .i64 1, .int .i64 0, .int .i64 (-1), .int .i64 0] rfl _ rfl (.int .i64 (1)) (fun w => by kernel_rfl) ?_; simp only [Act.put, putS]; go_big_quiet_on) | (refine quiet_indexA rfl #[.int .i64 0, .int .i64 1, .int .i64 0, .int .i64 (-1)] rfl _ rfl (.int .i64 (0)) (fun w => by kernel_rfl) ?_; simp only [Act.put, putS]; go_big_quiet_on) | (go_big_quiet_op; go_big_quiet_on)))
    refine wpQuiet_nil ?_
    refine wpRL_nil ?_
    intro wn hbn hE
    have hsz := B.size
    have hzn := hbn.size
    replace B := B.trans (hbn.mono B.size)
    (try first | replace r1 := r1.of_eq (hbn.block _ r1.lt) | replace r1 := r1.below hbn)
    clear hE
    try simp only [List.drop_succ_cons, List.drop_zero]
    refine NoPan.normal ?_
    go_wp2
    go_ret2
    exact ⟨by simp [dxE, dyE] <;> omega, B⟩
  · go_enter Try.func97, Try.ntmps97
    go_upto_region 0 with fail
    refine wp_region_lit ?_
    try simp only [List.getElem_toArray, List.getElem_cons_zero, List.getElem_cons_succ]
    (refine wpList_boxB (t := 83) rfl _ rfl _ rfl ?_; intro b_r1 wn hle hge ht hbn hzn; have hsz := B.size; replace B := B.trans (hbn.mono (by omega)); have hln := Nat.lt_of_lt_of_eq (Nat.lt_succ_self _) hzn.symm; clear hzn; have r1 := ht; clear ht; simp only [Act.put, putS])
    refine wpList_chunk 2 (by kernel_rfl) ?_
    simp only [takS, Nat.reduceAdd]
    repeat (first | go_big_quiet_skip | (go_big_quiet_want; first | (go_big_quiet_op; go_big_quiet_on)))
    refine wpQuiet_nil ?_
    refine wpList_nil ?_
    go_upto_region 1 with fail
    try simp only [List.getElem_toArray, List.getElem_cons_zero, List.getElem_cons_succ]
    try have lx_r1 := r1.lt
    refine wp_region_RL 16 [] (by kernel_rfl) (by kernel_rfl) (by kernel_rfl) ?_
    rotate_left 0
    simp only [takS, Nat.reduceAdd]
    refine wpRL_chunk 16 (by kernel_rfl) ?_
    simp only [takS, Nat.reduceAdd]
    repeat (first | go_big_quiet_skip | (go_big_quiet_want; first | (refine quiet_loadAny (t := 3) rfl _ _ _ rfl (fun w hw => run_load_int ((ov_B r1 w hw).cellL 0 rfl)) (by first | rfl | omega) ?_; simp only [Act.put, putS]; go_big_quiet_on) | (refine quiet_loadAny (t := 3) rfl _ _ _ rfl (fun w hw => run_load_int ((ov_B r1 w hw).cellL 1 rfl)) (by first | rfl | omega) ?_; simp only [Act.put, putS]; go_big_quiet_on) | (refine quiet_loadAny (t := 3) rfl _ _ _ rfl (fun w hw => run_load_int ((ov_B r1 w hw).cellL 2 rfl)) (by first | rfl | omega) ?_; simp only [Act.put, putS]; go_big_quiet_on) | (refine quiet_indexA rfl #[.int .i64 1, .int .i64 0, .int .i64 (-1), .int .i64 0] rfl _ rfl (.int .i64 (0)) (fun w => by kernel_rfl) ?_; simp only [Act.put, putS]; go_big_quiet_on) | (refine quiet_indexA rfl #[.int .i64 0, .int .i64 1, .int .i64 0, .int .i64 (-1)] rfl _ rfl (.int .i64 (1)) (fun w => by kernel_rfl) ?_; simp only [Act.put, putS]; go_big_quiet_on) | (go_big_quiet_op; go_big_quiet_on)))
    refine wpQuiet_nil ?_
    refine wpRL_nil ?_
    intro wn hbn hE
    have hsz := B.size
    have hzn := hbn.size
    replace B := B.trans (hbn.mono B.size)
    (try first | replace r1 := r1.of_eq (hbn.block _ r1.lt) | replace r1 := r1.below hbn)
    clear hE
    try simp only [List.drop_succ_cons, List.drop_zero]
    refine NoPan.normal ?_
    go_wp2
    go_ret2
    exact ⟨by simp [dxE, dyE] <;> omega, B⟩
  · go_enter Try.func97, Try.ntmps97
    go_upto_region 0 with fail
    refine wp_region_lit ?_
    try simp only [List.getElem_toArray, List.getElem_cons_zero, List.getElem_cons_succ]
    (refine wpList_boxB (t := 83) rfl _ rfl _ rfl ?_; intro b_r1 wn hle hge ht hbn hzn; have hsz := B.size; replace B := B.trans (hbn.mono (by omega)); have hln := Nat.lt_of_lt_of_eq (Nat.lt_succ_self _) hzn.symm; clear hzn; have r1 := ht; clear ht; simp only [Act.put, putS])
    refine wpList_chunk 2 (by kernel_rfl) ?_
    simp only [takS, Nat.reduceAdd]
    repeat (first | go_big_quiet_skip | (go_big_quiet_want; first | (go_big_quiet_op; go_big_quiet_on)))
    refine wpQuiet_nil ?_
    refine wpList_nil ?_
    go_upto_region 1 with fail
    try simp only [List.getElem_toArray, List.getElem_cons_zero, List.getElem_cons_succ]
    try have lx_r1 := r1.lt
    refine wp_region_RL 16 [] (by kernel_rfl) (by kernel_rfl) (by kernel_rfl) ?_
    rotate_left 0
    simp only [takS, Nat.reduceAdd]
    refine wpRL_chunk 16 (by kernel_rfl) ?_
    simp only [takS, Nat.reduceAdd]
    repeat (first | go_big_quiet_skip | (go_big_quiet_want; first | (refine quiet_loadAny (t := 3) rfl _ _ _ rfl (fun w hw => run_load_int ((ov_B r1 w hw).cellL 0 rfl)) (by first | rfl | omega) ?_; simp only [Act.put, putS]; go_big_quiet_on) | (refine quiet_loadAny (t := 3) rfl _ _ _ rfl (fun w hw => run_load_int ((ov_B r1 w hw).cellL 1 rfl)) (by first | rfl | omega) ?_; simp only [Act.put, putS]; go_big_quiet_on) | (refine quiet_loadAny (t := 3) rfl _ _ _ rfl (fun w hw => run_load_int ((ov_B r1 w hw).cellL 2 rfl)) (by first | rfl | omega) ?_; simp only [Act.put, putS]; go_big_quiet_on) | (refine quiet_indexA rfl #[.int .i64 1, .int .i64 0, .int .i64 (-1), .int .i64 0] rfl _ rfl (.int .i64 (-1)) (fun w => by kernel_rfl) ?_; simp only [Act.put, putS]; go_big_quiet_on) | (refine quiet_indexA rfl #[.int .i64 0, .int .i64 1, .int .i64 0, .int .i64 (-1)] rfl _ rfl (.int .i64 (0)) (fun w => by kernel_rfl) ?_; simp only [Act.put, putS]; go_big_quiet_on) | (go_big_quiet_op; go_big_quiet_on)))
    refine wpQuiet_nil ?_
    refine wpRL_nil ?_
    intro wn hbn hE
    have hsz := B.size
    have hzn := hbn.size
    replace B := B.trans (hbn.mono B.size)
    (try first | replace r1 := r1.of_eq (hbn.block _ r1.lt) | replace r1 := r1.below hbn)
    clear hE
    try simp only [List.drop_succ_cons, List.drop_zero]
    refine NoPan.normal ?_
    go_wp2
    go_ret2
    exact ⟨by simp [dxE, dyE] <;> omega, B⟩
  · go_enter Try.func97, Try.ntmps97
    go_upto_region 0 with fail
    refine wp_region_lit ?_
    try simp only [List.getElem_toArray, List.getElem_cons_zero, List.getElem_cons_succ]
    (refine wpList_boxB (t := 83) rfl _ rfl _ rfl ?_; intro b_r1 wn hle hge ht hbn hzn; have hsz := B.size; replace B := B.trans (hbn.mono (by omega)); have hln := Nat.lt_of_lt_of_eq (Nat.lt_succ_self _) hzn.symm; clear hzn; have r1 := ht; clear ht; simp only [Act.put, putS])
    refine wpList_chunk 2 (by kernel_rfl) ?_
    simp only [takS, Nat.reduceAdd]
    repeat (first | go_big_quiet_skip | (go_big_quiet_want; first | (go_big_quiet_op; go_big_quiet_on)))
    refine wpQuiet_nil ?_
    refine wpList_nil ?_
    go_upto_region 1 with fail
    try simp only [List.getElem_toArray, List.getElem_cons_zero, List.getElem_cons_succ]
    try have lx_r1 := r1.lt
    refine wp_region_RL 16 [] (by kernel_rfl) (by kernel_rfl) (by kernel_rfl) ?_
    rotate_left 0
    simp only [takS, Nat.reduceAdd]
    refine wpRL_chunk 16 (by kernel_rfl) ?_
    simp only [takS, Nat.reduceAdd]
    repeat (first | go_big_quiet_skip | (go_big_quiet_want; first | (refine quiet_loadAny (t := 3) rfl _ _ _ rfl (fun w hw => run_load_int ((ov_B r1 w hw).cellL 0 rfl)) (by first | rfl | omega) ?_; simp only [Act.put, putS]; go_big_quiet_on) | (refine quiet_loadAny (t := 3) rfl _ _ _ rfl (fun w hw => run_load_int ((ov_B r1 w hw).cellL 1 rfl)) (by first | rfl | omega) ?_; simp only [Act.put, putS]; go_big_quiet_on) | (refine quiet_loadAny (t := 3) rfl _ _ _ rfl (fun w hw => run_load_int ((ov_B r1 w hw).cellL 2 rfl)) (by first | rfl | omega) ?_; simp only [Act.put, putS]; go_big_quiet_on) | (refine quiet_indexA rfl #[.int .i64 1, .int .i64 0, .int .i64 (-1), .int .i64 0] rfl _ rfl (.int .i64 (0)) (fun w => by kernel_rfl) ?_; simp only [Act.put, putS]; go_big_quiet_on) | (refine quiet_indexA rfl #[.int .i64 0, .int .i64 1, .int .i64 0, .int .i64 (-1)] rfl _ rfl (.int .i64 (-1)) (fun w => by kernel_rfl) ?_; simp only [Act.put, putS]; go_big_quiet_on) | (go_big_quiet_op; go_big_quiet_on)))
    refine wpQuiet_nil ?_
    refine wpRL_nil ?_
    intro wn hbn hE
    have hsz := B.size
    have hzn := hbn.size
    replace B := B.trans (hbn.mono B.size)
    (try first | replace r1 := r1.of_eq (hbn.block _ r1.lt) | replace r1 := r1.below hbn)
    clear hE
    try simp only [List.drop_succ_cons, List.drop_zero]
    refine NoPan.normal ?_
    go_wp2
    go_ret2
    exact ⟨by simp [dxE, dyE] <;> omega, B⟩
end Go.Proofs.Ytamgpfblhlfhaaa
/- A range over an iterator that keeps a block of its own and writes it between two rounds; a body that writes a map. Marks of several such statements. -/
namespace Go.Proofs.Ytamgpfblhlfhaaa
open Go Go.RowKit
set_option linter.unusedVariables false
set_option linter.unusedSimpArgs false
/-- The turn of block c is borne. -/
def AbidesOwn {β : Type} (c : Nat) (J : β → World → Prop) : Prop :=
  ∀ s W W' row, J s W → W.grownBy W' row → (∀ r, row = some r → r = c) → J s W'
theorem AbidesOwn.below {β : Type} {c : Nat} {J : β → World → Prop} (h : AbidesOwn c J) {s : β} {W W' : World} (hs : J s W) (hb : Below W.heap.size W W') : J s W' :=
  h s W W' none hs (grown_of_below hb) (fun r e => by cases e)
/-- An iterator whose call lays a block of its own first: what it hands over, each time what Al says. -/
def SeqOwn {α : Type} (F : Fence) (n : Nat) (P : Program) (g : Nat) (lb : Array Value) (encs : α → Array Value) (Kp : Nat → World → World → Prop) (S : List α → Prop) (Al : List α → α → Prop) (w : World) : Prop :=
  ∀ (l : Nat) (J : List α → World → Prop) (W : World), Below w.heap.size w W → AbidesOwn W.heap.size J →
    (∀ pre x W1, J pre W1 → Al pre x → W.heap.size < W1.heap.size → YieldAt F (n - 1) P l (encs x) W1 fun e W' => e = .returned (.bool true) ∧ J (pre ++ [x]) W' ∧ Kp W.heap.size W1 W') →
    J [] W →
    CallsIn F n P g (#[.func (.yield l) #[] #[]] ++ lb) W fun e W' => (∃ v, e = .returned v) ∧ ∃ xs, S xs ∧ J xs W'
/-- How the body of a round is left: it goes on; the two blocks from B on lie as they lay. -/
def ownPostT {α : Type} (B : Nat) (Kp : World → World → Prop) (I : List α → World → Prop) (xs : List α) (W : World) : Exit → Act → World → Prop
  | .normal, _, W' => (∀ k o, B ≤ k → k < B + 2 → W.heap[k]? = some o → W'.heap[k]? = some o) ∧ Kp W W' ∧ I xs W'
  | _, _, _ => False
section
variable {F : Fence} {n : Nat} {P : Program}
theorem rangeFunc_own {α : Type} {g : Operand} {ps : Array Tmp} {assign body : Code} {Q : Exit → Act → World → Prop} {a : Act} {w : World}
    (hro : F.round = none) (h1 : 1 ≤ n) {gf : Nat} {lb : Array Value} (hg : a.eval g = .func (.func gf) #[] lb) (hFg : F.fn gf) (eg : ∀ args w, (callFunc gf args).run P w = .ok (.enter gf args) w)
    {encs : α → Array Value} {Kp : Nat → World → World → Prop} {S : List α → Prop} {Al : List α → α → Prop} {w0 : World} (hseq : SeqOwn F (n - 1) P gf lb encs Kp S Al w0)
    (hKt : ∀ {A B C : World}, Kp (w.heap.size + 2) A B → Kp (w.heap.size + 2) B C → Kp (w.heap.size + 2) A C) (hKb : ∀ (W : World) (l : Nat) (o o' : Obj), W.heap[l]? = some o → o.isCells = false → Kp (w.heap.size + 2) W (W.putObj l o'))
    (hKg : ∀ (A B : World), Below A.heap.size A B → Kp (w.heap.size + 2) A B) (hb0 : Below w0.heap.size w0 w) (hps : ∀ x, (encs x).size = ps.size)
    (I : List α → World → Prop) (hI : OwnFrom w.heap.size I) (hIo : AbidesOwn (w.heap.size + 2) I) (h0 : I [] w) (As : α → Act → World → Prop) (hAs : ∀ x, OwnFrom w.heap.size (As x))
    (hassign : ∀ (l : Nat) (pre : List α) (x : α) (W : World) (K : Act → World → Prop), I pre W → w.heap.size + 2 < W.heap.size → (∀ a' W', Below W.heap.size W W' → As x a' W' → K a' W') →
      assign.wpIn (F.inRound l) (n - 1 - 1) P (Exit.then K (fun _ _ _ => False)) { tmps := (ps.zip (encs x)).foldl (fun t (p, v) => t.setIfInBounds p v) a.tmps, defers := [] } W)
    (hbody : ∀ (l : Nat) (pre : List α) (x : α) (W : World) (a' : Act), I pre W → As x a' W → Al pre x → w.heap.size + 2 < W.heap.size → body.wpIn (F.inRound l) (n - 1 - 1) P (ownPostT w.heap.size (Kp (w.heap.size + 2)) I (pre ++ [x]) W) a' W)
    (hdone : ∀ (D : Nat) (xs : List α) (W : World), w.heap.size ≤ D → S xs → I xs W → W.heap[D]? = some (.deferred (some [])) → Q .normal { a with defers := { target := .collected D, args := #[] } :: a.defers } W) :
    (Code.rangeFunc g ps assign body).wpIn F n P Q a w := by
  refine wpIn_rangeFunc fun fn hfn => ?_
  rw [hro]
  obtain ⟨rc, hrc⟩ : ∃ rc : LoopState → Option Code → Loop, rc = fun st pe => { state := st, pending := pe, fn, tmps := a.tmps, params := ps, assign, body, defers := w.heap.size } := ⟨_, rfl⟩
  obtain ⟨W1, hW1⟩ : ∃ W1, (w.alloc (.deferred (some []))).alloc (.loop (rc .ready none)) = W1 := ⟨_, rfl⟩
  have blkL : W1.heap[w.heap.size + 1]? = some (.loop (rc .ready none)) := by
    have := World.alloc_heap_new (w.alloc (.deferred (some []))) (.loop (rc .ready none))
    rw [← hW1]
    rwa [World.size_alloc] at this
  have blkD : W1.heap[w.heap.size]? = some (.deferred (some [])) := by
    rw [← hW1]
    exact (Below.heap_alloc _ _ _ (by simp)).trans (World.alloc_heap_new w _)
  have grown : Below w0.heap.size w0 W1 := by
    rw [← hW1]
    exact hb0.trans ((((Below.refl _ w).alloc (Nat.le_refl _) _).alloc (by simp) _).mono hb0.size)
  have szW1 : W1.heap.size = w.heap.size + 2 := by rw [← hW1]; simp [World.size_alloc]
  have start : I [] W1 := by rw [← hW1]; exact hI.alloc _ (hI.alloc _ h0)
  refine ⟨w.heap.size + 1, [{ target := .collected w.heap.size, args := #[] }], W1, { target := .fn (.func gf) lb, args := #[.func (.yield (w.heap.size + 1)) #[] #[]] }, W1, gf,
    #[.func (.yield (w.heap.size + 1)) #[] #[]] ++ lb, W1, ?_, ?_, ?_, ?_, fun _ => h1, ?_⟩
  · rw [← hW1, hrc]; exact run_enterLoop_outer _ _ _ _ _
  · simp only [resolve, hg]
    simp [go_sem]
  · intro f' hf'
    simp [Target.leads] at hf'
    subst hf'
    exact hFg
  · simp [invoke, go_sem, eg]
  refine (hseq (w.heap.size + 1)
    (fun pre W => I pre W ∧ W.heap[w.heap.size + 1]? = some (.loop (rc .ready none)) ∧ W.heap[w.heap.size]? = some (.deferred (some [])))
    W1 grown
    (fun s A B row hs hg' hr => ⟨hIo s A B row hs.1 hg' (fun r e => (hr r e).trans szW1), (hg'.block _ (Array.getElem?_eq_some_iff.1 hs.2.1).1 (fun e => by have := hr _ e.symm; omega)).trans hs.2.1, (hg'.block _ (Array.getElem?_eq_some_iff.1 hs.2.2).1 (fun e => by have := hr _ e.symm; omega)).trans hs.2.2⟩)
    ?_ ⟨start, blkL, blkD⟩).mono ?_
  · rintro pre x W ⟨hi, hl, hk⟩ hal hgt
    rw [szW1] at hgt ⊢
    have hy := run_yield (P := P) (args := encs x) hl (by rw [hrc]; exact hps x)
    rw [hrc] at hy
    refine ⟨fn, _, assign, body, hy, roundIn_of_wpIn hfn (hassign _ pre x W _ hi hgt fun a' V hb ha => ?_)⟩
    have hlV : V.heap[w.heap.size + 1]? = some (.loop (rc .ready none)) := (hb.block _ (Array.getElem?_eq_some_iff.1 hl).1).trans hl
    have hkV : V.heap[w.heap.size]? = some (.deferred (some [])) := (hb.block _ (Array.getElem?_eq_some_iff.1 hk).1).trans hk
    have hiV : I pre V := hI pre W V none hi (grown_of_below hb) (fun r e => by cases e)
    refine ⟨_, run_beginRound hlV (by rw [hrc]), ?_⟩
    obtain ⟨V1, hV1⟩ : ∃ V1, V.putObj (w.heap.size + 1) (.loop { rc .ready none with state := .busy }) = V1 := ⟨_, rfl⟩
    have hl1 : V1.heap[w.heap.size + 1]? = some (.loop { rc .ready none with state := .busy }) := by rw [← hV1]; exact World.putObj_heap_same (Array.getElem?_eq_some_iff.1 hlV).1
    have hk1 : V1.heap[w.heap.size]? = some (.deferred (some [])) := by rw [← hV1]; exact (World.putObj_heap_other (by omega)).trans hkV
    have hKp1 : Kp (w.heap.size + 2) W V1 := hKt (hKg _ _ hb) (by rw [← hV1]; exact hKb _ _ _ _ hlV rfl)
    have hi1 : I pre V1 := by rw [← hV1]; exact hI.putObj _ hiV (by omega) hlV rfl
    have ha1 : As x a' V1 := by rw [← hV1]; exact (hAs x).putObj _ ha (by omega) hlV rfl
    have hgt1 : w.heap.size + 2 < V1.heap.size := by
      have := hb.size
      rw [← hV1, World.putObj_size]; omega
    rw [hV1]
    refine wpIn_mono (hbody _ pre x V1 a' hi1 ha1 hal hgt1) ?_
    rintro e a3 W3 hp
    cases e with
    | normal =>
      obtain ⟨ko, kp, hi3⟩ := hp
      have hl3 := ko _ _ (by omega) (by omega) hl1
      have hk3 := ko _ _ (Nat.le_refl _) (by omega) hk1
      have he := run_endRound (P := P) none hl3
      rw [hrc] at he
      refine ⟨_, _, he, rfl, ⟨hI.putObj _ hi3 (by omega) hl3 rfl, ?_, (World.putObj_heap_other (by omega)).trans hk3⟩, hKt (hKt hKp1 kp) (hKb _ _ _ _ hl3 rfl)⟩
      rw [World.putObj_heap_same (Array.getElem?_eq_some_iff.1 hl3).1, hrc]
      rfl
    | ret => exact hp.elim
    | exit id => exact hp.elim
    | goto t => exact hp.elim
    | panic ch => exact hp.elim
    | outgrown => exact hp.elim
  · rintro e W2 ⟨⟨v, rfl⟩, xs, hS, hi, hl, hk⟩
    have he := run_endLoop (P := P) hl (by rw [hrc]; simp)
    rw [hrc] at he
    exact ⟨none, _, he, hdone _ xs _ (Nat.le_refl _) hS (hI.putObj _ hi (by omega) hl rfl) ((World.putObj_heap_other (by omega)).trans hk)⟩
end
end Go.Proofs.Ytamgpfblhlfhaaa
/- The iterator over the edges of a polygon: its contract. -/
namespace Go.Proofs.Ytamgpfblhlfhaaa
open Go.RowKit Go.Shelf Pl
attribute [local go_sem] Oper.semAt_some
set_option linter.unusedVariables false
set_option linter.unusedSimpArgs false
set_option maxRecDepth 20000
/-- The cells below n lie as they lay. -/
def HoldC (n : Nat) (W W' : World) : Prop := ∀ (k : Nat) (o : Obj), k < n → W.heap[k]? = some o → o.isCells = true → W'.heap[k]? = some o
theorem HoldC.of_below {n : Nat} {W W' : World} (h : Below n W W') : HoldC n W W' := fun k o hk ho _ => (h.block k hk).trans ho
theorem HoldC.below {n : Nat} {A B C : World} (h : HoldC n A B) (hb : Below B.heap.size B C) : HoldC n A C := fun k o hk ho hc => by
  have h1 := h k o hk ho hc
  exact (hb.block k (Array.getElem?_eq_some_iff.1 h1).1).trans h1
theorem HoldC.chg {n b : Nat} {t : TypeId} {cs : Array Value} {A B C : World} (h : HoldC n A B) (ho : AtB t B b cs) (hb : n ≤ b) (hc : Chg b B C) : HoldC n A C := fun k o hk ho hcl => by
  have h1 := h k o hk ho hcl
  exact (hc.block k (Array.getElem?_eq_some_iff.1 h1).1 (by omega)).trans h1
theorem AtB.hold {n b : Nat} {t : TypeId} {cs : Array Value} {W W' : World} (h : AtB t W b cs) (hb : b < n) (hc : HoldC n W W') : AtB t W' b cs := hc b _ hb h rfl
theorem cells_obj {W : World} {g o : Nat} {v : Value} (h : W.cell? ⟨g, o, none⟩ = some v) : ∃ x : Obj, W.heap[g]? = some x ∧ x.isCells = true := by
  unfold World.cell? at h
  cases hx : W.heap[g]? with
  | none => simp [hx] at h
  | some x => exact ⟨x, rfl, cell_not (by unfold World.cell?; exact h) x hx⟩
theorem RS.hold {v : Value} {ls : List TA} {n : Nat} {W W' : World} (h : RS v ls W) (hn : W.heap.size ≤ n) (hc : HoldC n W W') : RS v ls W' := by
  rcases h with h | ⟨g, o, c, e, hcp, sc⟩
  · exact .inl h
  · refine .inr ⟨g, o, c, e, hcp, fun hl => ?_⟩
    have rc := sc hl
    have h0 := rc.2 0 hl 0 (by omega)
    obtain ⟨v, hv⟩ : ∃ v, (taC (aT ls 0))[0]? = some v := ⟨_, taC_x _⟩
    rw [hv] at h0
    obtain ⟨x, hx, hxc⟩ := cells_obj h0
    exact rc.of_eq ((hc g x (by have := rc.lt; omega) hx hxc).trans hx.symm)
theorem InB.hold {r t : Nat} {ls : List TA} {th : Int} {W W' : World} (h : InB r t ls th W) (hc : HoldC W.heap.size W W') : InB r t ls th W' := by
  obtain ⟨v, h1, h2, h3⟩ := h
  exact ⟨v, h1.hold h1.lt hc, h2.hold h2.lt hc, h3.hold (Nat.le_refl _) hc⟩
/-- What a round of a body keeps that writes the block bl: the cells below n, the block c. -/
def KpO (n bl c : Nat) (W W' : World) : Prop := W.heap.size ≤ W'.heap.size ∧ ∀ (k : Nat) (o : Obj), (k < n ∧ k ≠ bl ∨ k = c) → W.heap[k]? = some o → o.isCells = true → W'.heap[k]? = some o
theorem KpO.trans {n bl c : Nat} {A B C : World} (h : KpO n bl c A B) (k : KpO n bl c B C) : KpO n bl c A C := ⟨Nat.le_trans h.1 k.1, fun i o hi ho hc => k.2 i o hi (h.2 i o hi ho hc) hc⟩
theorem KpO.putObj {n bl c : Nat} {W : World} {l : Nat} {o : Obj} (o' : Obj) (hl : W.heap[l]? = some o) (ho : o.isCells = false) : KpO n bl c W (W.putObj l o') :=
  ⟨by simp [World.putObj], fun k x hk hx hc => by
    have : k ≠ l := fun e => by rw [e, hl] at hx; cases hx; rw [ho] at hc; cases hc
    exact (World.putObj_heap_other (by omega)).trans hx⟩
theorem KpO.below {n bl c : Nat} {W W' : World} (h : Below W.heap.size W W') : KpO n bl c W W' := ⟨h.size, fun k o _ ho _ => (h.block k (Array.getElem?_eq_some_iff.1 ho).1).trans ho⟩
theorem KpO.atB {n bl c b : Nat} {t : TypeId} {cs : Array Value} {W W' : World} (h : KpO n bl c W W') (hb : b < n ∧ b ≠ bl ∨ b = c) (ha : AtB t W b cs) : AtB t W' b cs := h.2 b _ hb ha rfl
theorem HoldC.kpo {m n bl c : Nat} {A W W' : World} (h : HoldC m A W) (hm : m ≤ n) (hb : m ≤ bl) (k : KpO n bl c W W') : HoldC m A W' := fun i o hi ho hc => k.2 i o (.inl ⟨by omega, by omega⟩) (h i o hi ho hc) hc
section
variable {F : Fence} {n : Nat} {P : Program} {ops : Array Oper} {rest : List Oper} {o : Oper} {a : Act} {w : World} {Q : Exit → Act → World → Prop}
theorem wpListIn_ld {t : TypeId} {x : Operand} (hg : o.guard = none) (hop : o.op = .load t x) (p : Value) (hx : a.eval x = p) (v : Value) (hr : (Instr.loadAt t p).run P w = .ok v w) (h : wpListIn F n P ops Q rest (a.put o.dst v) w) : wpListIn F n P ops Q (o :: rest) a w := by
  refine wpListIn_plain hg fun K' hK' => ?_
  unfold Oper.wpIn
  refine ⟨by simp [Oper.about, hop], ?_⟩
  rw [Oper.semAt_plain F _ _ (by rw [hop]; intro c hc'; cases hc')]
  simp [execOp, hop, hx, hr, Result.andThen]
  exact hK' _ _ h
theorem wpListIn_mv {x : Operand} (hg : o.guard = none) (hop : o.op = .move x) (v : Value) (hx : a.eval x = v) (h : wpListIn F n P ops Q rest (a.put o.dst v) w) : wpListIn F n P ops Q (o :: rest) a w := by
  refine wpListIn_plain hg fun K' hK' => ?_
  unfold Oper.wpIn
  refine ⟨by simp [Oper.about, hop], ?_⟩
  rw [Oper.semAt_plain F _ _ (by rw [hop]; intro c hc'; cases hc')]
  simp [execOp, hop, hx, Result.andThen]
  exact hK' _ _ h
end
theorem least_ex {p : Nat → Prop} (h : ∃ m, p m) : ∃ m, p m ∧ ∀ j, p j → m ≤ j := by
  obtain ⟨m, hm⟩ := h
  induction m using Nat.strongRecOn with
  | _ m ih =>
    by_cases hx : ∃ j, j < m ∧ p j
    · obtain ⟨j, hj, hp⟩ := hx
      exact ih j hj hp
    · exact ⟨m, hm, fun j hj => Nat.le_of_not_lt fun hlt => hx ⟨j, hlt, hj⟩⟩
/-- m is the least number of which p holds. -/
def LeastP (p : Nat → Prop) (m : Nat) : Prop := p m ∧ ∀ j, p j → m ≤ j
theorem eps_least {p : Nat → Prop} (h : ∃ m, p m) : LeastP p (Classical.epsilon (LeastP p)) := Classical.epsilon_spec (least_ex h)
theorem eps_le {p : Nat → Prop} {m : Nat} (h : p m) : Classical.epsilon (LeastP p) ≤ m := (eps_least ⟨m, h⟩).2 m h
theorem P_onO (x y d x' y' : Int) (w : World) (hx : -100000 ≤ x ∧ x ≤ 100000) (hy : -100000 ≤ y ∧ y ≤ 100000) (hd : 0 ≤ d ∧ d ≤ 3) (e1 : x + dxE d = x') (e2 : y + dyE d = y') : Calls Try.prog 97 #[.agg #[.int .i64 x, .int .i64 y, .int .i64 d]] w fun e w' => e = .returned (.tuple #[.int .i64 x', .int .i64 y']) ∧ Below w.heap.size w w' := e1 ▸ e2 ▸ P_on x y d w hx hy hd
def edC (e : Ed) : Array Value := #[.int .i64 e.x, .int .i64 e.y, .int .i64 e.d]
theorem equalIn_stS (d : Nat) (e f : Ed) (w : World) : (Op.equalIn (d + 2) 83 (.agg (edC e)) (.agg (edC f))).run Try.prog w = .ok (decide (e = f)) w := by
  obtain ⟨x, y, z⟩ := e
  obtain ⟨x', y', z'⟩ := f
  have h : (Op.equalIn (d + 2) 83 (.agg (edC ⟨x, y, z⟩)) (.agg (edC ⟨x', y', z'⟩))).run Try.prog w = .ok (x == x' && (y == y' && z == z')) w := by
    simp only [edC]
    by_cases h1 : x = x' <;> by_cases h2 : y = y' <;> by_cases h3 : z = z' <;> simp [go_sem, h1, h2, h3]
  rw [h]
  congr 1
  rw [Bool.eq_iff_iff]
  simp
theorem eql_stS (e f : Ed) (w : World) : (binOp .eql 83 (.agg (edC e)) (.agg (edC f))).run Try.prog w = .ok (.bool (decide (e = f))) w := by
  have h := run_eql_struct (P := Try.prog) w 83 (edC e) (edC f)
  rw [h, equalIn_stS 9998 e f w]; rfl
@[go_sem] theorem guard_stS (op : BinOp) (p q : Operand) (cs ds : Array Value) (w : World) : (eqGuard op 83 p q (.agg cs) (.agg ds)).run Try.prog w = .ok () w := run_eqGuard_agg w op 83 p q _ _ (by kernel_rfl)
section
variable {o : Oper} {a : Act} {C : World → Prop} {K : Act → Prop}
theorem quiet_eqlS {x y : Operand} {t2 : TypeId} (h : o.op = .binOp .eql 83 x y t2) (e f : Ed) (hx : a.eval x = .agg (edC e)) (hy : a.eval y = .agg (edC f)) (b : Bool) (hb : decide (e = f) = b) (hk : K (a.put o.dst (.bool b))) : o.quiet Try.prog a C K :=
  ⟨_, fun w hw => by unfold Oper.quietAt execOp; simp only [h, hx, hy, guard_stS, eql_stS, hb, Sem.run_bind, Sem.run_pure, Result.andThen_ok]; exact ⟨rfl, rfl⟩, hk⟩
end
@[go_sem] theorem guard_stR (op : BinOp) (p q : Operand) (cs ds : Array Value) (w : World) : (eqGuard op 92 p q (.agg cs) (.agg ds)).run Try.prog w = .ok () w := run_eqGuard_agg w op 92 p q _ _ (by kernel_rfl)
section
variable {o : Oper} {a : Act} {C : World → Prop} {K : Act → Prop}
end
theorem run_alloc_St (w : World) (o : Oper) (ho : o.op = .alloc 83) (ev : Operand → Value) : (execOp ev o).run Try.prog w = .ok (.value (.pointer (some ⟨w.heap.size, 0, none⟩))) (w.alloc (.cells #[.int .i64 0, .int .i64 0, .int .i64 0] 83)) := by
  obtain ⟨d, op, ty, pos, af, g⟩ := o
  simp only at ho
  subst ho
  kernel_rfl
theorem P_from (r t : Nat) (x y d : Int) (w : World) : Calls Try.prog 52 #[.agg #[fB r t], .agg #[.int .i64 x, .int .i64 y, .int .i64 d]] w fun v w' => ∃ bs bb, v = .returned (.func (.func 96) #[] #[.pointer (some ⟨bs, 0, none⟩), .pointer (some ⟨bb, 0, none⟩)]) ∧ w.heap.size ≤ bs ∧ w.heap.size ≤ bb ∧ AtB 83 w' bs #[.int .i64 x, .int .i64 y, .int .i64 d] ∧ AtB 80 w' bb #[fB r t] ∧ Below w.heap.size w w' := by
  have B := Below.refl w.heap.size w
  go_enter Try.func52, Try.ntmps52
  go_upto_region 0 with fail
  refine wp_region_lit ?_
  try simp only [List.getElem_toArray, List.getElem_cons_zero, List.getElem_cons_succ]
  (refine wpList_boxB (t := 80) rfl _ rfl _ rfl ?_; intro b_p2 wn hle hge ht hbn hzn; have hsz := B.size; replace B := B.trans (hbn.mono (by omega)); have hln := Nat.lt_of_lt_of_eq (Nat.lt_succ_self _) hzn.symm; clear hzn; have p2 := ht; clear ht; simp only [Act.put, putS])
  (refine wpList_boxB (t := 83) rfl _ rfl _ rfl ?_; intro b_p1 wn hle hge ht hbn hzn; have hsz := B.size; replace B := B.trans (hbn.mono (by omega)); have hln := Nat.lt_of_lt_of_eq (Nat.lt_succ_self _) hzn.symm; clear hzn; (try first | (have hlt := p2.lt; replace p2 := p2.of_eq (hbn.block _ (by omega))) | replace p2 := p2.below (hbn.mono hle)); have p1 := ht; clear ht; simp only [Act.put, putS])
  refine wpList_chunk 1 (by kernel_rfl) ?_
  simp only [takS, Nat.reduceAdd]
  repeat (first | go_big_quiet_skip | (go_big_quiet_want; first | (go_big_quiet_op; go_big_quiet_on)))
  refine wpQuiet_nil ?_
  refine wpList_nil ?_
  go_upto_region 1 with fail
  refine wp_region_lit ?_
  try simp only [List.getElem_toArray, List.getElem_cons_zero, List.getElem_cons_succ]
  (refine wpList_val rfl (.func (.func 96) #[] #[.pointer (some ⟨b_p1, 0, none⟩), .pointer (some ⟨b_p2, 0, none⟩)]) (by first | rfl | simp [go_sem, Act.eval]) ?_; simp only [Act.put, putS])
  refine wpList_chunk 1 (by kernel_rfl) ?_
  simp only [takS, Nat.reduceAdd]
  repeat (first | go_big_quiet_skip | (go_big_quiet_want; first | (go_big_quiet_op; go_big_quiet_on)))
  refine wpQuiet_nil ?_
  refine wpList_nil ?_
  go_wp2
  go_ret
  exact ⟨_, _, rfl, by omega, by omega, p1, p2, B⟩
set_option maxHeartbeats 4000000 in
theorem from_stops (r t : Nat) (ls : List TA) (th : Int) (tk : TokL ls) (hn : ls.length ≤ maxLen) (R : Rc) (hR : -65536 ≤ R.x0 ∧ R.x1 ≤ 65536 ∧ -65536 ≤ R.y0 ∧ R.y1 ≤ 65536) (hbx : BoxE (setG ls th) R) (s : Ed) (hs : Bnd (setG ls th) s) (bs bb bl n : Nat) (hn1 : 1 ≤ n) (w wI : World)
    (p1 : AtB 83 w bs (edC s)) (p2 : AtB 80 w bb #[fB r t]) (hI : InB r t ls th wI) (hw : HoldC wI.heap.size wI w) (hwI : wI.heap.size ≤ w.heap.size) (hbl : wI.heap.size ≤ bl) (h1 : bs ≠ bl) (h2 : bb ≠ bl) :
    SeqOwn Fence.wide n Try.prog 96 #[.pointer (some ⟨bs, 0, none⟩), .pointer (some ⟨bb, 0, none⟩)] (fun e : Ed => #[.agg (edC e)]) (KpO w.heap.size bl) (fun xs => xs = folE (setG ls th) R s) (fun pre x => ∃ k, k < perE (setG ls th) R s ∧ pre = orbK (setG ls th) s k ∧ x = orbE (setG ls th) s k) w := fun l J W0 hW hJa hY hJ => by
  have hl1 := p1.lt
  have hl2 := p2.lt
  replace p1 := p1.of_eq (hW.block _ p1.lt)
  replace p2 := p2.of_eq (hW.block _ p2.lt)
  have HW := hw.below hW
  have hwW := hW.size
  have HI := Lib.hid hI
  have HJ := Lib.hid (fun (s : List Ed) (X Y : World) (hs : J s X) (hb : Exc W0.heap.size X.heap.size X Y) => hJa s X Y (some W0.heap.size) hs ⟨hb.os, hb.tape, hb.output, hb.grow, fun k hk hne => hb.block k hk (fun e => hne (by rw [e]))⟩ (fun r e => by cases e; rfl))
  have HJB := Lib.hid (fun (s : List Ed) (X Y : World) (hs : J s X) (hb : Below X.heap.size X Y) => hJa.below hs hb)
  have HY := Lib.hid hY
  have HP := Lib.hid (perE_spec hbx hs)
  have HB := Lib.hid (fun k => orb_bnd hs k)
  have HX := Lib.hid hbx
  clear hI hJa hY hbx
  refine callsIn_wide.2 ?_
  show Calls Try.prog 96 #[.func (.yield l) #[] #[], .pointer (some ⟨bs, 0, none⟩), .pointer (some ⟨bb, 0, none⟩)] W0 _
  have B := Below.refl W0.heap.size W0
  go_enter Try.func96, Try.ntmps96
  go_upto_region 0 with fail
  refine wp_region_lit ?_
  try simp only [List.getElem_toArray, List.getElem_cons_zero, List.getElem_cons_succ]
  refine wpList_chunk 1 (by kernel_rfl) ?_
  simp only [takS, Nat.reduceAdd]
  repeat (first | go_big_quiet_skip | (go_big_quiet_want; first | (refine quiet_loadAny (t := 83) rfl _ _ _ rfl (fun w hw => run_load_B (ov_B p1 w hw) Try.isAgg83 (by kernel_rfl)) (by rfl) ?_; simp only [Act.put, putS]; go_big_quiet_on) | (go_big_quiet_op; go_big_quiet_on)))
  refine wpQuiet_nil ?_
  (refine wpList_allocBk (t := 83) rfl _ (run_alloc_St _ _ rfl) ?_; intro b_p4 wn hle hge ht hbn hzn; have hsz := B.size; replace B := B.trans (hbn.mono (by omega)); have hln := Nat.lt_of_lt_of_eq (Nat.lt_succ_self _) hzn.symm; clear hzn; (try first | (have hlt := p1.lt; replace p1 := p1.of_eq (hbn.block _ (by omega))) | replace p1 := p1.below (hbn.mono hle)); (try first | (have hlt := p2.lt; replace p2 := p2.of_eq (hbn.block _ (by omega))) | replace p2 := p2.below (hbn.mono hle)); (try first | (have hlt := HW.lt; replace HW := HW.of_eq (hbn.block _ (by omega))) | replace HW := HW.below (hbn.mono hle)); have p4 := ht; clear ht; simp only [Act.put, putS])
  (refine wpList_storeB (t := 83) rfl _ _ rfl _ rfl _ rfl p4 (by kernel_rfl) rfl (by simp [edC, Value.oneCell']) ?_; have p4o := p4; clear p4; intro wn ht hcn hzn; (try replace HW := HW.chg p4o (by omega) hcn); have hsz := B.size; replace hzn := Nat.le_of_eq hzn.symm; replace B := Chg.below B hcn (by omega) B.size; (try replace p1 := p1.of_eq (hcn.block _ p1.lt (by omega))); (try replace p2 := p2.of_eq (hcn.block _ p2.lt (by omega))); (try replace HW := HW.of_eq (hcn.block _ HW.lt (by omega))); have p4 := ht; clear ht; simp only [Act.put, putS])
  refine wpList_nil ?_
  have hb4 : b_p4 = W0.heap.size := by omega
  have hbsz := B.size
  have hJ1 := HJB.out _ _ _ hJ B
  have k4 := p4.lt
  replace hJ := hJ1
  clear hJ1 B hW
  have HS4 := Lib.hid (show b_p4 = W0.heap.size ∧ wI.heap.size ≤ b_p4 from ⟨hb4, by omega⟩)
  have n14 : bs < b_p4 := by omega
  have n24 : bb < b_p4 := by omega
  have hbI : wI.heap.size ≤ b_p4 := HS4.out.2
  clear HS4
  subst hb4
  generalize W0.heap.size = c at *
  go_wp2
  go_loopw [5, 6, 8, 9, 19, 20] (fun _ _ _ _ _ _ wr => ∃ m, (∃ k, m + k = perE (setG ls th) R s ∧ 0 < m ∧ J (orbK (setG ls th) s k) wr ∧ AtB 83 wr c (edC (orbE (setG ls th) s k)) ∧ AtB 83 wr bs (edC s) ∧ AtB 80 wr bb #[fB r t] ∧ HoldC wI.heap.size wI wr)) (fun _ _ _ _ _ _ wr => Classical.epsilon (LeastP fun m => (∃ k, m + k = perE (setG ls th) R s ∧ 0 < m ∧ J (orbK (setG ls th) s k) wr ∧ AtB 83 wr c (edC (orbE (setG ls th) s k)) ∧ AtB 83 wr bs (edC s) ∧ AtB 80 wr bb #[fB r t] ∧ HoldC wI.heap.size wI wr)))
  case atStart => exact ⟨perE (setG ls th) R s, 0, by omega, HP.out.2.1, hJ, p4, p1, p2, HW⟩
  case round =>
    clear hJ p4 p1 p2 HW
    have hleast := (eps_least hrel).1
    generalize hm : Classical.epsilon (LeastP fun m => (∃ k, m + k = perE (setG ls th) R s ∧ 0 < m ∧ J (orbK (setG ls th) s k) wr ∧ AtB 83 wr c (edC (orbE (setG ls th) s k)) ∧ AtB 83 wr bs (edC s) ∧ AtB 80 wr bb #[fB r t] ∧ HoldC wI.heap.size wI wr)) = m at hleast
    obtain ⟨k, hmk, hm0, hJ, p4, p1, p2, HW⟩ := hleast
    obtain ⟨fn, tmps, assign, body, hy, hR⟩ := HY.out (orbK (setG ls th) s k) (orbE (setG ls th) s k) _ hJ ⟨k, by omega, rfl, rfl⟩ p4.lt
    go_upto_region 1 with fail
    refine (wpIn_wide (n := n)).1 ?_
    refine wpIn_region_lit ?_
    try simp only [List.getElem_toArray, List.getElem_cons_zero, List.getElem_cons_succ]
    refine wpListIn_mv rfl rfl (.func (.yield l) #[] #[]) rfl ?_
    simp only [Act.put, putS]
    refine wpListIn_ld rfl rfl _ rfl _ (run_load_B p4 Try.isAgg83 (by kernel_rfl)) ?_
    simp only [Act.put, putS]
    gi_wp2
    refine hR.mono ?_
    rintro e W1 ⟨rfl, hJ1, hkp⟩
    replace p4 := hkp.atB (.inr rfl) p4
    replace p1 := hkp.atB (.inl ⟨hl1, h1⟩) p1
    replace p2 := hkp.atB (.inl ⟨hl2, h2⟩) p2
    replace HW := HW.kpo hwI hbl hkp
    rw [← orbK_snoc] at hJ1
    have hbd := HB.out k
    have hcs := next_cases hbd
    have hnx : orbE (setG ls th) s (k + 1) = nextE (setG ls th) (orbE (setG ls th) s k) := rfl
    have hbx := HX.out _ hbd
    have hbn1 := HX.out _ (HB.out (k + 1))
    have hend := Lib.hid (show k + 1 = perE (setG ls th) R s → orbE (setG ls th) s (k + 1) = s from fun e => by rw [e]; exact HP.out.1)
    have hgo := Lib.hid (show k + 1 < perE (setG ls th) R s → orbE (setG ls th) s (k + 1) ≠ s from fun e => HP.out.2.2.2 _ (by omega) e)
    have HM := Lib.hid hm
    clear hm hJ hy hR hkp hrel
    obtain ⟨⟨x, y, d⟩, he⟩ : ∃ e, orbE (setG ls th) s k = e := ⟨_, rfl⟩
    rw [he] at p4 hbd hcs hbx hnx
    obtain ⟨⟨x', y', d'⟩, he'⟩ : ∃ e, orbE (setG ls th) s (k + 1) = e := ⟨_, rfl⟩
    rw [he'] at hnx hbn1 hend hgo
    rw [← hnx] at hcs
    simp only at hcs hbx hbn1
    obtain ⟨hx', hy', hb', hcs⟩ := hcs
    have hd : 0 ≤ d ∧ d ≤ 3 := hbd.1
    rw [← hx', ← hy'] at hcs
    replace p4 : AtB 83 W1 c #[.int .i64 x, .int .i64 y, .int .i64 d] := p4
    obtain ⟨q1, hq1⟩ : ∃ q, (d + 1) % 4 = q := ⟨_, rfl⟩
    obtain ⟨q3, hq3⟩ : ∃ q, (d + 3) % 4 = q := ⟨_, rfl⟩
    have ht1 : Int.tmod (d + 1) 4 = q1 := by rw [Int.tmod_eq_emod_of_nonneg (by omega)]; exact hq1
    have ht3 : Int.tmod (d + 3) 4 = q3 := by rw [Int.tmod_eq_emod_of_nonneg (by omega)]; exact hq3
    have ht0 : Int.tmod d 4 = d := by rw [Int.tmod_eq_emod_of_nonneg (by omega)]; omega
    have b1 : 0 ≤ q1 ∧ q1 ≤ 3 := by omega
    have b3 : 0 ≤ q3 ∧ q3 ≤ 3 := by omega
    rw [hq1, hq3] at hcs
    have bx : -100000 ≤ x ∧ x ≤ 100000 := by omega
    have by_ : -100000 ≤ y ∧ y ≤ 100000 := by omega
    have bx' : -100000 ≤ x' ∧ x' ≤ 100000 := by omega
    have by' : -100000 ≤ y' ∧ y' ≤ 100000 := by omega
    have HON := Lib.hid (show x + dxE d = x' ∧ y + dyE d = y' from ⟨hx'.symm, hy'.symm⟩)
    have HE' := Lib.hid he'
    clear he he' hx' hy' hbx hbn1 hbd hb' hnx
    have B := Exc.refl c W1
    have k4 := p4.lt
    gi_wp2
    go_upto_region 2 with fail
    refine wp_region_lit ?_
    try simp only [List.getElem_toArray, List.getElem_cons_zero, List.getElem_cons_succ]
    refine wpList_chunk 1 (by kernel_rfl) ?_
    simp only [takS, Nat.reduceAdd]
    repeat (first | go_big_quiet_skip | (go_big_quiet_want; first | (refine quiet_loadAny (t := 83) rfl _ _ _ rfl (fun w hw => run_load_B (ov_B p4 w hw) Try.isAgg83 (by kernel_rfl)) (by rfl) ?_; simp only [Act.put, putS]; go_big_quiet_on) | (go_big_quiet_op; go_big_quiet_on)))
    refine wpQuiet_nil ?_
    refine wpList_callF (by first | rfl | simp [Region.wanted, yielded]) rfl (enters_of Try.func97 (by kernel_rfl) rfl) (by simp only [List.map_toArray, List.map_cons, List.map_nil, Act.eval, Array.getD_eq_getD_getElem?, List.getElem?_toArray, List.getElem?_cons_succ, List.getElem?_cons_zero, Option.getD_some]; rfl) ?_
    refine (P_onO x y d x' y' _ bx by_ hd HON.out.1 HON.out.2).mono ?_
    rintro e wn ⟨rfl, hbn⟩
    have hsz := B.size
    have hzn := hbn.size
    replace B := B.trans (hbn.mono B.size)
    (try first | replace p4 := p4.of_eq (hbn.block _ p4.lt) | replace p4 := p4.below hbn)
    (try first | replace p1 := p1.of_eq (hbn.block _ p1.lt) | replace p1 := p1.below hbn)
    (try first | replace p2 := p2.of_eq (hbn.block _ p2.lt) | replace p2 := p2.below hbn)
    (try first | replace HW := HW.of_eq (hbn.block _ HW.lt) | replace HW := HW.below hbn)
    refine ⟨_, rfl, ?_⟩
    simp only [Act.put, putS]
    refine wpList_chunk 5 (by kernel_rfl) ?_
    simp only [takS, Nat.reduceAdd]
    repeat (first | go_big_quiet_skip | (go_big_quiet_want; first | (go_big_quiet_op; go_big_quiet_on)))
    refine wpQuiet_nil ?_
    refine wpList_nil ?_
    go_upto_region 3 with fail
    refine wp_region_lit ?_
    try simp only [List.getElem_toArray, List.getElem_cons_zero, List.getElem_cons_succ]
    refine wpList_chunk 2 (by kernel_rfl) ?_
    simp only [takS, Nat.reduceAdd]
    repeat (first | go_big_quiet_skip | (go_big_quiet_want; first | (go_big_quiet_op; go_big_quiet_on)))
    refine wpQuiet_nil ?_
    refine wpList_nil ?_
    go_wp2
    refine wp_loop_rounds 3 ?_
    rw [rounds_succ]
    rcases hcs with ⟨hd', c1⟩ | ⟨hd', c1, c2⟩ | ⟨hd', c1, c2, c3⟩
    · have HD := Lib.hid hd'
      clear hd'
      go_upto_region 4 with fail
      refine wp_region_lit ?_
      try simp only [List.getElem_toArray, List.getElem_cons_zero, List.getElem_cons_succ]
      refine wpList_chunk 1 (by kernel_rfl) ?_
      simp only [takS, Nat.reduceAdd]
      repeat (first | go_big_quiet_skip | (go_big_quiet_want; first | (go_big_quiet_op; go_big_quiet_on)))
      refine wpQuiet_nil ?_
      refine wpList_nil ?_
      go_upto_region 5 with fail
      refine wp_region_lit ?_
      try simp only [List.getElem_toArray, List.getElem_cons_zero, List.getElem_cons_succ]
      refine wpList_chunk 2 (by kernel_rfl) ?_
      simp only [takS, Nat.reduceAdd]
      repeat (first | go_big_quiet_skip | (go_big_quiet_want; first | (refine quiet_indexA rfl #[.int .i64 1, .int .i64 0, .int .i64 3] rfl (0) rfl (.int .i64 (1)) (fun w => by kernel_rfl) ?_; simp only [Act.put, putS]; go_big_quiet_on) | (go_big_quiet_op; go_big_quiet_on)))
      refine wpQuiet_nil ?_
      refine wpList_nil ?_
      go_upto_region 6 with fail
      refine wp_region_lit ?_
      try simp only [List.getElem_toArray, List.getElem_cons_zero, List.getElem_cons_succ]
      refine wpList_chunk 8 (by kernel_rfl) ?_
      simp only [takS, Nat.reduceAdd]
      repeat (first | go_big_quiet_skip | (go_big_quiet_want; first | (refine quiet_loadAny (t := 3) rfl _ _ _ rfl (fun w hw => run_load_int ((ov_B p4 w hw).cellL 2 rfl)) (by rfl) ?_; simp only [Act.put, putS]; go_big_quiet_on) | (go_big_quiet_op; go_big_quiet_on)))
      refine wpQuiet_nil ?_
      (refine wpList_allocBk (t := 83) rfl _ (run_alloc_St _ _ rfl) ?_; intro b_p9 wn hle hge ht hbn hzn; have hsz := B.size; replace B := B.trans (hbn.mono (by omega)); have hln := Nat.lt_of_lt_of_eq (Nat.lt_succ_self _) hzn.symm; clear hzn; (try first | (have hlt := p4.lt; replace p4 := p4.of_eq (hbn.block _ (by omega))) | replace p4 := p4.below (hbn.mono hle)); (try first | (have hlt := p1.lt; replace p1 := p1.of_eq (hbn.block _ (by omega))) | replace p1 := p1.below (hbn.mono hle)); (try first | (have hlt := p2.lt; replace p2 := p2.of_eq (hbn.block _ (by omega))) | replace p2 := p2.below (hbn.mono hle)); (try first | (have hlt := HW.lt; replace HW := HW.of_eq (hbn.block _ (by omega))) | replace HW := HW.below (hbn.mono hle)); have p9 := ht; clear ht; simp only [Act.put, putS])
      (refine wpList_storeB (t := 83) rfl _ _ rfl _ rfl _ rfl p9 (by kernel_rfl) rfl (by simp [edC, Value.oneCell']) ?_; have p9o := p9; clear p9; intro wn ht hcn hzn; (try replace HW := HW.chg p9o (by omega) hcn); have hsz := B.size; replace hzn := Nat.le_of_eq hzn.symm; replace B := Exc.store B hcn (by omega); (try replace p4 := p4.of_eq (hcn.block _ p4.lt (by omega))); (try replace p1 := p1.of_eq (hcn.block _ p1.lt (by omega))); (try replace p2 := p2.of_eq (hcn.block _ p2.lt (by omega))); (try replace HW := HW.of_eq (hcn.block _ HW.lt (by omega))); have p9 := ht; clear ht; simp only [Act.put, putS])
      refine wpList_nil ?_
      replace p9 : AtB 83 _ b_p9 #[.int .i64 x', .int .i64 y', .int .i64 q1] := p9
      have hI := HI.out.hold HW
      have k9 := p9.lt
      go_upto_region 7 with fail
      refine wp_region_lit ?_
      try simp only [List.getElem_toArray, List.getElem_cons_zero, List.getElem_cons_succ]
      refine wpList_chunk 2 (by kernel_rfl) ?_
      simp only [takS, Nat.reduceAdd]
      repeat (first | go_big_quiet_skip | (go_big_quiet_want; first | (refine quiet_loadAny (t := 83) rfl _ _ _ rfl (fun w hw => run_load_B (ov_B p9 w hw) Try.isAgg83 (by kernel_rfl)) (by rfl) ?_; simp only [Act.put, putS]; go_big_quiet_on) | (refine quiet_loadAny (t := 80) rfl _ _ _ rfl (fun w hw => run_load_B (ov_B p2 w hw) Try.isAgg80 (by kernel_rfl)) (by rfl) ?_; simp only [Act.put, putS]; go_big_quiet_on) | (go_big_quiet_op; go_big_quiet_on)))
      refine wpQuiet_nil ?_
      refine wpList_callF (by first | rfl | simp [Region.wanted, yielded]) rfl (enters_of Try.func51 (by kernel_rfl) rfl) (by simp only [List.map_toArray, List.map_cons, List.map_nil, Act.eval, Array.getD_eq_getD_getElem?, List.getElem?_toArray, List.getElem?_cons_succ, List.getElem?_cons_zero, Option.getD_some]; rfl) ?_
      refine (P_has r t ls th x' y' q1 true _ hI tk hn bx' by' b1 c1).mono ?_
      rintro e wn ⟨rfl, hbn⟩
      have hsz := B.size
      have hzn := hbn.size
      replace B := B.trans (hbn.mono B.size)
      (try first | replace p4 := p4.of_eq (hbn.block _ p4.lt) | replace p4 := p4.below hbn)
      (try first | replace p1 := p1.of_eq (hbn.block _ p1.lt) | replace p1 := p1.below hbn)
      (try first | replace p2 := p2.of_eq (hbn.block _ p2.lt) | replace p2 := p2.below hbn)
      (try first | replace HW := HW.of_eq (hbn.block _ HW.lt) | replace HW := HW.below hbn)
      (try first | replace p9 := p9.of_eq (hbn.block _ p9.lt) | replace p9 := p9.below hbn)
      refine ⟨_, rfl, ?_⟩
      simp only [Act.put, putS]
      refine wpList_nil ?_
      clear hI
      go_upto_region 8 with fail
      refine wp_region_lit ?_
      try simp only [List.getElem_toArray, List.getElem_cons_zero, List.getElem_cons_succ]
      refine wpList_chunk 1 (by kernel_rfl) ?_
      simp only [takS, Nat.reduceAdd]
      repeat (first | go_big_quiet_skip | (go_big_quiet_want; first | (refine quiet_loadAny (t := 83) rfl _ _ _ rfl (fun w hw => run_load_B (ov_B p9 w hw) Try.isAgg83 (by kernel_rfl)) (by rfl) ?_; simp only [Act.put, putS]; go_big_quiet_on) | (go_big_quiet_op; go_big_quiet_on)))
      refine wpQuiet_nil ?_
      (refine wpList_storeB (t := 83) rfl _ _ rfl _ rfl _ rfl p4 (by kernel_rfl) rfl (by simp [edC, Value.oneCell']) ?_; have p4o := p4; clear p4; intro wn ht hcn hzn; (try replace HW := HW.chg p4o (by omega) hcn); have hsz := B.size; replace hzn := Nat.le_of_eq hzn.symm; replace B := Exc.chg B hcn; (try replace p1 := p1.of_eq (hcn.block _ p1.lt (by omega))); (try replace p2 := p2.of_eq (hcn.block _ p2.lt (by omega))); (try replace HW := HW.of_eq (hcn.block _ HW.lt (by omega))); (try replace p9 := p9.of_eq (hcn.block _ p9.lt (by omega))); have p4 := ht; clear ht; simp only [Act.put, putS])
      refine wpList_nil ?_
      replace p4 : AtB 83 _ c #[.int .i64 x', .int .i64 y', .int .i64 q1] := p4
      replace p4 : AtB 83 _ c (edC ⟨x', y', q1⟩) := p4
      rw [← HD.out] at p4
      go_upto_region 10 with fail
      by_cases hlast : k + 1 = perE (setG ls th) R s
      · have he2 := hend.out hlast
        have q2 : decide ((⟨x', y', d'⟩ : Ed) = s) = true := decide_eq_true he2
        refine wp_region_lit ?_
        try simp only [List.getElem_toArray, List.getElem_cons_zero, List.getElem_cons_succ]
        refine wpList_chunk 3 (by kernel_rfl) ?_
        simp only [takS, Nat.reduceAdd]
        repeat (first | go_big_quiet_skip | (go_big_quiet_want; first | (refine quiet_loadAny (t := 83) rfl _ _ _ rfl (fun w hw => run_load_B (ov_B p4 w hw) Try.isAgg83 (by kernel_rfl)) (by rfl) ?_; simp only [Act.put, putS]; go_big_quiet_on) | (refine quiet_loadAny (t := 83) rfl _ _ _ rfl (fun w hw => run_load_B (ov_B p1 w hw) Try.isAgg83 (by kernel_rfl)) (by rfl) ?_; simp only [Act.put, putS]; go_big_quiet_on) | (refine quiet_eqlS rfl ⟨x', y', d'⟩ s rfl rfl _ q2 ?_; simp only [Act.put, putS]; go_big_quiet_on) | (go_big_quiet_op; go_big_quiet_on)))
        refine wpQuiet_nil ?_
        refine wpList_nil ?_
        go_wp2
        refine bodyPost_ret (results_none rfl _ _ _) rfl ?_
        exact ⟨⟨_, rfl⟩, _, rfl, by unfold folE; rw [← hlast]; exact HJ.out _ _ _ hJ1 B⟩
      · have q2 : decide ((⟨x', y', d'⟩ : Ed) = s) = false := decide_eq_false (hgo.out (by omega))
        refine wp_region_lit ?_
        try simp only [List.getElem_toArray, List.getElem_cons_zero, List.getElem_cons_succ]
        refine wpList_chunk 3 (by kernel_rfl) ?_
        simp only [takS, Nat.reduceAdd]
        repeat (first | go_big_quiet_skip | (go_big_quiet_want; first | (refine quiet_loadAny (t := 83) rfl _ _ _ rfl (fun w hw => run_load_B (ov_B p4 w hw) Try.isAgg83 (by kernel_rfl)) (by rfl) ?_; simp only [Act.put, putS]; go_big_quiet_on) | (refine quiet_loadAny (t := 83) rfl _ _ _ rfl (fun w hw => run_load_B (ov_B p1 w hw) Try.isAgg83 (by kernel_rfl)) (by rfl) ?_; simp only [Act.put, putS]; go_big_quiet_on) | (refine quiet_eqlS rfl ⟨x', y', d'⟩ s rfl rfl _ q2 ?_; simp only [Act.put, putS]; go_big_quiet_on) | (go_big_quiet_op; go_big_quiet_on)))
        refine wpQuiet_nil ?_
        refine wpList_nil ?_
        go_wp2
        have hR2 : ∃ k, (m - 1) + k = perE (setG ls th) R s ∧ 0 < (m - 1) ∧ J (orbK (setG ls th) s k) wn ∧ AtB 83 wn c (edC (orbE (setG ls th) s k)) ∧ AtB 83 wn bs (edC s) ∧ AtB 80 wn bb #[fB r t] ∧ HoldC wI.heap.size wI wn :=
          ⟨k + 1, by omega, by omega, HJ.out _ _ _ hJ1 B, by rw [HE'.out]; exact p4, p1, p2, HW⟩
        go_roundw
        case rel => exact ⟨_, hR2⟩
        case measure => exact Nat.lt_of_le_of_lt (eps_le hR2) (by omega)
    · have HD := Lib.hid hd'
      clear hd'
      go_upto_region 4 with fail
      refine wp_region_lit ?_
      try simp only [List.getElem_toArray, List.getElem_cons_zero, List.getElem_cons_succ]
      refine wpList_chunk 1 (by kernel_rfl) ?_
      simp only [takS, Nat.reduceAdd]
      repeat (first | go_big_quiet_skip | (go_big_quiet_want; first | (go_big_quiet_op; go_big_quiet_on)))
      refine wpQuiet_nil ?_
      refine wpList_nil ?_
      go_upto_region 5 with fail
      refine wp_region_lit ?_
      try simp only [List.getElem_toArray, List.getElem_cons_zero, List.getElem_cons_succ]
      refine wpList_chunk 2 (by kernel_rfl) ?_
      simp only [takS, Nat.reduceAdd]
      repeat (first | go_big_quiet_skip | (go_big_quiet_want; first | (refine quiet_indexA rfl #[.int .i64 1, .int .i64 0, .int .i64 3] rfl (0) rfl (.int .i64 (1)) (fun w => by kernel_rfl) ?_; simp only [Act.put, putS]; go_big_quiet_on) | (go_big_quiet_op; go_big_quiet_on)))
      refine wpQuiet_nil ?_
      refine wpList_nil ?_
      go_upto_region 6 with fail
      refine wp_region_lit ?_
      try simp only [List.getElem_toArray, List.getElem_cons_zero, List.getElem_cons_succ]
      refine wpList_chunk 8 (by kernel_rfl) ?_
      simp only [takS, Nat.reduceAdd]
      repeat (first | go_big_quiet_skip | (go_big_quiet_want; first | (refine quiet_loadAny (t := 3) rfl _ _ _ rfl (fun w hw => run_load_int ((ov_B p4 w hw).cellL 2 rfl)) (by rfl) ?_; simp only [Act.put, putS]; go_big_quiet_on) | (go_big_quiet_op; go_big_quiet_on)))
      refine wpQuiet_nil ?_
      (refine wpList_allocBk (t := 83) rfl _ (run_alloc_St _ _ rfl) ?_; intro b_p9 wn hle hge ht hbn hzn; have hsz := B.size; replace B := B.trans (hbn.mono (by omega)); have hln := Nat.lt_of_lt_of_eq (Nat.lt_succ_self _) hzn.symm; clear hzn; (try first | (have hlt := p4.lt; replace p4 := p4.of_eq (hbn.block _ (by omega))) | replace p4 := p4.below (hbn.mono hle)); (try first | (have hlt := p1.lt; replace p1 := p1.of_eq (hbn.block _ (by omega))) | replace p1 := p1.below (hbn.mono hle)); (try first | (have hlt := p2.lt; replace p2 := p2.of_eq (hbn.block _ (by omega))) | replace p2 := p2.below (hbn.mono hle)); (try first | (have hlt := HW.lt; replace HW := HW.of_eq (hbn.block _ (by omega))) | replace HW := HW.below (hbn.mono hle)); have p9 := ht; clear ht; simp only [Act.put, putS])
      (refine wpList_storeB (t := 83) rfl _ _ rfl _ rfl _ rfl p9 (by kernel_rfl) rfl (by simp [edC, Value.oneCell']) ?_; have p9o := p9; clear p9; intro wn ht hcn hzn; (try replace HW := HW.chg p9o (by omega) hcn); have hsz := B.size; replace hzn := Nat.le_of_eq hzn.symm; replace B := Exc.store B hcn (by omega); (try replace p4 := p4.of_eq (hcn.block _ p4.lt (by omega))); (try replace p1 := p1.of_eq (hcn.block _ p1.lt (by omega))); (try replace p2 := p2.of_eq (hcn.block _ p2.lt (by omega))); (try replace HW := HW.of_eq (hcn.block _ HW.lt (by omega))); have p9 := ht; clear ht; simp only [Act.put, putS])
      refine wpList_nil ?_
      replace p9 : AtB 83 _ b_p9 #[.int .i64 x', .int .i64 y', .int .i64 q1] := p9
      have hI := HI.out.hold HW
      have k9 := p9.lt
      go_upto_region 7 with fail
      refine wp_region_lit ?_
      try simp only [List.getElem_toArray, List.getElem_cons_zero, List.getElem_cons_succ]
      refine wpList_chunk 2 (by kernel_rfl) ?_
      simp only [takS, Nat.reduceAdd]
      repeat (first | go_big_quiet_skip | (go_big_quiet_want; first | (refine quiet_loadAny (t := 83) rfl _ _ _ rfl (fun w hw => run_load_B (ov_B p9 w hw) Try.isAgg83 (by kernel_rfl)) (by rfl) ?_; simp only [Act.put, putS]; go_big_quiet_on) | (refine quiet_loadAny (t := 80) rfl _ _ _ rfl (fun w hw => run_load_B (ov_B p2 w hw) Try.isAgg80 (by kernel_rfl)) (by rfl) ?_; simp only [Act.put, putS]; go_big_quiet_on) | (go_big_quiet_op; go_big_quiet_on)))
      refine wpQuiet_nil ?_
      refine wpList_callF (by first | rfl | simp [Region.wanted, yielded]) rfl (enters_of Try.func51 (by kernel_rfl) rfl) (by simp only [List.map_toArray, List.map_cons, List.map_nil, Act.eval, Array.getD_eq_getD_getElem?, List.getElem?_toArray, List.getElem?_cons_succ, List.getElem?_cons_zero, Option.getD_some]; rfl) ?_
      refine (P_has r t ls th x' y' q1 false _ hI tk hn bx' by' b1 c1).mono ?_
      rintro e wn ⟨rfl, hbn⟩
      have hsz := B.size
      have hzn := hbn.size
      replace B := B.trans (hbn.mono B.size)
      (try first | replace p4 := p4.of_eq (hbn.block _ p4.lt) | replace p4 := p4.below hbn)
      (try first | replace p1 := p1.of_eq (hbn.block _ p1.lt) | replace p1 := p1.below hbn)
      (try first | replace p2 := p2.of_eq (hbn.block _ p2.lt) | replace p2 := p2.below hbn)
      (try first | replace HW := HW.of_eq (hbn.block _ HW.lt) | replace HW := HW.below hbn)
      (try first | replace p9 := p9.of_eq (hbn.block _ p9.lt) | replace p9 := p9.below hbn)
      refine ⟨_, rfl, ?_⟩
      simp only [Act.put, putS]
      refine wpList_nil ?_
      clear hI
      go_upto_region 9 with fail
      refine wp_region_lit ?_
      try simp only [List.getElem_toArray, List.getElem_cons_zero, List.getElem_cons_succ]
      refine wpList_chunk 2 (by kernel_rfl) ?_
      simp only [takS, Nat.reduceAdd]
      repeat (first | go_big_quiet_skip | (go_big_quiet_want; first | (go_big_quiet_op; go_big_quiet_on)))
      refine wpQuiet_nil ?_
      refine wpList_nil ?_
      clear p9 k9
      go_wp2
      rw [rounds_succ]
      go_upto_region 4 with fail
      refine wp_region_lit ?_
      try simp only [List.getElem_toArray, List.getElem_cons_zero, List.getElem_cons_succ]
      refine wpList_chunk 1 (by kernel_rfl) ?_
      simp only [takS, Nat.reduceAdd]
      repeat (first | go_big_quiet_skip | (go_big_quiet_want; first | (go_big_quiet_op; go_big_quiet_on)))
      refine wpQuiet_nil ?_
      refine wpList_nil ?_
      go_upto_region 5 with fail
      refine wp_region_lit ?_
      try simp only [List.getElem_toArray, List.getElem_cons_zero, List.getElem_cons_succ]
      refine wpList_chunk 2 (by kernel_rfl) ?_
      simp only [takS, Nat.reduceAdd]
      repeat (first | go_big_quiet_skip | (go_big_quiet_want; first | (refine quiet_indexA rfl #[.int .i64 1, .int .i64 0, .int .i64 3] rfl (1) rfl (.int .i64 (0)) (fun w => by kernel_rfl) ?_; simp only [Act.put, putS]; go_big_quiet_on) | (go_big_quiet_op; go_big_quiet_on)))
      refine wpQuiet_nil ?_
      refine wpList_nil ?_
      go_upto_region 6 with fail
      refine wp_region_lit ?_
      try simp only [List.getElem_toArray, List.getElem_cons_zero, List.getElem_cons_succ]
      refine wpList_chunk 8 (by kernel_rfl) ?_
      simp only [takS, Nat.reduceAdd]
      repeat (first | go_big_quiet_skip | (go_big_quiet_want; first | (refine quiet_loadAny (t := 3) rfl _ _ _ rfl (fun w hw => run_load_int ((ov_B p4 w hw).cellL 2 rfl)) (by rfl) ?_; simp only [Act.put, putS]; go_big_quiet_on) | (go_big_quiet_op; go_big_quiet_on)))
      refine wpQuiet_nil ?_
      (refine wpList_allocBk (t := 83) rfl _ (run_alloc_St _ _ rfl) ?_; intro b_p9 wn hle hge ht hbn hzn; have hsz := B.size; replace B := B.trans (hbn.mono (by omega)); have hln := Nat.lt_of_lt_of_eq (Nat.lt_succ_self _) hzn.symm; clear hzn; (try first | (have hlt := p4.lt; replace p4 := p4.of_eq (hbn.block _ (by omega))) | replace p4 := p4.below (hbn.mono hle)); (try first | (have hlt := p1.lt; replace p1 := p1.of_eq (hbn.block _ (by omega))) | replace p1 := p1.below (hbn.mono hle)); (try first | (have hlt := p2.lt; replace p2 := p2.of_eq (hbn.block _ (by omega))) | replace p2 := p2.below (hbn.mono hle)); (try first | (have hlt := HW.lt; replace HW := HW.of_eq (hbn.block _ (by omega))) | replace HW := HW.below (hbn.mono hle)); have p9 := ht; clear ht; simp only [Act.put, putS])
      (refine wpList_storeB (t := 83) rfl _ _ rfl _ rfl _ rfl p9 (by kernel_rfl) rfl (by simp [edC, Value.oneCell']) ?_; have p9o := p9; clear p9; intro wn ht hcn hzn; (try replace HW := HW.chg p9o (by omega) hcn); have hsz := B.size; replace hzn := Nat.le_of_eq hzn.symm; replace B := Exc.store B hcn (by omega); (try replace p4 := p4.of_eq (hcn.block _ p4.lt (by omega))); (try replace p1 := p1.of_eq (hcn.block _ p1.lt (by omega))); (try replace p2 := p2.of_eq (hcn.block _ p2.lt (by omega))); (try replace HW := HW.of_eq (hcn.block _ HW.lt (by omega))); have p9 := ht; clear ht; simp only [Act.put, putS])
      refine wpList_nil ?_
      replace p9 : AtB 83 _ b_p9 #[.int .i64 x', .int .i64 y', .int .i64 d] := p9
      have hI := HI.out.hold HW
      have k9 := p9.lt
      go_upto_region 7 with fail
      refine wp_region_lit ?_
      try simp only [List.getElem_toArray, List.getElem_cons_zero, List.getElem_cons_succ]
      refine wpList_chunk 2 (by kernel_rfl) ?_
      simp only [takS, Nat.reduceAdd]
      repeat (first | go_big_quiet_skip | (go_big_quiet_want; first | (refine quiet_loadAny (t := 83) rfl _ _ _ rfl (fun w hw => run_load_B (ov_B p9 w hw) Try.isAgg83 (by kernel_rfl)) (by rfl) ?_; simp only [Act.put, putS]; go_big_quiet_on) | (refine quiet_loadAny (t := 80) rfl _ _ _ rfl (fun w hw => run_load_B (ov_B p2 w hw) Try.isAgg80 (by kernel_rfl)) (by rfl) ?_; simp only [Act.put, putS]; go_big_quiet_on) | (go_big_quiet_op; go_big_quiet_on)))
      refine wpQuiet_nil ?_
      refine wpList_callF (by first | rfl | simp [Region.wanted, yielded]) rfl (enters_of Try.func51 (by kernel_rfl) rfl) (by simp only [List.map_toArray, List.map_cons, List.map_nil, Act.eval, Array.getD_eq_getD_getElem?, List.getElem?_toArray, List.getElem?_cons_succ, List.getElem?_cons_zero, Option.getD_some]; rfl) ?_
      refine (P_has r t ls th x' y' d true _ hI tk hn bx' by' hd c2).mono ?_
      rintro e wn ⟨rfl, hbn⟩
      have hsz := B.size
      have hzn := hbn.size
      replace B := B.trans (hbn.mono B.size)
      (try first | replace p4 := p4.of_eq (hbn.block _ p4.lt) | replace p4 := p4.below hbn)
      (try first | replace p1 := p1.of_eq (hbn.block _ p1.lt) | replace p1 := p1.below hbn)
      (try first | replace p2 := p2.of_eq (hbn.block _ p2.lt) | replace p2 := p2.below hbn)
      (try first | replace HW := HW.of_eq (hbn.block _ HW.lt) | replace HW := HW.below hbn)
      (try first | replace p9 := p9.of_eq (hbn.block _ p9.lt) | replace p9 := p9.below hbn)
      refine ⟨_, rfl, ?_⟩
      simp only [Act.put, putS]
      refine wpList_nil ?_
      clear hI
      go_upto_region 8 with fail
      refine wp_region_lit ?_
      try simp only [List.getElem_toArray, List.getElem_cons_zero, List.getElem_cons_succ]
      refine wpList_chunk 1 (by kernel_rfl) ?_
      simp only [takS, Nat.reduceAdd]
      repeat (first | go_big_quiet_skip | (go_big_quiet_want; first | (refine quiet_loadAny (t := 83) rfl _ _ _ rfl (fun w hw => run_load_B (ov_B p9 w hw) Try.isAgg83 (by kernel_rfl)) (by rfl) ?_; simp only [Act.put, putS]; go_big_quiet_on) | (go_big_quiet_op; go_big_quiet_on)))
      refine wpQuiet_nil ?_
      (refine wpList_storeB (t := 83) rfl _ _ rfl _ rfl _ rfl p4 (by kernel_rfl) rfl (by simp [edC, Value.oneCell']) ?_; have p4o := p4; clear p4; intro wn ht hcn hzn; (try replace HW := HW.chg p4o (by omega) hcn); have hsz := B.size; replace hzn := Nat.le_of_eq hzn.symm; replace B := Exc.chg B hcn; (try replace p1 := p1.of_eq (hcn.block _ p1.lt (by omega))); (try replace p2 := p2.of_eq (hcn.block _ p2.lt (by omega))); (try replace HW := HW.of_eq (hcn.block _ HW.lt (by omega))); (try replace p9 := p9.of_eq (hcn.block _ p9.lt (by omega))); have p4 := ht; clear ht; simp only [Act.put, putS])
      refine wpList_nil ?_
      replace p4 : AtB 83 _ c #[.int .i64 x', .int .i64 y', .int .i64 d] := p4
      replace p4 : AtB 83 _ c (edC ⟨x', y', d⟩) := p4
      rw [← HD.out] at p4
      go_upto_region 10 with fail
      by_cases hlast : k + 1 = perE (setG ls th) R s
      · have he2 := hend.out hlast
        have q2 : decide ((⟨x', y', d'⟩ : Ed) = s) = true := decide_eq_true he2
        refine wp_region_lit ?_
        try simp only [List.getElem_toArray, List.getElem_cons_zero, List.getElem_cons_succ]
        refine wpList_chunk 3 (by kernel_rfl) ?_
        simp only [takS, Nat.reduceAdd]
        repeat (first | go_big_quiet_skip | (go_big_quiet_want; first | (refine quiet_loadAny (t := 83) rfl _ _ _ rfl (fun w hw => run_load_B (ov_B p4 w hw) Try.isAgg83 (by kernel_rfl)) (by rfl) ?_; simp only [Act.put, putS]; go_big_quiet_on) | (refine quiet_loadAny (t := 83) rfl _ _ _ rfl (fun w hw => run_load_B (ov_B p1 w hw) Try.isAgg83 (by kernel_rfl)) (by rfl) ?_; simp only [Act.put, putS]; go_big_quiet_on) | (refine quiet_eqlS rfl ⟨x', y', d'⟩ s rfl rfl _ q2 ?_; simp only [Act.put, putS]; go_big_quiet_on) | (go_big_quiet_op; go_big_quiet_on)))
        refine wpQuiet_nil ?_
        refine wpList_nil ?_
        go_wp2
        refine bodyPost_ret (results_none rfl _ _ _) rfl ?_
        exact ⟨⟨_, rfl⟩, _, rfl, by unfold folE; rw [← hlast]; exact HJ.out _ _ _ hJ1 B⟩
      · have q2 : decide ((⟨x', y', d'⟩ : Ed) = s) = false := decide_eq_false (hgo.out (by omega))
        refine wp_region_lit ?_
        try simp only [List.getElem_toArray, List.getElem_cons_zero, List.getElem_cons_succ]
        refine wpList_chunk 3 (by kernel_rfl) ?_
        simp only [takS, Nat.reduceAdd]
        repeat (first | go_big_quiet_skip | (go_big_quiet_want; first | (refine quiet_loadAny (t := 83) rfl _ _ _ rfl (fun w hw => run_load_B (ov_B p4 w hw) Try.isAgg83 (by kernel_rfl)) (by rfl) ?_; simp only [Act.put, putS]; go_big_quiet_on) | (refine quiet_loadAny (t := 83) rfl _ _ _ rfl (fun w hw => run_load_B (ov_B p1 w hw) Try.isAgg83 (by kernel_rfl)) (by rfl) ?_; simp only [Act.put, putS]; go_big_quiet_on) | (refine quiet_eqlS rfl ⟨x', y', d'⟩ s rfl rfl _ q2 ?_; simp only [Act.put, putS]; go_big_quiet_on) | (go_big_quiet_op; go_big_quiet_on)))
        refine wpQuiet_nil ?_
        refine wpList_nil ?_
        go_wp2
        have hR2 : ∃ k, (m - 1) + k = perE (setG ls th) R s ∧ 0 < (m - 1) ∧ J (orbK (setG ls th) s k) wn ∧ AtB 83 wn c (edC (orbE (setG ls th) s k)) ∧ AtB 83 wn bs (edC s) ∧ AtB 80 wn bb #[fB r t] ∧ HoldC wI.heap.size wI wn :=
          ⟨k + 1, by omega, by omega, HJ.out _ _ _ hJ1 B, by rw [HE'.out]; exact p4, p1, p2, HW⟩
        go_roundw
        case rel => exact ⟨_, hR2⟩
        case measure => exact Nat.lt_of_le_of_lt (eps_le hR2) (by omega)
    · have HD := Lib.hid hd'
      clear hd'
      go_upto_region 4 with fail
      refine wp_region_lit ?_
      try simp only [List.getElem_toArray, List.getElem_cons_zero, List.getElem_cons_succ]
      refine wpList_chunk 1 (by kernel_rfl) ?_
      simp only [takS, Nat.reduceAdd]
      repeat (first | go_big_quiet_skip | (go_big_quiet_want; first | (go_big_quiet_op; go_big_quiet_on)))
      refine wpQuiet_nil ?_
      refine wpList_nil ?_
      go_upto_region 5 with fail
      refine wp_region_lit ?_
      try simp only [List.getElem_toArray, List.getElem_cons_zero, List.getElem_cons_succ]
      refine wpList_chunk 2 (by kernel_rfl) ?_
      simp only [takS, Nat.reduceAdd]
      repeat (first | go_big_quiet_skip | (go_big_quiet_want; first | (refine quiet_indexA rfl #[.int .i64 1, .int .i64 0, .int .i64 3] rfl (0) rfl (.int .i64 (1)) (fun w => by kernel_rfl) ?_; simp only [Act.put, putS]; go_big_quiet_on) | (go_big_quiet_op; go_big_quiet_on)))
      refine wpQuiet_nil ?_
      refine wpList_nil ?_
      go_upto_region 6 with fail
      refine wp_region_lit ?_
      try simp only [List.getElem_toArray, List.getElem_cons_zero, List.getElem_cons_succ]
      refine wpList_chunk 8 (by kernel_rfl) ?_
      simp only [takS, Nat.reduceAdd]
      repeat (first | go_big_quiet_skip | (go_big_quiet_want; first | (refine quiet_loadAny (t := 3) rfl _ _ _ rfl (fun w hw => run_load_int ((ov_B p4 w hw).cellL 2 rfl)) (by rfl) ?_; simp only [Act.put, putS]; go_big_quiet_on) | (go_big_quiet_op; go_big_quiet_on)))
      refine wpQuiet_nil ?_
      (refine wpList_allocBk (t := 83) rfl _ (run_alloc_St _ _ rfl) ?_; intro b_p9 wn hle hge ht hbn hzn; have hsz := B.size; replace B := B.trans (hbn.mono (by omega)); have hln := Nat.lt_of_lt_of_eq (Nat.lt_succ_self _) hzn.symm; clear hzn; (try first | (have hlt := p4.lt; replace p4 := p4.of_eq (hbn.block _ (by omega))) | replace p4 := p4.below (hbn.mono hle)); (try first | (have hlt := p1.lt; replace p1 := p1.of_eq (hbn.block _ (by omega))) | replace p1 := p1.below (hbn.mono hle)); (try first | (have hlt := p2.lt; replace p2 := p2.of_eq (hbn.block _ (by omega))) | replace p2 := p2.below (hbn.mono hle)); (try first | (have hlt := HW.lt; replace HW := HW.of_eq (hbn.block _ (by omega))) | replace HW := HW.below (hbn.mono hle)); have p9 := ht; clear ht; simp only [Act.put, putS])
      (refine wpList_storeB (t := 83) rfl _ _ rfl _ rfl _ rfl p9 (by kernel_rfl) rfl (by simp [edC, Value.oneCell']) ?_; have p9o := p9; clear p9; intro wn ht hcn hzn; (try replace HW := HW.chg p9o (by omega) hcn); have hsz := B.size; replace hzn := Nat.le_of_eq hzn.symm; replace B := Exc.store B hcn (by omega); (try replace p4 := p4.of_eq (hcn.block _ p4.lt (by omega))); (try replace p1 := p1.of_eq (hcn.block _ p1.lt (by omega))); (try replace p2 := p2.of_eq (hcn.block _ p2.lt (by omega))); (try replace HW := HW.of_eq (hcn.block _ HW.lt (by omega))); have p9 := ht; clear ht; simp only [Act.put, putS])
      refine wpList_nil ?_
      replace p9 : AtB 83 _ b_p9 #[.int .i64 x', .int .i64 y', .int .i64 q1] := p9
      have hI := HI.out.hold HW
      have k9 := p9.lt
      go_upto_region 7 with fail
      refine wp_region_lit ?_
      try simp only [List.getElem_toArray, List.getElem_cons_zero, List.getElem_cons_succ]
      refine wpList_chunk 2 (by kernel_rfl) ?_
      simp only [takS, Nat.reduceAdd]
      repeat (first | go_big_quiet_skip | (go_big_quiet_want; first | (refine quiet_loadAny (t := 83) rfl _ _ _ rfl (fun w hw => run_load_B (ov_B p9 w hw) Try.isAgg83 (by kernel_rfl)) (by rfl) ?_; simp only [Act.put, putS]; go_big_quiet_on) | (refine quiet_loadAny (t := 80) rfl _ _ _ rfl (fun w hw => run_load_B (ov_B p2 w hw) Try.isAgg80 (by kernel_rfl)) (by rfl) ?_; simp only [Act.put, putS]; go_big_quiet_on) | (go_big_quiet_op; go_big_quiet_on)))
      refine wpQuiet_nil ?_
      refine wpList_callF (by first | rfl | simp [Region.wanted, yielded]) rfl (enters_of Try.func51 (by kernel_rfl) rfl) (by simp only [List.map_toArray, List.map_cons, List.map_nil, Act.eval, Array.getD_eq_getD_getElem?, List.getElem?_toArray, List.getElem?_cons_succ, List.getElem?_cons_zero, Option.getD_some]; rfl) ?_
      refine (P_has r t ls th x' y' q1 false _ hI tk hn bx' by' b1 c1).mono ?_
      rintro e wn ⟨rfl, hbn⟩
      have hsz := B.size
      have hzn := hbn.size
      replace B := B.trans (hbn.mono B.size)
      (try first | replace p4 := p4.of_eq (hbn.block _ p4.lt) | replace p4 := p4.below hbn)
      (try first | replace p1 := p1.of_eq (hbn.block _ p1.lt) | replace p1 := p1.below hbn)
      (try first | replace p2 := p2.of_eq (hbn.block _ p2.lt) | replace p2 := p2.below hbn)
      (try first | replace HW := HW.of_eq (hbn.block _ HW.lt) | replace HW := HW.below hbn)
      (try first | replace p9 := p9.of_eq (hbn.block _ p9.lt) | replace p9 := p9.below hbn)
      refine ⟨_, rfl, ?_⟩
      simp only [Act.put, putS]
      refine wpList_nil ?_
      clear hI
      go_upto_region 9 with fail
      refine wp_region_lit ?_
      try simp only [List.getElem_toArray, List.getElem_cons_zero, List.getElem_cons_succ]
      refine wpList_chunk 2 (by kernel_rfl) ?_
      simp only [takS, Nat.reduceAdd]
      repeat (first | go_big_quiet_skip | (go_big_quiet_want; first | (go_big_quiet_op; go_big_quiet_on)))
      refine wpQuiet_nil ?_
      refine wpList_nil ?_
      clear p9 k9
      go_wp2
      rw [rounds_succ]
      go_upto_region 4 with fail
      refine wp_region_lit ?_
      try simp only [List.getElem_toArray, List.getElem_cons_zero, List.getElem_cons_succ]
      refine wpList_chunk 1 (by kernel_rfl) ?_
      simp only [takS, Nat.reduceAdd]
      repeat (first | go_big_quiet_skip | (go_big_quiet_want; first | (go_big_quiet_op; go_big_quiet_on)))
      refine wpQuiet_nil ?_
      refine wpList_nil ?_
      go_upto_region 5 with fail
      refine wp_region_lit ?_
      try simp only [List.getElem_toArray, List.getElem_cons_zero, List.getElem_cons_succ]
      refine wpList_chunk 2 (by kernel_rfl) ?_
      simp only [takS, Nat.reduceAdd]
      repeat (first | go_big_quiet_skip | (go_big_quiet_want; first | (refine quiet_indexA rfl #[.int .i64 1, .int .i64 0, .int .i64 3] rfl (1) rfl (.int .i64 (0)) (fun w => by kernel_rfl) ?_; simp only [Act.put, putS]; go_big_quiet_on) | (go_big_quiet_op; go_big_quiet_on)))
      refine wpQuiet_nil ?_
      refine wpList_nil ?_
      go_upto_region 6 with fail
      refine wp_region_lit ?_
      try simp only [List.getElem_toArray, List.getElem_cons_zero, List.getElem_cons_succ]
      refine wpList_chunk 8 (by kernel_rfl) ?_
      simp only [takS, Nat.reduceAdd]
      repeat (first | go_big_quiet_skip | (go_big_quiet_want; first | (refine quiet_loadAny (t := 3) rfl _ _ _ rfl (fun w hw => run_load_int ((ov_B p4 w hw).cellL 2 rfl)) (by rfl) ?_; simp only [Act.put, putS]; go_big_quiet_on) | (go_big_quiet_op; go_big_quiet_on)))
      refine wpQuiet_nil ?_
      (refine wpList_allocBk (t := 83) rfl _ (run_alloc_St _ _ rfl) ?_; intro b_p9 wn hle hge ht hbn hzn; have hsz := B.size; replace B := B.trans (hbn.mono (by omega)); have hln := Nat.lt_of_lt_of_eq (Nat.lt_succ_self _) hzn.symm; clear hzn; (try first | (have hlt := p4.lt; replace p4 := p4.of_eq (hbn.block _ (by omega))) | replace p4 := p4.below (hbn.mono hle)); (try first | (have hlt := p1.lt; replace p1 := p1.of_eq (hbn.block _ (by omega))) | replace p1 := p1.below (hbn.mono hle)); (try first | (have hlt := p2.lt; replace p2 := p2.of_eq (hbn.block _ (by omega))) | replace p2 := p2.below (hbn.mono hle)); (try first | (have hlt := HW.lt; replace HW := HW.of_eq (hbn.block _ (by omega))) | replace HW := HW.below (hbn.mono hle)); have p9 := ht; clear ht; simp only [Act.put, putS])
      (refine wpList_storeB (t := 83) rfl _ _ rfl _ rfl _ rfl p9 (by kernel_rfl) rfl (by simp [edC, Value.oneCell']) ?_; have p9o := p9; clear p9; intro wn ht hcn hzn; (try replace HW := HW.chg p9o (by omega) hcn); have hsz := B.size; replace hzn := Nat.le_of_eq hzn.symm; replace B := Exc.store B hcn (by omega); (try replace p4 := p4.of_eq (hcn.block _ p4.lt (by omega))); (try replace p1 := p1.of_eq (hcn.block _ p1.lt (by omega))); (try replace p2 := p2.of_eq (hcn.block _ p2.lt (by omega))); (try replace HW := HW.of_eq (hcn.block _ HW.lt (by omega))); have p9 := ht; clear ht; simp only [Act.put, putS])
      refine wpList_nil ?_
      replace p9 : AtB 83 _ b_p9 #[.int .i64 x', .int .i64 y', .int .i64 d] := p9
      have hI := HI.out.hold HW
      have k9 := p9.lt
      go_upto_region 7 with fail
      refine wp_region_lit ?_
      try simp only [List.getElem_toArray, List.getElem_cons_zero, List.getElem_cons_succ]
      refine wpList_chunk 2 (by kernel_rfl) ?_
      simp only [takS, Nat.reduceAdd]
      repeat (first | go_big_quiet_skip | (go_big_quiet_want; first | (refine quiet_loadAny (t := 83) rfl _ _ _ rfl (fun w hw => run_load_B (ov_B p9 w hw) Try.isAgg83 (by kernel_rfl)) (by rfl) ?_; simp only [Act.put, putS]; go_big_quiet_on) | (refine quiet_loadAny (t := 80) rfl _ _ _ rfl (fun w hw => run_load_B (ov_B p2 w hw) Try.isAgg80 (by kernel_rfl)) (by rfl) ?_; simp only [Act.put, putS]; go_big_quiet_on) | (go_big_quiet_op; go_big_quiet_on)))
      refine wpQuiet_nil ?_
      refine wpList_callF (by first | rfl | simp [Region.wanted, yielded]) rfl (enters_of Try.func51 (by kernel_rfl) rfl) (by simp only [List.map_toArray, List.map_cons, List.map_nil, Act.eval, Array.getD_eq_getD_getElem?, List.getElem?_toArray, List.getElem?_cons_succ, List.getElem?_cons_zero, Option.getD_some]; rfl) ?_
      refine (P_has r t ls th x' y' d false _ hI tk hn bx' by' hd c2).mono ?_
      rintro e wn ⟨rfl, hbn⟩
      have hsz := B.size
      have hzn := hbn.size
      replace B := B.trans (hbn.mono B.size)
      (try first | replace p4 := p4.of_eq (hbn.block _ p4.lt) | replace p4 := p4.below hbn)
      (try first | replace p1 := p1.of_eq (hbn.block _ p1.lt) | replace p1 := p1.below hbn)
      (try first | replace p2 := p2.of_eq (hbn.block _ p2.lt) | replace p2 := p2.below hbn)
      (try first | replace HW := HW.of_eq (hbn.block _ HW.lt) | replace HW := HW.below hbn)
      (try first | replace p9 := p9.of_eq (hbn.block _ p9.lt) | replace p9 := p9.below hbn)
      refine ⟨_, rfl, ?_⟩
      simp only [Act.put, putS]
      refine wpList_nil ?_
      clear hI
      go_upto_region 9 with fail
      refine wp_region_lit ?_
      try simp only [List.getElem_toArray, List.getElem_cons_zero, List.getElem_cons_succ]
      refine wpList_chunk 2 (by kernel_rfl) ?_
      simp only [takS, Nat.reduceAdd]
      repeat (first | go_big_quiet_skip | (go_big_quiet_want; first | (go_big_quiet_op; go_big_quiet_on)))
      refine wpQuiet_nil ?_
      refine wpList_nil ?_
      clear p9 k9
      go_wp2
      rw [rounds_succ]
      go_upto_region 4 with fail
      refine wp_region_lit ?_
      try simp only [List.getElem_toArray, List.getElem_cons_zero, List.getElem_cons_succ]
      refine wpList_chunk 1 (by kernel_rfl) ?_
      simp only [takS, Nat.reduceAdd]
      repeat (first | go_big_quiet_skip | (go_big_quiet_want; first | (go_big_quiet_op; go_big_quiet_on)))
      refine wpQuiet_nil ?_
      refine wpList_nil ?_
      go_upto_region 5 with fail
      refine wp_region_lit ?_
      try simp only [List.getElem_toArray, List.getElem_cons_zero, List.getElem_cons_succ]
      refine wpList_chunk 2 (by kernel_rfl) ?_
      simp only [takS, Nat.reduceAdd]
      repeat (first | go_big_quiet_skip | (go_big_quiet_want; first | (refine quiet_indexA rfl #[.int .i64 1, .int .i64 0, .int .i64 3] rfl (2) rfl (.int .i64 (3)) (fun w => by kernel_rfl) ?_; simp only [Act.put, putS]; go_big_quiet_on) | (go_big_quiet_op; go_big_quiet_on)))
      refine wpQuiet_nil ?_
      refine wpList_nil ?_
      go_upto_region 6 with fail
      refine wp_region_lit ?_
      try simp only [List.getElem_toArray, List.getElem_cons_zero, List.getElem_cons_succ]
      refine wpList_chunk 8 (by kernel_rfl) ?_
      simp only [takS, Nat.reduceAdd]
      repeat (first | go_big_quiet_skip | (go_big_quiet_want; first | (refine quiet_loadAny (t := 3) rfl _ _ _ rfl (fun w hw => run_load_int ((ov_B p4 w hw).cellL 2 rfl)) (by rfl) ?_; simp only [Act.put, putS]; go_big_quiet_on) | (go_big_quiet_op; go_big_quiet_on)))
      refine wpQuiet_nil ?_
      (refine wpList_allocBk (t := 83) rfl _ (run_alloc_St _ _ rfl) ?_; intro b_p9 wn hle hge ht hbn hzn; have hsz := B.size; replace B := B.trans (hbn.mono (by omega)); have hln := Nat.lt_of_lt_of_eq (Nat.lt_succ_self _) hzn.symm; clear hzn; (try first | (have hlt := p4.lt; replace p4 := p4.of_eq (hbn.block _ (by omega))) | replace p4 := p4.below (hbn.mono hle)); (try first | (have hlt := p1.lt; replace p1 := p1.of_eq (hbn.block _ (by omega))) | replace p1 := p1.below (hbn.mono hle)); (try first | (have hlt := p2.lt; replace p2 := p2.of_eq (hbn.block _ (by omega))) | replace p2 := p2.below (hbn.mono hle)); (try first | (have hlt := HW.lt; replace HW := HW.of_eq (hbn.block _ (by omega))) | replace HW := HW.below (hbn.mono hle)); have p9 := ht; clear ht; simp only [Act.put, putS])
      (refine wpList_storeB (t := 83) rfl _ _ rfl _ rfl _ rfl p9 (by kernel_rfl) rfl (by simp [edC, Value.oneCell']) ?_; have p9o := p9; clear p9; intro wn ht hcn hzn; (try replace HW := HW.chg p9o (by omega) hcn); have hsz := B.size; replace hzn := Nat.le_of_eq hzn.symm; replace B := Exc.store B hcn (by omega); (try replace p4 := p4.of_eq (hcn.block _ p4.lt (by omega))); (try replace p1 := p1.of_eq (hcn.block _ p1.lt (by omega))); (try replace p2 := p2.of_eq (hcn.block _ p2.lt (by omega))); (try replace HW := HW.of_eq (hcn.block _ HW.lt (by omega))); have p9 := ht; clear ht; simp only [Act.put, putS])
      refine wpList_nil ?_
      replace p9 : AtB 83 _ b_p9 #[.int .i64 x', .int .i64 y', .int .i64 q3] := p9
      have hI := HI.out.hold HW
      have k9 := p9.lt
      go_upto_region 7 with fail
      refine wp_region_lit ?_
      try simp only [List.getElem_toArray, List.getElem_cons_zero, List.getElem_cons_succ]
      refine wpList_chunk 2 (by kernel_rfl) ?_
      simp only [takS, Nat.reduceAdd]
      repeat (first | go_big_quiet_skip | (go_big_quiet_want; first | (refine quiet_loadAny (t := 83) rfl _ _ _ rfl (fun w hw => run_load_B (ov_B p9 w hw) Try.isAgg83 (by kernel_rfl)) (by rfl) ?_; simp only [Act.put, putS]; go_big_quiet_on) | (refine quiet_loadAny (t := 80) rfl _ _ _ rfl (fun w hw => run_load_B (ov_B p2 w hw) Try.isAgg80 (by kernel_rfl)) (by rfl) ?_; simp only [Act.put, putS]; go_big_quiet_on) | (go_big_quiet_op; go_big_quiet_on)))
      refine wpQuiet_nil ?_
      refine wpList_callF (by first | rfl | simp [Region.wanted, yielded]) rfl (enters_of Try.func51 (by kernel_rfl) rfl) (by simp only [List.map_toArray, List.map_cons, List.map_nil, Act.eval, Array.getD_eq_getD_getElem?, List.getElem?_toArray, List.getElem?_cons_succ, List.getElem?_cons_zero, Option.getD_some]; rfl) ?_
      refine (P_has r t ls th x' y' q3 true _ hI tk hn bx' by' b3 c3).mono ?_
      rintro e wn ⟨rfl, hbn⟩
      have hsz := B.size
      have hzn := hbn.size
      replace B := B.trans (hbn.mono B.size)
      (try first | replace p4 := p4.of_eq (hbn.block _ p4.lt) | replace p4 := p4.below hbn)
      (try first | replace p1 := p1.of_eq (hbn.block _ p1.lt) | replace p1 := p1.below hbn)
      (try first | replace p2 := p2.of_eq (hbn.block _ p2.lt) | replace p2 := p2.below hbn)
      (try first | replace HW := HW.of_eq (hbn.block _ HW.lt) | replace HW := HW.below hbn)
      (try first | replace p9 := p9.of_eq (hbn.block _ p9.lt) | replace p9 := p9.below hbn)
      refine ⟨_, rfl, ?_⟩
      simp only [Act.put, putS]
      refine wpList_nil ?_
      clear hI
      go_upto_region 8 with fail
      refine wp_region_lit ?_
      try simp only [List.getElem_toArray, List.getElem_cons_zero, List.getElem_cons_succ]
      refine wpList_chunk 1 (by kernel_rfl) ?_
      simp only [takS, Nat.reduceAdd]
      repeat (first | go_big_quiet_skip | (go_big_quiet_want; first | (refine quiet_loadAny (t := 83) rfl _ _ _ rfl (fun w hw => run_load_B (ov_B p9 w hw) Try.isAgg83 (by kernel_rfl)) (by rfl) ?_; simp only [Act.put, putS]; go_big_quiet_on) | (go_big_quiet_op; go_big_quiet_on)))
      refine wpQuiet_nil ?_
      (refine wpList_storeB (t := 83) rfl _ _ rfl _ rfl _ rfl p4 (by kernel_rfl) rfl (by simp [edC, Value.oneCell']) ?_; have p4o := p4; clear p4; intro wn ht hcn hzn; (try replace HW := HW.chg p4o (by omega) hcn); have hsz := B.size; replace hzn := Nat.le_of_eq hzn.symm; replace B := Exc.chg B hcn; (try replace p1 := p1.of_eq (hcn.block _ p1.lt (by omega))); (try replace p2 := p2.of_eq (hcn.block _ p2.lt (by omega))); (try replace HW := HW.of_eq (hcn.block _ HW.lt (by omega))); (try replace p9 := p9.of_eq (hcn.block _ p9.lt (by omega))); have p4 := ht; clear ht; simp only [Act.put, putS])
      refine wpList_nil ?_
      replace p4 : AtB 83 _ c #[.int .i64 x', .int .i64 y', .int .i64 q3] := p4
      replace p4 : AtB 83 _ c (edC ⟨x', y', q3⟩) := p4
      rw [← HD.out] at p4
      go_upto_region 10 with fail
      by_cases hlast : k + 1 = perE (setG ls th) R s
      · have he2 := hend.out hlast
        have q2 : decide ((⟨x', y', d'⟩ : Ed) = s) = true := decide_eq_true he2
        refine wp_region_lit ?_
        try simp only [List.getElem_toArray, List.getElem_cons_zero, List.getElem_cons_succ]
        refine wpList_chunk 3 (by kernel_rfl) ?_
        simp only [takS, Nat.reduceAdd]
        repeat (first | go_big_quiet_skip | (go_big_quiet_want; first | (refine quiet_loadAny (t := 83) rfl _ _ _ rfl (fun w hw => run_load_B (ov_B p4 w hw) Try.isAgg83 (by kernel_rfl)) (by rfl) ?_; simp only [Act.put, putS]; go_big_quiet_on) | (refine quiet_loadAny (t := 83) rfl _ _ _ rfl (fun w hw => run_load_B (ov_B p1 w hw) Try.isAgg83 (by kernel_rfl)) (by rfl) ?_; simp only [Act.put, putS]; go_big_quiet_on) | (refine quiet_eqlS rfl ⟨x', y', d'⟩ s rfl rfl _ q2 ?_; simp only [Act.put, putS]; go_big_quiet_on) | (go_big_quiet_op; go_big_quiet_on)))
        refine wpQuiet_nil ?_
        refine wpList_nil ?_
        go_wp2
        refine bodyPost_ret (results_none rfl _ _ _) rfl ?_
        exact ⟨⟨_, rfl⟩, _, rfl, by unfold folE; rw [← hlast]; exact HJ.out _ _ _ hJ1 B⟩
      · have q2 : decide ((⟨x', y', d'⟩ : Ed) = s) = false := decide_eq_false (hgo.out (by omega))
        refine wp_region_lit ?_
        try simp only [List.getElem_toArray, List.getElem_cons_zero, List.getElem_cons_succ]
        refine wpList_chunk 3 (by kernel_rfl) ?_
        simp only [takS, Nat.reduceAdd]
        repeat (first | go_big_quiet_skip | (go_big_quiet_want; first | (refine quiet_loadAny (t := 83) rfl _ _ _ rfl (fun w hw => run_load_B (ov_B p4 w hw) Try.isAgg83 (by kernel_rfl)) (by rfl) ?_; simp only [Act.put, putS]; go_big_quiet_on) | (refine quiet_loadAny (t := 83) rfl _ _ _ rfl (fun w hw => run_load_B (ov_B p1 w hw) Try.isAgg83 (by kernel_rfl)) (by rfl) ?_; simp only [Act.put, putS]; go_big_quiet_on) | (refine quiet_eqlS rfl ⟨x', y', d'⟩ s rfl rfl _ q2 ?_; simp only [Act.put, putS]; go_big_quiet_on) | (go_big_quiet_op; go_big_quiet_on)))
        refine wpQuiet_nil ?_
        refine wpList_nil ?_
        go_wp2
        have hR2 : ∃ k, (m - 1) + k = perE (setG ls th) R s ∧ 0 < (m - 1) ∧ J (orbK (setG ls th) s k) wn ∧ AtB 83 wn c (edC (orbE (setG ls th) s k)) ∧ AtB 83 wn bs (edC s) ∧ AtB 80 wn bb #[fB r t] ∧ HoldC wI.heap.size wI wn :=
          ⟨k + 1, by omega, by omega, HJ.out _ _ _ hJ1 B, by rw [HE'.out]; exact p4, p1, p2, HW⟩
        go_roundw
        case rel => exact ⟨_, hR2⟩
        case measure => exact Nat.lt_of_le_of_lt (eps_le hR2) (by omega)
end Go.Proofs.Ytamgpfblhlfhaaa
/- The map of the edges that are done; marks of several ranges. -/
namespace Go.Proofs.Ytamgpfblhlfhaaa
open Go.RowKit Go.Shelf Pl
set_option linter.unusedVariables false
set_option linter.unusedSimpArgs false
set_option maxRecDepth 20000
theorem laidP : laidOutB Try.prog = true := by kernel_rfl
theorem stepK : Go.Maps.Keyed Try.prog 83 := Go.Maps.Keyed.of_law (deep_law_gate laidP (of_decide_eq_true (by kernel_rfl)) (of_decide_eq_true (by kernel_rfl)) (by kernel_rfl) (by rw [Try.underlying83]))
def keyE (e : Ed) : Lit := .string (keyBytes [.int .i64 e.x, .int .i64 e.y, .int .i64 e.d])
def WfE (e : Ed) : Prop := (Lit.int .i64 e.x).wf = true ∧ (Lit.int .i64 e.y).wf = true ∧ (Lit.int .i64 e.d).wf = true
theorem key_at {e : Ed} (h : WfE e) : keyOf Try.prog 83 (.agg (edC e)) = some (keyE e) := by
  obtain ⟨h1, h2, h3⟩ := h
  have ht : Try.prog.keyType 83 = true := by kernel_rfl
  have hc : Try.prog.cellsOf 83 = 3 := by kernel_rfl
  have hi : Try.prog.cellsOf 3 = 1 := by kernel_rfl
  unfold keyOf
  rw [Try.underlying83]
  simp only [ht]
  have hf : (Value.agg (edC e)).formed Try.prog 83 = true := by simp [Value.formed, Try.underlying83, hc, edC]
  rw [hf]
  have hpos : 1 ≤ Try.prog.types.size := of_decide_eq_true (by kernel_rfl)
  obtain ⟨M, hM⟩ : ∃ M, Try.prog.types.size = M + 1 := ⟨Try.prog.types.size - 1, by omega⟩
  rw [hM]
  simp only [Bool.and_self, if_true, Program.keyLits, Try.underlying83, hc]
  simp [edC, Value.cells, hi, Try.underlying3, h1, h2, h3, keyE]
theorem key_inj {e f : Ed} (he : WfE e) (hf : WfE f) (h : keyE e = keyE f) : e = f := by
  have h1 := key_at he
  rw [h] at h1
  have := stepK.inj h1 (key_at hf)
  obtain ⟨x, y, d⟩ := e
  obtain ⟨x', y', d'⟩ := f
  simpa [edC] using this
/-- The block b is the map of the edges L. -/
def DoneM (b : Nat) (L : List Ed) (w : World) : Prop := (∀ e ∈ L, WfE e) ∧ ∃ n, n ≤ L.length ∧ w.ownsMap Try.prog 83 (plainElem (H := Unit) Try.prog 4) b n (Maps.setOf (.lit (.bool true)) (L.map keyE))
theorem DoneM.lt {b : Nat} {L : List Ed} {w : World} (h : DoneM b L w) : b < w.heap.size := by
  obtain ⟨_, n, _, h⟩ := h
  exact h.lt
theorem DoneM.kept {b : Nat} {L : List Ed} {w w' : World} {row : Option Nat} (h : DoneM b L w) (hg : w.grownBy w' row) (hne : some b ≠ row) : DoneM b L w' := by
  obtain ⟨h1, n, h2, h⟩ := h
  exact ⟨h1, n, h2, h.kept hg hne⟩
theorem DoneM.below {b : Nat} {L : List Ed} {w w' : World} (h : DoneM b L w) (hb : Below w.heap.size w w') : DoneM b L w' := h.kept (grown_of_below hb) (fun e => by cases e)
theorem DoneM.obj {b : Nat} {L : List Ed} {w : World} (h : DoneM b L w) : ∃ es c, w.heap[b]? = some (.map es c) := by
  obtain ⟨_, n, _, es, c, h, _⟩ := h
  exact ⟨es, c, h⟩
theorem DoneM.chg {b c : Nat} {L : List Ed} {t : TypeId} {cs : Array Value} {w w' : World} (h : DoneM b L w) (ha : AtB t w c cs) (_ : True) (hc : Chg c w w') : DoneM b L w' :=
  h.kept (row := some c) ⟨hc.os, hc.tape, hc.output, hc.size, fun k hk hne => hc.block k hk (fun e => hne (by rw [e]))⟩ (fun e => by
    injection e with e
    obtain ⟨es, cl, ho⟩ := h.obj
    rw [e, show w.heap[c]? = _ from ha] at ho
    cases ho)
theorem DoneM.nil {b : Nat} {w : World} (h : w.heap[b]? = some (.map #[] 0)) : DoneM b [] w := ⟨fun e he => (by cases he), 0, Nat.le_refl _, Go.Joins.ownsMap_empty h⟩
theorem atKey_fold (u z : DataW Unit) (k : Lit) : ∀ (acc : List Lit) (m : DataW Unit), Maps.IsMap m → (∀ x ∈ acc, WideAt.IsKeyLit x) → (k ∈ acc → (acc.foldl (fun m x => m.put x u) m).atKey k z = u) ∧ (k ∉ acc → (acc.foldl (fun m x => m.put x u) m).atKey k z = m.atKey k z)
  | [], m, _, _ => ⟨fun h => (by cases h), fun _ => rfl⟩
  | x :: r, m, hm, h => by
    rw [List.foldl_cons]
    obtain ⟨i1, i2⟩ := atKey_fold u z k r (m.put x u) (hm.put x u) (fun y hy => h y (by simp [hy]))
    refine ⟨fun hk => ?_, fun hk => ?_⟩
    · by_cases hr : k ∈ r
      · exact i1 hr
      · rw [i2 hr]
        rcases List.mem_cons.1 hk with e | e
        · subst e
          exact Maps.atKey_put_same hm (h k (by simp)) u z
        · exact absurd e hr
    · rw [i2 (fun hr => hk (List.mem_cons_of_mem _ hr)), Maps.atKey_put_other (fun e => hk (by rw [e]; simp))]
theorem atKey_done {L : List Ed} {e : Ed} (hL : ∀ f ∈ L, WfE f) (he : WfE e) : (Maps.setOf (.lit (.bool true)) (L.map keyE) : DataW Unit).atKey (keyE e) (.lit (.bool false)) = .lit (.bool (decide (e ∈ L))) := by
  unfold Maps.setOf
  obtain ⟨i1, i2⟩ := atKey_fold (.lit (.bool true)) (.lit (.bool false)) (keyE e) (L.map keyE) (.map []) Maps.isMap_empty (fun x hx => by
    obtain ⟨f, hf, rfl⟩ := List.mem_map.1 hx
    exact stepK.key (key_at (hL f hf)))
  by_cases h : e ∈ L
  · rw [i1 (List.mem_map.2 ⟨e, h, rfl⟩), decide_eq_true h]
  · rw [i2 (fun hm => by
      obtain ⟨f, hf, hk⟩ := List.mem_map.1 hm
      exact h (key_inj (hL f hf) he hk ▸ hf)), decide_eq_false h]
    rfl
theorem DoneM.look {b : Nat} {L : List Ed} {w : World} (h : DoneM b L w) {e : Ed} (he : WfE e) : (Instr.lookup 81 (.map (some b)) (.agg (edC e)) false).run Try.prog w = .ok (.bool (decide (e ∈ L))) w := by
  obtain ⟨h1, n, _, ho⟩ := h
  obtain ⟨v, ps, hr, hv⟩ := ho.lookup (t := 81) (e := 4) stepK Try.underlying81 (z := .bool false) (by kernel_rfl) (zd := .lit (.bool false)) (zp := []) (by unfold plainElem; rw [Try.underlying4]) (key_at he)
  rw [atKey_done h1 he] at hv
  rw [hr]
  unfold plainElem at hv
  rw [Try.underlying4] at hv
  cases v <;> simp at hv
  rw [hv.1]
section
variable {ops : Array Oper} {rest : List Oper} {o : Oper} {a : Act} {w : World} {Q : Exit → Act → World → Prop}
theorem wpList_done (hg : o.guard = none) (m x : Operand) (hop : o.op = .mapUpdate 81 m x (.const (.bool true))) {b : Nat} {L : List Ed} (hm : a.eval m = .map (some b)) (hd : DoneM b L w) (e : Ed) (hx : a.eval x = .agg (edC e)) (he : WfE e) (hn : L.length < maxLen)
    (h : ∀ w', DoneM b (L ++ [e]) w' → w.grownBy w' (some b) → wpList Try.prog ops Q rest (a.put o.dst undef) w') : wpList Try.prog ops Q (o :: rest) a w := by
  obtain ⟨h1, n, hnl, ho⟩ := hd
  refine wpList_mapUpdate_own (H := Unit) w hg m x (.const (.bool true)) 81 hop 83 4 stepK Try.underlying81 _ b n _ hm ho (by omega) _ (.bool true) _ hx rfl (key_at he) (.lit (.bool true)) [] (by unfold plainElem; rw [Try.underlying4]) fun w' h2 h3 => h w' ⟨fun f hf => ?_, n + 1, by rw [List.length_append]; simp; omega, ?_⟩ h3
  · rcases List.mem_append.1 hf with hf | hf
    · exact h1 f hf
    · rw [List.mem_singleton.1 hf]; exact he
  · rw [List.map_append, List.map_singleton, Maps.setOf_snoc]
    exact h2
end
/-! ### Marks -/
/-- The marks that ranges have left: blocks from n on, each another. -/
def Marks (n : Nat) : List Deferred → World → Prop
  | [], _ => True
  | d :: ds, w => (∃ D, d = { target := .collected D, args := #[] } ∧ n ≤ D ∧ DefAt w D ∧ ∀ D', { target := .collected D', args := #[] } ∈ ds → D' ≠ D) ∧ Marks n ds w
theorem Marks.kept {n : Nat} {w w' : World} : ∀ {ds : List Deferred}, Marks n ds w → (∀ D, DefAt w D → { target := .collected D, args := #[] } ∈ ds → DefAt w' D) → Marks n ds w'
  | [], _, _ => trivial
  | d :: ds, ⟨⟨D, e, hn, hD, hne⟩, h⟩, hk => ⟨⟨D, e, hn, hk D hD (by rw [e]; simp), hne⟩, Marks.kept h (fun D' h1 h2 => hk D' h1 (by simp [h2]))⟩
theorem Marks.below {n : Nat} {w w' : World} {ds : List Deferred} (h : Marks n ds w) (hb : Below w.heap.size w w') : Marks n ds w' := h.kept fun D hD _ => hD.of_eq (hb.block _ hD.lt)
theorem Marks.chg {n c : Nat} {ds : List Deferred} {t : TypeId} {cs : Array Value} {w w' : World} (h : Marks n ds w) (ha : AtB t w c cs) (_ : True) (hc : Chg c w w') : Marks n ds w' := h.kept fun D hD _ => hD.of_eq (hc.block _ hD.lt (fun e => hD.ne ha e.symm))
theorem Marks.lt {n : Nat} {w : World} : ∀ {ds : List Deferred}, Marks n ds w → ∀ D, { target := .collected D, args := #[] } ∈ ds → D < w.heap.size
  | d :: ds, ⟨⟨D, e, hn, hD, hne⟩, h⟩, D', hm => by
    rcases List.mem_cons.1 hm with hm | hm
    · rw [e] at hm
      simp at hm
      rw [hm]; exact hD.lt
    · exact Marks.lt h D' hm
theorem Marks.leaves {F : Fence} {m : Nat} {P : Program} {fn : Func} {tmps : Array Value} {R : Ending → World → Prop} {n : Nat} {I : World → Prop} (hI : ∀ w D, n ≤ D → DefAt w D → I w → I (w.putObj D (.deferred none))) (hR : ∀ w, I w → LeavesIn F m P fn tmps R [] .returning w) :
    ∀ {ds : List Deferred} {w : World}, Marks n ds w → I w → LeavesInM F m P fn tmps R ds .returning w
  | [], w, _, h => hR w h
  | d :: ds, w, ⟨⟨D, e, hn, hD, hne⟩, h⟩, hi => by
    refine ⟨by simp, .inl ⟨D, _, by rw [e], run_takeDeferred hD, ?_⟩⟩
    refine Marks.leaves hI hR (h.kept fun D' h1 h2 => ?_) (hI w D hn hD hi)
    exact (World.putObj_heap_other (hne D' h2)).trans h1
end Go.Proofs.Ytamgpfblhlfhaaa
/- Lists of edges; lists of polygons: slices of slices that the call owns. -/
namespace Go.Proofs.Ytamgpfblhlfhaaa
open Go.RowKit Go.Shelf Pl
set_option linter.unusedVariables false
set_option linter.unusedSimpArgs false
set_option maxRecDepth 20000
def edE : Elt Ed 3 83 85 where
  enc := edC
  bytes := 24
  zero := ⟨0, 0, 0⟩
  size := fun _ => rfl
  one := fun x u hu => by
    have : u ∈ [Value.int .i64 x.x, .int .i64 x.y, .int .i64 x.d] := hu
    rcases List.mem_cons.1 this with rfl | this
    · rfl
    · rcases List.mem_cons.1 this with rfl | this
      · rfl
      · rw [List.mem_singleton.1 this]; rfl
  pos := by omega
  small := by omega
  und := Try.underlying85
  info := by kernel_rfl
  zer := by kernel_rfl
def rdE : Elt Ed 3 92 90 where
  enc := edC
  bytes := 24
  zero := ⟨0, 0, 0⟩
  size := fun _ => rfl
  one := fun x u hu => by
    have : u ∈ [Value.int .i64 x.x, .int .i64 x.y, .int .i64 x.d] := hu
    rcases List.mem_cons.1 this with rfl | this
    · rfl
    · rcases List.mem_cons.1 this with rfl | this
      · rfl
      · rw [List.mem_singleton.1 this]; rfl
  pos := by omega
  small := by omega
  und := Try.underlying90
  info := by kernel_rfl
  zer := by kernel_rfl
structure Slc where
  a : Option Addr
  n : Nat
  c : Nat
def Slc.v (s : Slc) : Value := .slice s.a s.n s.c
def slE : Elt Slc 1 22 39 where
  enc := fun s => #[s.v]
  bytes := 24
  zero := ⟨none, 0, 0⟩
  size := fun _ => rfl
  one := fun x u hu => by
    have : u ∈ [x.v] := hu
    rw [List.mem_singleton.1 this]; rfl
  pos := by omega
  small := by omega
  und := Try.underlying39
  info := by kernel_rfl
  zer := by kernel_rfl
section
variable {α β : Type} {k k' : Nat} {T ST T' ST' : TypeId} {E : Elt α k T ST} {E' : Elt β k' T' ST'} {B B' : Nat} {v v' : Value} {ls : List α} {ls' : List β} {w w' : World}
theorem OwnE.kept {row : Option Nat} (h : OwnE E B v ls w) (hg : w.grownBy w' row) (hne : v.ownBlock = none ∨ v.ownBlock ≠ row) : OwnE E B v ls w' := World.ownsRow.kept h hg hne
theorem OwnE.obj {g : Nat} (h : OwnE E B v ls w) (hv : v.ownBlock = some g) : ∃ cur, w.heap[g]? = some (.cells cur T (0, 0)) := by
  obtain ⟨_, h2⟩ := h
  rcases h2 with ⟨rfl, _⟩ | ⟨g', cap, cur, rfl, _, hg, _⟩
  · cases hv
  · have : g' = g := by simpa [Value.ownBlock] using hv
    rw [← this]
    exact ⟨cur, hg⟩
theorem OwnE.ne_obj {o : Obj} {r : Nat} (h : OwnE E B v ls w) (hr : w.heap[r]? = some o) (hT : ∀ cur, o ≠ .cells cur T (0, 0)) : v.ownBlock = none ∨ v.ownBlock ≠ some r := by
  cases hv : v.ownBlock with
  | none => exact .inl rfl
  | some g =>
    right
    intro e
    injection e with e
    obtain ⟨cur, hc⟩ := h.obj hv
    rw [e, hr] at hc
    injection hc with hc
    exact hT cur hc
theorem OwnE.ne_of (hT : T ≠ T') (h : OwnE E B v ls w) (h' : OwnE E' B' v' ls' w) : v.ownBlock = none ∨ v.ownBlock ≠ v'.ownBlock := by
  cases hv' : v'.ownBlock with
  | none =>
    cases hv : v.ownBlock with
    | none => exact .inl rfl
    | some g => exact .inr (by simp)
  | some r =>
    obtain ⟨cur, hc⟩ := h'.obj hv'
    exact h.ne_obj hc (fun cur' e => by
      injection e with _ e
      exact hT e.symm)
theorem OwnE.blk (h : OwnE E B v ls w) {g : Nat} (hv : v.ownBlock = some g) : B ≤ g ∧ g < w.heap.size := World.ownsRow.lt h g hv
variable {ops : Array Oper} {rest : List Oper} {o : Oper} {a : Act} {Q : Exit → Act → World → Prop}
/-- A slice appended to a row of the call's own: which block is turned. -/
theorem wpList_appendXB (hg : o.guard = none) (s x : Operand) (ho : o.op = .call { callee := .builtin .append, args := #[s, x], argTypes := #[ST, ST] }) (v u : Value) (hs : a.eval s = v) (hx : a.eval x = u) {ks : List α} (hown : OwnE E B v ls w) (hu : RSE E u ks w) (hks : 0 < ks.length) (hlen : ls.length + ks.length ≤ maxLen) (hby' : (ls.length + ks.length) * E.bytes ≤ 140737488355328) (hB : B ≤ w.heap.size)
    (h : ∀ v' w', OwnE E B v' (ls ++ ks) w' → w.grownBy w' v.ownBlock → wpList Try.prog ops Q rest (a.put o.dst v') w') : wpList Try.prog ops Q (o :: rest) a w := by
  obtain ⟨i, z, hi, hz, hsz, hby, hzc⟩ := E.facts
  have hzs : z.cells.size = k := by rw [hzc, E.size]
  obtain ⟨ad, c, rfl, hc⟩ := hu.len
  obtain ⟨g, of, rfl, sc⟩ := hu.at hks
  refine wpList_append_own (P := Try.prog) w hg s x ST ho B T i z k E.bytes E.und hi hz hsz hby hzs E.pos v ls.length (rowE E ls) hs hown ⟨g, of, none⟩ ks.length c (rowE E ks) hx (rowE_length E ks) ?_ (rowE_oneCell E ks) hlen hby' hB ?_
  · intro j u hu
    have e : (⟨g, of, none⟩ : Addr).add j = ⟨g, of + j, none⟩ := by unfold Addr.add; split <;> simp_all
    rw [e]
    exact sc.row j u hu
  · intro v' w' h1 h2 h3
    refine h v' w' ?_ h2
    unfold OwnE
    rw [rowE_append, List.length_append]
    exact h1
/-- A slice appended to a row of the call's own: which block is turned. -/
theorem wpList_appendX (hg : o.guard = none) (s x : Operand) (ho : o.op = .call { callee := .builtin .append, args := #[s, x], argTypes := #[ST, ST] }) (v u : Value) (hs : a.eval s = v) (hx : a.eval x = u) {ks : List α} (hown : OwnE E B v ls w) (hu : RSE E u ks w) (hks : 0 < ks.length) (hlen : ls.length + ks.length ≤ 100000000) (hB : B ≤ w.heap.size)
    (h : ∀ v' w', OwnE E B v' (ls ++ ks) w' → w.grownBy w' v.ownBlock → wpList Try.prog ops Q rest (a.put o.dst v') w') : wpList Try.prog ops Q (o :: rest) a w := by
  refine wpList_appendXB hg s x ho v u hs hx hown hu hks (by unfold maxLen; omega) ?_ hB h
  have := Nat.mul_le_mul hlen E.small
  omega
end
/-- v is a list of the polygons P: rows that the call owns. -/
def OwnP (B : Nat) (v : Value) (P : List (List Pnt)) (w : World) : Prop := ∃ vs : List Slc, OwnE slE B v vs w ∧ vs.length = P.length ∧ ∀ (i : Nat) (s : Slc) (l : List Pnt), vs[i]? = some s → P[i]? = some l → OwnE ptE B s.v l w
/-- v is a list of the polygons P. -/
def RPoly (v : Value) (P : List (List Pnt)) (w : World) : Prop := ∃ vs : List Slc, RSE slE v vs w ∧ vs.length = P.length ∧ ∀ (i : Nat) (s : Slc) (l : List Pnt), vs[i]? = some s → P[i]? = some l → RSE ptE s.v l w
section
variable {B : Nat} {v : Value} {P : List (List Pnt)} {w w' : World}
theorem OwnP.nil (B : Nat) (w : World) : OwnP B (.slice none 0 0) [] w := ⟨[], OwnE.nil B w, rfl, fun i s l h => (by simp at h)⟩
theorem OwnP.kept {row : Option Nat} (h : OwnP B v P w) (hg : w.grownBy w' row) (hr : ∀ r, row = some r → ∃ o : Obj, w.heap[r]? = some o ∧ (∀ cur, o ≠ .cells cur 22 (0, 0)) ∧ ∀ cur, o ≠ .cells cur 44 (0, 0)) : OwnP B v P w' := by
  obtain ⟨vs, h1, h2, h3⟩ := h
  have key : ∀ {α : Type} {k : Nat} {T ST : TypeId} {E : Elt α k T ST} {v : Value} {ls : List α}, OwnE E B v ls w → (∀ r, row = some r → ∃ o : Obj, w.heap[r]? = some o ∧ ∀ cur, o ≠ .cells cur T (0, 0)) → OwnE E B v ls w' := fun ho hrr => by
    refine ho.kept hg ?_
    cases hrow : row with
    | none =>
      rename_i v _
      cases hv : v.ownBlock with
      | none => exact .inl rfl
      | some g => exact .inr (by simp)
    | some r =>
      obtain ⟨o, h4, h5⟩ := hrr r hrow
      exact ho.ne_obj h4 h5
  exact ⟨vs, key h1 (fun r e => let ⟨o, a, b, _⟩ := hr r e; ⟨o, a, b⟩), h2, fun i s l a b => key (h3 i s l a b) (fun r e => let ⟨o, a, _, b⟩ := hr r e; ⟨o, a, b⟩)⟩
theorem OwnP.below (h : OwnP B v P w) (hb : Below w.heap.size w w') : OwnP B v P w' := h.kept (grown_of_below hb) (fun r e => by cases e)
theorem OwnP.mono {B' : Nat} (h : OwnP B v P w) (hb : B' ≤ B) : OwnP B' v P w := by
  obtain ⟨vs, h1, h2, h3⟩ := h
  exact ⟨vs, h1.mono hb, h2, fun i s l a b => (h3 i s l a b).mono hb⟩
theorem OwnP.len (h : OwnP B v P w) : ∃ a c, v = .slice a P.length c ∧ P.length ≤ c := by
  obtain ⟨vs, h1, h2, h3⟩ := h
  rw [← h2]
  exact h1.len
theorem OwnP.blk (h : OwnP B v P w) {g : Nat} (hv : v.ownBlock = some g) : B ≤ g ∧ g < w.heap.size ∧ ∃ cur, w.heap[g]? = some (.cells cur 22 (0, 0)) := by
  obtain ⟨vs, h1, h2, h3⟩ := h
  exact ⟨(h1.blk hv).1, (h1.blk hv).2, h1.obj hv⟩
theorem OwnP.rs (h : OwnP B v P w) : RPoly v P w := by
  obtain ⟨vs, h1, h2, h3⟩ := h
  exact ⟨vs, h1.rs, h2, fun i s l a b => (h3 i s l a b).rs⟩
theorem RPoly.below (h : RPoly v P w) (hb : Below w.heap.size w w') : RPoly v P w' := by
  obtain ⟨vs, h1, h2, h3⟩ := h
  exact ⟨vs, h1.below hb, h2, fun i s l a b => (h3 i s l a b).below hb⟩
theorem RPoly.len (h : RPoly v P w) : ∃ a c, v = .slice a P.length c ∧ P.length ≤ c := by
  obtain ⟨vs, h1, h2, h3⟩ := h
  rw [← h2]
  exact h1.len
variable {ops : Array Oper} {rest : List Oper} {o : Oper} {a : Act} {Q : Exit → Act → World → Prop}
/-- A polygon appended. -/
theorem wpList_appendP (hg : o.guard = none) (s x : Operand) (ho : o.op = .call { callee := .builtin .append, args := #[s, x], argTypes := #[39, 39] }) (v : Value) (hs : a.eval s = v) (sl : Slc) (l : List Pnt) {b : Nat} (hx : a.eval x = .slice (some ⟨b, 0, none⟩) 1 1) (hown : OwnP B v P w) (hb : AtB 22 w b #[sl.v]) (hl : OwnE ptE B sl.v l w) (hlen : P.length + 1 ≤ 100000000) (hB : B ≤ w.heap.size)
    (h : ∀ v' w', OwnP B v' (P ++ [l]) w' → w.grownBy w' v.ownBlock → wpList Try.prog ops Q rest (a.put o.dst v') w') : wpList Try.prog ops Q (o :: rest) a w := by
  obtain ⟨vs, h1, h2, h3⟩ := hown
  refine wpList_appendX (E := slE) hg s x ho v _ hs hx h1 (RSE.one (E := slE) (x := sl) hb) (by simp) (by rw [h2]; simpa using hlen) hB fun v' w' h4 h5 => h v' w' ⟨vs ++ [sl], h4, by simp [h2], fun i s l' hi hl' => ?_⟩ h5
  rw [List.getElem?_append] at hi hl'
  by_cases hlt : i < vs.length
  · rw [if_pos hlt] at hi
    rw [if_pos (by omega)] at hl'
    exact (h3 i s l' hi hl').kept h5 ((h3 i s l' hi hl').ne_of (by decide) h1)
  · rw [if_neg hlt] at hi
    rw [if_neg (by omega)] at hl'
    have e : i - vs.length = 0 := by
      have := (List.getElem?_eq_some_iff.1 hi).1
      simp at this
      omega
    rw [e] at hi
    rw [show i - P.length = 0 by omega] at hl'
    have e1 : sl = s := by simpa using hi
    have e2 : l = l' := by simpa using hl'
    subst e1 e2
    exact hl.kept h5 (hl.ne_of (by decide) h1)
end
end Go.Proofs.Ytamgpfblhlfhaaa
/- Plain: how many edges, how many polygons a scan has. -/
namespace Go.Proofs.Ytamgpfblhlfhaaa
open Go.RowKit Pl
set_option linter.unusedVariables false
set_option linter.unusedSimpArgs false
theorem scan1_len {S : Int → Int → Bool} {r : Rc} (hb : BoxE S r) (st : ScSt) (x y : Int) : (scan1 S r st x y).1.length ≤ st.1.length + boxN r ∧ (scan1 S r st x y).2.length ≤ st.2.length + 1 := by
  unfold scan1
  by_cases h : (decide ((⟨x, y, 0⟩ : Ed) ∈ st.1) || !hasE S x y 0) = true
  · rw [if_pos h]; omega
  · rw [if_neg h]
    simp only [Bool.or_eq_true, not_or, Bool.not_eq_true', Bool.not_eq_false] at h
    have hB : Bnd S ⟨x, y, 0⟩ := ⟨⟨Int.le_refl _, by show (0 : Int) ≤ 3; omega⟩, h.2⟩
    have := (perE_spec hb hB).2.2.1
    simp only [List.length_append, List.length_cons, List.length_nil]
    unfold folE
    rw [orbK_len]
    omega
theorem scanX_len {S : Int → Int → Bool} {r : Rc} (hb : BoxE S r) (y : Int) (st : ScSt) : ∀ k, (scanX S r y st k).1.length ≤ st.1.length + k * boxN r ∧ (scanX S r y st k).2.length ≤ st.2.length + k
  | 0 => by show st.1.length ≤ _ ∧ st.2.length ≤ _; omega
  | k + 1 => by
    have ih := scanX_len hb y st k
    have h1 := scan1_len hb (scanX S r y st k) (r.x0 + (k : Int)) y
    show (scan1 S r (scanX S r y st k) (r.x0 + (k : Int)) y).1.length ≤ _ ∧ _
    rw [Nat.succ_mul]
    exact ⟨by omega, by have h2 := h1.2; show (scan1 S r (scanX S r y st k) (r.x0 + (k : Int)) y).2.length ≤ _; omega⟩
theorem scanY_len {S : Int → Int → Bool} {r : Rc} (hb : BoxE S r) : ∀ k, (scanY S r k).1.length ≤ k * ((r.x1 - r.x0).toNat * boxN r) ∧ (scanY S r k).2.length ≤ k * (r.x1 - r.x0).toNat
  | 0 => by show (0 : Nat) ≤ _ ∧ (0 : Nat) ≤ _; omega
  | k + 1 => by
    have ih := scanY_len hb k
    have h1 := scanX_len hb (r.y0 + (k : Int)) (scanY S r k) (r.x1 - r.x0).toNat
    show (scanX S r (r.y0 + (k : Int)) (scanY S r k) (r.x1 - r.x0).toNat).1.length ≤ _ ∧ (scanX S r (r.y0 + (k : Int)) (scanY S r k) (r.x1 - r.x0).toNat).2.length ≤ _
    rw [Nat.succ_mul, Nat.succ_mul]
    omega
/-- In a small box. -/
theorem box_small {r : Rc} (h : -100 ≤ r.x0 ∧ r.x1 ≤ 100 ∧ -100 ≤ r.y0 ∧ r.y1 ≤ 100) : boxN r ≤ 161604 ∧ (r.x1 - r.x0).toNat ≤ 200 ∧ (r.y1 - r.y0).toNat ≤ 200 := by
  have h1 : (r.x1 - r.x0).toNat ≤ 200 := by omega
  have h2 : (r.y1 - r.y0).toNat ≤ 200 := by omega
  refine ⟨?_, h1, h2⟩
  unfold boxN
  have h3 := Nat.mul_le_mul (show 4 * ((r.x1 - r.x0).toNat + 1) ≤ 804 by omega) (show (r.y1 - r.y0).toNat + 1 ≤ 201 by omega)
  omega
theorem scan_small {S : Int → Int → Bool} {r : Rc} (hb : BoxE S r) (h : -100 ≤ r.x0 ∧ r.x1 ≤ 100 ∧ -100 ≤ r.y0 ∧ r.y1 ≤ 100) {i j : Nat} (hi : i ≤ (r.y1 - r.y0).toNat) (hj : j ≤ (r.x1 - r.x0).toNat) (y : Int) :
    (scanX S r y (scanY S r i) j).1.length ≤ 7000000000 ∧ (scanX S r y (scanY S r i) j).2.length ≤ 50000 := by
  obtain ⟨b1, b2, b3⟩ := box_small h
  have h1 := scanX_len hb y (scanY S r i) j
  have h2 := scanY_len hb i
  have m1 : j * boxN r ≤ 200 * 161604 := Nat.mul_le_mul (by omega) b1
  have m2 : (r.x1 - r.x0).toNat * boxN r ≤ 200 * 161604 := Nat.mul_le_mul b2 b1
  have m3 : i * ((r.x1 - r.x0).toNat * boxN r) ≤ 200 * (200 * 161604) := Nat.mul_le_mul (by omega) m2
  have m4 : i * (r.x1 - r.x0).toNat ≤ 200 * 200 := Nat.mul_le_mul (by omega) b2
  omega
/-- The direction that is tried j-th. -/
def dirF (d : Int) (j : Nat) : Int := (d + 1 + 3 * (j : Int)) % 4
/-- The first direction, of those tried so far, in which an edge goes on; -1 where none does. -/
def nxF (S : Int → Int → Bool) (x y d : Int) : Nat → Int
  | 0 => -1
  | j + 1 => if (hasE S x y (dirF d j) && decide (nxF S x y d j < 0)) = true then dirF d j else nxF S x y d j
end Go.Proofs.Ytamgpfblhlfhaaa
/- For Outline: blocks for a map, for a list of edges; what a range over edges leaves as it was. -/
namespace Go.Proofs.Ytamgpfblhlfhaaa
open Go.RowKit Go.Shelf Pl
attribute [local go_sem] Oper.semAt_some
set_option linter.unusedVariables false
set_option linter.unusedSimpArgs false
set_option maxRecDepth 20000
theorem run_alloc_Bd (w : World) (o : Oper) (ho : o.op = .alloc 80) (ev : Operand → Value) : (execOp ev o).run Try.prog w = .ok (.value (.pointer (some ⟨w.heap.size, 0, none⟩))) (w.alloc (.cells #[.nilFunc] 80)) := by
  obtain ⟨d, p, t, ps, af, gd⟩ := o
  simp only at ho
  subst ho
  kernel_rfl
theorem run_alloc_Mv (w : World) (o : Oper) (ho : o.op = .alloc 81) (ev : Operand → Value) : (execOp ev o).run Try.prog w = .ok (.value (.pointer (some ⟨w.heap.size, 0, none⟩))) (w.alloc (.cells #[.map none] 81)) := by
  obtain ⟨d, p, t, ps, af, gd⟩ := o
  simp only at ho
  subst ho
  kernel_rfl
theorem run_alloc_Ss (w : World) (o : Oper) (ho : o.op = .alloc 85) (ev : Operand → Value) : (execOp ev o).run Try.prog w = .ok (.value (.pointer (some ⟨w.heap.size, 0, none⟩))) (w.alloc (.cells #[.slice none 0 0] 85)) := by
  obtain ⟨d, p, t, ps, af, gd⟩ := o
  simp only at ho
  subst ho
  kernel_rfl
theorem run_load_mv {w : World} {b j : Nat} {v : Value} (h : w.cell? ⟨b, j, none⟩ = some v) : (Instr.loadAt 81 (.pointer (some ⟨b, j, none⟩))).run Try.prog w = .ok v w := by
  simp [go_sem, h]
theorem run_load_ss {w : World} {b j : Nat} {v : Value} (h : w.cell? ⟨b, j, none⟩ = some v) : (Instr.loadAt 85 (.pointer (some ⟨b, j, none⟩))).run Try.prog w = .ok v w := by
  simp [go_sem, h]
section
variable {v : Value} {ops : Array Oper} {rest : List Oper} {o : Oper} {a : Act} {w : World} {Q : Exit → Act → World → Prop}
theorem wpList_storeSs (hg : o.guard = none) (x y : Operand) (ho : o.op = .store 85 x y) (b : Nat) (hx : a.eval x = .pointer (some ⟨b, 0, none⟩)) (a' : Option Addr) (n' c' : Nat) (hy : a.eval y = .slice a' n' c') (ht : AtB 85 w b #[v])
    (h : ∀ w', AtB 85 w' b #[.slice a' n' c'] → Chg b w w' → w'.heap.size = w.heap.size → wpList Try.prog ops Q rest (a.put o.dst undef) w') : wpList Try.prog ops Q (o :: rest) a w := by
  have c0 := ht.cell 0 rfl
  have f0 := ht.frozen 0
  refine wpList_storeAny hg x y ho (w.setCell ⟨b, 0, none⟩ (.slice a' n' c')) ?_ (h _ ?_ ((Chg.refl b w).setCell _) (by simp only [World.size_setCell]))
  · rw [hx, hy]
    simp [go_sem, c0, f0]
  · exact heap_setCell_same w b 0 #[v] _ _ ht
theorem wpList_storeMv (hg : o.guard = none) (x y : Operand) (ho : o.op = .store 81 x y) (b m : Nat) (hx : a.eval x = .pointer (some ⟨b, 0, none⟩)) (hy : a.eval y = .map (some m)) (ht : AtB 81 w b #[v])
    (h : ∀ w', AtB 81 w' b #[.map (some m)] → Chg b w w' → w'.heap.size = w.heap.size → wpList Try.prog ops Q rest (a.put o.dst undef) w') : wpList Try.prog ops Q (o :: rest) a w := by
  have c0 := ht.cell 0 rfl
  have f0 := ht.frozen 0
  refine wpList_storeAny hg x y ho (w.setCell ⟨b, 0, none⟩ (.map (some m))) ?_ (h _ ?_ ((Chg.refl b w).setCell _) (by simp only [World.size_setCell]))
  · rw [hx, hy]
    simp [go_sem, c0, f0]
  · exact heap_setCell_same w b 0 #[v] _ _ ht
theorem wpList_mkMap (hg : o.guard = none) (ho : o.op = .makeMap 81 none)
    (h : ∀ b w', w.heap.size ≤ b → b ≤ w.heap.size → DoneM b [] w' → Below b w w' → w'.heap.size = b + 1 → wpList Try.prog ops Q rest (a.put o.dst (.map (some b))) w') : wpList Try.prog ops Q (o :: rest) a w :=
  wpList_plain hg fun K hK => by
    unfold Oper.wp
    have e : (execOp a.eval o).run Try.prog w = .ok (.value (.map (some w.heap.size))) (w.alloc (.map #[] 0)) := by
      obtain ⟨d, p, t, ps, af, gd⟩ := o
      simp only at ho
      subst ho
      rfl
    rw [e]
    exact hK _ _ (h _ _ (Nat.le_refl _) (Nat.le_refl _) (DoneM.nil (World.alloc_heap_new w _)) ((Below.refl _ _).alloc (Nat.le_refl _) _) (World.size_alloc _ _))
end
/-- Of what was there at A only the blocks m and l have turned. -/
structure KX (A : World) (m l : Nat) (W : World) : Prop where
  os : W.os = A.os
  tape : W.tape = A.tape
  output : W.output = A.output
  size : A.heap.size ≤ W.heap.size
  block : ∀ k, k < A.heap.size → k ≠ m → k ≠ l → W.heap[k]? = A.heap[k]?
theorem KX.refl (A : World) (m l : Nat) : KX A m l A := ⟨rfl, rfl, rfl, Nat.le_refl _, fun _ _ _ _ => rfl⟩
theorem KX.grown {A W W' : World} {m l : Nat} {row : Option Nat} (h : KX A m l W) (hg : W.grownBy W' row) (hr : ∀ r, row = some r → A.heap.size ≤ r ∨ r = m ∨ r = l) : KX A m l W' :=
  ⟨hg.os.trans h.os, hg.tape.trans h.tape, hg.output.trans h.output, Nat.le_trans h.size hg.size, fun k hk h1 h2 => (hg.block k (by have := h.size; omega) (fun e => by have := hr k e.symm; omega)).trans (h.block k hk h1 h2)⟩
theorem KX.atB {A W : World} {m l b : Nat} {t : TypeId} {cs : Array Value} (h : KX A m l W) (ha : AtB t A b cs) (h1 : b ≠ m) (h2 : b ≠ l) : AtB t W b cs := ha.of_eq (h.block b ha.lt h1 h2)
theorem KX.below {A W w : World} {m l n : Nat} (h : KX A m l W) (hb : Below n w A) (hn : n ≤ A.heap.size) (h1 : n ≤ m) (h2 : n ≤ l) : Below n w W :=
  ⟨h.os.trans hb.os, h.tape.trans hb.tape, h.output.trans hb.output, Nat.le_trans hb.size h.size, fun k hk => (h.block k (by omega) (by omega) (by omega)).trans (hb.block k hk)⟩
theorem KX.hold {A W w : World} {m l n : Nat} (h : KX A m l W) (hb : HoldC n w A) (h1 : n ≤ m) (h2 : n ≤ l) : HoldC n w W := fun k o hk ho hc => by
  have h3 := hb k o hk ho hc
  exact (h.block k (Array.getElem?_eq_some_iff.1 h3).1 (by omega) (by omega)).trans h3
theorem KX.marks {A W : World} {m l n : Nat} {ds : List Deferred} (h : KX A m l W) (hm : Marks n ds A) (h1 : ∀ D, DefAt A D → D ≠ m) (h2 : ∀ D, DefAt A D → D ≠ l) : Marks n ds W := hm.kept fun D hD _ => hD.of_eq (h.block D hD.lt (h1 D hD) (h2 D hD))
theorem OwnE.keptO {α : Type} {k : Nat} {T ST : TypeId} {E : Elt α k T ST} {B : Nat} {v : Value} {ls : List α} {w w' : World} (h : OwnE E B v ls w) (hk : ∀ (g : Nat) (cur : Array Value), w.heap[g]? = some (Obj.cells cur T (0, 0)) → w'.heap[g]? = some (Obj.cells cur T (0, 0))) : OwnE E B v ls w' := by
  obtain ⟨h1, h2⟩ := h
  refine ⟨h1, ?_⟩
  rcases h2 with h2 | ⟨g, cap, cur, e, hb, hg, r⟩
  · exact .inl h2
  · exact .inr ⟨g, cap, cur, e, hb, hk g cur hg, r⟩
theorem OwnP.keptO {B : Nat} {v : Value} {P : List (List Pnt)} {w w' : World} (h : OwnP B v P w) (hk : ∀ (g : Nat) (cur : Array Value) (t : TypeId), t = 22 ∨ t = 44 → w.heap[g]? = some (Obj.cells cur t (0, 0)) → w'.heap[g]? = some (Obj.cells cur t (0, 0))) : OwnP B v P w' := by
  obtain ⟨vs, h1, h2, h3⟩ := h
  exact ⟨vs, h1.keptO (fun g cur => hk g cur _ (.inl rfl)), h2, fun i s l a b => (h3 i s l a b).keptO (fun g cur => hk g cur _ (.inr rfl))⟩
theorem OwnP.chg {B c : Nat} {v : Value} {P : List (List Pnt)} {t : TypeId} {cs : Array Value} {w w' : World} (h : OwnP B v P w) (ha : AtB t w c cs) (ht : t ≠ 22 ∧ t ≠ 44) (hc : Chg c w w') : OwnP B v P w' :=
  h.keptO fun g cur t' ht' hg => (hc.block g (Array.getElem?_eq_some_iff.1 hg).1 (fun e => by
    rw [e, show w.heap[c]? = _ from ha] at hg
    injection hg with hg
    injection hg with _ hg
    rcases ht' with rfl | rfl
    · exact ht.1 hg
    · exact ht.2 hg)).trans hg
theorem KX.polys {A W : World} {m l B : Nat} {v : Value} {P : List (List Pnt)} (h : KX A m l W) (hp : OwnP B v P A) (h1 : ∃ es c, A.heap[m]? = some (.map es c)) {t : TypeId} {cs : Array Value} (h2 : AtB t A l cs) (ht : t ≠ 22 ∧ t ≠ 44) : OwnP B v P W :=
  hp.keptO fun g cur t' ht' hg => (h.block g (Array.getElem?_eq_some_iff.1 hg).1 (fun e => by
    obtain ⟨es, c, h1⟩ := h1
    rw [e, h1] at hg
    cases hg) (fun e => by
    rw [e, show A.heap[l]? = _ from h2] at hg
    injection hg with hg
    injection hg with _ hg
    rcases ht' with rfl | rfl
    · exact ht.1 hg
    · exact ht.2 hg)).trans hg
/-- A range's facts lie in cells, the map aside. -/
theorem chg_of_grown {w w' : World} {b : Nat} (h : w.grownBy w' (some b)) : Chg b w w' := ⟨h.os, h.tape, h.output, h.size, fun k hk hne => h.block k hk (fun e => hne (by injection e))⟩
theorem DoneM.ne {m b : Nat} {L : List Ed} {t : TypeId} {cs : Array Value} {w : World} (h : DoneM m L w) (ha : AtB t w b cs) : b ≠ m := fun e => by
  obtain ⟨es, c, ho⟩ := h.obj
  rw [← e, show w.heap[b]? = _ from ha] at ho
  cases ho
theorem DoneM.neD {m D : Nat} {L : List Ed} {w : World} (h : DoneM m L w) (ha : DefAt w D) : D ≠ m := fun e => by
  obtain ⟨es, c, ho⟩ := h.obj
  rw [← e, show w.heap[D]? = _ from ha] at ho
  cases ho
theorem DoneM.of_eq {b : Nat} {L : List Ed} {w w' : World} (h : DoneM b L w) (e : w'.heap[b]? = w.heap[b]?) : DoneM b L w' := by
  obtain ⟨h1, n, h2, es, c, h3, r⟩ := h
  exact ⟨h1, n, h2, es, c, e.trans h3, r⟩
theorem OwnE.chgT {α : Type} {k : Nat} {T ST : TypeId} {E : Elt α k T ST} {B c : Nat} {v : Value} {ls : List α} {t : TypeId} {cs : Array Value} {w w' : World} (h : OwnE E B v ls w) (ha : AtB t w c cs) (ht : t ≠ T) (hc : Chg c w w') : OwnE E B v ls w' :=
  h.keptO fun g cur hg => (hc.block g (Array.getElem?_eq_some_iff.1 hg).1 (fun e => by
    rw [e, show w.heap[c]? = _ from ha] at hg
    injection hg with hg
    injection hg with _ hg
    exact ht hg)).trans hg
theorem OwnE.ownR {α : Type} {k : Nat} {T ST : TypeId} {E : Elt α k T ST} {B : Nat} {v : Value} {ls : List α} {w w' : World} {row : Option Nat} (h : OwnE E B v ls w) (hg : w.grownBy w' row) (hr : ∀ r, row = some r → ∃ o : Obj, w.heap[r]? = some o ∧ o.isCells = false) : OwnE E B v ls w' := by
  refine h.kept hg ?_
  cases hrow : row with
  | none =>
    cases hv : v.ownBlock with
    | none => exact .inl rfl
    | some g => exact .inr (by simp)
  | some r =>
    obtain ⟨o, h1, h2⟩ := hr r hrow
    exact h.ne_obj h1 (fun cur e => by rw [e] at h2; cases h2)
theorem OwnE.keptC {α : Type} {k : Nat} {T ST : TypeId} {E : Elt α k T ST} {B : Nat} {v : Value} {ls : List α} {w w' : World} {row : Option Nat} (h : OwnE E B v ls w) (hg : w.grownBy w' row) (hr : ∀ r, row = some r → r < B) : OwnE E B v ls w' := by
  refine h.kept hg ?_
  cases hv : v.ownBlock with
  | none => exact .inl rfl
  | some g => exact .inr fun e => by have := hr g e.symm; have := (h.blk hv).1; omega
theorem KX.exc {A W W' : World} {m l n : Nat} (h : KX A m l W) (he : Exc m n W W') (hn : A.heap.size ≤ n) : KX A m l W' :=
  ⟨he.os.trans h.os, he.tape.trans h.tape, he.output.trans h.output, Nat.le_trans h.size he.grow, fun k hk h1 h2 => (he.block k (by omega) h1).trans (h.block k hk h1 h2)⟩
theorem KX.chgL {A W W' : World} {m l : Nat} (h : KX A m l W) (hc : Chg l W W') : KX A m l W' :=
  ⟨hc.os.trans h.os, hc.tape.trans h.tape, hc.output.trans h.output, Nat.le_trans h.size hc.size, fun k hk h1 h2 => (hc.block k (by have := h.size; omega) h2).trans (h.block k hk h1 h2)⟩
theorem rce_edS {g o : Nat} {ls : List Ed} {w : World} (h : RCellsE edE g o ls w) {i : Nat} {x y d : Int} (hi : ls[i]? = some ⟨x, y, d⟩) : (Instr.loadAt 83 (.pointer (some ⟨g, o + i * 3, none⟩))).run Try.prog w = .ok (.agg #[.int .i64 x, .int .i64 y, .int .i64 d]) w :=
  h.load Try.isAgg83 hi
theorem rce_eddS {g o : Nat} {ls : List Ed} {w : World} (h : RCellsE edE g o ls w) {i : Nat} {x y d : Int} (hi : ls[i]? = some ⟨x, y, d⟩) : (Instr.loadAt 3 (.pointer (some ⟨g, o + i * 3 + 2, none⟩))).run Try.prog w = .ok (.int .i64 d) w :=
  run_load_int (by have := h.2 i _ hi 2 (by omega); rw [← Nat.add_assoc] at this; exact this)
section
variable {ops : Array Oper} {rest : List Oper} {o : Oper} {a : Act} {w : World} {Q : Exit → Act → World → Prop}
theorem owp_bs1S {K : Act → World → Prop} (y : Operand) (ho : o.op = .buildSlice 39 1 #[(0, y)]) (s : Slc) (hy : a.eval y = s.v)
    (h : ∀ b w', w.heap.size ≤ b → b ≤ w.heap.size → AtB 22 w' b #[s.v] → Below b w w' → w'.heap.size = b + 1 → K (a.put o.dst (.slice (some ⟨b, 0, none⟩) 1 1)) w') : o.wp Try.prog a w K Q := by
  obtain ⟨i, z, hi, hz, hsz, hby, hzc⟩ := slE.facts
  refine wp_buildSlice 39 22 1 #[(0, y)] ho #[s.v] i z slE.und hi hz (by rw [hsz]; omega) (by rw [hsz]; omega) ?_ (h _ _ (Nat.le_refl _) (Nat.le_refl _) (by unfold AtB; rw [heap_get_alloc, if_pos rfl]) ((Below.refl _ _).alloc (Nat.le_refl _) _) (World.size_alloc _ _))
  rw [hsz]
  have hp : ((#[(0, y)] : Array (Nat × Operand)).map fun (i, x) => (i, a.eval x)).toList = [(0, s.v)] := by simp [hy]
  rw [hp]
  have hc : (s.v).cells = #[s.v] := rfl
  obtain ⟨r, hr1, hr2, hr3⟩ := Great.fill_dense (show 0 < 1 by omega) [s.v] 0 ((Array.range (1 * 1)).map (z.cells[· % z.cells.size]!)) (fun v hv => by rw [List.mem_singleton.1 hv, hc]; rfl) (by simp)
  have e : (([s.v].zipIdx 0).map fun y => (y.2, y.1)) = [(0, s.v)] := rfl
  rw [e] at hr1
  rw [hr1]
  congr 1
  apply Array.ext_getElem?
  intro j
  rw [hr3 j]
  by_cases h : j < 1
  · have : j = 0 := by omega
    subst this
    simp [hc]
  · rw [if_neg (by simp; omega), Array.getElem?_eq_none (by simp; omega), Array.getElem?_eq_none (by simp; omega)]
theorem wpList_bs1S (hg : o.guard = none) (y : Operand) (ho : o.op = .buildSlice 39 1 #[(0, y)]) (s : Slc) (hy : a.eval y = s.v)
    (h : ∀ b w', w.heap.size ≤ b → b ≤ w.heap.size → AtB 22 w' b #[s.v] → Below b w w' → w'.heap.size = b + 1 → wpList Try.prog ops Q rest (a.put o.dst (.slice (some ⟨b, 0, none⟩) 1 1)) w') : wpList Try.prog ops Q (o :: rest) a w :=
  wpList_plain hg fun K hK => owp_bs1S y ho s hy fun b w' h1 h2 h3 h4 h5 => hK _ _ (h b w' h1 h2 h3 h4 h5)
end
theorem HoldC.grown {n : Nat} {A W W' : World} {row : Option Nat} (h : HoldC n A W) (hg : W.grownBy W' row) (hr : ∀ r, row = some r → n ≤ r) : HoldC n A W' := fun k o hk ho hc => by
  have h1 := h k o hk ho hc
  exact (hg.block k (Array.getElem?_eq_some_iff.1 h1).1 (fun e => by have := hr k e.symm; omega)).trans h1
theorem Below.grown' {n : Nat} {A W W' : World} {row : Option Nat} (h : Below n A W) (hn : n ≤ A.heap.size) (hg : W.grownBy W' row) (hr : ∀ r, row = some r → n ≤ r) : Below n A W' := by
  refine ⟨hg.os.trans h.os, hg.tape.trans h.tape, hg.output.trans h.output, Nat.le_trans h.size hg.size, fun k hk => ?_⟩
  have h1 := h.size
  exact (hg.block k (by omega) (fun e => by have := hr k e.symm; omega)).trans (h.block k hk)
end Go.Proofs.Ytamgpfblhlfhaaa
/- The reference's lists of edges: has, follow, corners. -/
namespace Go.Proofs.Ytamgpfblhlfhaaa
open Go.RowKit Go.Shelf Pl
set_option linter.unusedVariables false
set_option linter.unusedSimpArgs false
set_option maxRecDepth 20000
end Go.Proofs.Ytamgpfblhlfhaaa
/- The reference's follow: the edges of the polygon that starts with an edge. -/
namespace Go.Proofs.Ytamgpfblhlfhaaa
open Go.RowKit Go.Shelf Pl
set_option linter.unusedVariables false
set_option linter.unusedSimpArgs false
set_option maxRecDepth 20000
theorem OwnE.one {α : Type} {k : Nat} {T ST : TypeId} {E : Elt α k T ST} {B b : Nat} {x : α} {w : World} (h : AtB T w b (E.enc x)) (hb : B ≤ b) : OwnE E B (.slice (some ⟨b, 0, none⟩) 1 1) [x] w := by
  have hl : (rowE E [x]).length = 1 * k := rowE_length E [x]
  refine ⟨hl, .inr ⟨b, 1, E.enc x, rfl, hb, h, Nat.le_refl _, by unfold maxLen; omega, by rw [E.size, Nat.one_mul], ?_⟩⟩
  have e : rowE E [x] = (E.enc x).toList := by show (E.enc x).toList ++ [] = _; rw [List.append_nil]
  show (E.enc x).toList.take (1 * k) = _
  rw [e, List.take_of_length_le (by rw [Array.length_toList, E.size]; omega)]
theorem OwnE.chgX {α : Type} {k : Nat} {T ST : TypeId} {E : Elt α k T ST} {B c : Nat} {v : Value} {ls : List α} {t : TypeId} {cs : Array Value} {w w' : World} (h : OwnE E B v ls w) (ha : AtB t w c cs) (hne : v.ownBlock ≠ some c) (hc : Chg c w w') : OwnE E B v ls w' :=
  h.kept (row := some c) ⟨hc.os, hc.tape, hc.output, hc.size, fun k hk hn => hc.block k hk (fun e => hn (by rw [e]))⟩ (.inr hne)
def lenV : Value → Nat
  | .slice _ n _ => n
  | _ => 0
end Go.Proofs.Ytamgpfblhlfhaaa
/- The reference's Outline. -/
namespace Go.Proofs.Ytamgpfblhlfhaaa
open Go.RowKit Go.Shelf Pl
set_option linter.unusedVariables false
set_option linter.unusedSimpArgs false
set_option maxRecDepth 20000
end Go.Proofs.Ytamgpfblhlfhaaa
/- SamePaths: equal lists of polygons. -/
namespace Go.Proofs.Ytamgpfblhlfhaaa
open Go.RowKit Go.Shelf Pl
set_option linter.unusedVariables false
set_option linter.unusedSimpArgs false
set_option maxRecDepth 20000
theorem run_load_sp {w : World} {b j : Nat} {v : Value} (h : w.cell? ⟨b, j, none⟩ = some v) : (Instr.loadAt 22 (.pointer (some ⟨b, j, none⟩))).run Try.prog w = .ok v w := by
  simp [go_sem, h]
theorem rce_sl {g o : Nat} {vs : List Slc} {w : World} (h : RCellsE slE g o vs w) {i : Nat} {a : Option Addr} {n c : Nat} (hi : vs[i]? = some ⟨a, n, c⟩) : (Instr.loadAt 22 (.pointer (some ⟨g, o + i * 1, none⟩))).run Try.prog w = .ok (.slice a n c) w :=
  run_load_sp (by have := h.2 i _ hi 0 (by omega); rw [Nat.add_zero] at this; exact this)
theorem equalIn_pt (d : Nat) (x y x' y' : Int) (w : World) : (Op.equalIn (d + 2) 44 (.agg #[.int .i64 x, .int .i64 y]) (.agg #[.int .i64 x', .int .i64 y'])).run Try.prog w = .ok (decide ((x, y) = (x', y'))) w := by
  have h : (Op.equalIn (d + 2) 44 (.agg #[.int .i64 x, .int .i64 y]) (.agg #[.int .i64 x', .int .i64 y'])).run Try.prog w = .ok (x == x' && y == y') w := by
    by_cases h1 : x = x' <;> by_cases h2 : y = y' <;> simp [go_sem, h1, h2]
  rw [h]
  congr 1
  rw [Bool.eq_iff_iff]
  simp
theorem neq_pt (x y x' y' : Int) (w : World) : (binOp .neq 44 (.agg #[.int .i64 x, .int .i64 y]) (.agg #[.int .i64 x', .int .i64 y'])).run Try.prog w = .ok (.bool (!decide ((x, y) = (x', y')))) w := by
  have h := run_neq_struct (P := Try.prog) w 44 #[.int .i64 x, .int .i64 y] #[.int .i64 x', .int .i64 y']
  rw [h, equalIn_pt 9998 x y x' y' w]; rfl
section
variable {o : Oper} {a : Act} {C : World → Prop} {K : Act → Prop}
theorem quiet_neqP {p q : Operand} {t2 : TypeId} (h : o.op = .binOp .neq 44 p q t2) (x y x' y' : Int) (hx : a.eval p = .agg #[.int .i64 x, .int .i64 y]) (hy : a.eval q = .agg #[.int .i64 x', .int .i64 y']) (b : Bool) (hb : decide ((x, y) = (x', y')) = !b) (hk : K (a.put o.dst (.bool b))) : o.quiet Try.prog a C K :=
  ⟨_, fun w hw => by
    have hg : (eqGuard .neq 44 p q (.agg #[.int .i64 x, .int .i64 y]) (.agg #[.int .i64 x', .int .i64 y'])).run Try.prog w = .ok () w := run_eqGuard_agg w _ 44 p q _ _ (by kernel_rfl)
    unfold Oper.quietAt execOp
    simp only [h, hx, hy, hg, neq_pt, hb, Bool.not_not, Sem.run_bind, Sem.run_pure, Result.andThen_ok]
    exact ⟨rfl, rfl⟩, hk⟩
end
theorem getD_ne {α : Type} {l m : List α} {i : Nat} (h : l[i]? ≠ m[i]?) : l ≠ m := fun e => h (by rw [e])
theorem all_eq {α : Type} {l m : List α} (hl : l.length = m.length) (h : ∀ i, i < l.length → l[i]? = m[i]?) : l = m := by
  refine List.ext_getElem? fun i => ?_
  by_cases hi : i < l.length
  · exact h i hi
  · rw [List.getElem?_eq_none (by omega), List.getElem?_eq_none (by omega)]
set_option maxHeartbeats 8000000 in
theorem R_SamePaths (v v' : Value) (P P' : List (List Pnt)) (w : World) (h : RPoly v P w) (h' : RPoly v' P' w) (hn : P.length ≤ 1000000) (hn' : P'.length ≤ 1000000) (hL : ∀ l ∈ P, l.length ≤ 1000000) : Calls Try.prog 20 #[v, v'] w fun e w' => e = .returned (.bool (decide (P = P'))) ∧ Below w.heap.size w w' := by
  have B := Below.refl w.heap.size w
  obtain ⟨a1, c1, rfl, _⟩ := h.len
  obtain ⟨a2, c2, rfl, _⟩ := h'.len
  obtain ⟨vs, r1, e1, s1⟩ := h
  obtain ⟨vs', r2, e2, s2⟩ := h'
  have R1 := Lib.hid r1
  have R2 := Lib.hid r2
  have S1 := Lib.hid s1
  have S2 := Lib.hid s2
  have HL := Lib.hid hL
  clear r1 r2 s1 s2 hL
  go_enter Try.func20, Try.ntmps20
  go_upto_region 0 with fail
  refine wp_region_lit ?_
  try simp only [List.getElem_toArray, List.getElem_cons_zero, List.getElem_cons_succ]
  refine wpList_chunk 1 (by kernel_rfl) ?_
  simp only [takS, Nat.reduceAdd]
  repeat (first | go_big_quiet_skip | (go_big_quiet_want; first | (go_big_quiet_op; go_big_quiet_on)))
  refine wpQuiet_nil ?_
  refine wpList_nil ?_
  go_upto_region 1 with fail
  by_cases hlen : P.length = P'.length
  · have q0 : ((P.length : Int) != (P'.length : Int)) = false := by rw [hlen]; simp
    have q0' : ((P.length : Int) == (P'.length : Int)) = true := by rw [hlen]; simp
    refine wp_region_lit ?_
    try simp only [List.getElem_toArray, List.getElem_cons_zero, List.getElem_cons_succ]
    refine wpList_chunk 1 (by kernel_rfl) ?_
    simp only [takS, Nat.reduceAdd]
    repeat (first | go_big_quiet_skip | (go_big_quiet_want; first | (go_big_quiet_op; go_big_quiet_on)))
    refine wpQuiet_nil ?_
    refine wpList_lenS (by first | rfl | simp [Region.wanted, yielded]) rfl Try.underlying39 rfl ?_
    simp only [Act.put, putS]
    refine wpList_chunk 1 (by kernel_rfl) ?_
    simp only [takS, Nat.reduceAdd]
    repeat (first | go_big_quiet_skip | (go_big_quiet_want; first | (go_big_quiet_op; go_big_quiet_on)))
    refine wpQuiet_nil ?_
    refine wpList_lenS (by first | rfl | simp [Region.wanted, yielded]) rfl Try.underlying39 rfl ?_
    simp only [Act.put, putS]
    refine wpList_chunk 1 (by kernel_rfl) ?_
    simp only [takS, Nat.reduceAdd]
    repeat (first | go_big_quiet_skip | (go_big_quiet_want; first | (go_big_quiet_op; go_big_quiet_on)))
    refine wpQuiet_nil ?_
    refine wpList_nil ?_
    go_upto_region 3 with fail
    refine wp_region_lit ?_
    try simp only [List.getElem_toArray, List.getElem_cons_zero, List.getElem_cons_succ]
    refine wpList_chunk 1 (by kernel_rfl) ?_
    simp only [takS, Nat.reduceAdd]
    repeat (first | go_big_quiet_skip | (go_big_quiet_want; first | (go_big_quiet_op; go_big_quiet_on)))
    refine wpQuiet_nil ?_
    refine wpList_nil ?_
    go_wp2
    go_loopw [5, 6] (fun iv _ wr => ∃ k : Nat, k ≤ P.length ∧ iv = .int .i64 (k : Int) ∧ (∀ i, i < k → P[i]? = P'[i]?) ∧ Below w.heap.size w wr) (fun iv _ _ => (P.length - intOf iv).toNat)
    case atStart => exact ⟨0, by omega, rfl, fun i hi => absurd hi (by omega), B⟩
    case round =>
      clear B
      obtain ⟨k, hk, rfl, hall, B⟩ := hrel
      have HA := Lib.hid hall
      clear hall
      by_cases hkl : k < P.length
      · have q1 : decide ((k : Int) < (P.length : Int)) = true := decide_eq_true (by omega)
        have q2 : decide (k < P.length) = true := decide_eq_true hkl
        have q2' : decide (k < P'.length) = true := decide_eq_true (by omega)
        have q1' : decide ((k : Int) < (P'.length : Int)) = true := decide_eq_true (by omega)
        obtain ⟨g1, o1, rfl, ce1w⟩ := R1.out.at (by omega)
        obtain ⟨g2, o2, rfl, ce2w⟩ := R2.out.at (by omega)
        obtain ⟨⟨sa, sn, sc⟩, hs1⟩ : ∃ s, vs[k]? = some s := ⟨_, List.getElem?_eq_getElem (by omega)⟩
        obtain ⟨⟨ta, tn, tc⟩, hs2⟩ : ∃ s, vs'[k]? = some s := ⟨_, List.getElem?_eq_getElem (by omega)⟩
        obtain ⟨l1, hl1⟩ : ∃ l, P[k]? = some l := ⟨_, List.getElem?_eq_getElem (by omega)⟩
        obtain ⟨l2, hl2⟩ : ∃ l, P'[k]? = some l := ⟨_, List.getElem?_eq_getElem (by omega)⟩
        have p1 := S1.out k _ _ hs1 hl1
        have p2 := S2.out k _ _ hs2 hl2
        obtain ⟨_, _, hv1, _⟩ := p1.len
        obtain ⟨_, _, hv2, _⟩ := p2.len
        simp only [Slc.v, Value.slice.injEq] at hv1 hv2
        obtain ⟨rfl, rfl, rfl⟩ := hv1
        obtain ⟨rfl, rfl, rfl⟩ := hv2
        have hb1 := HL.out l1 (List.mem_of_getElem? hl1)
        have P1 := Lib.hid p1
        have P2 := Lib.hid p2
        have ce1 := ce1w.of_eq (B.block _ ce1w.lt)
        have ce2 := ce2w.of_eq (B.block _ ce2w.lt)
        have C1 := Lib.hid ce1w
        have C2 := Lib.hid ce2w
        have KK := Lib.hid (show l1 ≠ l2 → P ≠ P' from fun e => getD_ne (i := k) (by rw [hl1, hl2]; intro h; injection h with h; exact e h))
        have KE := Lib.hid (show l1 = l2 → ∀ i, i < k + 1 → P[i]? = P'[i]? from fun e i hi => by
          by_cases hik : i = k
          · rw [hik, hl1, hl2, e]
          · exact HA.out i (by omega))
        clear ce1w ce2w p1 p2 hl1 hl2
        go_upto_region 4 with fail
        refine wp_region_lit ?_
        try simp only [List.getElem_toArray, List.getElem_cons_zero, List.getElem_cons_succ]
        refine wpList_chunk 2 (by kernel_rfl) ?_
        simp only [takS, Nat.reduceAdd]
        repeat (first | go_big_quiet_skip | (go_big_quiet_want; first | (go_big_quiet_op; go_big_quiet_on)))
        refine wpQuiet_nil ?_
        refine wpList_lenS (by first | rfl | simp [Region.wanted, yielded]) rfl Try.underlying39 rfl ?_
        simp only [Act.put, putS]
        refine wpList_chunk 1 (by kernel_rfl) ?_
        simp only [takS, Nat.reduceAdd]
        repeat (first | go_big_quiet_skip | (go_big_quiet_want; first | (go_big_quiet_op; go_big_quiet_on)))
        refine wpQuiet_nil ?_
        refine wpList_nil ?_
        go_upto_region 6 with fail
        by_cases hll : l1.length = l2.length
        · have q5 : ((l1.length : Int) != (l2.length : Int)) = false := by rw [hll]; simp
          have q5' : ((l1.length : Int) == (l2.length : Int)) = true := by rw [hll]; simp
          try simp only [List.getElem_toArray, List.getElem_cons_zero, List.getElem_cons_succ]
          try have lx_ce1 := ce1.lt
          try have lx_ce2 := ce2.lt
          refine wp_region_RL 11 [(4, detS ?v1_4), (9, detS ?v1_9)] (by kernel_rfl) (by kernel_rfl) (by kernel_rfl) ?_
          rotate_left 2
          simp only [takS, Nat.reduceAdd]
          refine wpRL_chunk 4 (by kernel_rfl) ?_
          simp only [takS, Nat.reduceAdd]
          repeat (first | go_big_quiet_skip | (go_big_quiet_want; first | (refine quiet_loadAny (t := 22) rfl _ _ _ rfl (fun w hw => rce_sl (ov_rce ce1 w hw) hs1) (by first | rfl | omega) ?_; simp only [Act.put, putS]; go_big_quiet_on) | (refine quiet_loadAny (t := 22) rfl _ _ _ rfl (fun w hw => rce_sl (ov_rce ce2 w hw) hs2) (by first | rfl | omega) ?_; simp only [Act.put, putS]; go_big_quiet_on) | (go_big_quiet_op; go_big_quiet_on)))
          refine wpQuiet_nil ?_
          refine wpRL_callB (by rfl) (by first | rfl | simp [Region.wanted, yielded]) ?_ ?_
          · intro wn hbn hE Kx hKx
            have hsz := B.size
            have hzn := hbn.size
            replace B := B.trans (hbn.mono B.size)
            (try first | replace ce1 := ce1.of_eq (hbn.block _ ce1.lt) | replace ce1 := ce1.below hbn)
            (try first | replace ce2 := ce2.of_eq (hbn.block _ ce2.lt) | replace ce2 := ce2.below hbn)
            refine wp_lenS rfl Try.underlying22 rfl ?_
            exact hKx () _ trivial (Below.refl _ _)
          rintro ⟨⟩
          dsimp only [detS]
          simp only [Act.put, putS]
          refine wpRL_chunk 4 (by kernel_rfl) ?_
          simp only [takS, Nat.reduceAdd]
          repeat (first | go_big_quiet_skip | (go_big_quiet_want; first | (refine quiet_loadAny (t := 22) rfl _ _ _ rfl (fun w hw => rce_sl (ov_rce ce1 w hw) hs1) (by first | rfl | omega) ?_; simp only [Act.put, putS]; go_big_quiet_on) | (refine quiet_loadAny (t := 22) rfl _ _ _ rfl (fun w hw => rce_sl (ov_rce ce2 w hw) hs2) (by first | rfl | omega) ?_; simp only [Act.put, putS]; go_big_quiet_on) | (go_big_quiet_op; go_big_quiet_on)))
          refine wpQuiet_nil ?_
          refine wpRL_callB (by rfl) (by first | rfl | simp [Region.wanted, yielded]) ?_ ?_
          · intro wn hbn hE Kx hKx
            have hsz := B.size
            have hzn := hbn.size
            replace B := B.trans (hbn.mono B.size)
            (try first | replace ce1 := ce1.of_eq (hbn.block _ ce1.lt) | replace ce1 := ce1.below hbn)
            (try first | replace ce2 := ce2.of_eq (hbn.block _ ce2.lt) | replace ce2 := ce2.below hbn)
            refine wp_lenS rfl Try.underlying22 rfl ?_
            exact hKx () _ trivial (Below.refl _ _)
          rintro ⟨⟩
          dsimp only [detS]
          simp only [Act.put, putS]
          refine wpRL_chunk 1 (by kernel_rfl) ?_
          simp only [takS, Nat.reduceAdd]
          repeat (first | go_big_quiet_skip | (go_big_quiet_want; first | (go_big_quiet_op; go_big_quiet_on)))
          refine wpQuiet_nil ?_
          refine wpRL_nil ?_
          intro wn hbn hE
          have hsz := B.size
          have hzn := hbn.size
          replace B := B.trans (hbn.mono B.size)
          (try first | replace ce1 := ce1.of_eq (hbn.block _ ce1.lt) | replace ce1 := ce1.below hbn)
          (try first | replace ce2 := ce2.of_eq (hbn.block _ ce2.lt) | replace ce2 := ce2.below hbn)
          clear hE
          try simp only [List.drop_succ_cons, List.drop_zero]
          refine NoPan.normal ?_
          go_upto_region 8 with fail
          refine wp_region_lit ?_
          try simp only [List.getElem_toArray, List.getElem_cons_zero, List.getElem_cons_succ]
          refine wpList_chunk 1 (by kernel_rfl) ?_
          simp only [takS, Nat.reduceAdd]
          repeat (first | go_big_quiet_skip | (go_big_quiet_want; first | (go_big_quiet_op; go_big_quiet_on)))
          refine wpQuiet_nil ?_
          refine wpList_nil ?_
          have HLL := Lib.hid hll
          clear ce1 ce2 hll q5 q5'
          go_wp2
          go_loopw [6] (fun iv wr => ∃ j : Nat, j ≤ l1.length ∧ iv = .int .i64 (j : Int) ∧ (∀ i, i < j → l1[i]? = l2[i]?) ∧ Below w.heap.size w wr) (fun iv _ => (l1.length - intOf iv).toNat)
          case atStart => exact ⟨0, by omega, rfl, fun i hi => absurd hi (by omega), B⟩
          case round =>
            clear B
            obtain ⟨j, hj, rfl, hall, B⟩ := hrel
            have HA2 := Lib.hid hall
            clear hall
            have ce1 := C1.out.of_eq (B.block _ C1.out.lt)
            have ce2 := C2.out.of_eq (B.block _ C2.out.lt)
            by_cases hjl : j < l1.length
            · have q6 : decide ((j : Int) < (l1.length : Int)) = true := decide_eq_true (by omega)
              have q7 : decide (j < l1.length) = true := decide_eq_true hjl
              have hll := HLL.out
              have q6' : decide ((j : Int) < (l2.length : Int)) = true := decide_eq_true (by omega)
              have q7' : decide (j < l2.length) = true := decide_eq_true (by omega)
              have hjl2 : j < l2.length := by omega
              obtain ⟨ga, oa, rfl, pa0⟩ := P1.out.at (by omega)
              obtain ⟨gb, ob, rfl, pb0⟩ := P2.out.at (by omega)
              have pa := pa0.of_eq (B.block _ pa0.lt)
              have pb := pb0.of_eq (B.block _ pb0.lt)
              clear pa0 pb0
              obtain ⟨⟨x, y⟩, hx⟩ : ∃ e, l1[j]? = some e := ⟨_, List.getElem?_eq_getElem hjl⟩
              obtain ⟨⟨x', y'⟩, hx'⟩ : ∃ e, l2[j]? = some e := ⟨_, List.getElem?_eq_getElem (by omega)⟩
              clear hll
              go_upto_region 9 with fail
              refine wp_region_lit ?_
              try simp only [List.getElem_toArray, List.getElem_cons_zero, List.getElem_cons_succ]
              refine wpList_chunk 5 (by kernel_rfl) ?_
              simp only [takS, Nat.reduceAdd]
              repeat (first | go_big_quiet_skip | (go_big_quiet_want; first | (refine quiet_loadAny (t := 22) rfl _ _ _ rfl (fun w hw => rce_sl (ov_rce ce1 w hw) hs1) (by first | rfl | omega) ?_; simp only [Act.put, putS]; go_big_quiet_on) | (go_big_quiet_op; go_big_quiet_on)))
              refine wpQuiet_nil ?_
              refine wpList_lenS (by first | rfl | simp [Region.wanted, yielded]) rfl Try.underlying22 rfl ?_
              simp only [Act.put, putS]
              refine wpList_chunk 1 (by kernel_rfl) ?_
              simp only [takS, Nat.reduceAdd]
              repeat (first | go_big_quiet_skip | (go_big_quiet_want; first | (go_big_quiet_op; go_big_quiet_on)))
              refine wpQuiet_nil ?_
              refine wpList_nil ?_
              go_upto_region 11 with fail
              by_cases he : (x, y) = (x', y')
              · have q9 : decide ((x, y) = (x', y')) = !false := by rw [decide_eq_true he]; rfl
                have HN := Lib.hid (show ∀ i, i < j + 1 → l1[i]? = l2[i]? from fun i hi => by
                  by_cases hij : i = j
                  · rw [hij, hx, hx', he]
                  · exact HA2.out i (by omega))
                try simp only [List.getElem_toArray, List.getElem_cons_zero, List.getElem_cons_succ]
                try have lx_ce1 := ce1.lt
                try have lx_ce2 := ce2.lt
                try have lx_pa := pa.lt
                try have lx_pb := pb.lt
                refine wp_region_RL 15 [] (by kernel_rfl) (by kernel_rfl) (by kernel_rfl) ?_
                rotate_left 0
                simp only [takS, Nat.reduceAdd]
                refine wpRL_chunk 15 (by kernel_rfl) ?_
                simp only [takS, Nat.reduceAdd]
                repeat (first | go_big_quiet_skip | (go_big_quiet_want; first | (refine quiet_loadAny (t := 22) rfl _ _ _ rfl (fun w hw => rce_sl (ov_rce ce1 w hw) hs1) (by first | rfl | omega) ?_; simp only [Act.put, putS]; go_big_quiet_on) | (refine quiet_loadAny (t := 22) rfl _ _ _ rfl (fun w hw => rce_sl (ov_rce ce2 w hw) hs2) (by first | rfl | omega) ?_; simp only [Act.put, putS]; go_big_quiet_on) | (refine quiet_loadAny (t := 44) rfl _ _ _ rfl (fun w hw => rce_pt (ov_rce pa w hw) hx) (by first | rfl | omega) ?_; simp only [Act.put, putS]; go_big_quiet_on) | (refine quiet_loadAny (t := 44) rfl _ _ _ rfl (fun w hw => rce_pt (ov_rce pb w hw) hx') (by first | rfl | omega) ?_; simp only [Act.put, putS]; go_big_quiet_on) | (refine quiet_neqP rfl x y x' y' rfl rfl _ q9 ?_; simp only [Act.put, putS]; go_big_quiet_on) | (go_big_quiet_op; go_big_quiet_on)))
                refine wpQuiet_nil ?_
                refine wpRL_nil ?_
                intro wn hbn hE
                have hsz := B.size
                have hzn := hbn.size
                replace B := B.trans (hbn.mono B.size)
                (try first | replace ce1 := ce1.of_eq (hbn.block _ ce1.lt) | replace ce1 := ce1.below hbn)
                (try first | replace ce2 := ce2.of_eq (hbn.block _ ce2.lt) | replace ce2 := ce2.below hbn)
                (try first | replace pa := pa.of_eq (hbn.block _ pa.lt) | replace pa := pa.below hbn)
                (try first | replace pb := pb.of_eq (hbn.block _ pb.lt) | replace pb := pb.below hbn)
                clear hE
                try simp only [List.drop_succ_cons, List.drop_zero]
                refine NoPan.normal ?_
                go_upto_region 10 with fail
                refine wp_region_lit ?_
                try simp only [List.getElem_toArray, List.getElem_cons_zero, List.getElem_cons_succ]
                refine wpList_chunk 3 (by kernel_rfl) ?_
                simp only [takS, Nat.reduceAdd]
                repeat (first | go_big_quiet_skip | (go_big_quiet_want; first | (go_big_quiet_op; go_big_quiet_on)))
                refine wpQuiet_nil ?_
                refine wpList_nil ?_
                go_wp2
                go_roundw
                case rel => exact ⟨j + 1, by omega, by go_num, HN.out, B⟩
                case measure => simp [intOf]; omega
              · have q9 : decide ((x, y) = (x', y')) = !true := by rw [decide_eq_false he]; rfl
                have HF := Lib.hid (KK.out (getD_ne (i := j) (by rw [hx, hx']; intro h; injection h with h; exact he h)))
                try simp only [List.getElem_toArray, List.getElem_cons_zero, List.getElem_cons_succ]
                try have lx_ce1 := ce1.lt
                try have lx_ce2 := ce2.lt
                try have lx_pa := pa.lt
                try have lx_pb := pb.lt
                refine wp_region_RL 15 [] (by kernel_rfl) (by kernel_rfl) (by kernel_rfl) ?_
                rotate_left 0
                simp only [takS, Nat.reduceAdd]
                refine wpRL_chunk 15 (by kernel_rfl) ?_
                simp only [takS, Nat.reduceAdd]
                repeat (first | go_big_quiet_skip | (go_big_quiet_want; first | (refine quiet_loadAny (t := 22) rfl _ _ _ rfl (fun w hw => rce_sl (ov_rce ce1 w hw) hs1) (by first | rfl | omega) ?_; simp only [Act.put, putS]; go_big_quiet_on) | (refine quiet_loadAny (t := 22) rfl _ _ _ rfl (fun w hw => rce_sl (ov_rce ce2 w hw) hs2) (by first | rfl | omega) ?_; simp only [Act.put, putS]; go_big_quiet_on) | (refine quiet_loadAny (t := 44) rfl _ _ _ rfl (fun w hw => rce_pt (ov_rce pa w hw) hx) (by first | rfl | omega) ?_; simp only [Act.put, putS]; go_big_quiet_on) | (refine quiet_loadAny (t := 44) rfl _ _ _ rfl (fun w hw => rce_pt (ov_rce pb w hw) hx') (by first | rfl | omega) ?_; simp only [Act.put, putS]; go_big_quiet_on) | (refine quiet_neqP rfl x y x' y' rfl rfl _ q9 ?_; simp only [Act.put, putS]; go_big_quiet_on) | (go_big_quiet_op; go_big_quiet_on)))
                refine wpQuiet_nil ?_
                refine wpRL_nil ?_
                intro wn hbn hE
                have hsz := B.size
                have hzn := hbn.size
                replace B := B.trans (hbn.mono B.size)
                (try first | replace ce1 := ce1.of_eq (hbn.block _ ce1.lt) | replace ce1 := ce1.below hbn)
                (try first | replace ce2 := ce2.of_eq (hbn.block _ ce2.lt) | replace ce2 := ce2.below hbn)
                (try first | replace pa := pa.of_eq (hbn.block _ pa.lt) | replace pa := pa.below hbn)
                (try first | replace pb := pb.of_eq (hbn.block _ pb.lt) | replace pb := pb.below hbn)
                clear hE
                try simp only [List.drop_succ_cons, List.drop_zero]
                refine NoPan.normal ?_
                go_upto_region 12 with fail
                refine wp_region_lit ?_
                try simp only [List.getElem_toArray, List.getElem_cons_zero, List.getElem_cons_succ]
                refine wpList_chunk 1 (by kernel_rfl) ?_
                simp only [takS, Nat.reduceAdd]
                repeat (first | go_big_quiet_skip | (go_big_quiet_want; first | (go_big_quiet_op; go_big_quiet_on)))
                refine wpQuiet_nil ?_
                refine wpList_nil ?_
                go_wp2
                go_ret
                exact ⟨by rw [decide_eq_false HF.out]; rfl, B⟩
            · obtain rfl : j = l1.length := by omega
              have q6 : decide (((l1.length : Nat) : Int) < (l1.length : Int)) = false := decide_eq_false (by omega)
              have q7 : decide (l1.length < l1.length) = false := decide_eq_false (by omega)
              have HN := Lib.hid (KE.out (all_eq HLL.out HA2.out))
              go_upto_region 9 with fail
              refine wp_region_lit ?_
              try simp only [List.getElem_toArray, List.getElem_cons_zero, List.getElem_cons_succ]
              refine wpList_chunk 5 (by kernel_rfl) ?_
              simp only [takS, Nat.reduceAdd]
              repeat (first | go_big_quiet_skip | (go_big_quiet_want; first | (refine quiet_loadAny (t := 22) rfl _ _ _ rfl (fun w hw => rce_sl (ov_rce ce1 w hw) hs1) (by first | rfl | omega) ?_; simp only [Act.put, putS]; go_big_quiet_on) | (go_big_quiet_op; go_big_quiet_on)))
              refine wpQuiet_nil ?_
              refine wpList_lenS (by first | rfl | simp [Region.wanted, yielded]) rfl Try.underlying22 rfl ?_
              simp only [Act.put, putS]
              refine wpList_chunk 1 (by kernel_rfl) ?_
              simp only [takS, Nat.reduceAdd]
              repeat (first | go_big_quiet_skip | (go_big_quiet_want; first | (go_big_quiet_op; go_big_quiet_on)))
              refine wpQuiet_nil ?_
              refine wpList_nil ?_
              go_upto_region 5 with fail
              refine wp_region_lit ?_
              try simp only [List.getElem_toArray, List.getElem_cons_zero, List.getElem_cons_succ]
              refine wpList_chunk 3 (by kernel_rfl) ?_
              simp only [takS, Nat.reduceAdd]
              repeat (first | go_big_quiet_skip | (go_big_quiet_want; first | (go_big_quiet_op; go_big_quiet_on)))
              refine wpQuiet_nil ?_
              refine wpList_nil ?_
              go_wp2
              go_roundw
              case rel => exact ⟨k + 1, by omega, by go_num, HN.out, B⟩
              case measure => simp [intOf]; omega
        · have q5 : ((l1.length : Int) != (l2.length : Int)) = true := by simp; omega
          have q5' : ((l1.length : Int) == (l2.length : Int)) = false := by simp; omega
          have HF := Lib.hid (KK.out (fun e => hll (by rw [e])))
          try simp only [List.getElem_toArray, List.getElem_cons_zero, List.getElem_cons_succ]
          try have lx_ce1 := ce1.lt
          try have lx_ce2 := ce2.lt
          refine wp_region_RL 11 [(4, detS ?v4_4), (9, detS ?v4_9)] (by kernel_rfl) (by kernel_rfl) (by kernel_rfl) ?_
          rotate_left 2
          simp only [takS, Nat.reduceAdd]
          refine wpRL_chunk 4 (by kernel_rfl) ?_
          simp only [takS, Nat.reduceAdd]
          repeat (first | go_big_quiet_skip | (go_big_quiet_want; first | (refine quiet_loadAny (t := 22) rfl _ _ _ rfl (fun w hw => rce_sl (ov_rce ce1 w hw) hs1) (by first | rfl | omega) ?_; simp only [Act.put, putS]; go_big_quiet_on) | (refine quiet_loadAny (t := 22) rfl _ _ _ rfl (fun w hw => rce_sl (ov_rce ce2 w hw) hs2) (by first | rfl | omega) ?_; simp only [Act.put, putS]; go_big_quiet_on) | (go_big_quiet_op; go_big_quiet_on)))
          refine wpQuiet_nil ?_
          refine wpRL_callB (by rfl) (by first | rfl | simp [Region.wanted, yielded]) ?_ ?_
          · intro wn hbn hE Kx hKx
            have hsz := B.size
            have hzn := hbn.size
            replace B := B.trans (hbn.mono B.size)
            (try first | replace ce1 := ce1.of_eq (hbn.block _ ce1.lt) | replace ce1 := ce1.below hbn)
            (try first | replace ce2 := ce2.of_eq (hbn.block _ ce2.lt) | replace ce2 := ce2.below hbn)
            refine wp_lenS rfl Try.underlying22 rfl ?_
            exact hKx () _ trivial (Below.refl _ _)
          rintro ⟨⟩
          dsimp only [detS]
          simp only [Act.put, putS]
          refine wpRL_chunk 4 (by kernel_rfl) ?_
          simp only [takS, Nat.reduceAdd]
          repeat (first | go_big_quiet_skip | (go_big_quiet_want; first | (refine quiet_loadAny (t := 22) rfl _ _ _ rfl (fun w hw => rce_sl (ov_rce ce1 w hw) hs1) (by first | rfl | omega) ?_; simp only [Act.put, putS]; go_big_quiet_on) | (refine quiet_loadAny (t := 22) rfl _ _ _ rfl (fun w hw => rce_sl (ov_rce ce2 w hw) hs2) (by first | rfl | omega) ?_; simp only [Act.put, putS]; go_big_quiet_on) | (go_big_quiet_op; go_big_quiet_on)))
          refine wpQuiet_nil ?_
          refine wpRL_callB (by rfl) (by first | rfl | simp [Region.wanted, yielded]) ?_ ?_
          · intro wn hbn hE Kx hKx
            have hsz := B.size
            have hzn := hbn.size
            replace B := B.trans (hbn.mono B.size)
            (try first | replace ce1 := ce1.of_eq (hbn.block _ ce1.lt) | replace ce1 := ce1.below hbn)
            (try first | replace ce2 := ce2.of_eq (hbn.block _ ce2.lt) | replace ce2 := ce2.below hbn)
            refine wp_lenS rfl Try.underlying22 rfl ?_
            exact hKx () _ trivial (Below.refl _ _)
          rintro ⟨⟩
          dsimp only [detS]
          simp only [Act.put, putS]
          refine wpRL_chunk 1 (by kernel_rfl) ?_
          simp only [takS, Nat.reduceAdd]
          repeat (first | go_big_quiet_skip | (go_big_quiet_want; first | (go_big_quiet_op; go_big_quiet_on)))
          refine wpQuiet_nil ?_
          refine wpRL_nil ?_
          intro wn hbn hE
          have hsz := B.size
          have hzn := hbn.size
          replace B := B.trans (hbn.mono B.size)
          (try first | replace ce1 := ce1.of_eq (hbn.block _ ce1.lt) | replace ce1 := ce1.below hbn)
          (try first | replace ce2 := ce2.of_eq (hbn.block _ ce2.lt) | replace ce2 := ce2.below hbn)
          clear hE
          try simp only [List.drop_succ_cons, List.drop_zero]
          refine NoPan.normal ?_
          go_upto_region 7 with fail
          refine wp_region_lit ?_
          try simp only [List.getElem_toArray, List.getElem_cons_zero, List.getElem_cons_succ]
          refine wpList_chunk 1 (by kernel_rfl) ?_
          simp only [takS, Nat.reduceAdd]
          repeat (first | go_big_quiet_skip | (go_big_quiet_want; first | (go_big_quiet_op; go_big_quiet_on)))
          refine wpQuiet_nil ?_
          refine wpList_nil ?_
          go_wp2
          go_ret
          exact ⟨by rw [decide_eq_false HF.out]; rfl, B⟩
      · obtain rfl : k = P.length := by omega
        have q1 : decide (((P.length : Nat) : Int) < (P.length : Int)) = false := decide_eq_false (by omega)
        have q2 : decide (P.length < P.length) = false := decide_eq_false (by omega)
        have HE := Lib.hid (all_eq hlen HA.out)
        go_upto_region 4 with fail
        refine wp_region_lit ?_
        try simp only [List.getElem_toArray, List.getElem_cons_zero, List.getElem_cons_succ]
        refine wpList_chunk 2 (by kernel_rfl) ?_
        simp only [takS, Nat.reduceAdd]
        repeat (first | go_big_quiet_skip | (go_big_quiet_want; first | (go_big_quiet_op; go_big_quiet_on)))
        refine wpQuiet_nil ?_
        refine wpList_lenS (by first | rfl | simp [Region.wanted, yielded]) rfl Try.underlying39 rfl ?_
        simp only [Act.put, putS]
        refine wpList_chunk 1 (by kernel_rfl) ?_
        simp only [takS, Nat.reduceAdd]
        repeat (first | go_big_quiet_skip | (go_big_quiet_want; first | (go_big_quiet_op; go_big_quiet_on)))
        refine wpQuiet_nil ?_
        refine wpList_nil ?_
        go_upto_region 13 with fail
        refine wp_region_lit ?_
        try simp only [List.getElem_toArray, List.getElem_cons_zero, List.getElem_cons_succ]
        refine wpList_chunk 1 (by kernel_rfl) ?_
        simp only [takS, Nat.reduceAdd]
        repeat (first | go_big_quiet_skip | (go_big_quiet_want; first | (go_big_quiet_op; go_big_quiet_on)))
        refine wpQuiet_nil ?_
        refine wpList_nil ?_
        go_wp2
        go_ret
        exact ⟨by rw [decide_eq_true HE.out]; rfl, B⟩
  · have q0 : ((P.length : Int) != (P'.length : Int)) = true := by simp; omega
    have q0' : ((P.length : Int) == (P'.length : Int)) = false := by simp; omega
    have HF := Lib.hid (show P ≠ P' from fun e => hlen (by rw [e]))
    refine wp_region_lit ?_
    try simp only [List.getElem_toArray, List.getElem_cons_zero, List.getElem_cons_succ]
    refine wpList_chunk 1 (by kernel_rfl) ?_
    simp only [takS, Nat.reduceAdd]
    repeat (first | go_big_quiet_skip | (go_big_quiet_want; first | (go_big_quiet_op; go_big_quiet_on)))
    refine wpQuiet_nil ?_
    refine wpList_lenS (by first | rfl | simp [Region.wanted, yielded]) rfl Try.underlying39 rfl ?_
    simp only [Act.put, putS]
    refine wpList_chunk 1 (by kernel_rfl) ?_
    simp only [takS, Nat.reduceAdd]
    repeat (first | go_big_quiet_skip | (go_big_quiet_want; first | (go_big_quiet_op; go_big_quiet_on)))
    refine wpQuiet_nil ?_
    refine wpList_lenS (by first | rfl | simp [Region.wanted, yielded]) rfl Try.underlying39 rfl ?_
    simp only [Act.put, putS]
    refine wpList_chunk 1 (by kernel_rfl) ?_
    simp only [takS, Nat.reduceAdd]
    repeat (first | go_big_quiet_skip | (go_big_quiet_want; first | (go_big_quiet_op; go_big_quiet_on)))
    refine wpQuiet_nil ?_
    refine wpList_nil ?_
    go_upto_region 2 with fail
    refine wp_region_lit ?_
    try simp only [List.getElem_toArray, List.getElem_cons_zero, List.getElem_cons_succ]
    refine wpList_chunk 1 (by kernel_rfl) ?_
    simp only [takS, Nat.reduceAdd]
    repeat (first | go_big_quiet_skip | (go_big_quiet_want; first | (go_big_quiet_op; go_big_quiet_on)))
    refine wpQuiet_nil ?_
    refine wpList_nil ?_
    go_wp2
    go_ret
    exact ⟨by rw [decide_eq_false HF.out]; rfl, B⟩
end Go.Proofs.Ytamgpfblhlfhaaa
