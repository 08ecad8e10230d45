import Derived.Test.YtamgpfblhlfhaaaGreatSl3
import Derived.Shelf.SlSortCmp.NoneTotal
import Derived.RangeFuncWrites
import Derived.DeepKeys5
import Derived.Maps.Keyed
import Derived.Maps.OwnOps
import Derived.Maps.OwnSet
import Derived.Maps.Views
import Derived.Lib.SmallJoins

/- slices.Compact at positions. -/
namespace Go.Proofs.YtamgpfblhlfhaaaGreat
open Go.RowKit Go.Shelf Pl
set_option linter.unusedVariables false
set_option linter.unusedSimpArgs false
set_option maxRecDepth 20000
theorem ddK_same (q : Nat → Psn) : ∀ k, (∀ j, 0 < j → j < k → q j ≠ q (j - 1)) → ddK q k = (List.range k).map q
 | 0, _ => rfl
 | m + 1, h => by
  unfold ddK
  rw [ddK_same q m (fun j h1 h2 => h j h1 (by omega)), if_pos ?_, List.range_succ, List.map_append]
  ·rfl
  ·by_cases h0 : m = 0
   ·exact .inl h0
   ·exact .inr (h m (by omega) (by omega))
theorem dd_at {q : Nat → Psn} {k : Nat} (h : ∀ j, 0 < j → j < k → q j ≠ q (j - 1)) : ∀ j x, (ddK q k)[j]? = some x → q j = x := fun j x hx => by
 rw [ddK_same q k h, List.getElem?_map] at hx
 obtain ⟨y, hy, rfl⟩ := Option.map_eq_some_iff.1 hx
 obtain ⟨h1, h2⟩ := List.getElem?_eq_some_iff.1 hy
 rw [List.getElem_range] at h2
 rw [h2]
theorem dd_len {q : Nat → Psn} {k : Nat} (h : ∀ j, 0 < j → j < k → q j ≠ q (j - 1)) : (ddK q k).length = k := by
 rw [ddK_same q k h, List.length_map, List.length_range]
theorem ddK_eq {q : Nat → Psn} {m : Nat} (h0 : 0 < m) (h : q m = q (m - 1)) : ddK q (m + 1) = ddK q m := by
 show (if _ then _ else _) = _
 rw [if_neg]
 rintro (k | k)
 ·omega
 ·exact k h
theorem ddK_ne {q : Nat → Psn} {m : Nat} (h : q m ≠ q (m - 1)) : ddK q (m + 1) = ddK q m ++ [q m] := by
 show (if _ then _ else _) = _
 rw [if_pos (.inr h)]
theorem eqB_psn {p r : Psn} {b : Bool} (h : eqB p.1 p.2 r.1 r.2 = b) : (b = true → p = r) ∧ (b = false → p ≠ r) := by
 constructor
 ·intro e
  rw [e] at h
  have := of_decide_eq_true h
  exact Prod.ext this.1 this.2
 ·intro e k
  rw [e] at h
  exact of_decide_eq_false h (by rw [k]; exact ⟨rfl, rfl⟩)
theorem P_Compact1 (a : Option Addr) (n c : Nat) (w : World) (hn : n < 2) : Calls Tryz.prog 81 #[.slice a n c] w fun e w' => e = .returned (.slice a n c) ∧ Below w.heap.size w w' := by
 have B := Below.refl w.heap.size w
 have d1 : decide ((n : Int) < 2) = true := decide_eq_true (by omega)
 have d2 : decide (n < 2) = true := decide_eq_true hn
 go_enter Tryz.func81, Tryz.ntmps81
 go_wp2
 go_ret
 exact ⟨rfl, B⟩
set_option maxHeartbeats 4000000 in
theorem P_CompactP (g n c : Nat) (q : Nat → Psn) (w : World) (pr : PRow w g n q) (hn : 2 ≤ n) (hm : n ≤ 100000) (hc : n ≤ c) : Calls Tryz.prog 81 #[.slice (some ⟨g, 0, none⟩) n c] w fun e w' => ∃ f', e = .returned (.slice (some ⟨g, 0, none⟩) (ddK q n).length c) ∧ PRow w' g (ddK q n).length f' ∧ (∀ j x, (ddK q n)[j]? = some x → f' j = x) ∧ Chg g w w' := by
 have B := Exc.refl g w
 have d1 : decide ((n : Int) < 2) = false := decide_eq_false (by omega)
 have d2 : decide (n < 2) = false := decide_eq_false (by omega)
 go_enter Tryz.func81, Tryz.ntmps81
 go_upto_region 1 with fail
 refine wp_region_lit ?_
 try simp only [gelS]
 refine wpList_chunk 1 (by kernel_rfl) ?_
 simp only [takS, Nat.reduceAdd]
 repeat (first | go_big_quiet_skip | (go_big_quiet_want; go_big_quiet_op; go_big_quiet_on))
 refine wpQuiet_nil ?_
 refine wpList_lenS (by first | rfl | simp [Region.wanted, yielded]) rfl Tryz.underlying106 rfl ?_
 simp only [putS]
 refine wpList_chunk 1 (by kernel_rfl) ?_
 simp only [takS, Nat.reduceAdd]
 repeat (first | go_big_quiet_skip | (go_big_quiet_want; go_big_quiet_op; go_big_quiet_on))
 refine wpQuiet_nil ?_
 refine wpList_nil ?_
 go_upto_region 3 with fail
 refine wp_region_lit ?_
 try simp only [gelS]
 refine wpList_chunk 1 (by kernel_rfl) ?_
 simp only [takS, Nat.reduceAdd]
 repeat (first | go_big_quiet_skip | (go_big_quiet_want; go_big_quiet_op; go_big_quiet_on))
 refine wpQuiet_nil ?_
 refine wpList_nil ?_
 go_wp2
 go_loopw [2, 3, 4, 5] (fun _ kv _ _ wr => ∃ m : Nat, m + 1 ≤ n ∧ kv = .int .i64 ((m : Int) + 1) ∧ Hid (∀ j, 0 < j → j < m + 1 → q j ≠ q (j - 1)) ∧ Exc g w.heap.size w wr ∧ PRow wr g n q) (fun _ kv _ _ _ => (n - intOf kv).toNat)
 case atStart => exact ⟨0, by omega, rfl, Lib.hid (fun j h1 h2 => by omega), B, pr⟩
 case round =>
  clear B pr
  obtain ⟨m, hmn, rfl, HND, B, pr⟩ := hrel
  by_cases hk : m + 1 < n
  ·have e1 : decide ((m : Int) + 1 < (n : Int)) = true := decide_eq_true (by omega)
   have hk0 : m < n := by omega
   go_upto_region 4 with fail
   refine wp_region_lit ?_
   try simp only [gelS]
   refine wpList_chunk 2 (by kernel_rfl) ?_
   simp only [takS, Nat.reduceAdd]
   repeat (first | go_big_quiet_skip | (go_big_quiet_want; go_big_quiet_op; go_big_quiet_on))
   refine wpQuiet_nil ?_
   refine wpList_lenS (by first | rfl | simp [Region.wanted, yielded]) rfl Tryz.underlying106 rfl ?_
   simp only [putS]
   refine wpList_chunk 1 (by kernel_rfl) ?_
   simp only [takS, Nat.reduceAdd]
   repeat (first | go_big_quiet_skip | (go_big_quiet_want; go_big_quiet_op; go_big_quiet_on))
   refine wpQuiet_nil ?_
   refine wpList_nil ?_
   obtain ⟨p1, hp1⟩ : ∃ p, q (m + 1) = p := ⟨_, rfl⟩
   obtain ⟨p0, hp0⟩ : ∃ p, q m = p := ⟨_, rfl⟩
   obtain ⟨b, hb⟩ : ∃ b, eqB p1.1 p1.2 p0.1 p0.2 = b := ⟨_, rfl⟩
   have HB := Lib.hid (eqB_psn hb)
   have heql : ∀ w, (binOp .eql 68 (.agg #[.int .i64 p1.1, .int .i64 p1.2]) (.agg #[.int .i64 p0.1, .int .i64 p0.2])).run Tryz.prog w = .ok (.bool b) w := fun w => by rw [← hb]; exact eql_pos _ _ _ _ w
   clear hb
   go_upto_region 6 with fail
   refine wp_region_ov (by kernel_rfl) (by kernel_rfl) ?_
   repeat (first | go_big_quiet_skip | (go_big_quiet_want; first | (refine quiet_loadAny (t := 68) rfl _ _ _ rfl (fun w hw => prow_load (ov_prow pr w hw) hk hp1) (by first | rfl | omega) ?_; simp only [putS]; go_big_quiet_on) | (refine quiet_loadAny (t := 68) rfl _ _ _ rfl (fun w hw => prow_load (ov_prow pr w hw) hk0 hp0) (by first | rfl | omega) ?_; simp only [putS]; go_big_quiet_on) | (go_big_quiet_op; first | go_big_quiet_on | go_big_quiet_call ((fail)))))
   refine wpQuiet_nil ?_
   intro wn hbn
   have hsz := B.size
   have hzn := hbn.size
   replace B := B.trans (hbn.mono B.size)
   try replace pr := pr.below hbn
   cases b with
   | true =>
    have heq10 := HB.out.1 rfl
    have HDU := Lib.hid (show ddK q (m + 2) = ddK q (m + 1) from ddK_eq (by omega) (by rw [Nat.add_sub_cancel, hp1, hp0]; exact heq10))
    have HLN := Lib.hid (dd_len HND.out)
    have HAT := Lib.hid (dd_at HND.out)
    clear heq10 hp1 hp0 HB heql
    obtain ⟨r, hr⟩ : ∃ r, n = m + 1 + r := ⟨n - (m + 1), by omega⟩
    go_upto_region 7 with fail
    go_cut [4] from 26 to 28 (fun s4 wr => (∃ cc, s4 = .slice (some ⟨g, (m + 1) * 2, none⟩) r cc) ∧ Exc g w.heap.size w wr ∧ PRow wr g n q)
    case first =>
     have e2 : decide ((m : Int) + 1 ≤ (n : Int)) = true := decide_eq_true (by omega)
     go_wp2
     go_meet
     refine ⟨⟨c - (m + 1), ?_⟩, B, pr⟩
     first | rfl | (congr 1 <;> first | rfl | omega | (simp; omega)) | (simp; omega)
    case rest =>
     clear B pr
     obtain ⟨⟨cc, rfl⟩, B, pr⟩ := hcut
     go_upto_region 8 with fail
     refine wp_region_lit ?_
     try simp only [gelS]
     refine wpList_chunk 1 (by kernel_rfl) ?_
     simp only [takS, Nat.reduceAdd]
     repeat (first | go_big_quiet_skip | (go_big_quiet_want; go_big_quiet_op; go_big_quiet_on))
     refine wpQuiet_nil ?_
     refine wpList_nil ?_
     go_wp2
     go_loopw [3, 5] (fun iv kv wr => ∃ (i d : Nat) (f : Nat → Psn), d + 1 ≤ r ∧ iv = .int .i64 i ∧ kv = .int .i64 ((d : Int) + 1) ∧ Hid ((ddK q (m + 1 + (d + 1))).length = i) ∧ i < m + 1 + (d + 1) ∧ Hid (∀ j x, (ddK q (m + 1 + (d + 1)))[j]? = some x → f j = x) ∧ Hid (∀ j, m + 1 + d ≤ j → f j = q j) ∧ Exc g w.heap.size w wr ∧ PRow wr g n f) (fun _ kv _ => (r - intOf kv).toNat)
     case atStart => exact ⟨m + 1, 0, q, by omega, by first | rfl | simp, by first | rfl | simp, Lib.hid (by rw [show m + 1 + (0 + 1) = m + 2 by omega, HDU.out]; exact HLN.out), by omega, Lib.hid (by rw [show m + 1 + (0 + 1) = m + 2 by omega, HDU.out]; exact HAT.out), Lib.hid (fun _ _ => rfl), B, pr⟩
     case round =>
      clear B pr
      obtain ⟨i, d, f, hd, rfl, rfl, HLI, hi, HFA, HFB, B, pr⟩ := hrel
      have hin : i < n := by omega
      by_cases hdr : d + 1 < r
      ·have e1 : decide ((d : Int) + 1 < (r : Int)) = true := decide_eq_true (by omega)
       have hk1 : m + 1 + (d + 1) < n := by omega
       have hk0 : m + 1 + d < n := by omega
       have hdr0 : d < r := by omega
       obtain ⟨p1, hp1⟩ : ∃ p, f (m + 1 + (d + 1)) = p := ⟨_, rfl⟩
       obtain ⟨p0, hp0⟩ : ∃ p, f (m + 1 + d) = p := ⟨_, rfl⟩
       have hq1 : q (m + 1 + (d + 1)) = p1 := by rw [← hp1]; exact (HFB.out _ (by omega)).symm
       have hq0 : q (m + 1 + d) = p0 := by rw [← hp0]; exact (HFB.out _ (by omega)).symm
       obtain ⟨b, hb⟩ : ∃ b, eqB p1.1 p1.2 p0.1 p0.2 = b := ⟨_, rfl⟩
       have HB := Lib.hid (eqB_psn hb)
       have HQ1 := Lib.hid hq1
       have HQ0 := Lib.hid hq0
       have hneq : ∀ w, (binOp .neq 68 (.agg #[.int .i64 p1.1, .int .i64 p1.2]) (.agg #[.int .i64 p0.1, .int .i64 p0.2])).run Tryz.prog w = .ok (.bool (!b)) w := fun w => by rw [← hb]; exact neq_pos _ _ _ _ w
       clear hb hq1 hq0
       go_upto_region 9 with fail
       refine wp_region_lit ?_
       try simp only [gelS]
       refine wpList_chunk 2 (by kernel_rfl) ?_
       simp only [takS, Nat.reduceAdd]
       repeat (first | go_big_quiet_skip | (go_big_quiet_want; go_big_quiet_op; go_big_quiet_on))
       refine wpQuiet_nil ?_
       refine wpList_lenS (by first | rfl | simp [Region.wanted, yielded]) rfl Tryz.underlying106 rfl ?_
       simp only [putS]
       refine wpList_chunk 1 (by kernel_rfl) ?_
       simp only [takS, Nat.reduceAdd]
       repeat (first | go_big_quiet_skip | (go_big_quiet_want; go_big_quiet_op; go_big_quiet_on))
       refine wpQuiet_nil ?_
       refine wpList_nil ?_
       go_upto_region 11 with fail
       refine wp_region_ov (by kernel_rfl) (by kernel_rfl) ?_
       repeat (first | go_big_quiet_skip | (go_big_quiet_want; first | (refine quiet_loadAny (t := 68) rfl _ _ _ rfl (fun w hw => prow_load (ov_prow pr w hw) hk1 hp1) (by first | rfl | omega) ?_; simp only [putS]; go_big_quiet_on) | (refine quiet_loadAny (t := 68) rfl _ _ _ rfl (fun w hw => prow_load (ov_prow pr w hw) hk0 hp0) (by first | rfl | omega) ?_; simp only [putS]; go_big_quiet_on) | (go_big_quiet_op; first | go_big_quiet_on | go_big_quiet_call ((fail)))))
       refine wpQuiet_nil ?_
       intro wn hbn
       have hsz := B.size
       have hzn := hbn.size
       replace B := B.trans (hbn.mono B.size)
       try replace pr := pr.below hbn
       cases b with
       | true =>
        have he := HB.out.1 rfl
        have HD2 := Lib.hid (show ddK q (m + 1 + (d + 1 + 1)) = ddK q (m + 1 + (d + 1)) from ddK_eq (m := m + 1 + (d + 1)) (by omega) (by rw [show m + 1 + (d + 1) - 1 = m + 1 + d by omega, HQ1.out, HQ0.out]; exact he))
        clear he HB hp1 hp0
        go_upto_region 10 with fail
        refine wp_region_lit ?_
        try simp only [gelS]
        refine wpList_chunk 3 (by kernel_rfl) ?_
        simp only [takS, Nat.reduceAdd]
        repeat (first | go_big_quiet_skip | (go_big_quiet_want; go_big_quiet_op; go_big_quiet_on))
        refine wpQuiet_nil ?_
        refine wpList_nil ?_
        go_wp2
        go_roundw
        case rel => exact ⟨i, d + 1, f, by omega, by go_num, by go_num, Lib.hid (by rw [HD2.out]; exact HLI.out), by omega, Lib.hid (by rw [HD2.out]; exact HFA.out), Lib.hid (fun j hj => HFB.out j (by omega)), B, pr⟩
        case measure => simp [intOf]; omega
       | false =>
        have hne := HB.out.2 rfl
        have HD2 := Lib.hid (show ddK q (m + 1 + (d + 1 + 1)) = ddK q (m + 1 + (d + 1)) ++ [p1] from by
         have := ddK_ne (q := q) (m := m + 1 + (d + 1)) (by rw [show m + 1 + (d + 1) - 1 = m + 1 + d by omega, HQ1.out, HQ0.out]; exact hne)
         rw [HQ1.out] at this
         exact this)
        clear hne HB
        go_upto_region 12 with fail
        refine wp_region_lit ?_
        try simp only [gelS]
        refine wpList_chunk 7 (by kernel_rfl) ?_
        simp only [takS, Nat.reduceAdd]
        repeat (first | go_big_quiet_skip | (go_big_quiet_want; first | (refine quiet_loadAny (t := 68) rfl _ _ _ rfl (fun w hw => prow_load (ov_prow pr w hw) hk1 hp1) (by first | rfl | omega) ?_; simp only [putS]; go_big_quiet_on) | (go_big_quiet_op; go_big_quiet_on)))
        refine wpQuiet_nil ?_
        (refine wpList_storePs rfl _ _ rfl _ _ rfl p1 rfl pr i hin (by first | rfl | omega) ?_; clear pr; intro wn ht hcn hzn; have hsz := B.size; replace hzn := Nat.le_of_eq hzn.symm; replace B := Exc.chg B hcn; have pr := ht; clear ht; simp only [putS])
        refine wpList_nil ?_
        clear hp1 hp0
        go_upto_region 13 with fail
        refine wp_region_lit ?_
        try simp only [gelS]
        refine wpList_chunk 3 (by kernel_rfl) ?_
        simp only [takS, Nat.reduceAdd]
        repeat (first | go_big_quiet_skip | (go_big_quiet_want; go_big_quiet_op; go_big_quiet_on))
        refine wpQuiet_nil ?_
        refine wpList_nil ?_
        go_upto_region 10 with fail
        refine wp_region_lit ?_
        try simp only [gelS]
        refine wpList_chunk 3 (by kernel_rfl) ?_
        simp only [takS, Nat.reduceAdd]
        repeat (first | go_big_quiet_skip | (go_big_quiet_want; go_big_quiet_op; go_big_quiet_on))
        refine wpQuiet_nil ?_
        refine wpList_nil ?_
        go_wp2
        go_roundw
        case rel =>
         refine ⟨i + 1, d + 1, updP f i p1, by omega, by go_num, by go_num, Lib.hid (by rw [HD2.out, List.length_append, HLI.out]; rfl), by omega, Lib.hid (fun j x hx => ?_), Lib.hid (fun j hj => ?_), B, pr⟩
         ·rw [HD2.out] at hx
          unfold updP
          by_cases hji : j = i
          ·rw [if_pos hji]
           rw [hji, ← HLI.out, List.getElem?_append_right (Nat.le_refl _), Nat.sub_self] at hx
           exact Option.some.inj hx
          ·rw [if_neg hji]
           by_cases hlt : j < i
           ·rw [List.getElem?_append_left (by rw [HLI.out]; exact hlt)] at hx
            exact HFA.out j x hx
           ·rw [List.getElem?_eq_none (by rw [List.length_append, HLI.out]; simp; omega)] at hx
            cases hx
         ·unfold updP
          rw [if_neg (by omega)]
          exact HFB.out j (by omega)
        case measure => simp [intOf]; omega
      ·have e1 : decide ((d : Int) + 1 < (r : Int)) = false := decide_eq_false (by omega)
       have hnn : m + 1 + (d + 1) = n := by omega
       have hLI := HLI.out
       have hFA := HFA.out
       rw [hnn] at hLI hFA
       have HLI2 := Lib.hid hLI
       have HFA2 := Lib.hid hFA
       have e2 : decide ((i : Int) ≤ (n : Int)) = true := decide_eq_true (by omega)
       have e3 : decide (i ≤ n) = true := decide_eq_true (by omega)
       have e4 : decide (i ≤ c) = true := decide_eq_true (by omega)
       clear hLI hFA hnn HLI HFA HFB
       go_upto_region 9 with fail
       refine wp_region_lit ?_
       try simp only [gelS]
       refine wpList_chunk 2 (by kernel_rfl) ?_
       simp only [takS, Nat.reduceAdd]
       repeat (first | go_big_quiet_skip | (go_big_quiet_want; go_big_quiet_op; go_big_quiet_on))
       refine wpQuiet_nil ?_
       refine wpList_lenS (by first | rfl | simp [Region.wanted, yielded]) rfl Tryz.underlying106 rfl ?_
       simp only [putS]
       refine wpList_chunk 1 (by kernel_rfl) ?_
       simp only [takS, Nat.reduceAdd]
       repeat (first | go_big_quiet_skip | (go_big_quiet_want; go_big_quiet_op; go_big_quiet_on))
       refine wpQuiet_nil ?_
       refine wpList_nil ?_
       go_upto_region 14 with fail
       refine wp_region_lit ?_
       try simp only [gelS]
       refine wpList_chunk 3 (by kernel_rfl) ?_
       simp only [takS, Nat.reduceAdd]
       repeat (first | go_big_quiet_skip | (go_big_quiet_want; go_big_quiet_op; go_big_quiet_on))
       refine wpQuiet_nil ?_
       (refine wpList_clearPs rfl _ rfl g _ _ _ rfl pr i (by first | rfl | omega | (simp; omega)) (by first | rfl | omega | (simp; omega)) (by first | omega | (simp; omega)) ?_; clear pr; intro wn ht hcn hzn; have hsz := B.size; replace hzn := Nat.le_of_eq hzn.symm; replace B := Exc.chg B hcn; have pr := ht; clear ht; simp only [putS])
       refine wpList_nil ?_
       go_upto_region 15 with fail
       refine wp_region_lit ?_
       try simp only [gelS]
       refine wpList_chunk 4 (by kernel_rfl) ?_
       simp only [takS, Nat.reduceAdd]
       repeat (first | go_big_quiet_skip | (go_big_quiet_want; go_big_quiet_op; go_big_quiet_on))
       refine wpQuiet_nil ?_
       refine wpList_nil ?_
       go_wp2
       go_ret
       rw [HLI2.out]
       exact ⟨f, by first | rfl | simp, pr, HFA2.out, B.toChg⟩
   | false =>
    have hne := HB.out.2 rfl
    have HND2 := Lib.hid (show ∀ j, 0 < j → j < m + 1 + 1 → q j ≠ q (j - 1) from fun j h1 h2 => by
     by_cases hj : j = m + 1
     ·rw [hj, Nat.add_sub_cancel, hp1, hp0]; exact hne
     ·exact HND.out j h1 (by omega))
    clear hne hp1 hp0 HB
    go_upto_region 5 with fail
    refine wp_region_lit ?_
    try simp only [gelS]
    refine wpList_chunk 3 (by kernel_rfl) ?_
    simp only [takS, Nat.reduceAdd]
    repeat (first | go_big_quiet_skip | (go_big_quiet_want; go_big_quiet_op; go_big_quiet_on))
    refine wpQuiet_nil ?_
    refine wpList_nil ?_
    go_wp2
    go_roundw
    case rel => exact ⟨m + 1, by omega, by go_num, HND2, B, pr⟩
    case measure => simp [intOf]; omega
  ·have e1 : decide ((m : Int) + 1 < (n : Int)) = false := decide_eq_false (by omega)
   have hmn2 : m + 1 = n := by omega
   have hND := HND.out
   rw [hmn2] at hND
   have HLEN := Lib.hid (dd_len hND)
   have HAT := Lib.hid (dd_at hND)
   clear hND hmn2
   go_upto_region 4 with fail
   refine wp_region_lit ?_
   try simp only [gelS]
   refine wpList_chunk 2 (by kernel_rfl) ?_
   simp only [takS, Nat.reduceAdd]
   repeat (first | go_big_quiet_skip | (go_big_quiet_want; go_big_quiet_op; go_big_quiet_on))
   refine wpQuiet_nil ?_
   refine wpList_lenS (by first | rfl | simp [Region.wanted, yielded]) rfl Tryz.underlying106 rfl ?_
   simp only [putS]
   refine wpList_chunk 1 (by kernel_rfl) ?_
   simp only [takS, Nat.reduceAdd]
   repeat (first | go_big_quiet_skip | (go_big_quiet_want; go_big_quiet_op; go_big_quiet_on))
   refine wpQuiet_nil ?_
   refine wpList_nil ?_
   go_upto_region 16 with fail
   refine wp_region_lit ?_
   try simp only [gelS]
   refine wpList_chunk 2 (by kernel_rfl) ?_
   simp only [takS, Nat.reduceAdd]
   repeat (first | go_big_quiet_skip | (go_big_quiet_want; go_big_quiet_op; go_big_quiet_on))
   refine wpQuiet_nil ?_
   refine wpList_nil ?_
   go_wp2
   go_ret
   rw [HLEN.out]
   exact ⟨q, rfl, pr, HAT.out, B.toChg⟩
end Go.Proofs.YtamgpfblhlfhaaaGreat
/- slices.SortFunc at positions, in the program's order. -/
namespace Go.Proofs.YtamgpfblhlfhaaaGreat
open Go.RowKit Go.Shelf Pl
open Go.Sort
set_option linter.unusedVariables false
set_option linter.unusedSimpArgs false
set_option maxRecDepth 20000
def renS : Go.Shelf.Ren := ⟨fun | 6 => 79 | 14 => 123 | 15 => 124 | 20 => 131 | 21 => 132 | 22 => 133 | 23 => 134 | 24 => 135 | 25 => 136 | 26 => 137 | 27 => 138 | 28 => 139 | 29 => 140 | 46 => 142 | 47 => 143 | 48 => 144 | 49 => 145 | 50 => 146 | 57 => 147 | n => n, fun | 22 => 106 | 24 => 68 | 25 => 109 | 3 => 3 | 39 => 145 | 0 => 0 | 4 => 4 | 46 => 153 | 45 => 152 | 50 => 133 | 53 => 159 | 55 => 161 | 66 => 163 | 70 => 167 | 5 => 5 | 9 => 9 | 76 => 169 | 77 => 123 | n => n, fun | n => n⟩
theorem layS : SlLaysF0.n6 Tryz.prog renS := {
 mixed := by kernel_rfl
 f6 := ⟨"slices.SortFunc[[]gouache/api.TilePos,gouache/api.TilePos]", by decide +kernel, Tryz.func79.trans (congrArg some (by kernel_rfl))⟩
 f14 := ⟨"slices.pdqsortCmpFunc[gouache/api.TilePos]", by decide +kernel, Tryz.func123.trans (congrArg some (by kernel_rfl))⟩
 f15 := Tryz.func124.trans (congrArg some (by kernel_rfl))
 f20 := ⟨"slices.insertionSortCmpFunc[gouache/api.TilePos]", by decide +kernel, Tryz.func131.trans (congrArg some (by kernel_rfl))⟩
 f21 := ⟨"slices.heapSortCmpFunc[gouache/api.TilePos]", by decide +kernel, Tryz.func132.trans (congrArg some (by kernel_rfl))⟩
 f22 := ⟨"slices.breakPatternsCmpFunc[gouache/api.TilePos]", by decide +kernel, Tryz.func133.trans (congrArg some (by kernel_rfl))⟩
 f23 := ⟨"slices.choosePivotCmpFunc[gouache/api.TilePos]", by decide +kernel, Tryz.func134.trans (congrArg some (by kernel_rfl))⟩
 f24 := ⟨"slices.reverseRangeCmpFunc[gouache/api.TilePos]", by decide +kernel, Tryz.func135.trans (congrArg some (by kernel_rfl))⟩
 f25 := ⟨"slices.partialInsertionSortCmpFunc[gouache/api.TilePos]", by decide +kernel, Tryz.func136.trans (congrArg some (by kernel_rfl))⟩
 f26 := ⟨"slices.partitionEqualCmpFunc[gouache/api.TilePos]", by decide +kernel, Tryz.func137.trans (congrArg some (by kernel_rfl))⟩
 f27 := ⟨"slices.partitionCmpFunc[gouache/api.TilePos]", by decide +kernel, Tryz.func138.trans (congrArg some (by kernel_rfl))⟩
 f28 := Tryz.func139.trans (congrArg some (by kernel_rfl))
 f29 := Tryz.func140.trans (congrArg some (by kernel_rfl))
 f46 := ⟨"slices.siftDownCmpFunc[gouache/api.TilePos]", by decide +kernel, Tryz.func142.trans (congrArg some (by kernel_rfl))⟩
 f47 := Tryz.func143.trans (congrArg some (by kernel_rfl))
 f48 := Tryz.func144.trans (congrArg some (by kernel_rfl))
 f49 := ⟨"slices.medianAdjacentCmpFunc[gouache/api.TilePos]", by decide +kernel, Tryz.func145.trans (congrArg some (by kernel_rfl))⟩
 f50 := ⟨"slices.medianCmpFunc[gouache/api.TilePos]", by decide +kernel, Tryz.func146.trans (congrArg some (by kernel_rfl))⟩
 f57 := ⟨"slices.order2CmpFunc[gouache/api.TilePos]", by decide +kernel, Tryz.func147.trans (congrArg some (by kernel_rfl))⟩
 t0 := Tryz.underlying0
 a0 := Tryz.isAgg0
 z0 := Tryz.sizeOf0
 v0 := Tryz.zeroValue0
 t3 := Tryz.underlying3
 a3 := Tryz.isAgg3
 z3 := Tryz.sizeOf3
 v3 := Tryz.zeroValue3
 t4 := Tryz.underlying4
 a4 := Tryz.isAgg4
 z4 := Tryz.sizeOf4
 v4 := Tryz.zeroValue4
 t5 := Tryz.underlying5
 a5 := Tryz.isAgg5
 z5 := Tryz.sizeOf5
 v5 := Tryz.zeroValue5
 t9 := Tryz.underlying9
 a9 := Tryz.isAgg9
 z9 := Tryz.sizeOf9
 v9 := Tryz.zeroValue9
 t22 := Tryz.underlying106
 a22 := Tryz.isAgg106
 z22 := Tryz.sizeOf106
 v22 := Tryz.zeroValue106
 t25 := Tryz.underlying109
 a25 := Tryz.isAgg109
 z25 := Tryz.sizeOf109
 v25 := Tryz.zeroValue109
 t39 := Tryz.underlying145
 a39 := Tryz.isAgg145
 z39 := Tryz.sizeOf145
 v39 := Tryz.zeroValue145
 t45 := Tryz.underlying152
 a45 := Tryz.isAgg152
 z45 := Tryz.sizeOf152
 v45 := Tryz.zeroValue152
 t46 := Tryz.underlying153
 a46 := Tryz.isAgg153
 z46 := Tryz.sizeOf153
 v46 := Tryz.zeroValue153
 t50 := Tryz.underlying133
 a50 := Tryz.isAgg133
 z50 := Tryz.sizeOf133
 v50 := Tryz.zeroValue133
 t53 := Tryz.underlying159
 a53 := Tryz.isAgg159
 z53 := Tryz.sizeOf159
 v53 := Tryz.zeroValue159
 t55 := Tryz.underlying161
 a55 := Tryz.isAgg161
 z55 := Tryz.sizeOf161
 v55 := Tryz.zeroValue161
 t66 := Tryz.underlying163
 a66 := Tryz.isAgg163
 z66 := Tryz.sizeOf163
 v66 := Tryz.zeroValue163
 t70 := Tryz.underlying167
 a70 := Tryz.isAgg167
 z70 := Tryz.sizeOf167
 v70 := Tryz.zeroValue167
 t76 := Tryz.underlying169
 a76 := Tryz.isAgg169
 z76 := Tryz.sizeOf169
 v76 := Tryz.zeroValue169
 t77 := Tryz.underlying123
 a77 := Tryz.isAgg123
 z77 := Tryz.sizeOf123
 v77 := Tryz.zeroValue123 }
/-- Positions that do not run over. -/
def BP := {p : Psn // -1000000 ≤ p.1 ∧ p.1 ≤ 1000000 ∧ -1000000 ≤ p.2 ∧ p.2 ≤ 1000000}
instance : Inhabited BP := ⟨⟨(0, 0), by decide⟩⟩
def encB (x : BP) : List Value := [.int .i64 x.1.1, .int .i64 x.1.2]
def cfB (x y : BP) : Int := if x.1.2 ≠ y.1.2 then x.1.2 - y.1.2 else x.1.1 - y.1.1
theorem ltB (x y : BP) : ltOf cfB x y = ltQ x.1 y.1 := by
 rw [Bool.eq_iff_iff, ltQ_iff]
 unfold ltOf cfB
 rw [decide_eq_true_iff]
 split <;> omega
theorem swoB : SWO (ltOf cfB) where
 irrefl x := by rw [ltB]; exact ltQ_irr _
 trans x y z h1 h2 := by rw [ltB] at *; exact ltQ_trans h1 h2
 ntrans x y z h1 h2 := by
  rw [ltB] at *
  rw [← Bool.not_eq_true, ltQ_iff] at *
  omega
theorem totB (x y : BP) (h1 : ltOf cfB x y = false) (h2 : ltOf cfB y x = false) : x = y := by
 rw [ltB] at h1 h2
 rcases ltQ_tri x.1 y.1 with k | k | k
 ·rw [k] at h1; cases h1
 ·exact Subtype.ext k
 ·rw [k] at h2; cases h2
set_option maxHeartbeats 2000000 in
theorem P_cmpB (x y : BP) (W : World) : Calls Tryz.prog 80 #[.agg #[.int .i64 x.1.1, .int .i64 x.1.2], .agg #[.int .i64 y.1.1, .int .i64 y.1.2]] W fun e w' => e = .returned (.int .i64 (cfB x y)) ∧ ∃ q os', w' = grow (W.drewN q) os' := by
 obtain ⟨⟨x1, x2⟩, a1, a2, a3, a4⟩ := x
 obtain ⟨⟨y1, y2⟩, b1, b2, b3, b4⟩ := y
 simp only at a1 a2 a3 a4 b1 b2 b3 b4
 by_cases h : x2 = y2
 ·have e : cfB ⟨(x1, x2), a1, a2, a3, a4⟩ ⟨(y1, y2), b1, b2, b3, b4⟩ = x1 - y1 := by
   unfold cfB
   rw [if_neg (fun k => k h)]
  rw [e]
  have d1 : (x2 != y2) = false := by simp [h]
  have d2 : decide (x2 = y2) = true := decide_eq_true h
  clear h e
  go_enter Tryz.func80, Tryz.ntmps80
  go_wp2
  go_ret
  exact ⟨rfl, 0, _, by rw [alloc_eq_grow, alloc_eq_grow, grow_grow]; rfl⟩
 ·have e : cfB ⟨(x1, x2), a1, a2, a3, a4⟩ ⟨(y1, y2), b1, b2, b3, b4⟩ = x2 - y2 := by
   unfold cfB
   rw [if_pos h]
  rw [e]
  have d1 : (x2 != y2) = true := by simp [h]
  have d2 : decide (x2 = y2) = false := decide_eq_false h
  clear h e
  go_enter Tryz.func80, Tryz.ntmps80
  go_wp2
  go_ret
  exact ⟨rfl, 0, _, by rw [alloc_eq_grow, alloc_eq_grow, grow_grow]; rfl⟩
/- slices.SortFunc at positions: the contract. -/
def bndP (p : Psn) : Prop := -1000000 ≤ p.1 ∧ p.1 ≤ 1000000 ∧ -1000000 ≤ p.2 ∧ p.2 ≤ 1000000
def mkB (p : Psn) (h : bndP p) : BP := ⟨p, h⟩
def bpOf (q : Nat → Psn) (n : Nat) (hb : ∀ j, j < n → bndP (q j)) : Array BP := Array.ofFn fun j : Fin n => mkB (q j.1) (hb j.1 j.2)
theorem bpOf_size (q : Nat → Psn) (n : Nat) (hb : ∀ j, j < n → bndP (q j)) : (bpOf q n hb).size = n := by unfold bpOf; simp
theorem bpOf_at (q : Nat → Psn) (n : Nat) (hb : ∀ j, j < n → bndP (q j)) {j : Nat} (hj : j < n) : ((bpOf q n hb)[j]!).1 = q j := by
 rw [getElem!_pos _ j (by rw [bpOf_size]; exact hj)]
 unfold bpOf
 rw [Array.getElem_ofFn]
 rfl
theorem holdsP {w : World} {g n : Nat} {q : Nat → Psn} (pr : PRow w g n q) (hb : ∀ j, j < n → bndP (q j)) : HoldsK encB 2 w g 0 (bpOf q n hb) := by
 intro t ht
 rw [size_flatK, bpOf_size] at ht
 have h2 : t / 2 < n := by omega
 obtain ⟨c1, c2⟩ := pr.cell h2
 refine ⟨?_, pr.frozen _⟩
 rw [get_flatK _ _ _ _ (by rw [bpOf_size]; exact ht), Nat.zero_add]
 have hm : t % 2 = 0 ∨ t % 2 = 1 := by omega
 have hv := bpOf_at q n hb h2
 rcases hm with e | e
 ·rw [e]
  have e0 : t = t / 2 * 2 := by omega
  rw [e0, c1, ← e0]
  show _ = some (Value.int .i64 ((bpOf q n hb)[t / 2]!).1.1)
  rw [hv]
 ·rw [e]
  have e0 : t = t / 2 * 2 + 1 := by omega
  rw [e0, c2, ← e0]
  show _ = some (Value.int .i64 ((bpOf q n hb)[t / 2]!).1.2)
  rw [hv]
theorem sortW_chg (w : World) (g m : Nat) (d : Array BP) (os : Array Obj) (hg : g < w.heap.size) : Chg g w (sortWorldK encB 2 w g 0 m d os) := by
 refine ⟨rfl, rfl, rfl, size_sortWorldK_c encB 2 w g 0 m d os, fun k hk hne => ?_⟩
 show ((w.heap.modify g _) ++ os)[k]? = w.heap[k]?
 rw [Array.getElem?_append_left (by rw [Array.size_modify]; exact hk), Array.getElem?_modify, if_neg (fun e => hne e.symm)]
theorem sortW_at {w : World} {g m : Nat} {d : Array BP} {os : Array Obj} {cur : Array Value} (h : AtB 68 w g cur) : ∃ c', AtB 68 (sortWorldK encB 2 w g 0 m d os) g c' := by
 refine ⟨putCells id 0 (flatK encB 2 d) cur, ?_⟩
 unfold AtB
 show ((w.heap.modify g _) ++ os)[g]? = _
 have hh : w.heap[g]? = some (.cells cur 68 (0, 0)) := h
 rw [Array.getElem?_append_left (by rw [Array.size_modify]; exact h.lt), Array.getElem?_modify, if_pos rfl, hh]
 rfl
/-- The positions in order. -/
theorem P_SortPos (g n c : Nat) (q : Nat → Psn) (w : World) (pr : PRow w g n q) (hn : n ≤ 1000000) (hb : ∀ j, j < n → bndP (q j)) : Calls Tryz.prog 79 #[.slice (some ⟨g, 0, none⟩) n c, .func (.func 80) #[] #[]] w fun e w' => e = .returned (.tuple #[]) ∧ ∃ q' : Nat → Psn, PRow w' g n q' ∧ (∀ i j, i < j → j < n → ltQ (q' j) (q' i) = false) ∧ (∀ p, (∃ j, j < n ∧ q' j = p) ↔ ∃ j, j < n ∧ q j = p) ∧ Chg g w w' := by
 have eg : ∀ args w, (callFunc 80 args).run Tryz.prog w = .ok (.enter 80 args) w := enters_of Tryz.func80 (by kernel_rfl) rfl
 have hcon := AnyQ.slices_SortFunc_total layS 2 Tryz.isAgg68 Tryz.sizeOf68 encB (fun _ => rfl) (fun x v hv => by simp [encB] at hv; rcases hv with rfl | rfl <;> rfl) cfB swoB 80 #[] g 0 c (bpOf q n hb) w eg (fun _ _ _ _ x y => P_cmpB x y _) (holdsP pr hb) pr.lt (by rw [bpOf_size]; omega) totB
 rw [bpOf_size] at hcon
 refine Calls.mono hcon ?_
 rintro e w' ⟨he, m, os, hw⟩
 refine ⟨he, ?_⟩
 obtain ⟨L, hL⟩ : ∃ L, (bpOf q n hb).toList.mergeSort (fun x y => !(ltOf cfB) y x) = L := ⟨_, rfl⟩
 rw [hL] at hw
 have hperm : L.Perm (bpOf q n hb).toList := hL ▸ List.mergeSort_perm _ _
 have hlen : L.length = n := by rw [hperm.length_eq, Array.length_toList, bpOf_size]
 have hsrt : L.Pairwise fun x y => ltQ y.1 x.1 = false := by
  have := List.pairwise_mergeSort (le := fun x y : BP => !(ltOf cfB) y x) (fun x y z h1 h2 => by
   simp only [Bool.not_eq_true'] at h1 h2 ⊢
   exact swoB.ntrans _ _ _ h2 h1) (fun x y => by
   rw [ltB, ltB, Bool.or_eq_true, Bool.not_eq_true', Bool.not_eq_true']
   rcases ltQ_tri x.1 y.1 with k | k | k
   ·left
    rw [← Bool.not_eq_true]
    intro k2
    have := ltQ_trans k k2
    rw [ltQ_irr] at this
    cases this
   ·left; rw [k]; exact ltQ_irr _
   ·right
    rw [← Bool.not_eq_true]
    intro k2
    have := ltQ_trans k k2
    rw [ltQ_irr] at this
    cases this) (bpOf q n hb).toList
  rw [hL] at this
  refine this.imp fun {x y} h => ?_
  rw [ltB] at h
  simpa using h
 obtain ⟨cur, ha, hc⟩ := pr
 have hlt : g < w.heap.size := ha.lt
 obtain ⟨c', ha'⟩ := sortW_at (m := m) (d := L.toArray) (os := os) ha
 have hH := holdsK_sortWorldK_c encB 2 w g 0 (bpOf q n hb) L.toArray m os (holdsP ⟨cur, ha, hc⟩ hb) hlt (by rw [List.size_toArray, hlen, bpOf_size])
 rw [← hw] at ha' hH
 have hg! : ∀ j, j < n → L.toArray[j]! = L[j]! := fun j hj => by
  rw [getElem!_pos _ j (by rw [List.size_toArray]; omega), getElem!_pos _ j (by omega)]
  rfl
 refine ⟨fun j => (L[j]!).1, ⟨c', ha', fun j hj => ?_⟩, fun i j hij hj => ?_, fun p => ?_, hw ▸ sortW_chg w g m _ os hlt⟩
 ·have k0 := HoldsK.cells (enc := encB) hH (fun _ => rfl) (i := j) (by rw [List.size_toArray]; omega) 0 _ rfl
  have k1 := HoldsK.cells (enc := encB) hH (fun _ => rfl) (i := j) (by rw [List.size_toArray]; omega) 1 _ rfl
  rw [Addr.add_lit] at k0 k1
  rw [hg! j hj] at k0 k1
  rw [(cells_of_block ha').1] at k0 k1
  rw [Nat.zero_add] at k0 k1
  exact ⟨k0, k1⟩
 ·have := List.pairwise_iff_getElem.1 hsrt i j (by omega) (by omega) hij
  show ltQ (L[j]!).1 (L[i]!).1 = false
  rw [getElem!_pos _ j (by omega), getElem!_pos _ i (by omega)]
  exact this
 ·have hmem : (∃ j, j < n ∧ (L[j]!).1 = p) ↔ ∃ x ∈ L, x.1 = p := by
   constructor
   ·rintro ⟨j, hj, e⟩
    rw [getElem!_pos _ j (by omega)] at e
    exact ⟨_, List.getElem_mem _, e⟩
   ·rintro ⟨x, hx, e⟩
    obtain ⟨j, hj, ej⟩ := List.getElem_of_mem hx
    exact ⟨j, by omega, by rw [getElem!_pos _ j hj, ej, e]⟩
  rw [hmem]
  constructor
  ·rintro ⟨x, hx, e⟩
   obtain ⟨j, hj, ej⟩ := List.getElem_of_mem (hperm.mem_iff.1 hx)
   rw [Array.length_toList, bpOf_size] at hj
   refine ⟨j, hj, ?_⟩
   rw [← e, ← ej, ← bpOf_at q n hb hj, getElem!_pos _ j (by rw [bpOf_size]; exact hj)]
   rfl
  ·rintro ⟨j, hj, e⟩
   refine ⟨(bpOf q n hb)[j]!, hperm.mem_iff.2 ?_, by rw [bpOf_at q n hb hj, e]⟩
   rw [getElem!_pos _ j (by rw [bpOf_size]; exact hj)]
   exact Array.getElem_mem_toList _
end Go.Proofs.YtamgpfblhlfhaaaGreat
/- The program's combined: its parts. -/
namespace Go.Proofs.YtamgpfblhlfhaaaGreat
open Go.RowKit Go.Shelf Pl
set_option linter.unusedVariables false
set_option linter.unusedSimpArgs false
set_option maxRecDepth 20000
theorem OwnE.ownlt {α : Type} {k : Nat} {T ST : TypeId} {E : Elt α k T ST} {B : Nat} {v : Value} {ls : List α} {w : World} (h : OwnE E B v ls w) : ∀ g, v.ownBlock = some g → g < w.heap.size := fun g hg => (World.ownsRow.lt h g hg).2
/-- A slice of positions in block g, or of none. -/
def PL (g : Nat) (ap : Option Addr) (n : Nat) (q : Nat → Psn) (w : World) : Prop := g < w.heap.size ∧ (n = 0 ∨ (ap = some ⟨g, 0, none⟩ ∧ PRow w g n q))
theorem PL.of_eq {g n : Nat} {ap : Option Addr} {q : Nat → Psn} {w w' : World} (h : PL g ap n q w) (e : w'.heap[g]? = w.heap[g]?) : PL g ap n q w' := by
 obtain ⟨h1, h2⟩ := h
 refine ⟨?_, ?_⟩
 ·rcases Nat.lt_or_ge g w'.heap.size with k | k
  ·exact k
  ·rw [Array.getElem?_eq_none k, Array.getElem?_eq_getElem h1] at e
   cases e
 ·rcases h2 with h2 | ⟨h2, h3⟩
  ·exact .inl h2
  ·exact .inr ⟨h2, h3.of_eq e⟩
theorem PL.lt {g n : Nat} {ap : Option Addr} {q : Nat → Psn} {w : World} (h : PL g ap n q w) : g < w.heap.size := h.1
theorem PL.below {g n : Nat} {ap : Option Addr} {q : Nat → Psn} {w w' : World} (h : PL g ap n q w) (e : Below w.heap.size w w') : PL g ap n q w' := h.of_eq (e.block _ h.lt)
/-- The positions gathered. -/
theorem pl_own {B c gx : Nat} {ap : Option Addr} {ls : List Psn} {w : World} (h : OwnE psE B (.slice ap ls.length c) ls w) (hx : gx < w.heap.size) : ∃ g, PL g ap ls.length (fun j => ls.getD j (0, 0)) w ∧ (ls.length = 0 → g = gx) ∧ (0 < ls.length → B ≤ g) := by
 by_cases h0 : ls.length = 0
 ·exact ⟨gx, ⟨hx, .inl h0⟩, fun _ => rfl, fun k => by omega⟩
 ·obtain ⟨g, o, rfl, _⟩ := h.rs.at (by omega)
  have ho : o = 0 := by
   obtain ⟨_, h2⟩ := h
   rcases h2 with ⟨e, _⟩ | ⟨g', cap, cur, e, _⟩
   ·cases e
   ·injection e with e1
    injection e1 with e1
    injection e1 with _ e2
  subst ho
  exact ⟨g, ⟨(World.ownsRow.lt h g rfl).2, .inr ⟨rfl, PRow.own h rfl⟩⟩, fun k => absurd k h0, fun _ => (World.ownsRow.lt h g rfl).1⟩
theorem P_SortU (b0 g n c : Nat) (ap : Option Addr) (q : Nat → Psn) (w : World) (h : PL g ap n q w) (hn : n ≤ 1000000) (hb : ∀ j, j < n → bndP (q j)) (hb0 : b0 ≤ w.heap.size) (hg0 : 0 < n → b0 ≤ g) : Calls Tryz.prog 79 #[.slice ap n c, .func (.func 80) #[] #[]] w fun e w' => e = .returned (.tuple #[]) ∧ ∃ q' : Nat → Psn, PL g ap n q' w' ∧ (∀ i j, i < j → j < n → ltQ (q' j) (q' i) = false) ∧ (∀ p, (∃ j, j < n ∧ q' j = p) ↔ ∃ j, j < n ∧ q j = p) ∧ Below b0 w w' := by
 obtain ⟨h1, h2⟩ := h
 by_cases h0 : n = 0
 ·subst h0
  refine (AnyF.slices_SortFunc_none { layS with } ap c (.func (.func 80) #[] #[]) w).mono ?_
  rintro e w' ⟨he, rfl⟩
  exact ⟨he, q, ⟨h1, .inl rfl⟩, fun i j _ hj => by omega, fun p => Iff.rfl, Below.refl _ _⟩
 ·rcases h2 with h2 | ⟨rfl, pr⟩
  ·exact absurd h2 h0
  ·refine (P_SortPos g n c q w pr hn hb).mono ?_
   rintro e w' ⟨he, q', p1, p2, p3, hc⟩
   exact ⟨he, q', ⟨p1.lt, .inr ⟨rfl, p1⟩⟩, p2, p3, ⟨hc.os, hc.tape, hc.output, hc.size, fun k hk => hc.block k (by omega) (by have := hg0 (by omega); omega)⟩⟩
/-- Equal neighbours left out. -/
theorem P_CompactU (b0 g n c : Nat) (ap : Option Addr) (q : Nat → Psn) (w : World) (h : PL g ap n q w) (hn : n ≤ 100000) (hc : n ≤ c) (hb0 : b0 ≤ w.heap.size) (hg0 : 0 < n → b0 ≤ g) : Calls Tryz.prog 81 #[.slice ap n c] w fun e w' => e = .returned (.slice ap (ddK q n).length c) ∧ RCellsE psE g 0 (ddK q n) w' ∧ (0 < (ddK q n).length → ap = some ⟨g, 0, none⟩) ∧ (∀ k, k < w.heap.size → k ≠ g → w'.heap[k]? = w.heap[k]?) ∧ Below b0 w w' := by
 obtain ⟨h1, h2⟩ := h
 by_cases hn2 : n < 2
 ·have hd : (ddK q n).length = n ∧ ∀ i x, (ddK q n)[i]? = some x → q i = x := by
   have hnd : ∀ j, 0 < j → j < n → q j ≠ q (j - 1) := fun j k1 k2 => by omega
   exact ⟨dd_len hnd, dd_at hnd⟩
  refine (P_Compact1 ap n c w hn2).mono ?_
  rintro e w' ⟨he, hbn⟩
  rw [hd.1]
  refine ⟨he, ?_, fun k => ?_, fun k hk _ => hbn.block k hk, hbn.mono hb0⟩
  ·rcases h2 with h2 | ⟨rfl, pr⟩
   ·subst h2
    have hz : ddK q 0 = [] := rfl
    rw [hz]
    exact ⟨by have := hbn.size; omega, fun i x hi => by simp at hi⟩
   ·exact (pr.below hbn).rce _ (by rw [hd.1]; exact Nat.le_refl _) hd.2
  ·rcases h2 with h2 | ⟨h2, _⟩
   ·omega
   ·exact h2
 ·rcases h2 with h2 | ⟨rfl, pr⟩
  ·omega
  ·refine (P_CompactP g n c q w pr (by omega) hn hc).mono ?_
   rintro e w' ⟨f', he, p1, p2, hch⟩
   exact ⟨he, p1.rce _ (Nat.le_refl _) p2, fun _ => rfl, fun k hk hne => hch.block k hk hne, ⟨hch.os, hch.tape, hch.output, hch.size, fun k hk => hch.block k (by omega) (by have := hg0 (by omega); omega)⟩⟩
theorem rcp_load {w : World} {g : Nat} {ps : List Psn} (h : RCellsE psE g 0 ps w) {i : Nat} {p : Psn} (hi : ps[i]? = some p) : (Instr.loadAt 68 (.pointer (some ⟨g, i * 2, none⟩))).run Tryz.prog w = .ok (.agg #[.int .i64 p.1, .int .i64 p.2]) w := by
 have := h.load (T := 68) Tryz.isAgg68 hi
 rw [Nat.zero_add] at this
 exact this
/-- What the sorting and the leaving out of equal ones make of the positions of two masks. -/
theorem dd_posU {la lb : List TA} {q q' : Nat → Psn} (n : Nat) (hn : n = ((la ++ lb).map pT).length) (hq : q = fun j => ((la ++ lb).map pT).getD j (0, 0)) (h1 : ∀ i j, i < j → j < n → ltQ (q' j) (q' i) = false) (h2 : ∀ p, (∃ j, j < n ∧ q' j = p) ↔ ∃ j, j < n ∧ q j = p) : ddK q' n = posU la lb := by
 refine posU_eq (ddK_srt q' n h1 n (Nat.le_refl _)).1 fun p => ?_
 rw [ddK_mem, h2, hq]
 have key : (∃ j, j < n ∧ ((la ++ lb).map pT).getD j (0, 0) = p) ↔ p ∈ (la ++ lb).map pT := by
  constructor
  ·rintro ⟨j, hj, e⟩
   rw [hn] at hj
   rw [List.getD_eq_getElem?_getD, List.getElem?_eq_getElem hj] at e
   exact e ▸ List.getElem_mem _
  ·intro hm
   obtain ⟨j, hj, e⟩ := List.getElem_of_mem hm
   refine ⟨j, by omega, ?_⟩
   rw [List.getD_eq_getElem?_getD, List.getElem?_eq_getElem hj]
   exact e
 rw [key, List.mem_map]
 constructor
 ·rintro ⟨e, he, k⟩
  rcases List.mem_append.1 he with h | h
  ·exact .inl ⟨e, h, k⟩
  ·exact .inr ⟨e, h, k⟩
 ·rintro (⟨e, he, k⟩ | ⟨e, he, k⟩)
  ·exact ⟨e, List.mem_append.2 (.inl he), k⟩
  ·exact ⟨e, List.mem_append.2 (.inr he), k⟩
/- The program's combined. -/
theorem P_ConcatL (b : Nat) (a1 a2 : Option Addr) (c1 c2 : Nat) (la lb LL : List TA) (w : World) (bs : AtB 32 w b #[.slice a1 la.length c1, .slice a2 lb.length c2]) (ra : RS (.slice a1 la.length c1) la w) (rb : RS (.slice a2 lb.length c2) lb w) (hna : la.length ≤ 1024) (hnb : lb.length ≤ 1024) (e : la ++ lb = LL) : Calls Tryz.prog 78 #[.slice (some ⟨b, 0, none⟩) 2 2] w fun e w' => ∃ a c, e = .returned (.slice a LL.length c) ∧ RS (.slice a LL.length c) LL w' ∧ Below w.heap.size w w' := e ▸ P_ConcatT b a1 a2 c1 c2 la lb w bs ra rb hna hnb
theorem P_TileO2 (v : Value) (ls : List TA) (x y : Int) (w : World) (h : RS v ls w) (hn : ls.length ≤ maxLen) : Calls Tryz.prog 53 #[.agg #[v], .agg #[.int .i64 x, .int .i64 y]] w fun e w' => e = .returned (Tile.v (tileL ls x y)) ∧ Below w.heap.size w w' := P_Tile v ls x y w h hn
theorem bnd_of {la : List TA} (hv : validL la = true) : ∀ e ∈ la, bndP (pT e) := fun e he => by
 have h := of_decide_eq_true ((goodA_iff e).1 (validL_good hv e he)).1
 unfold bndP pT
 simp only
 omega
theorem rc_some {a1 : Option Addr} {c1 gx : Nat} {LL : List TA} {w : World} (h : RS (.slice a1 LL.length c1) LL w) (hx : gx < w.heap.size) : ∃ g o, (0 < LL.length → a1 = some ⟨g, o, none⟩) ∧ RCells g o LL w := by
 by_cases h0 : 0 < LL.length
 ·obtain ⟨g, o, e, rc⟩ := h.at h0
  exact ⟨g, o, fun _ => e, rc⟩
 ·have : LL = [] := List.eq_nil_of_length_eq_zero (by omega)
  subst this
  exact ⟨gx, 0, fun k => absurd k h0, hx, fun i hi => absurd hi (Nat.not_lt_zero _)⟩
theorem take_pT {LL : List TA} {k : Nat} (hk : k < LL.length) {e : TA} (he : aT LL k = e) : (LL.take (k + 1)).map pT = (LL.take k).map pT ++ [(e.x, e.y)] := by
 have h : LL[k]? = some e := by
  rw [← he]
  unfold aT
  rw [List.getD_eq_getElem?_getD, List.getElem?_eq_getElem hk]
  rfl
 rw [List.take_add_one, h, List.map_append]
 rfl
set_option maxHeartbeats 8000000 in
theorem P_combined (op : Int → Int → Int) (hok : OpZ op) (gf : Nat) (eg : Enters Tryz.prog gf) (hF : ∀ (x y : Int) (W : World), 0 ≤ x ∧ x ≤ 255 → 0 ≤ y ∧ y ≤ 255 → Calls Tryz.prog gf #[.int .i64 x, .int .i64 y] W fun e W' => e = .returned (.int .i64 (op x y)) ∧ Below W.heap.size W W')
  (va vb : Value) (la lb : List TA) (w : World) (ra : RS va la w) (rb : RS vb lb w) (ta : TokL la) (tb : TokL lb) (hva : validL la = true) (hvb : validL lb = true) : Calls Tryz.prog 41 #[.agg #[va], .agg #[vb], .func (.func gf) #[] #[]] w fun e w' => ∃ a c, e = .returned (.agg #[.slice a (combL op la lb).length c]) ∧ RS (.slice a (combL op la lb).length c) (combL op la lb) w' ∧ Below w.heap.size w w' := by
 have B := Below.refl w.heap.size w
 obtain ⟨aa, ca, rfl, hca⟩ := ra.len
 obtain ⟨ab, cb, rfl, hcb⟩ := rb.len
 have HA := Lib.hid ra
 have HB := Lib.hid rb
 have HTA := Lib.hid ta
 have HTB := Lib.hid tb
 have HVA := Lib.hid hva
 have HVB := Lib.hid hvb
 have HF := Lib.hid hF
 have HOKZ := Lib.hid hok
 have la1 := (validL_iff.1 hva).1
 have lb1 := (validL_iff.1 hvb).1
 have HNA := Lib.hid (len_maxLen (show la.length ≤ 2000 by omega))
 have HNB := Lib.hid (len_maxLen (show lb.length ≤ 2000 by omega))
 obtain ⟨LL, hLL⟩ : ∃ L, la ++ lb = L := ⟨_, rfl⟩
 have hln : LL.length ≤ 2048 := by rw [← hLL, List.length_append]; omega
 have HLL := Lib.hid hLL
 have HBND := Lib.hid (show ∀ e ∈ LL, bndP (pT e) from fun e he => by
  rw [← hLL] at he
  rcases List.mem_append.1 he with h | h
  ·exact bnd_of hva e h
  ·exact bnd_of hvb e h)
 have eg' : ∀ args w, (callFunc gf args).run Tryz.prog w = .ok (.enter gf args) w := eg
 clear ra rb ta tb hva hvb hF hok hLL
 go_enter Tryz.func41, Tryz.ntmps41
 go_upto_region 0 with fail
 refine wp_region_lit ?_
 try simp only [gelS]
 (refine wpList_boxB (t := 34) rfl _ rfl _ rfl ?_; intro b_b3 wn hle hge ht hbn hzn; have hsz := B.size; replace B := B.trans (hbn.mono (by omega)); have hln := Nat.lt_of_lt_of_eq (Nat.lt_succ_self _) hzn.symm; clear hzn; have b3 := ht; clear ht; simp only [putS])
 (refine wpList_boxB (t := 34) rfl _ rfl _ rfl ?_; intro b_b4 wn hle hge ht hbn hzn; have hsz := B.size; replace B := B.trans (hbn.mono (by omega)); have hln := Nat.lt_of_lt_of_eq (Nat.lt_succ_self _) hzn.symm; clear hzn; (try have hlt := b3.lt); (try replace b3 := b3.below (hbn.mono hle)); have b4 := ht; clear ht; simp only [putS])
 (refine wpList_allocBk (t := 34) rfl _ (run_alloc_R _ _ rfl) ?_; intro b_r6 wn hle hge ht hbn hzn; have hsz := B.size; replace B := B.trans (hbn.mono (by omega)); have hln := Nat.lt_of_lt_of_eq (Nat.lt_succ_self _) hzn.symm; clear hzn; (try have hlt := b3.lt); (try replace b3 := b3.below (hbn.mono hle)); (try have hlt := b4.lt); (try replace b4 := b4.below (hbn.mono hle)); have r6 := ht; clear ht; simp only [putS])
 refine wpList_nil ?_
 have k1 : w.heap.size ≤ b_b3 := by omega
 have k2 : b_b3 < b_b4 := by omega
 have k3 : b_b4 < b_r6 := by omega
 go_upto_region 1 with fail
 try simp only [gelS]
 try have lx_b3 := b3.lt
 try have lx_b4 := b4.lt
 try have lx_r6 := r6.lt
 refine wp_region_RL 4 [(1, detS ?v1_1), (3, detS ?v1_3)] (by kernel_rfl) (by kernel_rfl) (by kernel_rfl) ?_
 rotate_left 2
 simp only [takS, Nat.reduceAdd]
 refine wpRL_chunk 1 (by kernel_rfl) ?_
 simp only [takS, Nat.reduceAdd]
 repeat (first | go_big_quiet_skip | (go_big_quiet_want; first | (refine quiet_loadAny (t := 34) rfl _ _ _ rfl (fun w hw => run_load_B (ov_B b3 w hw) Tryz.isAgg34 (by kernel_rfl)) (by rfl) ?_; simp only [putS]; go_big_quiet_on) | (refine quiet_loadAny (t := 34) rfl _ _ _ rfl (fun w hw => run_load_B (ov_B b4 w hw) Tryz.isAgg34 (by kernel_rfl)) (by rfl) ?_; simp only [putS]; go_big_quiet_on) | (go_big_quiet_op; go_big_quiet_on)))
 refine wpQuiet_nil ?_
 refine wpRL_callB (by rfl) (by first | rfl | simp [Region.wanted, yielded]) ?_ ?_
 ·intro wn hbn hE Kx hKx
  have hsz := B.size
  have hzn := hbn.size
  replace B := B.trans (hbn.mono B.size)
  (try replace b3 := b3.below hbn)
  (try replace b4 := b4.below hbn)
  (try replace r6 := r6.below hbn)
  refine wp_callF rfl (enters_of Tryz.func77 (by kernel_rfl) rfl) (by simp only [Act.eval, evlS]; rfl) ?_
  refine (P_of _ la wn (HA.out.below B) HTA.out HNA.out HVA.out).mono ?_
  rintro e wm ⟨rfl, hbm⟩
  refine ⟨_, rfl, ?_⟩
  have hz := hKx () wm trivial hbm
  dsimp only [detS] at hz
  exact hz
 rintro ⟨⟩
 dsimp only [detS]
 simp only [putS]
 refine wpRL_chunk 1 (by kernel_rfl) ?_
 simp only [takS, Nat.reduceAdd]
 repeat (first | go_big_quiet_skip | (go_big_quiet_want; first | (refine quiet_loadAny (t := 34) rfl _ _ _ rfl (fun w hw => run_load_B (ov_B b3 w hw) Tryz.isAgg34 (by kernel_rfl)) (by rfl) ?_; simp only [putS]; go_big_quiet_on) | (refine quiet_loadAny (t := 34) rfl _ _ _ rfl (fun w hw => run_load_B (ov_B b4 w hw) Tryz.isAgg34 (by kernel_rfl)) (by rfl) ?_; simp only [putS]; go_big_quiet_on) | (go_big_quiet_op; go_big_quiet_on)))
 refine wpQuiet_nil ?_
 refine wpRL_callB (by rfl) (by first | rfl | simp [Region.wanted, yielded]) ?_ ?_
 ·intro wn hbn hE Kx hKx
  have hsz := B.size
  have hzn := hbn.size
  replace B := B.trans (hbn.mono B.size)
  (try replace b3 := b3.below hbn)
  (try replace b4 := b4.below hbn)
  (try replace r6 := r6.below hbn)
  refine wp_callF rfl (enters_of Tryz.func77 (by kernel_rfl) rfl) (by simp only [Act.eval, evlS]; rfl) ?_
  refine (P_of _ lb wn (HB.out.below B) HTB.out HNB.out HVB.out).mono ?_
  rintro e wm ⟨rfl, hbm⟩
  refine ⟨_, rfl, ?_⟩
  have hz := hKx () wm trivial hbm
  dsimp only [detS] at hz
  exact hz
 rintro ⟨⟩
 dsimp only [detS]
 simp only [putS]
 refine wpRL_nil ?_
 intro wn hbn hE
 have hsz := B.size
 have hzn := hbn.size
 replace B := B.trans (hbn.mono B.size)
 (try replace b3 := b3.below hbn)
 (try replace b4 := b4.below hbn)
 (try replace r6 := r6.below hbn)
 clear hE
 try simp only [List.drop_succ_cons, List.drop_zero]
 go_wp2_with (first | (refine wpList_storeB (t := 34) rfl _ _ rfl _ rfl _ rfl b3 (by kernel_rfl) rfl (by simp [Value.oneCell']) ?_; clear b3; intro wn ht hcn hzn; have hsz := B.size; replace hzn := Nat.le_of_eq hzn.symm; replace B := Chg.below B hcn (by omega) B.size; (try replace b4 := b4.of_eq (hcn.block _ b4.lt (by omega))); (try replace r6 := r6.of_eq (hcn.block _ r6.lt (by omega))); have b3 := ht; clear ht; simp only [putS]) | (refine wpList_storeB (t := 34) rfl _ _ rfl _ rfl _ rfl b4 (by kernel_rfl) rfl (by simp [Value.oneCell']) ?_; clear b4; intro wn ht hcn hzn; have hsz := B.size; replace hzn := Nat.le_of_eq hzn.symm; replace B := Chg.below B hcn (by omega) B.size; (try replace b3 := b3.of_eq (hcn.block _ b3.lt (by omega))); (try replace r6 := r6.of_eq (hcn.block _ r6.lt (by omega))); have b4 := ht; clear ht; simp only [putS]) | fail)
 refine NoPan.normal ?_
 go_upto_region 2 with fail
 refine wp_region_lit ?_
 try simp only [gelS]
 refine wpList_chunk 1 (by kernel_rfl) ?_
 simp only [takS, Nat.reduceAdd]
 repeat (first | go_big_quiet_skip | (go_big_quiet_want; go_big_quiet_op; go_big_quiet_on))
 refine wpQuiet_nil ?_
 refine wpList_nil ?_
 go_upto_region 3 with fail
 refine wp_region_lit ?_
 try simp only [gelS]
 refine wpList_chunk 4 (by kernel_rfl) ?_
 simp only [takS, Nat.reduceAdd]
 repeat (first | go_big_quiet_skip | (go_big_quiet_want; first | (refine quiet_loadAny (t := 32) rfl _ _ _ rfl (fun w hw => run_load_sl (ov_B b3 w hw).cell0) (by rfl) ?_; simp only [putS]; go_big_quiet_on) | (refine quiet_loadAny (t := 32) rfl _ _ _ rfl (fun w hw => run_load_sl (ov_B b4 w hw).cell0) (by rfl) ?_; simp only [putS]; go_big_quiet_on) | (go_big_quiet_op; go_big_quiet_on)))
 refine wpQuiet_nil ?_
 (refine wpList_bs2T rfl _ _ rfl _ _ _ _ _ _ rfl rfl ?_; intro b_b25 wn hle hge ht hbn hzn; have hsz := B.size; replace B := B.trans (hbn.mono (by omega)); have hln := Nat.lt_of_lt_of_eq (Nat.lt_succ_self _) hzn.symm; clear hzn; (try have hlt := b3.lt); (try replace b3 := b3.below (hbn.mono hle)); (try have hlt := b4.lt); (try replace b4 := b4.below (hbn.mono hle)); (try have hlt := r6.lt); (try replace r6 := r6.below (hbn.mono hle)); have b25 := ht; clear ht; simp only [putS])
 refine wpList_callF (by first | rfl | simp [Region.wanted, yielded]) rfl (enters_of Tryz.func78 (by kernel_rfl) rfl) (by simp only [Act.eval, evlS]; rfl) ?_
 refine (P_ConcatL b_b25 aa ab ca cb la lb LL _ b25 (HA.out.below B) (HB.out.below B) la1 lb1 HLL.out).mono ?_
 rintro e wn ⟨a1, c1, rfl, rs1, hbn⟩
 have hsz := B.size
 have hzn := hbn.size
 replace B := B.trans (hbn.mono B.size)
 (try replace b3 := b3.below hbn)
 (try replace b4 := b4.below hbn)
 (try replace r6 := r6.below hbn)
 (try replace b25 := b25.below hbn)
 refine ⟨_, rfl, ?_⟩
 simp only [putS]
 refine wpList_lenS (by first | rfl | simp [Region.wanted, yielded]) rfl Tryz.underlying32 rfl ?_
 simp only [putS]
 refine wpList_chunk 1 (by kernel_rfl) ?_
 simp only [takS, Nat.reduceAdd]
 repeat (first | go_big_quiet_skip | (go_big_quiet_want; go_big_quiet_op; go_big_quiet_on))
 refine wpQuiet_nil ?_
 refine wpList_nil ?_
 obtain ⟨g1, o1, hap1, rc⟩ := rc_some rs1 b3.lt
 have HAP1 := Lib.hid hap1
 obtain ⟨b0, hb0⟩ : ∃ n, n = wn.heap.size := ⟨_, rfl⟩
 have hg1 : g1 < b0 := by have := rc.lt; omega
 have k4 : b_r6 < b0 := by have := r6.lt; omega
 have hwb : b0 ≤ wn.heap.size := by omega
 have od := OwnE.nil (E := psE) b0 wn
 clear hap1 hb0 rs1 b25
 go_wp2
 go_loopw [7, 9, 28] (fun pv _ iv wr => ∃ (k : Nat) (K : List Psn) (ap : Option Addr) (cp : Nat), k ≤ LL.length ∧ iv = .int .i64 k ∧ pv = .slice ap K.length cp ∧ Hid ((LL.take k).map pT = K) ∧ Below w.heap.size w wr ∧ b0 ≤ wr.heap.size ∧ AtB 34 wr b_b3 #[.slice aa la.length ca] ∧ AtB 34 wr b_b4 #[.slice ab lb.length cb] ∧ AtB 34 wr b_r6 #[.slice none 0 0] ∧ RCells g1 o1 LL wr ∧ OwnE psE b0 (.slice ap K.length cp) K wr) (fun _ _ iv _ => (LL.length - intOf iv).toNat)
 case atStart => exact ⟨0, [], none, 0, by omega, rfl, rfl, Lib.hid rfl, B, hwb, b3, b4, r6, rc, od⟩
 case round =>
  clear B hwb b3 b4 r6 rc od
  obtain ⟨k, K, ap, cp, hk, rfl, rfl, HK, B, hwb, b3, b4, r6, rc, od⟩ := hrel
  have hKl : K.length = k := by rw [← HK.out, List.length_map, List.length_take]; omega
  by_cases hkl : k < LL.length
  ·have e1 : decide ((k : Int) < (LL.length : Int)) = true := decide_eq_true (by omega)
   have e2 : decide (k < LL.length) = true := decide_eq_true hkl
   have ha := HAP1.out (by omega)
   subst ha
   obtain ⟨e, he⟩ : ∃ e, aT LL k = e := ⟨_, rfl⟩
   have HK2 := Lib.hid (show (LL.take (k + 1)).map pT = K ++ [(e.x, e.y)] from by rw [take_pT hkl he, HK.out])
   obtain ⟨nr, hnr⟩ : ∃ n, n = wr.heap.size := ⟨_, rfl⟩
   have HOB : Hid (∀ kk, (Value.slice ap K.length cp).ownBlock = some kk → kk < nr) := Lib.hid (hnr ▸ od.ownlt)
   have k6 : b0 ≤ nr := by omega
   go_upto_region 4 with fail
   refine wp_region_lit ?_
   try simp only [gelS]
   refine wpList_chunk 1 (by kernel_rfl) ?_
   simp only [takS, Nat.reduceAdd]
   repeat (first | go_big_quiet_skip | (go_big_quiet_want; go_big_quiet_op; go_big_quiet_on))
   refine wpQuiet_nil ?_
   refine wpList_nil ?_
   go_upto_region 5 with fail
   refine wp_region_lit ?_
   try simp only [gelS]
   refine wpList_chunk 2 (by kernel_rfl) ?_
   simp only [takS, Nat.reduceAdd]
   repeat (first | go_big_quiet_skip | (go_big_quiet_want; first | (refine quiet_loadAny (t := 72) rfl _ _ _ rfl (fun w hw => rc_ta (ov_rc rc w hw) hkl he) (by first | rfl | omega) ?_; simp only [putS]; go_big_quiet_on) | (go_big_quiet_op; go_big_quiet_on)))
   refine wpQuiet_nil ?_
   (refine wpList_allocBk (t := 72) rfl _ (run_alloc_TA _ _ rfl) ?_; intro b_t9 wn hle hge ht hbn hzn; have hsz := B.size; replace B := B.trans (hbn.mono (by omega)); have hln := Nat.lt_of_lt_of_eq (Nat.lt_succ_self _) hzn.symm; clear hzn; (try have hlt := b3.lt); (try replace b3 := b3.below (hbn.mono hle)); (try have hlt := b4.lt); (try replace b4 := b4.below (hbn.mono hle)); (try have hlt := r6.lt); (try replace r6 := r6.below (hbn.mono hle)); (try have hlt := rc.lt); (try replace rc := rc.below (hbn.mono hle)); (try have hlt := od.lt); (try replace od := od.below (hbn.mono hle)); have t9 := ht; clear ht; simp only [putS])
   (refine wpList_storeB (t := 72) rfl _ _ rfl _ rfl _ rfl t9 (by rw [size_taC]; kernel_rfl) (by simp only [size_taC, size_zTA]) (taC_all _) ?_; clear t9; intro wn ht hcn hzn; (try replace od := od.chgB hcn (fun kk hkk => Nat.ne_of_lt (Nat.lt_of_lt_of_le (HOB.out kk hkk) (by omega)))); have hsz := B.size; replace hzn := Nat.le_of_eq hzn.symm; replace B := Chg.below B hcn (by omega) B.size; (try replace b3 := b3.of_eq (hcn.block _ b3.lt (by omega))); (try replace b4 := b4.of_eq (hcn.block _ b4.lt (by omega))); (try replace r6 := r6.of_eq (hcn.block _ r6.lt (by omega))); (try replace rc := rc.of_eq (hcn.block _ rc.lt (by omega))); (try replace od := od.of_eq (hcn.block _ od.lt (by omega))); have t9 := ht; clear ht; simp only [putS])
   refine wpList_nil ?_
   go_upto_region 6 with fail
   refine wp_region_lit ?_
   try simp only [gelS]
   refine wpList_chunk 3 (by kernel_rfl) ?_
   simp only [takS, Nat.reduceAdd]
   repeat (first | go_big_quiet_skip | (go_big_quiet_want; first | (refine quiet_loadAny (t := 68) rfl _ _ _ rfl (fun w hw => ta_pos (ov_B t9 w hw)) (by first | rfl | omega) ?_; simp only [putS]; go_big_quiet_on) | (go_big_quiet_op; go_big_quiet_on)))
   refine wpQuiet_nil ?_
   (refine wpList_bs1E (E := psE) rfl _ rfl ((e.x, e.y)) rfl (by omega) ?_; intro b_s35 wn hle hge ht hbn hzn; replace od := od.below (hbn.mono hle); have hsz := B.size; replace B := B.trans (hbn.mono (by omega)); have hln := Nat.lt_of_lt_of_eq (Nat.lt_succ_self _) hzn.symm; clear hzn; (try have hlt := b3.lt); (try replace b3 := b3.below (hbn.mono hle)); (try have hlt := b4.lt); (try replace b4 := b4.below (hbn.mono hle)); (try have hlt := r6.lt); (try replace r6 := r6.below (hbn.mono hle)); (try have hlt := rc.lt); (try replace rc := rc.below (hbn.mono hle)); have s35 := ht; clear ht; simp only [putS])
   (at_builtin; refine wpList_appendE rfl _ _ rfl _ _ rfl rfl od ((RSE.one s35)) (by simp only [List.length_cons, List.length_nil]; omega) (by omega) ?_; intro v_od wn ht hbn; have hsz := B.size; have hbz := hbn.size; replace B := B.trans (hbn.mono (by omega)); clear od; (try replace b3 := b3.of_eq (hbn.block _ (by omega))); (try replace b4 := b4.of_eq (hbn.block _ (by omega))); (try replace r6 := r6.of_eq (hbn.block _ (by omega))); (try replace rc := rc.of_eq (hbn.block _ (by omega))); have od := ht; clear ht; obtain ⟨a_od, c_od, hv, hco⟩ := od.len; (try simp only [List.length_append, List.length_cons, List.length_nil, Nat.zero_add] at hv hco); subst hv; simp only [putS])
   refine wpList_chunk 1 (by kernel_rfl) ?_
   simp only [takS, Nat.reduceAdd]
   repeat (first | go_big_quiet_skip | (go_big_quiet_want; go_big_quiet_op; go_big_quiet_on))
   refine wpQuiet_nil ?_
   refine wpList_nil ?_
   go_upto_region 7 with fail
   refine wp_region_lit ?_
   try simp only [gelS]
   refine wpList_chunk 2 (by kernel_rfl) ?_
   simp only [takS, Nat.reduceAdd]
   repeat (first | go_big_quiet_skip | (go_big_quiet_want; go_big_quiet_op; go_big_quiet_on))
   refine wpQuiet_nil ?_
   refine wpList_nil ?_
   go_wp2
   go_roundw
   case rel => exact ⟨k + 1, K ++ [(e.x, e.y)], a_od, c_od, by omega, by go_num, by simp, HK2, B, by omega, b3, b4, r6, rc, by simpa using od⟩
   case measure => simp [intOf]; omega
  ·have e1 : decide ((k : Int) < (LL.length : Int)) = false := decide_eq_false (by omega)
   have e2 : decide (k < LL.length) = false := decide_eq_false hkl
   have hkL : k = LL.length := by omega
   have hKE : LL.map pT = K := by rw [← HK.out, hkL, List.take_length]
   obtain ⟨_, _, hv, hcp⟩ := od.len
   simp only [Value.slice.injEq] at hv
   obtain ⟨rfl, _, rfl⟩ := hv
   obtain ⟨g, hpl, hgx, hgB⟩ := pl_own od b3.lt
   have hK2 : K.length ≤ 2048 := by omega
   have HBN := Lib.hid (show ∀ j, j < K.length → bndP (K.getD j (0, 0)) from fun j hj => by
    rw [List.getD_eq_getElem?_getD, List.getElem?_eq_getElem hj]
    have hm : K[j] ∈ LL.map pT := by rw [hKE]; exact List.getElem_mem _
    obtain ⟨e, he, ee⟩ := List.mem_map.1 hm
    show bndP K[j]
    rw [← ee]
    exact HBND.out e he)
   have HKE := Lib.hid (show (la ++ lb).map pT = K from by rw [HLL.out]; exact hKE)
   have hgl := hpl.lt
   have hgr : g ≠ b_r6 := by
    by_cases h0 : K.length = 0
    ·have := hgx h0; omega
    ·have := hgB (by omega); omega
   have HPL := Lib.hid hpl
   clear hKE hkL hgx od rc hpl hKl
   go_upto_region 4 with fail
   refine wp_region_lit ?_
   try simp only [gelS]
   refine wpList_chunk 1 (by kernel_rfl) ?_
   simp only [takS, Nat.reduceAdd]
   repeat (first | go_big_quiet_skip | (go_big_quiet_want; go_big_quiet_op; go_big_quiet_on))
   refine wpQuiet_nil ?_
   refine wpList_nil ?_
   go_upto_region 8 with fail
   refine wp_region_lit ?_
   try simp only [gelS]
   refine wpList_chunk 1 (by kernel_rfl) ?_
   simp only [takS, Nat.reduceAdd]
   repeat (first | go_big_quiet_skip | (go_big_quiet_want; go_big_quiet_op; go_big_quiet_on))
   refine wpQuiet_nil ?_
   refine wpList_callF (by first | rfl | simp [Region.wanted, yielded]) rfl (enters_of Tryz.func79 (by kernel_rfl) rfl) (by simp only [Act.eval, evlS]; rfl) ?_
   refine (P_SortU b0 g K.length _ ap _ _ HPL.out (by omega) HBN.out (by omega) hgB).mono ?_
   rintro e wn ⟨rfl, q2, hpl, hs2, hm2, hbn⟩
   have hsz := B.size
   have hzn := hbn.size
   replace B := B.trans (hbn.mono (by omega))
   replace b3 := b3.of_eq (hbn.block _ (by omega))
   replace b4 := b4.of_eq (hbn.block _ (by omega))
   replace r6 := r6.of_eq (hbn.block _ (by omega))
   refine ⟨_, rfl, ?_⟩
   simp only [putS]
   refine wpList_nil ?_
   have hps := dd_posU (la := la) (lb := lb) (q := fun j => K.getD j (0, 0)) (q' := q2) K.length (by rw [HKE.out]) (by rw [HKE.out]) hs2 hm2
   have hpn := ddK_len q2 K.length
   have HPS := Lib.hid hps
   clear hps hs2 hm2
   go_upto_region 9 with fail
   refine wp_region_lit ?_
   try simp only [gelS]
   (refine wpList_allocBk (t := 34) rfl _ (run_alloc_R _ _ rfl) ?_; intro b_r10 wn hle hge ht hbn hzn; have hsz := B.size; replace B := B.trans (hbn.mono (by omega)); have hln := Nat.lt_of_lt_of_eq (Nat.lt_succ_self _) hzn.symm; clear hzn; (try have hlt := b3.lt); (try replace b3 := b3.below (hbn.mono hle)); (try have hlt := b4.lt); (try replace b4 := b4.below (hbn.mono hle)); (try have hlt := r6.lt); (try replace r6 := r6.below (hbn.mono hle)); (try have hlt := hpl.lt); (try replace hpl := hpl.below (hbn.mono hle)); have r10 := ht; clear ht; simp only [putS])
   refine wpList_nil ?_
   have k7 : g < b_r10 := by omega
   go_upto_region 10 with fail
   have HPL2 := Lib.hid hpl
   clear hpl
   refine wp_region_lit ?_
   try simp only [gelS]
   refine wpList_chunk 1 (by kernel_rfl) ?_
   simp only [takS, Nat.reduceAdd]
   repeat (first | go_big_quiet_skip | (go_big_quiet_want; go_big_quiet_op; go_big_quiet_on))
   refine wpQuiet_nil ?_
   have lr10 := r10.lt
   refine wpList_callF (by first | rfl | simp [Region.wanted, yielded]) rfl (enters_of Tryz.func81 (by kernel_rfl) rfl) (by simp only [Act.eval, evlS]; rfl) ?_
   refine (P_CompactU b0 g K.length _ ap q2 _ HPL2.out (by omega) hcp (by omega) hgB).mono ?_
   rintro e wn ⟨rfl, rcp, hapP, hbk, hbn⟩
   have hsz := B.size
   have hzn := hbn.size
   replace B := B.trans (hbn.mono (by omega))
   replace b3 := b3.of_eq (hbn.block _ (by omega))
   replace b4 := b4.of_eq (hbn.block _ (by omega))
   replace r6 := r6.of_eq (hbn.block _ (by omega))
   replace r10 := r10.of_eq (hbk _ lr10 (by omega))
   clear hbk
   refine ⟨_, rfl, ?_⟩
   simp only [putS]
   generalize hgen : ddK q2 K.length = PS at *
   clear hgen
   try simp only [gelS]
   refine wpList_lenS (by first | rfl | simp [Region.wanted, yielded]) rfl Tryz.underlying106 rfl ?_
   simp only [putS]
   refine wpList_chunk 1 (by kernel_rfl) ?_
   simp only [takS, Nat.reduceAdd]
   repeat (first | go_big_quiet_skip | (go_big_quiet_want; go_big_quiet_op; go_big_quiet_on))
   refine wpQuiet_nil ?_
   refine wpList_nil ?_
   have HAPP := Lib.hid hapP
   clear hapP HPL HPL2
   obtain ⟨b1, hb1⟩ : ∃ n, n = wn.heap.size := ⟨_, rfl⟩
   have k8 : b_r10 < b1 := by have := r10.lt; omega
   have k9 : g < b1 := by omega
   have hwb1 : b1 ≤ wn.heap.size := by omega
   have od := OwnT.nil b1 wn
   clear hb1 lr10
   go_wp2
   go_loopw [12, 13, 14, 15, 16, 43] (fun _ _ _ _ _ iv wr => ∃ (k : Nat) (M : List TA) (ao : Option Addr) (co : Nat), k ≤ PS.length ∧ iv = .int .i64 k ∧ Hid (combK op la lb (PS.take k) = M) ∧ Below w.heap.size w wr ∧ b1 ≤ wr.heap.size ∧ AtB 34 wr b_b3 #[.slice aa la.length ca] ∧ AtB 34 wr b_b4 #[.slice ab lb.length cb] ∧ AtB 34 wr b_r6 #[.slice none 0 0] ∧ AtB 34 wr b_r10 #[.slice ao M.length co] ∧ RCellsE psE g 0 PS wr ∧ OwnT b1 (.slice ao M.length co) M wr) (fun _ _ _ _ _ iv _ => (PS.length - intOf iv).toNat)
   case atStart => exact ⟨0, [], none, 0, by omega, rfl, Lib.hid rfl, B, hwb1, b3, b4, r6, r10, rcp, od⟩
   case round =>
    clear B  hwb1  b3  b4  r6  r10  rcp  od
    obtain ⟨k, M, ao, co, hk, rfl, HM, B, hwb1, b3, b4, r6, r10, rcp, od⟩ := hrel
    by_cases hkl : k < PS.length
    ·have e1 : decide ((k : Int) < (PS.length : Int)) = true := decide_eq_true (by omega)
     have e2 : decide (k < PS.length) = true := decide_eq_true hkl
     have ha := HAPP.out (by omega)
     subst ha
     obtain ⟨p, hpk⟩ : ∃ p, PS[k]? = some p := ⟨_, List.getElem?_eq_getElem hkl⟩
     have hM := (combK_len op la lb (PS.take k)).1
     rw [HM.out] at hM
     have hck := combK_snoc op la lb (PS.take k) p
     rw [HM.out, combS_okB] at hck
     have HCK := Lib.hid (show combK op la lb (PS.take (k + 1)) = if okB op la lb M p = true then M ++ [⟨p.1, p.2, uT op la lb p⟩] else M from by rw [List.take_add_one, hpk]; exact hck)
     clear hck
     obtain ⟨nr, hnr⟩ : ∃ n, n = wr.heap.size := ⟨_, rfl⟩
     have HOB : Hid (∀ kk, (Value.slice ao M.length co).ownBlock = some kk → kk < nr) := Lib.hid (hnr ▸ od.ownlt)
     have k10 : b1 ≤ nr := by omega
     go_upto_region 11 with fail
     refine wp_region_lit ?_
     try simp only [gelS]
     refine wpList_chunk 1 (by kernel_rfl) ?_
     simp only [takS, Nat.reduceAdd]
     repeat (first | go_big_quiet_skip | (go_big_quiet_want; go_big_quiet_op; go_big_quiet_on))
     refine wpQuiet_nil ?_
     refine wpList_nil ?_
     go_upto_region 12 with fail
     refine wp_region_lit ?_
     try simp only [gelS]
     refine wpList_chunk 2 (by kernel_rfl) ?_
     simp only [takS, Nat.reduceAdd]
     repeat (first | go_big_quiet_skip | (go_big_quiet_want; first | (refine quiet_loadAny (t := 68) rfl _ _ _ rfl (fun w hw => rcp_load (ov_rce rcp w hw) hpk) (by first | rfl | omega) ?_; simp only [putS]; go_big_quiet_on) | (go_big_quiet_op; go_big_quiet_on)))
     refine wpQuiet_nil ?_
     (refine wpList_allocBk (t := 68) rfl _ (run_alloc_Ps _ _ rfl) ?_; intro b_p12 wn hle hge ht hbn hzn; have hsz := B.size; replace B := B.trans (hbn.mono (by omega)); have hln := Nat.lt_of_lt_of_eq (Nat.lt_succ_self _) hzn.symm; clear hzn; (try have hlt := b3.lt); (try replace b3 := b3.below (hbn.mono hle)); (try have hlt := b4.lt); (try replace b4 := b4.below (hbn.mono hle)); (try have hlt := r6.lt); (try replace r6 := r6.below (hbn.mono hle)); (try have hlt := r10.lt); (try replace r10 := r10.below (hbn.mono hle)); (try have hlt := rcp.lt); (try replace rcp := rcp.below (hbn.mono hle)); (try have hlt := od.lt); (try replace od := od.below (hbn.mono hle)); have p12 := ht; clear ht; simp only [putS])
     (refine wpList_storeB (t := 68) rfl _ _ rfl _ rfl _ rfl p12 (by kernel_rfl) rfl (by simp [Value.oneCell']) ?_; clear p12; intro wn ht hcn hzn; (try replace od := od.chgN hcn (fun kk hkk => Nat.ne_of_lt (Nat.lt_of_lt_of_le (HOB.out kk hkk) (by omega)))); have hsz := B.size; replace hzn := Nat.le_of_eq hzn.symm; replace B := Chg.below B hcn (by omega) B.size; (try replace b3 := b3.of_eq (hcn.block _ b3.lt (by omega))); (try replace b4 := b4.of_eq (hcn.block _ b4.lt (by omega))); (try replace r6 := r6.of_eq (hcn.block _ r6.lt (by omega))); (try replace r10 := r10.of_eq (hcn.block _ r10.lt (by omega))); (try replace rcp := rcp.of_eq (hcn.block _ rcp.lt (by omega))); (try replace od := od.of_eq (hcn.block _ od.lt (by omega))); have p12 := ht; clear ht; simp only [putS])
     refine wpList_nil ?_
     replace p12 : AtB 68 _ b_p12 #[.int .i64 p.1, .int .i64 p.2] := p12
     have k11 : nr ≤ b_p12 := by omega
     clear hpk
     go_upto_region 13 with fail
     have b3B := b3
     have b4B := b4
     have p12B := p12
     go_cut [13, 14] from 47 to 52 (fun s13 s14 wr => ∃ b_t13 b_t14, s13 = .pointer (some ⟨b_t13, 0, none⟩) ∧ s14 = .pointer (some ⟨b_t14, 0, none⟩) ∧ b_p12 < b_t13 ∧ b_p12 < b_t14 ∧ TileAt wr b_t13 (tileL la p.1 p.2) ∧ TileAt wr b_t14 (tileL lb p.1 p.2) ∧ AtB 68 wr b_p12 #[.int .i64 p.1, .int .i64 p.2] ∧ Below w.heap.size w wr ∧ b1 ≤ wr.heap.size ∧ AtB 34 wr b_b3 #[.slice aa la.length ca] ∧ AtB 34 wr b_b4 #[.slice ab lb.length cb] ∧ AtB 34 wr b_r6 #[.slice none 0 0] ∧ AtB 34 wr b_r10 #[.slice ao M.length co] ∧ RCellsE psE g 0 PS wr ∧ OwnT b1 (.slice ao M.length co) M wr)
     case first =>
      have lp12 := p12.lt
      refine wp_region_X0 8 #[false, false, false, false, false, false, false, false, false, false] (by kernel_rfl) (by kernel_rfl) ?_
      intro wn hbn
      have hX := hbn
      have hsz := B.size
      have hzn := hbn.size
      replace B := B.trans (hbn.mono B.size)
      try replace b3 := b3.below hbn
      try replace b4 := b4.below hbn
      try replace r6 := r6.below hbn
      try replace r10 := r10.below hbn
      try replace rcp := rcp.below hbn
      try replace od := od.below hbn
      try replace p12 := p12.below hbn
      simp only [List.length_cons, List.length_nil, Nat.reduceAdd]
      refine anyX_take 0 rfl (by kernel_rfl) ⟨_, ov_of hX⟩ ?_
      intro K hK
      try simp only [gelS]
      (first | (refine quiet_loadAny (t := 34) rfl _ _ _ rfl (fun w hw => run_load_B (ov_B b3B w hw) Tryz.isAgg34 (by kernel_rfl)) (by rfl) ?_; simp only [putS]; go_big_quiet_on) | (refine quiet_loadAny (t := 34) rfl _ _ _ rfl (fun w hw => run_load_B (ov_B b4B w hw) Tryz.isAgg34 (by kernel_rfl)) (by rfl) ?_; simp only [putS]; go_big_quiet_on) | (refine quiet_loadAny (t := 68) rfl _ _ _ rfl (fun w hw => run_load_B (ov_B p12B w hw) Tryz.isAgg68 (by kernel_rfl)) (by rfl) ?_; simp only [putS]; go_big_quiet_on) | (go_big_quiet_op; go_big_quiet_on))
      simp only [putS]
      refine anyX_take 1 rfl (by kernel_rfl) ⟨_, ov_of hX⟩ ?_
      intro K hK
      try simp only [gelS]
      (first | (refine quiet_loadAny (t := 34) rfl _ _ _ rfl (fun w hw => run_load_B (ov_B b3B w hw) Tryz.isAgg34 (by kernel_rfl)) (by rfl) ?_; simp only [putS]; go_big_quiet_on) | (refine quiet_loadAny (t := 34) rfl _ _ _ rfl (fun w hw => run_load_B (ov_B b4B w hw) Tryz.isAgg34 (by kernel_rfl)) (by rfl) ?_; simp only [putS]; go_big_quiet_on) | (refine quiet_loadAny (t := 68) rfl _ _ _ rfl (fun w hw => run_load_B (ov_B p12B w hw) Tryz.isAgg68 (by kernel_rfl)) (by rfl) ?_; simp only [putS]; go_big_quiet_on) | (go_big_quiet_op; go_big_quiet_on))
      simp only [putS]
      refine anyX_take 3 rfl (by kernel_rfl) ⟨_, ov_of hX⟩ ?_
      intro K hK
      try simp only [gelS]
      (first | (refine quiet_loadAny (t := 34) rfl _ _ _ rfl (fun w hw => run_load_B (ov_B b3B w hw) Tryz.isAgg34 (by kernel_rfl)) (by rfl) ?_; simp only [putS]; go_big_quiet_on) | (refine quiet_loadAny (t := 34) rfl _ _ _ rfl (fun w hw => run_load_B (ov_B b4B w hw) Tryz.isAgg34 (by kernel_rfl)) (by rfl) ?_; simp only [putS]; go_big_quiet_on) | (refine quiet_loadAny (t := 68) rfl _ _ _ rfl (fun w hw => run_load_B (ov_B p12B w hw) Tryz.isAgg68 (by kernel_rfl)) (by rfl) ?_; simp only [putS]; go_big_quiet_on) | (go_big_quiet_op; go_big_quiet_on))
      simp only [putS]
      refine anyX_take 4 rfl (by kernel_rfl) ⟨_, ov_of hX⟩ ?_
      intro K hK
      try simp only [gelS]
      (first | (refine quiet_loadAny (t := 34) rfl _ _ _ rfl (fun w hw => run_load_B (ov_B b3B w hw) Tryz.isAgg34 (by kernel_rfl)) (by rfl) ?_; simp only [putS]; go_big_quiet_on) | (refine quiet_loadAny (t := 34) rfl _ _ _ rfl (fun w hw => run_load_B (ov_B b4B w hw) Tryz.isAgg34 (by kernel_rfl)) (by rfl) ?_; simp only [putS]; go_big_quiet_on) | (refine quiet_loadAny (t := 68) rfl _ _ _ rfl (fun w hw => run_load_B (ov_B p12B w hw) Tryz.isAgg68 (by kernel_rfl)) (by rfl) ?_; simp only [putS]; go_big_quiet_on) | (go_big_quiet_op; go_big_quiet_on))
      simp only [putS]
      refine anyX_three 2 6 7 rfl rfl rfl (by kernel_rfl) rfl rfl rfl (fun K hK => ?_) (fun K hK => ?_) (fun K hK => ?_)
      ·skip
       try simp only [gelS]
       go_simp
       go_at_call 53
       refine (P_TileO2 _ la p.1 p.2 _ (HA.out.below B) HNA.out).mono ?_
       rintro e wn ⟨rfl, hbn⟩
       have hsz := B.size
       have hzn := hbn.size
       have hsx := hX.size
       replace B := B.trans (hbn.mono B.size)
       replace hX := hX.trans (hbn.mono hX.size)
       try replace b3 := b3.below hbn
       try replace b4 := b4.below hbn
       try replace r6 := r6.below hbn
       try replace r10 := r10.below hbn
       try replace rcp := rcp.below hbn
       try replace od := od.below hbn
       try replace p12 := p12.below hbn
       try replace t13 := t13.below hbn
       try replace t14 := t14.below hbn
       refine hK _ _ ⟨fun _ => ⟨_, ov_of hX⟩, ?_⟩
       clear hK K
       try simp only [gelS]
       simp only [putS]
       refine anyX_three 5 6 7 rfl rfl rfl (by kernel_rfl) rfl rfl rfl (fun K hK => ?_) (fun K hK => ?_) (fun K hK => ?_)
       ·skip
        try simp only [gelS]
        go_simp
        go_at_call 53
        refine (P_TileO2 _ lb p.1 p.2 _ (HB.out.below B) HNB.out).mono ?_
        rintro e wn ⟨rfl, hbn⟩
        have hsz := B.size
        have hzn := hbn.size
        have hsx := hX.size
        replace B := B.trans (hbn.mono B.size)
        replace hX := hX.trans (hbn.mono hX.size)
        try replace b3 := b3.below hbn
        try replace b4 := b4.below hbn
        try replace r6 := r6.below hbn
        try replace r10 := r10.below hbn
        try replace rcp := rcp.below hbn
        try replace od := od.below hbn
        try replace p12 := p12.below hbn
        try replace t13 := t13.below hbn
        try replace t14 := t14.below hbn
        refine hK _ _ ⟨fun _ => ⟨_, ov_of hX⟩, ?_⟩
        clear hK K
        try simp only [gelS]
        simp only [putS]
        refine anyX_two 6 7 rfl rfl (by kernel_rfl) rfl rfl (fun K hK => ?_) (fun K hK => ?_)
        ·skip
         try simp only [gelS]
         refine owp_allocBk (t := 70) (tileC (fun _ => Px.zero)) (run_alloc_tile _ _ rfl) ?_
         intro b_t13 wn hle hge ht hbn hzn
         have hsz := B.size
         have hsx := hX.size
         replace B := B.trans (hbn.mono (by omega))
         replace hX := hX.trans (hbn.mono (by omega))
         try first | (have hlt := b3.lt; replace b3 := b3.of_eq (hbn.block _ (by omega))) | replace b3 := b3.below (hbn.mono hle)
         try first | (have hlt := b4.lt; replace b4 := b4.of_eq (hbn.block _ (by omega))) | replace b4 := b4.below (hbn.mono hle)
         try first | (have hlt := r6.lt; replace r6 := r6.of_eq (hbn.block _ (by omega))) | replace r6 := r6.below (hbn.mono hle)
         try first | (have hlt := r10.lt; replace r10 := r10.of_eq (hbn.block _ (by omega))) | replace r10 := r10.below (hbn.mono hle)
         try first | (have hlt := rcp.lt; replace rcp := rcp.of_eq (hbn.block _ (by omega))) | replace rcp := rcp.below (hbn.mono hle)
         try first | (have hlt := od.lt; replace od := od.of_eq (hbn.block _ (by omega))) | replace od := od.below (hbn.mono hle)
         try first | (have hlt := p12.lt; replace p12 := p12.of_eq (hbn.block _ (by omega))) | replace p12 := p12.below (hbn.mono hle)
         try first | (have hlt := t13.lt; replace t13 := t13.of_eq (hbn.block _ (by omega))) | replace t13 := t13.below (hbn.mono hle)
         try first | (have hlt := t14.lt; replace t14 := t14.of_eq (hbn.block _ (by omega))) | replace t14 := t14.below (hbn.mono hle)
         have t13 := ht
         clear ht
         refine hK _ _ ⟨fun _ => ⟨_, ov_of hX⟩, ?_⟩
         clear hK K
         try simp only [gelS]
         simp only [putS]
         refine anyX_next 7 rfl (by kernel_rfl) rfl (fun K hK => ?_)
         try simp only [gelS]
         refine owp_allocBk (t := 70) (tileC (fun _ => Px.zero)) (run_alloc_tile _ _ rfl) ?_
         intro b_t14 wn hle hge ht hbn hzn
         have hsz := B.size
         have hsx := hX.size
         replace B := B.trans (hbn.mono (by omega))
         replace hX := hX.trans (hbn.mono (by omega))
         try first | (have hlt := b3.lt; replace b3 := b3.of_eq (hbn.block _ (by omega))) | replace b3 := b3.below (hbn.mono hle)
         try first | (have hlt := b4.lt; replace b4 := b4.of_eq (hbn.block _ (by omega))) | replace b4 := b4.below (hbn.mono hle)
         try first | (have hlt := r6.lt; replace r6 := r6.of_eq (hbn.block _ (by omega))) | replace r6 := r6.below (hbn.mono hle)
         try first | (have hlt := r10.lt; replace r10 := r10.of_eq (hbn.block _ (by omega))) | replace r10 := r10.below (hbn.mono hle)
         try first | (have hlt := rcp.lt; replace rcp := rcp.of_eq (hbn.block _ (by omega))) | replace rcp := rcp.below (hbn.mono hle)
         try first | (have hlt := od.lt; replace od := od.of_eq (hbn.block _ (by omega))) | replace od := od.below (hbn.mono hle)
         try first | (have hlt := p12.lt; replace p12 := p12.of_eq (hbn.block _ (by omega))) | replace p12 := p12.below (hbn.mono hle)
         try first | (have hlt := t13.lt; replace t13 := t13.of_eq (hbn.block _ (by omega))) | replace t13 := t13.below (hbn.mono hle)
         try first | (have hlt := t14.lt; replace t14 := t14.of_eq (hbn.block _ (by omega))) | replace t14 := t14.below (hbn.mono hle)
         have t14 := ht
         clear ht
         refine hK _ _ ⟨fun _ => ⟨_, ov_of hX⟩, ?_⟩
         clear hK K
         try simp only [gelS]
         simp only [putS]
         refine anyX_seq (by kernel_rfl) (by kernel_rfl) ?_
         simp only [List.drop_succ_cons, List.drop_zero]
         replace t13 : TileAt _ b_t13 (fun _ => Px.zero) := t13
         replace t14 : TileAt _ b_t14 (fun _ => Px.zero) := t14
         go_wp2_with (first | (refine wpList_storeT rfl _ _ rfl _ rfl _ rfl t13 ?_; clear t13; intro wn ht hcn hzn; (try replace od := od.chgN hcn (fun kk hkk => Nat.ne_of_lt (Nat.lt_of_lt_of_le (HOB.out kk hkk) (by omega)))); have hsz := B.size; replace hzn := Nat.le_of_eq hzn.symm; replace B := Chg.below B hcn (by omega) B.size; (try replace b3 := b3.of_eq (hcn.block _ b3.lt (by omega))); (try replace b4 := b4.of_eq (hcn.block _ b4.lt (by omega))); (try replace r6 := r6.of_eq (hcn.block _ r6.lt (by omega))); (try replace r10 := r10.of_eq (hcn.block _ r10.lt (by omega))); (try replace rcp := rcp.of_eq (hcn.block _ rcp.lt (by omega))); (try replace od := od.of_eq (hcn.block _ od.lt (by omega))); (try replace p12 := p12.of_eq (hcn.block _ p12.lt (by omega))); (try replace t14 := t14.of_eq (hcn.block _ t14.lt (by omega))); have t13 := ht; clear ht; simp only [putS]) | (refine wpList_storeT rfl _ _ rfl _ rfl _ rfl t14 ?_; clear t14; intro wn ht hcn hzn; (try replace od := od.chgN hcn (fun kk hkk => Nat.ne_of_lt (Nat.lt_of_lt_of_le (HOB.out kk hkk) (by omega)))); have hsz := B.size; replace hzn := Nat.le_of_eq hzn.symm; replace B := Chg.below B hcn (by omega) B.size; (try replace b3 := b3.of_eq (hcn.block _ b3.lt (by omega))); (try replace b4 := b4.of_eq (hcn.block _ b4.lt (by omega))); (try replace r6 := r6.of_eq (hcn.block _ r6.lt (by omega))); (try replace r10 := r10.of_eq (hcn.block _ r10.lt (by omega))); (try replace rcp := rcp.of_eq (hcn.block _ rcp.lt (by omega))); (try replace od := od.of_eq (hcn.block _ od.lt (by omega))); (try replace p12 := p12.of_eq (hcn.block _ p12.lt (by omega))); (try replace t13 := t13.of_eq (hcn.block _ t13.lt (by omega))); have t14 := ht; clear ht; simp only [putS]) | fail)
         refine NoPan.normal ?_
         go_wp2_with fail
         go_meet
         exact ⟨b_t13, b_t14, rfl, rfl, by omega, by omega, t13, t14, p12, B, by omega, b3, b4, r6, r10, rcp, od⟩
        ·skip
         try simp only [gelS]
         refine owp_allocBk (t := 70) (tileC (fun _ => Px.zero)) (run_alloc_tile _ _ rfl) ?_
         intro b_t14 wn hle hge ht hbn hzn
         have hsz := B.size
         have hsx := hX.size
         replace B := B.trans (hbn.mono (by omega))
         replace hX := hX.trans (hbn.mono (by omega))
         try first | (have hlt := b3.lt; replace b3 := b3.of_eq (hbn.block _ (by omega))) | replace b3 := b3.below (hbn.mono hle)
         try first | (have hlt := b4.lt; replace b4 := b4.of_eq (hbn.block _ (by omega))) | replace b4 := b4.below (hbn.mono hle)
         try first | (have hlt := r6.lt; replace r6 := r6.of_eq (hbn.block _ (by omega))) | replace r6 := r6.below (hbn.mono hle)
         try first | (have hlt := r10.lt; replace r10 := r10.of_eq (hbn.block _ (by omega))) | replace r10 := r10.below (hbn.mono hle)
         try first | (have hlt := rcp.lt; replace rcp := rcp.of_eq (hbn.block _ (by omega))) | replace rcp := rcp.below (hbn.mono hle)
         try first | (have hlt := od.lt; replace od := od.of_eq (hbn.block _ (by omega))) | replace od := od.below (hbn.mono hle)
         try first | (have hlt := p12.lt; replace p12 := p12.of_eq (hbn.block _ (by omega))) | replace p12 := p12.below (hbn.mono hle)
         try first | (have hlt := t13.lt; replace t13 := t13.of_eq (hbn.block _ (by omega))) | replace t13 := t13.below (hbn.mono hle)
         try first | (have hlt := t14.lt; replace t14 := t14.of_eq (hbn.block _ (by omega))) | replace t14 := t14.below (hbn.mono hle)
         have t14 := ht
         clear ht
         refine hK _ _ ⟨fun _ => ⟨_, ov_of hX⟩, ?_⟩
         clear hK K
         try simp only [gelS]
         simp only [putS]
         refine anyX_next 6 rfl (by kernel_rfl) rfl (fun K hK => ?_)
         try simp only [gelS]
         refine owp_allocBk (t := 70) (tileC (fun _ => Px.zero)) (run_alloc_tile _ _ rfl) ?_
         intro b_t13 wn hle hge ht hbn hzn
         have hsz := B.size
         have hsx := hX.size
         replace B := B.trans (hbn.mono (by omega))
         replace hX := hX.trans (hbn.mono (by omega))
         try first | (have hlt := b3.lt; replace b3 := b3.of_eq (hbn.block _ (by omega))) | replace b3 := b3.below (hbn.mono hle)
         try first | (have hlt := b4.lt; replace b4 := b4.of_eq (hbn.block _ (by omega))) | replace b4 := b4.below (hbn.mono hle)
         try first | (have hlt := r6.lt; replace r6 := r6.of_eq (hbn.block _ (by omega))) | replace r6 := r6.below (hbn.mono hle)
         try first | (have hlt := r10.lt; replace r10 := r10.of_eq (hbn.block _ (by omega))) | replace r10 := r10.below (hbn.mono hle)
         try first | (have hlt := rcp.lt; replace rcp := rcp.of_eq (hbn.block _ (by omega))) | replace rcp := rcp.below (hbn.mono hle)
         try first | (have hlt := od.lt; replace od := od.of_eq (hbn.block _ (by omega))) | replace od := od.below (hbn.mono hle)
         try first | (have hlt := p12.lt; replace p12 := p12.of_eq (hbn.block _ (by omega))) | replace p12 := p12.below (hbn.mono hle)
         try first | (have hlt := t13.lt; replace t13 := t13.of_eq (hbn.block _ (by omega))) | replace t13 := t13.below (hbn.mono hle)
         try first | (have hlt := t14.lt; replace t14 := t14.of_eq (hbn.block _ (by omega))) | replace t14 := t14.below (hbn.mono hle)
         have t13 := ht
         clear ht
         refine hK _ _ ⟨fun _ => ⟨_, ov_of hX⟩, ?_⟩
         clear hK K
         try simp only [gelS]
         simp only [putS]
         refine anyX_seq (by kernel_rfl) (by kernel_rfl) ?_
         simp only [List.drop_succ_cons, List.drop_zero]
         replace t13 : TileAt _ b_t13 (fun _ => Px.zero) := t13
         replace t14 : TileAt _ b_t14 (fun _ => Px.zero) := t14
         go_wp2_with (first | (refine wpList_storeT rfl _ _ rfl _ rfl _ rfl t13 ?_; clear t13; intro wn ht hcn hzn; (try replace od := od.chgN hcn (fun kk hkk => Nat.ne_of_lt (Nat.lt_of_lt_of_le (HOB.out kk hkk) (by omega)))); have hsz := B.size; replace hzn := Nat.le_of_eq hzn.symm; replace B := Chg.below B hcn (by omega) B.size; (try replace b3 := b3.of_eq (hcn.block _ b3.lt (by omega))); (try replace b4 := b4.of_eq (hcn.block _ b4.lt (by omega))); (try replace r6 := r6.of_eq (hcn.block _ r6.lt (by omega))); (try replace r10 := r10.of_eq (hcn.block _ r10.lt (by omega))); (try replace rcp := rcp.of_eq (hcn.block _ rcp.lt (by omega))); (try replace od := od.of_eq (hcn.block _ od.lt (by omega))); (try replace p12 := p12.of_eq (hcn.block _ p12.lt (by omega))); (try replace t14 := t14.of_eq (hcn.block _ t14.lt (by omega))); have t13 := ht; clear ht; simp only [putS]) | (refine wpList_storeT rfl _ _ rfl _ rfl _ rfl t14 ?_; clear t14; intro wn ht hcn hzn; (try replace od := od.chgN hcn (fun kk hkk => Nat.ne_of_lt (Nat.lt_of_lt_of_le (HOB.out kk hkk) (by omega)))); have hsz := B.size; replace hzn := Nat.le_of_eq hzn.symm; replace B := Chg.below B hcn (by omega) B.size; (try replace b3 := b3.of_eq (hcn.block _ b3.lt (by omega))); (try replace b4 := b4.of_eq (hcn.block _ b4.lt (by omega))); (try replace r6 := r6.of_eq (hcn.block _ r6.lt (by omega))); (try replace r10 := r10.of_eq (hcn.block _ r10.lt (by omega))); (try replace rcp := rcp.of_eq (hcn.block _ rcp.lt (by omega))); (try replace od := od.of_eq (hcn.block _ od.lt (by omega))); (try replace p12 := p12.of_eq (hcn.block _ p12.lt (by omega))); (try replace t13 := t13.of_eq (hcn.block _ t13.lt (by omega))); have t14 := ht; clear ht; simp only [putS]) | fail)
         refine NoPan.normal ?_
         go_wp2_with fail
         go_meet
         exact ⟨b_t13, b_t14, rfl, rfl, by omega, by omega, t13, t14, p12, B, by omega, b3, b4, r6, r10, rcp, od⟩
       ·skip
        try simp only [gelS]
        refine owp_allocBk (t := 70) (tileC (fun _ => Px.zero)) (run_alloc_tile _ _ rfl) ?_
        intro b_t13 wn hle hge ht hbn hzn
        have hsz := B.size
        have hsx := hX.size
        replace B := B.trans (hbn.mono (by omega))
        replace hX := hX.trans (hbn.mono (by omega))
        try first | (have hlt := b3.lt; replace b3 := b3.of_eq (hbn.block _ (by omega))) | replace b3 := b3.below (hbn.mono hle)
        try first | (have hlt := b4.lt; replace b4 := b4.of_eq (hbn.block _ (by omega))) | replace b4 := b4.below (hbn.mono hle)
        try first | (have hlt := r6.lt; replace r6 := r6.of_eq (hbn.block _ (by omega))) | replace r6 := r6.below (hbn.mono hle)
        try first | (have hlt := r10.lt; replace r10 := r10.of_eq (hbn.block _ (by omega))) | replace r10 := r10.below (hbn.mono hle)
        try first | (have hlt := rcp.lt; replace rcp := rcp.of_eq (hbn.block _ (by omega))) | replace rcp := rcp.below (hbn.mono hle)
        try first | (have hlt := od.lt; replace od := od.of_eq (hbn.block _ (by omega))) | replace od := od.below (hbn.mono hle)
        try first | (have hlt := p12.lt; replace p12 := p12.of_eq (hbn.block _ (by omega))) | replace p12 := p12.below (hbn.mono hle)
        try first | (have hlt := t13.lt; replace t13 := t13.of_eq (hbn.block _ (by omega))) | replace t13 := t13.below (hbn.mono hle)
        try first | (have hlt := t14.lt; replace t14 := t14.of_eq (hbn.block _ (by omega))) | replace t14 := t14.below (hbn.mono hle)
        have t13 := ht
        clear ht
        refine hK _ _ ⟨fun _ => ⟨_, ov_of hX⟩, ?_⟩
        clear hK K
        try simp only [gelS]
        simp only [putS]
        refine anyX_two 5 7 rfl rfl (by kernel_rfl) rfl rfl (fun K hK => ?_) (fun K hK => ?_)
        ·skip
         try simp only [gelS]
         go_simp
         go_at_call 53
         refine (P_TileO2 _ lb p.1 p.2 _ (HB.out.below B) HNB.out).mono ?_
         rintro e wn ⟨rfl, hbn⟩
         have hsz := B.size
         have hzn := hbn.size
         have hsx := hX.size
         replace B := B.trans (hbn.mono B.size)
         replace hX := hX.trans (hbn.mono hX.size)
         try replace b3 := b3.below hbn
         try replace b4 := b4.below hbn
         try replace r6 := r6.below hbn
         try replace r10 := r10.below hbn
         try replace rcp := rcp.below hbn
         try replace od := od.below hbn
         try replace p12 := p12.below hbn
         try replace t13 := t13.below hbn
         try replace t14 := t14.below hbn
         refine hK _ _ ⟨fun _ => ⟨_, ov_of hX⟩, ?_⟩
         clear hK K
         try simp only [gelS]
         simp only [putS]
         refine anyX_next 7 rfl (by kernel_rfl) rfl (fun K hK => ?_)
         try simp only [gelS]
         refine owp_allocBk (t := 70) (tileC (fun _ => Px.zero)) (run_alloc_tile _ _ rfl) ?_
         intro b_t14 wn hle hge ht hbn hzn
         have hsz := B.size
         have hsx := hX.size
         replace B := B.trans (hbn.mono (by omega))
         replace hX := hX.trans (hbn.mono (by omega))
         try first | (have hlt := b3.lt; replace b3 := b3.of_eq (hbn.block _ (by omega))) | replace b3 := b3.below (hbn.mono hle)
         try first | (have hlt := b4.lt; replace b4 := b4.of_eq (hbn.block _ (by omega))) | replace b4 := b4.below (hbn.mono hle)
         try first | (have hlt := r6.lt; replace r6 := r6.of_eq (hbn.block _ (by omega))) | replace r6 := r6.below (hbn.mono hle)
         try first | (have hlt := r10.lt; replace r10 := r10.of_eq (hbn.block _ (by omega))) | replace r10 := r10.below (hbn.mono hle)
         try first | (have hlt := rcp.lt; replace rcp := rcp.of_eq (hbn.block _ (by omega))) | replace rcp := rcp.below (hbn.mono hle)
         try first | (have hlt := od.lt; replace od := od.of_eq (hbn.block _ (by omega))) | replace od := od.below (hbn.mono hle)
         try first | (have hlt := p12.lt; replace p12 := p12.of_eq (hbn.block _ (by omega))) | replace p12 := p12.below (hbn.mono hle)
         try first | (have hlt := t13.lt; replace t13 := t13.of_eq (hbn.block _ (by omega))) | replace t13 := t13.below (hbn.mono hle)
         try first | (have hlt := t14.lt; replace t14 := t14.of_eq (hbn.block _ (by omega))) | replace t14 := t14.below (hbn.mono hle)
         have t14 := ht
         clear ht
         refine hK _ _ ⟨fun _ => ⟨_, ov_of hX⟩, ?_⟩
         clear hK K
         try simp only [gelS]
         simp only [putS]
         refine anyX_seq (by kernel_rfl) (by kernel_rfl) ?_
         simp only [List.drop_succ_cons, List.drop_zero]
         replace t13 : TileAt _ b_t13 (fun _ => Px.zero) := t13
         replace t14 : TileAt _ b_t14 (fun _ => Px.zero) := t14
         go_wp2_with (first | (refine wpList_storeT rfl _ _ rfl _ rfl _ rfl t13 ?_; clear t13; intro wn ht hcn hzn; (try replace od := od.chgN hcn (fun kk hkk => Nat.ne_of_lt (Nat.lt_of_lt_of_le (HOB.out kk hkk) (by omega)))); have hsz := B.size; replace hzn := Nat.le_of_eq hzn.symm; replace B := Chg.below B hcn (by omega) B.size; (try replace b3 := b3.of_eq (hcn.block _ b3.lt (by omega))); (try replace b4 := b4.of_eq (hcn.block _ b4.lt (by omega))); (try replace r6 := r6.of_eq (hcn.block _ r6.lt (by omega))); (try replace r10 := r10.of_eq (hcn.block _ r10.lt (by omega))); (try replace rcp := rcp.of_eq (hcn.block _ rcp.lt (by omega))); (try replace od := od.of_eq (hcn.block _ od.lt (by omega))); (try replace p12 := p12.of_eq (hcn.block _ p12.lt (by omega))); (try replace t14 := t14.of_eq (hcn.block _ t14.lt (by omega))); have t13 := ht; clear ht; simp only [putS]) | (refine wpList_storeT rfl _ _ rfl _ rfl _ rfl t14 ?_; clear t14; intro wn ht hcn hzn; (try replace od := od.chgN hcn (fun kk hkk => Nat.ne_of_lt (Nat.lt_of_lt_of_le (HOB.out kk hkk) (by omega)))); have hsz := B.size; replace hzn := Nat.le_of_eq hzn.symm; replace B := Chg.below B hcn (by omega) B.size; (try replace b3 := b3.of_eq (hcn.block _ b3.lt (by omega))); (try replace b4 := b4.of_eq (hcn.block _ b4.lt (by omega))); (try replace r6 := r6.of_eq (hcn.block _ r6.lt (by omega))); (try replace r10 := r10.of_eq (hcn.block _ r10.lt (by omega))); (try replace rcp := rcp.of_eq (hcn.block _ rcp.lt (by omega))); (try replace od := od.of_eq (hcn.block _ od.lt (by omega))); (try replace p12 := p12.of_eq (hcn.block _ p12.lt (by omega))); (try replace t13 := t13.of_eq (hcn.block _ t13.lt (by omega))); have t14 := ht; clear ht; simp only [putS]) | fail)
         refine NoPan.normal ?_
         go_wp2_with fail
         go_meet
         exact ⟨b_t13, b_t14, rfl, rfl, by omega, by omega, t13, t14, p12, B, by omega, b3, b4, r6, r10, rcp, od⟩
        ·skip
         try simp only [gelS]
         refine owp_allocBk (t := 70) (tileC (fun _ => Px.zero)) (run_alloc_tile _ _ rfl) ?_
         intro b_t14 wn hle hge ht hbn hzn
         have hsz := B.size
         have hsx := hX.size
         replace B := B.trans (hbn.mono (by omega))
         replace hX := hX.trans (hbn.mono (by omega))
         try first | (have hlt := b3.lt; replace b3 := b3.of_eq (hbn.block _ (by omega))) | replace b3 := b3.below (hbn.mono hle)
         try first | (have hlt := b4.lt; replace b4 := b4.of_eq (hbn.block _ (by omega))) | replace b4 := b4.below (hbn.mono hle)
         try first | (have hlt := r6.lt; replace r6 := r6.of_eq (hbn.block _ (by omega))) | replace r6 := r6.below (hbn.mono hle)
         try first | (have hlt := r10.lt; replace r10 := r10.of_eq (hbn.block _ (by omega))) | replace r10 := r10.below (hbn.mono hle)
         try first | (have hlt := rcp.lt; replace rcp := rcp.of_eq (hbn.block _ (by omega))) | replace rcp := rcp.below (hbn.mono hle)
         try first | (have hlt := od.lt; replace od := od.of_eq (hbn.block _ (by omega))) | replace od := od.below (hbn.mono hle)
         try first | (have hlt := p12.lt; replace p12 := p12.of_eq (hbn.block _ (by omega))) | replace p12 := p12.below (hbn.mono hle)
         try first | (have hlt := t13.lt; replace t13 := t13.of_eq (hbn.block _ (by omega))) | replace t13 := t13.below (hbn.mono hle)
         try first | (have hlt := t14.lt; replace t14 := t14.of_eq (hbn.block _ (by omega))) | replace t14 := t14.below (hbn.mono hle)
         have t14 := ht
         clear ht
         refine hK _ _ ⟨fun _ => ⟨_, ov_of hX⟩, ?_⟩
         clear hK K
         try simp only [gelS]
         simp only [putS]
         refine anyX_next 5 rfl (by kernel_rfl) rfl (fun K hK => ?_)
         try simp only [gelS]
         go_simp
         go_at_call 53
         refine (P_TileO2 _ lb p.1 p.2 _ (HB.out.below B) HNB.out).mono ?_
         rintro e wn ⟨rfl, hbn⟩
         have hsz := B.size
         have hzn := hbn.size
         have hsx := hX.size
         replace B := B.trans (hbn.mono B.size)
         replace hX := hX.trans (hbn.mono hX.size)
         try replace b3 := b3.below hbn
         try replace b4 := b4.below hbn
         try replace r6 := r6.below hbn
         try replace r10 := r10.below hbn
         try replace rcp := rcp.below hbn
         try replace od := od.below hbn
         try replace p12 := p12.below hbn
         try replace t13 := t13.below hbn
         try replace t14 := t14.below hbn
         refine hK _ _ ⟨fun _ => ⟨_, ov_of hX⟩, ?_⟩
         clear hK K
         try simp only [gelS]
         simp only [putS]
         refine anyX_seq (by kernel_rfl) (by kernel_rfl) ?_
         simp only [List.drop_succ_cons, List.drop_zero]
         replace t13 : TileAt _ b_t13 (fun _ => Px.zero) := t13
         replace t14 : TileAt _ b_t14 (fun _ => Px.zero) := t14
         go_wp2_with (first | (refine wpList_storeT rfl _ _ rfl _ rfl _ rfl t13 ?_; clear t13; intro wn ht hcn hzn; (try replace od := od.chgN hcn (fun kk hkk => Nat.ne_of_lt (Nat.lt_of_lt_of_le (HOB.out kk hkk) (by omega)))); have hsz := B.size; replace hzn := Nat.le_of_eq hzn.symm; replace B := Chg.below B hcn (by omega) B.size; (try replace b3 := b3.of_eq (hcn.block _ b3.lt (by omega))); (try replace b4 := b4.of_eq (hcn.block _ b4.lt (by omega))); (try replace r6 := r6.of_eq (hcn.block _ r6.lt (by omega))); (try replace r10 := r10.of_eq (hcn.block _ r10.lt (by omega))); (try replace rcp := rcp.of_eq (hcn.block _ rcp.lt (by omega))); (try replace od := od.of_eq (hcn.block _ od.lt (by omega))); (try replace p12 := p12.of_eq (hcn.block _ p12.lt (by omega))); (try replace t14 := t14.of_eq (hcn.block _ t14.lt (by omega))); have t13 := ht; clear ht; simp only [putS]) | (refine wpList_storeT rfl _ _ rfl _ rfl _ rfl t14 ?_; clear t14; intro wn ht hcn hzn; (try replace od := od.chgN hcn (fun kk hkk => Nat.ne_of_lt (Nat.lt_of_lt_of_le (HOB.out kk hkk) (by omega)))); have hsz := B.size; replace hzn := Nat.le_of_eq hzn.symm; replace B := Chg.below B hcn (by omega) B.size; (try replace b3 := b3.of_eq (hcn.block _ b3.lt (by omega))); (try replace b4 := b4.of_eq (hcn.block _ b4.lt (by omega))); (try replace r6 := r6.of_eq (hcn.block _ r6.lt (by omega))); (try replace r10 := r10.of_eq (hcn.block _ r10.lt (by omega))); (try replace rcp := rcp.of_eq (hcn.block _ rcp.lt (by omega))); (try replace od := od.of_eq (hcn.block _ od.lt (by omega))); (try replace p12 := p12.of_eq (hcn.block _ p12.lt (by omega))); (try replace t13 := t13.of_eq (hcn.block _ t13.lt (by omega))); have t14 := ht; clear ht; simp only [putS]) | fail)
         refine NoPan.normal ?_
         go_wp2_with fail
         go_meet
         exact ⟨b_t13, b_t14, rfl, rfl, by omega, by omega, t13, t14, p12, B, by omega, b3, b4, r6, r10, rcp, od⟩
       ·skip
        try simp only [gelS]
        refine owp_allocBk (t := 70) (tileC (fun _ => Px.zero)) (run_alloc_tile _ _ rfl) ?_
        intro b_t14 wn hle hge ht hbn hzn
        have hsz := B.size
        have hsx := hX.size
        replace B := B.trans (hbn.mono (by omega))
        replace hX := hX.trans (hbn.mono (by omega))
        try first | (have hlt := b3.lt; replace b3 := b3.of_eq (hbn.block _ (by omega))) | replace b3 := b3.below (hbn.mono hle)
        try first | (have hlt := b4.lt; replace b4 := b4.of_eq (hbn.block _ (by omega))) | replace b4 := b4.below (hbn.mono hle)
        try first | (have hlt := r6.lt; replace r6 := r6.of_eq (hbn.block _ (by omega))) | replace r6 := r6.below (hbn.mono hle)
        try first | (have hlt := r10.lt; replace r10 := r10.of_eq (hbn.block _ (by omega))) | replace r10 := r10.below (hbn.mono hle)
        try first | (have hlt := rcp.lt; replace rcp := rcp.of_eq (hbn.block _ (by omega))) | replace rcp := rcp.below (hbn.mono hle)
        try first | (have hlt := od.lt; replace od := od.of_eq (hbn.block _ (by omega))) | replace od := od.below (hbn.mono hle)
        try first | (have hlt := p12.lt; replace p12 := p12.of_eq (hbn.block _ (by omega))) | replace p12 := p12.below (hbn.mono hle)
        try first | (have hlt := t13.lt; replace t13 := t13.of_eq (hbn.block _ (by omega))) | replace t13 := t13.below (hbn.mono hle)
        try first | (have hlt := t14.lt; replace t14 := t14.of_eq (hbn.block _ (by omega))) | replace t14 := t14.below (hbn.mono hle)
        have t14 := ht
        clear ht
        refine hK _ _ ⟨fun _ => ⟨_, ov_of hX⟩, ?_⟩
        clear hK K
        try simp only [gelS]
        simp only [putS]
        refine anyX_two 5 6 rfl rfl (by kernel_rfl) rfl rfl (fun K hK => ?_) (fun K hK => ?_)
        ·skip
         try simp only [gelS]
         go_simp
         go_at_call 53
         refine (P_TileO2 _ lb p.1 p.2 _ (HB.out.below B) HNB.out).mono ?_
         rintro e wn ⟨rfl, hbn⟩
         have hsz := B.size
         have hzn := hbn.size
         have hsx := hX.size
         replace B := B.trans (hbn.mono B.size)
         replace hX := hX.trans (hbn.mono hX.size)
         try replace b3 := b3.below hbn
         try replace b4 := b4.below hbn
         try replace r6 := r6.below hbn
         try replace r10 := r10.below hbn
         try replace rcp := rcp.below hbn
         try replace od := od.below hbn
         try replace p12 := p12.below hbn
         try replace t13 := t13.below hbn
         try replace t14 := t14.below hbn
         refine hK _ _ ⟨fun _ => ⟨_, ov_of hX⟩, ?_⟩
         clear hK K
         try simp only [gelS]
         simp only [putS]
         refine anyX_next 6 rfl (by kernel_rfl) rfl (fun K hK => ?_)
         try simp only [gelS]
         refine owp_allocBk (t := 70) (tileC (fun _ => Px.zero)) (run_alloc_tile _ _ rfl) ?_
         intro b_t13 wn hle hge ht hbn hzn
         have hsz := B.size
         have hsx := hX.size
         replace B := B.trans (hbn.mono (by omega))
         replace hX := hX.trans (hbn.mono (by omega))
         try first | (have hlt := b3.lt; replace b3 := b3.of_eq (hbn.block _ (by omega))) | replace b3 := b3.below (hbn.mono hle)
         try first | (have hlt := b4.lt; replace b4 := b4.of_eq (hbn.block _ (by omega))) | replace b4 := b4.below (hbn.mono hle)
         try first | (have hlt := r6.lt; replace r6 := r6.of_eq (hbn.block _ (by omega))) | replace r6 := r6.below (hbn.mono hle)
         try first | (have hlt := r10.lt; replace r10 := r10.of_eq (hbn.block _ (by omega))) | replace r10 := r10.below (hbn.mono hle)
         try first | (have hlt := rcp.lt; replace rcp := rcp.of_eq (hbn.block _ (by omega))) | replace rcp := rcp.below (hbn.mono hle)
         try first | (have hlt := od.lt; replace od := od.of_eq (hbn.block _ (by omega))) | replace od := od.below (hbn.mono hle)
         try first | (have hlt := p12.lt; replace p12 := p12.of_eq (hbn.block _ (by omega))) | replace p12 := p12.below (hbn.mono hle)
         try first | (have hlt := t13.lt; replace t13 := t13.of_eq (hbn.block _ (by omega))) | replace t13 := t13.below (hbn.mono hle)
         try first | (have hlt := t14.lt; replace t14 := t14.of_eq (hbn.block _ (by omega))) | replace t14 := t14.below (hbn.mono hle)
         have t13 := ht
         clear ht
         refine hK _ _ ⟨fun _ => ⟨_, ov_of hX⟩, ?_⟩
         clear hK K
         try simp only [gelS]
         simp only [putS]
         refine anyX_seq (by kernel_rfl) (by kernel_rfl) ?_
         simp only [List.drop_succ_cons, List.drop_zero]
         replace t13 : TileAt _ b_t13 (fun _ => Px.zero) := t13
         replace t14 : TileAt _ b_t14 (fun _ => Px.zero) := t14
         go_wp2_with (first | (refine wpList_storeT rfl _ _ rfl _ rfl _ rfl t13 ?_; clear t13; intro wn ht hcn hzn; (try replace od := od.chgN hcn (fun kk hkk => Nat.ne_of_lt (Nat.lt_of_lt_of_le (HOB.out kk hkk) (by omega)))); have hsz := B.size; replace hzn := Nat.le_of_eq hzn.symm; replace B := Chg.below B hcn (by omega) B.size; (try replace b3 := b3.of_eq (hcn.block _ b3.lt (by omega))); (try replace b4 := b4.of_eq (hcn.block _ b4.lt (by omega))); (try replace r6 := r6.of_eq (hcn.block _ r6.lt (by omega))); (try replace r10 := r10.of_eq (hcn.block _ r10.lt (by omega))); (try replace rcp := rcp.of_eq (hcn.block _ rcp.lt (by omega))); (try replace od := od.of_eq (hcn.block _ od.lt (by omega))); (try replace p12 := p12.of_eq (hcn.block _ p12.lt (by omega))); (try replace t14 := t14.of_eq (hcn.block _ t14.lt (by omega))); have t13 := ht; clear ht; simp only [putS]) | (refine wpList_storeT rfl _ _ rfl _ rfl _ rfl t14 ?_; clear t14; intro wn ht hcn hzn; (try replace od := od.chgN hcn (fun kk hkk => Nat.ne_of_lt (Nat.lt_of_lt_of_le (HOB.out kk hkk) (by omega)))); have hsz := B.size; replace hzn := Nat.le_of_eq hzn.symm; replace B := Chg.below B hcn (by omega) B.size; (try replace b3 := b3.of_eq (hcn.block _ b3.lt (by omega))); (try replace b4 := b4.of_eq (hcn.block _ b4.lt (by omega))); (try replace r6 := r6.of_eq (hcn.block _ r6.lt (by omega))); (try replace r10 := r10.of_eq (hcn.block _ r10.lt (by omega))); (try replace rcp := rcp.of_eq (hcn.block _ rcp.lt (by omega))); (try replace od := od.of_eq (hcn.block _ od.lt (by omega))); (try replace p12 := p12.of_eq (hcn.block _ p12.lt (by omega))); (try replace t13 := t13.of_eq (hcn.block _ t13.lt (by omega))); have t14 := ht; clear ht; simp only [putS]) | fail)
         refine NoPan.normal ?_
         go_wp2_with fail
         go_meet
         exact ⟨b_t13, b_t14, rfl, rfl, by omega, by omega, t13, t14, p12, B, by omega, b3, b4, r6, r10, rcp, od⟩
        ·skip
         try simp only [gelS]
         refine owp_allocBk (t := 70) (tileC (fun _ => Px.zero)) (run_alloc_tile _ _ rfl) ?_
         intro b_t13 wn hle hge ht hbn hzn
         have hsz := B.size
         have hsx := hX.size
         replace B := B.trans (hbn.mono (by omega))
         replace hX := hX.trans (hbn.mono (by omega))
         try first | (have hlt := b3.lt; replace b3 := b3.of_eq (hbn.block _ (by omega))) | replace b3 := b3.below (hbn.mono hle)
         try first | (have hlt := b4.lt; replace b4 := b4.of_eq (hbn.block _ (by omega))) | replace b4 := b4.below (hbn.mono hle)
         try first | (have hlt := r6.lt; replace r6 := r6.of_eq (hbn.block _ (by omega))) | replace r6 := r6.below (hbn.mono hle)
         try first | (have hlt := r10.lt; replace r10 := r10.of_eq (hbn.block _ (by omega))) | replace r10 := r10.below (hbn.mono hle)
         try first | (have hlt := rcp.lt; replace rcp := rcp.of_eq (hbn.block _ (by omega))) | replace rcp := rcp.below (hbn.mono hle)
         try first | (have hlt := od.lt; replace od := od.of_eq (hbn.block _ (by omega))) | replace od := od.below (hbn.mono hle)
         try first | (have hlt := p12.lt; replace p12 := p12.of_eq (hbn.block _ (by omega))) | replace p12 := p12.below (hbn.mono hle)
         try first | (have hlt := t13.lt; replace t13 := t13.of_eq (hbn.block _ (by omega))) | replace t13 := t13.below (hbn.mono hle)
         try first | (have hlt := t14.lt; replace t14 := t14.of_eq (hbn.block _ (by omega))) | replace t14 := t14.below (hbn.mono hle)
         have t13 := ht
         clear ht
         refine hK _ _ ⟨fun _ => ⟨_, ov_of hX⟩, ?_⟩
         clear hK K
         try simp only [gelS]
         simp only [putS]
         refine anyX_next 5 rfl (by kernel_rfl) rfl (fun K hK => ?_)
         try simp only [gelS]
         go_simp
         go_at_call 53
         refine (P_TileO2 _ lb p.1 p.2 _ (HB.out.below B) HNB.out).mono ?_
         rintro e wn ⟨rfl, hbn⟩
         have hsz := B.size
         have hzn := hbn.size
         have hsx := hX.size
         replace B := B.trans (hbn.mono B.size)
         replace hX := hX.trans (hbn.mono hX.size)
         try replace b3 := b3.below hbn
         try replace b4 := b4.below hbn
         try replace r6 := r6.below hbn
         try replace r10 := r10.below hbn
         try replace rcp := rcp.below hbn
         try replace od := od.below hbn
         try replace p12 := p12.below hbn
         try replace t13 := t13.below hbn
         try replace t14 := t14.below hbn
         refine hK _ _ ⟨fun _ => ⟨_, ov_of hX⟩, ?_⟩
         clear hK K
         try simp only [gelS]
         simp only [putS]
         refine anyX_seq (by kernel_rfl) (by kernel_rfl) ?_
         simp only [List.drop_succ_cons, List.drop_zero]
         replace t13 : TileAt _ b_t13 (fun _ => Px.zero) := t13
         replace t14 : TileAt _ b_t14 (fun _ => Px.zero) := t14
         go_wp2_with (first | (refine wpList_storeT rfl _ _ rfl _ rfl _ rfl t13 ?_; clear t13; intro wn ht hcn hzn; (try replace od := od.chgN hcn (fun kk hkk => Nat.ne_of_lt (Nat.lt_of_lt_of_le (HOB.out kk hkk) (by omega)))); have hsz := B.size; replace hzn := Nat.le_of_eq hzn.symm; replace B := Chg.below B hcn (by omega) B.size; (try replace b3 := b3.of_eq (hcn.block _ b3.lt (by omega))); (try replace b4 := b4.of_eq (hcn.block _ b4.lt (by omega))); (try replace r6 := r6.of_eq (hcn.block _ r6.lt (by omega))); (try replace r10 := r10.of_eq (hcn.block _ r10.lt (by omega))); (try replace rcp := rcp.of_eq (hcn.block _ rcp.lt (by omega))); (try replace od := od.of_eq (hcn.block _ od.lt (by omega))); (try replace p12 := p12.of_eq (hcn.block _ p12.lt (by omega))); (try replace t14 := t14.of_eq (hcn.block _ t14.lt (by omega))); have t13 := ht; clear ht; simp only [putS]) | (refine wpList_storeT rfl _ _ rfl _ rfl _ rfl t14 ?_; clear t14; intro wn ht hcn hzn; (try replace od := od.chgN hcn (fun kk hkk => Nat.ne_of_lt (Nat.lt_of_lt_of_le (HOB.out kk hkk) (by omega)))); have hsz := B.size; replace hzn := Nat.le_of_eq hzn.symm; replace B := Chg.below B hcn (by omega) B.size; (try replace b3 := b3.of_eq (hcn.block _ b3.lt (by omega))); (try replace b4 := b4.of_eq (hcn.block _ b4.lt (by omega))); (try replace r6 := r6.of_eq (hcn.block _ r6.lt (by omega))); (try replace r10 := r10.of_eq (hcn.block _ r10.lt (by omega))); (try replace rcp := rcp.of_eq (hcn.block _ rcp.lt (by omega))); (try replace od := od.of_eq (hcn.block _ od.lt (by omega))); (try replace p12 := p12.of_eq (hcn.block _ p12.lt (by omega))); (try replace t13 := t13.of_eq (hcn.block _ t13.lt (by omega))); have t14 := ht; clear ht; simp only [putS]) | fail)
         refine NoPan.normal ?_
         go_wp2_with fail
         go_meet
         exact ⟨b_t13, b_t14, rfl, rfl, by omega, by omega, t13, t14, p12, B, by omega, b3, b4, r6, r10, rcp, od⟩
      ·skip
       try simp only [gelS]
       refine owp_allocBk (t := 70) (tileC (fun _ => Px.zero)) (run_alloc_tile _ _ rfl) ?_
       intro b_t13 wn hle hge ht hbn hzn
       have hsz := B.size
       have hsx := hX.size
       replace B := B.trans (hbn.mono (by omega))
       replace hX := hX.trans (hbn.mono (by omega))
       try first | (have hlt := b3.lt; replace b3 := b3.of_eq (hbn.block _ (by omega))) | replace b3 := b3.below (hbn.mono hle)
       try first | (have hlt := b4.lt; replace b4 := b4.of_eq (hbn.block _ (by omega))) | replace b4 := b4.below (hbn.mono hle)
       try first | (have hlt := r6.lt; replace r6 := r6.of_eq (hbn.block _ (by omega))) | replace r6 := r6.below (hbn.mono hle)
       try first | (have hlt := r10.lt; replace r10 := r10.of_eq (hbn.block _ (by omega))) | replace r10 := r10.below (hbn.mono hle)
       try first | (have hlt := rcp.lt; replace rcp := rcp.of_eq (hbn.block _ (by omega))) | replace rcp := rcp.below (hbn.mono hle)
       try first | (have hlt := od.lt; replace od := od.of_eq (hbn.block _ (by omega))) | replace od := od.below (hbn.mono hle)
       try first | (have hlt := p12.lt; replace p12 := p12.of_eq (hbn.block _ (by omega))) | replace p12 := p12.below (hbn.mono hle)
       try first | (have hlt := t13.lt; replace t13 := t13.of_eq (hbn.block _ (by omega))) | replace t13 := t13.below (hbn.mono hle)
       try first | (have hlt := t14.lt; replace t14 := t14.of_eq (hbn.block _ (by omega))) | replace t14 := t14.below (hbn.mono hle)
       have t13 := ht
       clear ht
       refine hK _ _ ⟨fun _ => ⟨_, ov_of hX⟩, ?_⟩
       clear hK K
       try simp only [gelS]
       simp only [putS]
       refine anyX_two 2 7 rfl rfl (by kernel_rfl) rfl rfl (fun K hK => ?_) (fun K hK => ?_)
       ·skip
        try simp only [gelS]
        go_simp
        go_at_call 53
        refine (P_TileO2 _ la p.1 p.2 _ (HA.out.below B) HNA.out).mono ?_
        rintro e wn ⟨rfl, hbn⟩
        have hsz := B.size
        have hzn := hbn.size
        have hsx := hX.size
        replace B := B.trans (hbn.mono B.size)
        replace hX := hX.trans (hbn.mono hX.size)
        try replace b3 := b3.below hbn
        try replace b4 := b4.below hbn
        try replace r6 := r6.below hbn
        try replace r10 := r10.below hbn
        try replace rcp := rcp.below hbn
        try replace od := od.below hbn
        try replace p12 := p12.below hbn
        try replace t13 := t13.below hbn
        try replace t14 := t14.below hbn
        refine hK _ _ ⟨fun _ => ⟨_, ov_of hX⟩, ?_⟩
        clear hK K
        try simp only [gelS]
        simp only [putS]
        refine anyX_two 5 7 rfl rfl (by kernel_rfl) rfl rfl (fun K hK => ?_) (fun K hK => ?_)
        ·skip
         try simp only [gelS]
         go_simp
         go_at_call 53
         refine (P_TileO2 _ lb p.1 p.2 _ (HB.out.below B) HNB.out).mono ?_
         rintro e wn ⟨rfl, hbn⟩
         have hsz := B.size
         have hzn := hbn.size
         have hsx := hX.size
         replace B := B.trans (hbn.mono B.size)
         replace hX := hX.trans (hbn.mono hX.size)
         try replace b3 := b3.below hbn
         try replace b4 := b4.below hbn
         try replace r6 := r6.below hbn
         try replace r10 := r10.below hbn
         try replace rcp := rcp.below hbn
         try replace od := od.below hbn
         try replace p12 := p12.below hbn
         try replace t13 := t13.below hbn
         try replace t14 := t14.below hbn
         refine hK _ _ ⟨fun _ => ⟨_, ov_of hX⟩, ?_⟩
         clear hK K
         try simp only [gelS]
         simp only [putS]
         refine anyX_next 7 rfl (by kernel_rfl) rfl (fun K hK => ?_)
         try simp only [gelS]
         refine owp_allocBk (t := 70) (tileC (fun _ => Px.zero)) (run_alloc_tile _ _ rfl) ?_
         intro b_t14 wn hle hge ht hbn hzn
         have hsz := B.size
         have hsx := hX.size
         replace B := B.trans (hbn.mono (by omega))
         replace hX := hX.trans (hbn.mono (by omega))
         try first | (have hlt := b3.lt; replace b3 := b3.of_eq (hbn.block _ (by omega))) | replace b3 := b3.below (hbn.mono hle)
         try first | (have hlt := b4.lt; replace b4 := b4.of_eq (hbn.block _ (by omega))) | replace b4 := b4.below (hbn.mono hle)
         try first | (have hlt := r6.lt; replace r6 := r6.of_eq (hbn.block _ (by omega))) | replace r6 := r6.below (hbn.mono hle)
         try first | (have hlt := r10.lt; replace r10 := r10.of_eq (hbn.block _ (by omega))) | replace r10 := r10.below (hbn.mono hle)
         try first | (have hlt := rcp.lt; replace rcp := rcp.of_eq (hbn.block _ (by omega))) | replace rcp := rcp.below (hbn.mono hle)
         try first | (have hlt := od.lt; replace od := od.of_eq (hbn.block _ (by omega))) | replace od := od.below (hbn.mono hle)
         try first | (have hlt := p12.lt; replace p12 := p12.of_eq (hbn.block _ (by omega))) | replace p12 := p12.below (hbn.mono hle)
         try first | (have hlt := t13.lt; replace t13 := t13.of_eq (hbn.block _ (by omega))) | replace t13 := t13.below (hbn.mono hle)
         try first | (have hlt := t14.lt; replace t14 := t14.of_eq (hbn.block _ (by omega))) | replace t14 := t14.below (hbn.mono hle)
         have t14 := ht
         clear ht
         refine hK _ _ ⟨fun _ => ⟨_, ov_of hX⟩, ?_⟩
         clear hK K
         try simp only [gelS]
         simp only [putS]
         refine anyX_seq (by kernel_rfl) (by kernel_rfl) ?_
         simp only [List.drop_succ_cons, List.drop_zero]
         replace t13 : TileAt _ b_t13 (fun _ => Px.zero) := t13
         replace t14 : TileAt _ b_t14 (fun _ => Px.zero) := t14
         go_wp2_with (first | (refine wpList_storeT rfl _ _ rfl _ rfl _ rfl t13 ?_; clear t13; intro wn ht hcn hzn; (try replace od := od.chgN hcn (fun kk hkk => Nat.ne_of_lt (Nat.lt_of_lt_of_le (HOB.out kk hkk) (by omega)))); have hsz := B.size; replace hzn := Nat.le_of_eq hzn.symm; replace B := Chg.below B hcn (by omega) B.size; (try replace b3 := b3.of_eq (hcn.block _ b3.lt (by omega))); (try replace b4 := b4.of_eq (hcn.block _ b4.lt (by omega))); (try replace r6 := r6.of_eq (hcn.block _ r6.lt (by omega))); (try replace r10 := r10.of_eq (hcn.block _ r10.lt (by omega))); (try replace rcp := rcp.of_eq (hcn.block _ rcp.lt (by omega))); (try replace od := od.of_eq (hcn.block _ od.lt (by omega))); (try replace p12 := p12.of_eq (hcn.block _ p12.lt (by omega))); (try replace t14 := t14.of_eq (hcn.block _ t14.lt (by omega))); have t13 := ht; clear ht; simp only [putS]) | (refine wpList_storeT rfl _ _ rfl _ rfl _ rfl t14 ?_; clear t14; intro wn ht hcn hzn; (try replace od := od.chgN hcn (fun kk hkk => Nat.ne_of_lt (Nat.lt_of_lt_of_le (HOB.out kk hkk) (by omega)))); have hsz := B.size; replace hzn := Nat.le_of_eq hzn.symm; replace B := Chg.below B hcn (by omega) B.size; (try replace b3 := b3.of_eq (hcn.block _ b3.lt (by omega))); (try replace b4 := b4.of_eq (hcn.block _ b4.lt (by omega))); (try replace r6 := r6.of_eq (hcn.block _ r6.lt (by omega))); (try replace r10 := r10.of_eq (hcn.block _ r10.lt (by omega))); (try replace rcp := rcp.of_eq (hcn.block _ rcp.lt (by omega))); (try replace od := od.of_eq (hcn.block _ od.lt (by omega))); (try replace p12 := p12.of_eq (hcn.block _ p12.lt (by omega))); (try replace t13 := t13.of_eq (hcn.block _ t13.lt (by omega))); have t14 := ht; clear ht; simp only [putS]) | fail)
         refine NoPan.normal ?_
         go_wp2_with fail
         go_meet
         exact ⟨b_t13, b_t14, rfl, rfl, by omega, by omega, t13, t14, p12, B, by omega, b3, b4, r6, r10, rcp, od⟩
        ·skip
         try simp only [gelS]
         refine owp_allocBk (t := 70) (tileC (fun _ => Px.zero)) (run_alloc_tile _ _ rfl) ?_
         intro b_t14 wn hle hge ht hbn hzn
         have hsz := B.size
         have hsx := hX.size
         replace B := B.trans (hbn.mono (by omega))
         replace hX := hX.trans (hbn.mono (by omega))
         try first | (have hlt := b3.lt; replace b3 := b3.of_eq (hbn.block _ (by omega))) | replace b3 := b3.below (hbn.mono hle)
         try first | (have hlt := b4.lt; replace b4 := b4.of_eq (hbn.block _ (by omega))) | replace b4 := b4.below (hbn.mono hle)
         try first | (have hlt := r6.lt; replace r6 := r6.of_eq (hbn.block _ (by omega))) | replace r6 := r6.below (hbn.mono hle)
         try first | (have hlt := r10.lt; replace r10 := r10.of_eq (hbn.block _ (by omega))) | replace r10 := r10.below (hbn.mono hle)
         try first | (have hlt := rcp.lt; replace rcp := rcp.of_eq (hbn.block _ (by omega))) | replace rcp := rcp.below (hbn.mono hle)
         try first | (have hlt := od.lt; replace od := od.of_eq (hbn.block _ (by omega))) | replace od := od.below (hbn.mono hle)
         try first | (have hlt := p12.lt; replace p12 := p12.of_eq (hbn.block _ (by omega))) | replace p12 := p12.below (hbn.mono hle)
         try first | (have hlt := t13.lt; replace t13 := t13.of_eq (hbn.block _ (by omega))) | replace t13 := t13.below (hbn.mono hle)
         try first | (have hlt := t14.lt; replace t14 := t14.of_eq (hbn.block _ (by omega))) | replace t14 := t14.below (hbn.mono hle)
         have t14 := ht
         clear ht
         refine hK _ _ ⟨fun _ => ⟨_, ov_of hX⟩, ?_⟩
         clear hK K
         try simp only [gelS]
         simp only [putS]
         refine anyX_next 5 rfl (by kernel_rfl) rfl (fun K hK => ?_)
         try simp only [gelS]
         go_simp
         go_at_call 53
         refine (P_TileO2 _ lb p.1 p.2 _ (HB.out.below B) HNB.out).mono ?_
         rintro e wn ⟨rfl, hbn⟩
         have hsz := B.size
         have hzn := hbn.size
         have hsx := hX.size
         replace B := B.trans (hbn.mono B.size)
         replace hX := hX.trans (hbn.mono hX.size)
         try replace b3 := b3.below hbn
         try replace b4 := b4.below hbn
         try replace r6 := r6.below hbn
         try replace r10 := r10.below hbn
         try replace rcp := rcp.below hbn
         try replace od := od.below hbn
         try replace p12 := p12.below hbn
         try replace t13 := t13.below hbn
         try replace t14 := t14.below hbn
         refine hK _ _ ⟨fun _ => ⟨_, ov_of hX⟩, ?_⟩
         clear hK K
         try simp only [gelS]
         simp only [putS]
         refine anyX_seq (by kernel_rfl) (by kernel_rfl) ?_
         simp only [List.drop_succ_cons, List.drop_zero]
         replace t13 : TileAt _ b_t13 (fun _ => Px.zero) := t13
         replace t14 : TileAt _ b_t14 (fun _ => Px.zero) := t14
         go_wp2_with (first | (refine wpList_storeT rfl _ _ rfl _ rfl _ rfl t13 ?_; clear t13; intro wn ht hcn hzn; (try replace od := od.chgN hcn (fun kk hkk => Nat.ne_of_lt (Nat.lt_of_lt_of_le (HOB.out kk hkk) (by omega)))); have hsz := B.size; replace hzn := Nat.le_of_eq hzn.symm; replace B := Chg.below B hcn (by omega) B.size; (try replace b3 := b3.of_eq (hcn.block _ b3.lt (by omega))); (try replace b4 := b4.of_eq (hcn.block _ b4.lt (by omega))); (try replace r6 := r6.of_eq (hcn.block _ r6.lt (by omega))); (try replace r10 := r10.of_eq (hcn.block _ r10.lt (by omega))); (try replace rcp := rcp.of_eq (hcn.block _ rcp.lt (by omega))); (try replace od := od.of_eq (hcn.block _ od.lt (by omega))); (try replace p12 := p12.of_eq (hcn.block _ p12.lt (by omega))); (try replace t14 := t14.of_eq (hcn.block _ t14.lt (by omega))); have t13 := ht; clear ht; simp only [putS]) | (refine wpList_storeT rfl _ _ rfl _ rfl _ rfl t14 ?_; clear t14; intro wn ht hcn hzn; (try replace od := od.chgN hcn (fun kk hkk => Nat.ne_of_lt (Nat.lt_of_lt_of_le (HOB.out kk hkk) (by omega)))); have hsz := B.size; replace hzn := Nat.le_of_eq hzn.symm; replace B := Chg.below B hcn (by omega) B.size; (try replace b3 := b3.of_eq (hcn.block _ b3.lt (by omega))); (try replace b4 := b4.of_eq (hcn.block _ b4.lt (by omega))); (try replace r6 := r6.of_eq (hcn.block _ r6.lt (by omega))); (try replace r10 := r10.of_eq (hcn.block _ r10.lt (by omega))); (try replace rcp := rcp.of_eq (hcn.block _ rcp.lt (by omega))); (try replace od := od.of_eq (hcn.block _ od.lt (by omega))); (try replace p12 := p12.of_eq (hcn.block _ p12.lt (by omega))); (try replace t13 := t13.of_eq (hcn.block _ t13.lt (by omega))); have t14 := ht; clear ht; simp only [putS]) | fail)
         refine NoPan.normal ?_
         go_wp2_with fail
         go_meet
         exact ⟨b_t13, b_t14, rfl, rfl, by omega, by omega, t13, t14, p12, B, by omega, b3, b4, r6, r10, rcp, od⟩
       ·skip
        try simp only [gelS]
        refine owp_allocBk (t := 70) (tileC (fun _ => Px.zero)) (run_alloc_tile _ _ rfl) ?_
        intro b_t14 wn hle hge ht hbn hzn
        have hsz := B.size
        have hsx := hX.size
        replace B := B.trans (hbn.mono (by omega))
        replace hX := hX.trans (hbn.mono (by omega))
        try first | (have hlt := b3.lt; replace b3 := b3.of_eq (hbn.block _ (by omega))) | replace b3 := b3.below (hbn.mono hle)
        try first | (have hlt := b4.lt; replace b4 := b4.of_eq (hbn.block _ (by omega))) | replace b4 := b4.below (hbn.mono hle)
        try first | (have hlt := r6.lt; replace r6 := r6.of_eq (hbn.block _ (by omega))) | replace r6 := r6.below (hbn.mono hle)
        try first | (have hlt := r10.lt; replace r10 := r10.of_eq (hbn.block _ (by omega))) | replace r10 := r10.below (hbn.mono hle)
        try first | (have hlt := rcp.lt; replace rcp := rcp.of_eq (hbn.block _ (by omega))) | replace rcp := rcp.below (hbn.mono hle)
        try first | (have hlt := od.lt; replace od := od.of_eq (hbn.block _ (by omega))) | replace od := od.below (hbn.mono hle)
        try first | (have hlt := p12.lt; replace p12 := p12.of_eq (hbn.block _ (by omega))) | replace p12 := p12.below (hbn.mono hle)
        try first | (have hlt := t13.lt; replace t13 := t13.of_eq (hbn.block _ (by omega))) | replace t13 := t13.below (hbn.mono hle)
        try first | (have hlt := t14.lt; replace t14 := t14.of_eq (hbn.block _ (by omega))) | replace t14 := t14.below (hbn.mono hle)
        have t14 := ht
        clear ht
        refine hK _ _ ⟨fun _ => ⟨_, ov_of hX⟩, ?_⟩
        clear hK K
        try simp only [gelS]
        simp only [putS]
        refine anyX_next 2 rfl (by kernel_rfl) rfl (fun K hK => ?_)
        try simp only [gelS]
        go_simp
        go_at_call 53
        refine (P_TileO2 _ la p.1 p.2 _ (HA.out.below B) HNA.out).mono ?_
        rintro e wn ⟨rfl, hbn⟩
        have hsz := B.size
        have hzn := hbn.size
        have hsx := hX.size
        replace B := B.trans (hbn.mono B.size)
        replace hX := hX.trans (hbn.mono hX.size)
        try replace b3 := b3.below hbn
        try replace b4 := b4.below hbn
        try replace r6 := r6.below hbn
        try replace r10 := r10.below hbn
        try replace rcp := rcp.below hbn
        try replace od := od.below hbn
        try replace p12 := p12.below hbn
        try replace t13 := t13.below hbn
        try replace t14 := t14.below hbn
        refine hK _ _ ⟨fun _ => ⟨_, ov_of hX⟩, ?_⟩
        clear hK K
        try simp only [gelS]
        simp only [putS]
        refine anyX_next 5 rfl (by kernel_rfl) rfl (fun K hK => ?_)
        try simp only [gelS]
        go_simp
        go_at_call 53
        refine (P_TileO2 _ lb p.1 p.2 _ (HB.out.below B) HNB.out).mono ?_
        rintro e wn ⟨rfl, hbn⟩
        have hsz := B.size
        have hzn := hbn.size
        have hsx := hX.size
        replace B := B.trans (hbn.mono B.size)
        replace hX := hX.trans (hbn.mono hX.size)
        try replace b3 := b3.below hbn
        try replace b4 := b4.below hbn
        try replace r6 := r6.below hbn
        try replace r10 := r10.below hbn
        try replace rcp := rcp.below hbn
        try replace od := od.below hbn
        try replace p12 := p12.below hbn
        try replace t13 := t13.below hbn
        try replace t14 := t14.below hbn
        refine hK _ _ ⟨fun _ => ⟨_, ov_of hX⟩, ?_⟩
        clear hK K
        try simp only [gelS]
        simp only [putS]
        refine anyX_seq (by kernel_rfl) (by kernel_rfl) ?_
        simp only [List.drop_succ_cons, List.drop_zero]
        replace t13 : TileAt _ b_t13 (fun _ => Px.zero) := t13
        replace t14 : TileAt _ b_t14 (fun _ => Px.zero) := t14
        go_wp2_with (first | (refine wpList_storeT rfl _ _ rfl _ rfl _ rfl t13 ?_; clear t13; intro wn ht hcn hzn; (try replace od := od.chgN hcn (fun kk hkk => Nat.ne_of_lt (Nat.lt_of_lt_of_le (HOB.out kk hkk) (by omega)))); have hsz := B.size; replace hzn := Nat.le_of_eq hzn.symm; replace B := Chg.below B hcn (by omega) B.size; (try replace b3 := b3.of_eq (hcn.block _ b3.lt (by omega))); (try replace b4 := b4.of_eq (hcn.block _ b4.lt (by omega))); (try replace r6 := r6.of_eq (hcn.block _ r6.lt (by omega))); (try replace r10 := r10.of_eq (hcn.block _ r10.lt (by omega))); (try replace rcp := rcp.of_eq (hcn.block _ rcp.lt (by omega))); (try replace od := od.of_eq (hcn.block _ od.lt (by omega))); (try replace p12 := p12.of_eq (hcn.block _ p12.lt (by omega))); (try replace t14 := t14.of_eq (hcn.block _ t14.lt (by omega))); have t13 := ht; clear ht; simp only [putS]) | (refine wpList_storeT rfl _ _ rfl _ rfl _ rfl t14 ?_; clear t14; intro wn ht hcn hzn; (try replace od := od.chgN hcn (fun kk hkk => Nat.ne_of_lt (Nat.lt_of_lt_of_le (HOB.out kk hkk) (by omega)))); have hsz := B.size; replace hzn := Nat.le_of_eq hzn.symm; replace B := Chg.below B hcn (by omega) B.size; (try replace b3 := b3.of_eq (hcn.block _ b3.lt (by omega))); (try replace b4 := b4.of_eq (hcn.block _ b4.lt (by omega))); (try replace r6 := r6.of_eq (hcn.block _ r6.lt (by omega))); (try replace r10 := r10.of_eq (hcn.block _ r10.lt (by omega))); (try replace rcp := rcp.of_eq (hcn.block _ rcp.lt (by omega))); (try replace od := od.of_eq (hcn.block _ od.lt (by omega))); (try replace p12 := p12.of_eq (hcn.block _ p12.lt (by omega))); (try replace t13 := t13.of_eq (hcn.block _ t13.lt (by omega))); have t14 := ht; clear ht; simp only [putS]) | fail)
        refine NoPan.normal ?_
        go_wp2_with fail
        go_meet
        exact ⟨b_t13, b_t14, rfl, rfl, by omega, by omega, t13, t14, p12, B, by omega, b3, b4, r6, r10, rcp, od⟩
      ·skip
       try simp only [gelS]
       refine owp_allocBk (t := 70) (tileC (fun _ => Px.zero)) (run_alloc_tile _ _ rfl) ?_
       intro b_t14 wn hle hge ht hbn hzn
       have hsz := B.size
       have hsx := hX.size
       replace B := B.trans (hbn.mono (by omega))
       replace hX := hX.trans (hbn.mono (by omega))
       try first | (have hlt := b3.lt; replace b3 := b3.of_eq (hbn.block _ (by omega))) | replace b3 := b3.below (hbn.mono hle)
       try first | (have hlt := b4.lt; replace b4 := b4.of_eq (hbn.block _ (by omega))) | replace b4 := b4.below (hbn.mono hle)
       try first | (have hlt := r6.lt; replace r6 := r6.of_eq (hbn.block _ (by omega))) | replace r6 := r6.below (hbn.mono hle)
       try first | (have hlt := r10.lt; replace r10 := r10.of_eq (hbn.block _ (by omega))) | replace r10 := r10.below (hbn.mono hle)
       try first | (have hlt := rcp.lt; replace rcp := rcp.of_eq (hbn.block _ (by omega))) | replace rcp := rcp.below (hbn.mono hle)
       try first | (have hlt := od.lt; replace od := od.of_eq (hbn.block _ (by omega))) | replace od := od.below (hbn.mono hle)
       try first | (have hlt := p12.lt; replace p12 := p12.of_eq (hbn.block _ (by omega))) | replace p12 := p12.below (hbn.mono hle)
       try first | (have hlt := t13.lt; replace t13 := t13.of_eq (hbn.block _ (by omega))) | replace t13 := t13.below (hbn.mono hle)
       try first | (have hlt := t14.lt; replace t14 := t14.of_eq (hbn.block _ (by omega))) | replace t14 := t14.below (hbn.mono hle)
       have t14 := ht
       clear ht
       refine hK _ _ ⟨fun _ => ⟨_, ov_of hX⟩, ?_⟩
       clear hK K
       try simp only [gelS]
       simp only [putS]
       refine anyX_two 2 6 rfl rfl (by kernel_rfl) rfl rfl (fun K hK => ?_) (fun K hK => ?_)
       ·skip
        try simp only [gelS]
        go_simp
        go_at_call 53
        refine (P_TileO2 _ la p.1 p.2 _ (HA.out.below B) HNA.out).mono ?_
        rintro e wn ⟨rfl, hbn⟩
        have hsz := B.size
        have hzn := hbn.size
        have hsx := hX.size
        replace B := B.trans (hbn.mono B.size)
        replace hX := hX.trans (hbn.mono hX.size)
        try replace b3 := b3.below hbn
        try replace b4 := b4.below hbn
        try replace r6 := r6.below hbn
        try replace r10 := r10.below hbn
        try replace rcp := rcp.below hbn
        try replace od := od.below hbn
        try replace p12 := p12.below hbn
        try replace t13 := t13.below hbn
        try replace t14 := t14.below hbn
        refine hK _ _ ⟨fun _ => ⟨_, ov_of hX⟩, ?_⟩
        clear hK K
        try simp only [gelS]
        simp only [putS]
        refine anyX_two 5 6 rfl rfl (by kernel_rfl) rfl rfl (fun K hK => ?_) (fun K hK => ?_)
        ·skip
         try simp only [gelS]
         go_simp
         go_at_call 53
         refine (P_TileO2 _ lb p.1 p.2 _ (HB.out.below B) HNB.out).mono ?_
         rintro e wn ⟨rfl, hbn⟩
         have hsz := B.size
         have hzn := hbn.size
         have hsx := hX.size
         replace B := B.trans (hbn.mono B.size)
         replace hX := hX.trans (hbn.mono hX.size)
         try replace b3 := b3.below hbn
         try replace b4 := b4.below hbn
         try replace r6 := r6.below hbn
         try replace r10 := r10.below hbn
         try replace rcp := rcp.below hbn
         try replace od := od.below hbn
         try replace p12 := p12.below hbn
         try replace t13 := t13.below hbn
         try replace t14 := t14.below hbn
         refine hK _ _ ⟨fun _ => ⟨_, ov_of hX⟩, ?_⟩
         clear hK K
         try simp only [gelS]
         simp only [putS]
         refine anyX_next 6 rfl (by kernel_rfl) rfl (fun K hK => ?_)
         try simp only [gelS]
         refine owp_allocBk (t := 70) (tileC (fun _ => Px.zero)) (run_alloc_tile _ _ rfl) ?_
         intro b_t13 wn hle hge ht hbn hzn
         have hsz := B.size
         have hsx := hX.size
         replace B := B.trans (hbn.mono (by omega))
         replace hX := hX.trans (hbn.mono (by omega))
         try first | (have hlt := b3.lt; replace b3 := b3.of_eq (hbn.block _ (by omega))) | replace b3 := b3.below (hbn.mono hle)
         try first | (have hlt := b4.lt; replace b4 := b4.of_eq (hbn.block _ (by omega))) | replace b4 := b4.below (hbn.mono hle)
         try first | (have hlt := r6.lt; replace r6 := r6.of_eq (hbn.block _ (by omega))) | replace r6 := r6.below (hbn.mono hle)
         try first | (have hlt := r10.lt; replace r10 := r10.of_eq (hbn.block _ (by omega))) | replace r10 := r10.below (hbn.mono hle)
         try first | (have hlt := rcp.lt; replace rcp := rcp.of_eq (hbn.block _ (by omega))) | replace rcp := rcp.below (hbn.mono hle)
         try first | (have hlt := od.lt; replace od := od.of_eq (hbn.block _ (by omega))) | replace od := od.below (hbn.mono hle)
         try first | (have hlt := p12.lt; replace p12 := p12.of_eq (hbn.block _ (by omega))) | replace p12 := p12.below (hbn.mono hle)
         try first | (have hlt := t13.lt; replace t13 := t13.of_eq (hbn.block _ (by omega))) | replace t13 := t13.below (hbn.mono hle)
         try first | (have hlt := t14.lt; replace t14 := t14.of_eq (hbn.block _ (by omega))) | replace t14 := t14.below (hbn.mono hle)
         have t13 := ht
         clear ht
         refine hK _ _ ⟨fun _ => ⟨_, ov_of hX⟩, ?_⟩
         clear hK K
         try simp only [gelS]
         simp only [putS]
         refine anyX_seq (by kernel_rfl) (by kernel_rfl) ?_
         simp only [List.drop_succ_cons, List.drop_zero]
         replace t13 : TileAt _ b_t13 (fun _ => Px.zero) := t13
         replace t14 : TileAt _ b_t14 (fun _ => Px.zero) := t14
         go_wp2_with (first | (refine wpList_storeT rfl _ _ rfl _ rfl _ rfl t13 ?_; clear t13; intro wn ht hcn hzn; (try replace od := od.chgN hcn (fun kk hkk => Nat.ne_of_lt (Nat.lt_of_lt_of_le (HOB.out kk hkk) (by omega)))); have hsz := B.size; replace hzn := Nat.le_of_eq hzn.symm; replace B := Chg.below B hcn (by omega) B.size; (try replace b3 := b3.of_eq (hcn.block _ b3.lt (by omega))); (try replace b4 := b4.of_eq (hcn.block _ b4.lt (by omega))); (try replace r6 := r6.of_eq (hcn.block _ r6.lt (by omega))); (try replace r10 := r10.of_eq (hcn.block _ r10.lt (by omega))); (try replace rcp := rcp.of_eq (hcn.block _ rcp.lt (by omega))); (try replace od := od.of_eq (hcn.block _ od.lt (by omega))); (try replace p12 := p12.of_eq (hcn.block _ p12.lt (by omega))); (try replace t14 := t14.of_eq (hcn.block _ t14.lt (by omega))); have t13 := ht; clear ht; simp only [putS]) | (refine wpList_storeT rfl _ _ rfl _ rfl _ rfl t14 ?_; clear t14; intro wn ht hcn hzn; (try replace od := od.chgN hcn (fun kk hkk => Nat.ne_of_lt (Nat.lt_of_lt_of_le (HOB.out kk hkk) (by omega)))); have hsz := B.size; replace hzn := Nat.le_of_eq hzn.symm; replace B := Chg.below B hcn (by omega) B.size; (try replace b3 := b3.of_eq (hcn.block _ b3.lt (by omega))); (try replace b4 := b4.of_eq (hcn.block _ b4.lt (by omega))); (try replace r6 := r6.of_eq (hcn.block _ r6.lt (by omega))); (try replace r10 := r10.of_eq (hcn.block _ r10.lt (by omega))); (try replace rcp := rcp.of_eq (hcn.block _ rcp.lt (by omega))); (try replace od := od.of_eq (hcn.block _ od.lt (by omega))); (try replace p12 := p12.of_eq (hcn.block _ p12.lt (by omega))); (try replace t13 := t13.of_eq (hcn.block _ t13.lt (by omega))); have t14 := ht; clear ht; simp only [putS]) | fail)
         refine NoPan.normal ?_
         go_wp2_with fail
         go_meet
         exact ⟨b_t13, b_t14, rfl, rfl, by omega, by omega, t13, t14, p12, B, by omega, b3, b4, r6, r10, rcp, od⟩
        ·skip
         try simp only [gelS]
         refine owp_allocBk (t := 70) (tileC (fun _ => Px.zero)) (run_alloc_tile _ _ rfl) ?_
         intro b_t13 wn hle hge ht hbn hzn
         have hsz := B.size
         have hsx := hX.size
         replace B := B.trans (hbn.mono (by omega))
         replace hX := hX.trans (hbn.mono (by omega))
         try first | (have hlt := b3.lt; replace b3 := b3.of_eq (hbn.block _ (by omega))) | replace b3 := b3.below (hbn.mono hle)
         try first | (have hlt := b4.lt; replace b4 := b4.of_eq (hbn.block _ (by omega))) | replace b4 := b4.below (hbn.mono hle)
         try first | (have hlt := r6.lt; replace r6 := r6.of_eq (hbn.block _ (by omega))) | replace r6 := r6.below (hbn.mono hle)
         try first | (have hlt := r10.lt; replace r10 := r10.of_eq (hbn.block _ (by omega))) | replace r10 := r10.below (hbn.mono hle)
         try first | (have hlt := rcp.lt; replace rcp := rcp.of_eq (hbn.block _ (by omega))) | replace rcp := rcp.below (hbn.mono hle)
         try first | (have hlt := od.lt; replace od := od.of_eq (hbn.block _ (by omega))) | replace od := od.below (hbn.mono hle)
         try first | (have hlt := p12.lt; replace p12 := p12.of_eq (hbn.block _ (by omega))) | replace p12 := p12.below (hbn.mono hle)
         try first | (have hlt := t13.lt; replace t13 := t13.of_eq (hbn.block _ (by omega))) | replace t13 := t13.below (hbn.mono hle)
         try first | (have hlt := t14.lt; replace t14 := t14.of_eq (hbn.block _ (by omega))) | replace t14 := t14.below (hbn.mono hle)
         have t13 := ht
         clear ht
         refine hK _ _ ⟨fun _ => ⟨_, ov_of hX⟩, ?_⟩
         clear hK K
         try simp only [gelS]
         simp only [putS]
         refine anyX_next 5 rfl (by kernel_rfl) rfl (fun K hK => ?_)
         try simp only [gelS]
         go_simp
         go_at_call 53
         refine (P_TileO2 _ lb p.1 p.2 _ (HB.out.below B) HNB.out).mono ?_
         rintro e wn ⟨rfl, hbn⟩
         have hsz := B.size
         have hzn := hbn.size
         have hsx := hX.size
         replace B := B.trans (hbn.mono B.size)
         replace hX := hX.trans (hbn.mono hX.size)
         try replace b3 := b3.below hbn
         try replace b4 := b4.below hbn
         try replace r6 := r6.below hbn
         try replace r10 := r10.below hbn
         try replace rcp := rcp.below hbn
         try replace od := od.below hbn
         try replace p12 := p12.below hbn
         try replace t13 := t13.below hbn
         try replace t14 := t14.below hbn
         refine hK _ _ ⟨fun _ => ⟨_, ov_of hX⟩, ?_⟩
         clear hK K
         try simp only [gelS]
         simp only [putS]
         refine anyX_seq (by kernel_rfl) (by kernel_rfl) ?_
         simp only [List.drop_succ_cons, List.drop_zero]
         replace t13 : TileAt _ b_t13 (fun _ => Px.zero) := t13
         replace t14 : TileAt _ b_t14 (fun _ => Px.zero) := t14
         go_wp2_with (first | (refine wpList_storeT rfl _ _ rfl _ rfl _ rfl t13 ?_; clear t13; intro wn ht hcn hzn; (try replace od := od.chgN hcn (fun kk hkk => Nat.ne_of_lt (Nat.lt_of_lt_of_le (HOB.out kk hkk) (by omega)))); have hsz := B.size; replace hzn := Nat.le_of_eq hzn.symm; replace B := Chg.below B hcn (by omega) B.size; (try replace b3 := b3.of_eq (hcn.block _ b3.lt (by omega))); (try replace b4 := b4.of_eq (hcn.block _ b4.lt (by omega))); (try replace r6 := r6.of_eq (hcn.block _ r6.lt (by omega))); (try replace r10 := r10.of_eq (hcn.block _ r10.lt (by omega))); (try replace rcp := rcp.of_eq (hcn.block _ rcp.lt (by omega))); (try replace od := od.of_eq (hcn.block _ od.lt (by omega))); (try replace p12 := p12.of_eq (hcn.block _ p12.lt (by omega))); (try replace t14 := t14.of_eq (hcn.block _ t14.lt (by omega))); have t13 := ht; clear ht; simp only [putS]) | (refine wpList_storeT rfl _ _ rfl _ rfl _ rfl t14 ?_; clear t14; intro wn ht hcn hzn; (try replace od := od.chgN hcn (fun kk hkk => Nat.ne_of_lt (Nat.lt_of_lt_of_le (HOB.out kk hkk) (by omega)))); have hsz := B.size; replace hzn := Nat.le_of_eq hzn.symm; replace B := Chg.below B hcn (by omega) B.size; (try replace b3 := b3.of_eq (hcn.block _ b3.lt (by omega))); (try replace b4 := b4.of_eq (hcn.block _ b4.lt (by omega))); (try replace r6 := r6.of_eq (hcn.block _ r6.lt (by omega))); (try replace r10 := r10.of_eq (hcn.block _ r10.lt (by omega))); (try replace rcp := rcp.of_eq (hcn.block _ rcp.lt (by omega))); (try replace od := od.of_eq (hcn.block _ od.lt (by omega))); (try replace p12 := p12.of_eq (hcn.block _ p12.lt (by omega))); (try replace t13 := t13.of_eq (hcn.block _ t13.lt (by omega))); have t14 := ht; clear ht; simp only [putS]) | fail)
         refine NoPan.normal ?_
         go_wp2_with fail
         go_meet
         exact ⟨b_t13, b_t14, rfl, rfl, by omega, by omega, t13, t14, p12, B, by omega, b3, b4, r6, r10, rcp, od⟩
       ·skip
        try simp only [gelS]
        refine owp_allocBk (t := 70) (tileC (fun _ => Px.zero)) (run_alloc_tile _ _ rfl) ?_
        intro b_t13 wn hle hge ht hbn hzn
        have hsz := B.size
        have hsx := hX.size
        replace B := B.trans (hbn.mono (by omega))
        replace hX := hX.trans (hbn.mono (by omega))
        try first | (have hlt := b3.lt; replace b3 := b3.of_eq (hbn.block _ (by omega))) | replace b3 := b3.below (hbn.mono hle)
        try first | (have hlt := b4.lt; replace b4 := b4.of_eq (hbn.block _ (by omega))) | replace b4 := b4.below (hbn.mono hle)
        try first | (have hlt := r6.lt; replace r6 := r6.of_eq (hbn.block _ (by omega))) | replace r6 := r6.below (hbn.mono hle)
        try first | (have hlt := r10.lt; replace r10 := r10.of_eq (hbn.block _ (by omega))) | replace r10 := r10.below (hbn.mono hle)
        try first | (have hlt := rcp.lt; replace rcp := rcp.of_eq (hbn.block _ (by omega))) | replace rcp := rcp.below (hbn.mono hle)
        try first | (have hlt := od.lt; replace od := od.of_eq (hbn.block _ (by omega))) | replace od := od.below (hbn.mono hle)
        try first | (have hlt := p12.lt; replace p12 := p12.of_eq (hbn.block _ (by omega))) | replace p12 := p12.below (hbn.mono hle)
        try first | (have hlt := t13.lt; replace t13 := t13.of_eq (hbn.block _ (by omega))) | replace t13 := t13.below (hbn.mono hle)
        try first | (have hlt := t14.lt; replace t14 := t14.of_eq (hbn.block _ (by omega))) | replace t14 := t14.below (hbn.mono hle)
        have t13 := ht
        clear ht
        refine hK _ _ ⟨fun _ => ⟨_, ov_of hX⟩, ?_⟩
        clear hK K
        try simp only [gelS]
        simp only [putS]
        refine anyX_next 2 rfl (by kernel_rfl) rfl (fun K hK => ?_)
        try simp only [gelS]
        go_simp
        go_at_call 53
        refine (P_TileO2 _ la p.1 p.2 _ (HA.out.below B) HNA.out).mono ?_
        rintro e wn ⟨rfl, hbn⟩
        have hsz := B.size
        have hzn := hbn.size
        have hsx := hX.size
        replace B := B.trans (hbn.mono B.size)
        replace hX := hX.trans (hbn.mono hX.size)
        try replace b3 := b3.below hbn
        try replace b4 := b4.below hbn
        try replace r6 := r6.below hbn
        try replace r10 := r10.below hbn
        try replace rcp := rcp.below hbn
        try replace od := od.below hbn
        try replace p12 := p12.below hbn
        try replace t13 := t13.below hbn
        try replace t14 := t14.below hbn
        refine hK _ _ ⟨fun _ => ⟨_, ov_of hX⟩, ?_⟩
        clear hK K
        try simp only [gelS]
        simp only [putS]
        refine anyX_next 5 rfl (by kernel_rfl) rfl (fun K hK => ?_)
        try simp only [gelS]
        go_simp
        go_at_call 53
        refine (P_TileO2 _ lb p.1 p.2 _ (HB.out.below B) HNB.out).mono ?_
        rintro e wn ⟨rfl, hbn⟩
        have hsz := B.size
        have hzn := hbn.size
        have hsx := hX.size
        replace B := B.trans (hbn.mono B.size)
        replace hX := hX.trans (hbn.mono hX.size)
        try replace b3 := b3.below hbn
        try replace b4 := b4.below hbn
        try replace r6 := r6.below hbn
        try replace r10 := r10.below hbn
        try replace rcp := rcp.below hbn
        try replace od := od.below hbn
        try replace p12 := p12.below hbn
        try replace t13 := t13.below hbn
        try replace t14 := t14.below hbn
        refine hK _ _ ⟨fun _ => ⟨_, ov_of hX⟩, ?_⟩
        clear hK K
        try simp only [gelS]
        simp only [putS]
        refine anyX_seq (by kernel_rfl) (by kernel_rfl) ?_
        simp only [List.drop_succ_cons, List.drop_zero]
        replace t13 : TileAt _ b_t13 (fun _ => Px.zero) := t13
        replace t14 : TileAt _ b_t14 (fun _ => Px.zero) := t14
        go_wp2_with (first | (refine wpList_storeT rfl _ _ rfl _ rfl _ rfl t13 ?_; clear t13; intro wn ht hcn hzn; (try replace od := od.chgN hcn (fun kk hkk => Nat.ne_of_lt (Nat.lt_of_lt_of_le (HOB.out kk hkk) (by omega)))); have hsz := B.size; replace hzn := Nat.le_of_eq hzn.symm; replace B := Chg.below B hcn (by omega) B.size; (try replace b3 := b3.of_eq (hcn.block _ b3.lt (by omega))); (try replace b4 := b4.of_eq (hcn.block _ b4.lt (by omega))); (try replace r6 := r6.of_eq (hcn.block _ r6.lt (by omega))); (try replace r10 := r10.of_eq (hcn.block _ r10.lt (by omega))); (try replace rcp := rcp.of_eq (hcn.block _ rcp.lt (by omega))); (try replace od := od.of_eq (hcn.block _ od.lt (by omega))); (try replace p12 := p12.of_eq (hcn.block _ p12.lt (by omega))); (try replace t14 := t14.of_eq (hcn.block _ t14.lt (by omega))); have t13 := ht; clear ht; simp only [putS]) | (refine wpList_storeT rfl _ _ rfl _ rfl _ rfl t14 ?_; clear t14; intro wn ht hcn hzn; (try replace od := od.chgN hcn (fun kk hkk => Nat.ne_of_lt (Nat.lt_of_lt_of_le (HOB.out kk hkk) (by omega)))); have hsz := B.size; replace hzn := Nat.le_of_eq hzn.symm; replace B := Chg.below B hcn (by omega) B.size; (try replace b3 := b3.of_eq (hcn.block _ b3.lt (by omega))); (try replace b4 := b4.of_eq (hcn.block _ b4.lt (by omega))); (try replace r6 := r6.of_eq (hcn.block _ r6.lt (by omega))); (try replace r10 := r10.of_eq (hcn.block _ r10.lt (by omega))); (try replace rcp := rcp.of_eq (hcn.block _ rcp.lt (by omega))); (try replace od := od.of_eq (hcn.block _ od.lt (by omega))); (try replace p12 := p12.of_eq (hcn.block _ p12.lt (by omega))); (try replace t13 := t13.of_eq (hcn.block _ t13.lt (by omega))); have t14 := ht; clear ht; simp only [putS]) | fail)
        refine NoPan.normal ?_
        go_wp2_with fail
        go_meet
        exact ⟨b_t13, b_t14, rfl, rfl, by omega, by omega, t13, t14, p12, B, by omega, b3, b4, r6, r10, rcp, od⟩
     case rest =>
      clear B  hwb1  b3  b4  r6  r10  rcp  od p12 b3B b4B p12B
      obtain ⟨b_t13, b_t14, rfl, rfl, k12, k13, t13, t14, p12, B, hwb1, b3, b4, r6, r10, rcp, od⟩ := hcut
      go_upto_region 14 with fail
      refine wp_region_lit ?_
      try simp only [gelS]
      (refine wpList_allocT' rfl rfl ?_; intro b_u15 wn hle hge ht hbn hzn; have hsz := B.size; replace B := B.trans (hbn.mono (by omega)); have hln := Nat.lt_of_lt_of_eq (Nat.lt_succ_self _) hzn.symm; clear hzn; (try have hlt := b3.lt); (try replace b3 := b3.below (hbn.mono hle)); (try have hlt := b4.lt); (try replace b4 := b4.below (hbn.mono hle)); (try have hlt := r6.lt); (try replace r6 := r6.below (hbn.mono hle)); (try have hlt := r10.lt); (try replace r10 := r10.below (hbn.mono hle)); (try have hlt := rcp.lt); (try replace rcp := rcp.below (hbn.mono hle)); (try have hlt := od.lt); (try replace od := od.below (hbn.mono hle)); (try have hlt := p12.lt); (try replace p12 := p12.below (hbn.mono hle)); (try have hlt := t13.lt); (try replace t13 := t13.below (hbn.mono hle)); (try have hlt := t14.lt); (try replace t14 := t14.below (hbn.mono hle)); have u15 := ht; clear ht; simp only [putS])
      refine wpList_nil ?_
      have k14 : b_t13 < b_u15 := by have := t13.lt; omega
      have k15 : b_t14 < b_u15 := by have := t14.lt; omega
      have k16 : b_p12 < b_u15 := by omega
      rw [← uK_zero op la lb p] at u15
      go_upto_region 15 with fail
      refine wp_region_lit ?_
      try simp only [gelS]
      refine wpList_chunk 1 (by kernel_rfl) ?_
      simp only [takS, Nat.reduceAdd]
      repeat (first | go_big_quiet_skip | (go_big_quiet_want; go_big_quiet_op; go_big_quiet_on))
      refine wpQuiet_nil ?_
      refine wpList_nil ?_
      go_wp2
      go_loopw [16, 53] (fun _ jv wr => ∃ j : Nat, j ≤ 64 ∧ jv = .int .i64 j ∧ Below w.heap.size w wr ∧ b1 ≤ wr.heap.size ∧ AtB 34 wr b_b3 #[.slice aa la.length ca] ∧ AtB 34 wr b_b4 #[.slice ab lb.length cb] ∧ AtB 34 wr b_r6 #[.slice none 0 0] ∧ AtB 34 wr b_r10 #[.slice ao M.length co] ∧ RCellsE psE g 0 PS wr ∧ OwnT b1 (.slice ao M.length co) M wr ∧ AtB 68 wr b_p12 #[.int .i64 p.1, .int .i64 p.2] ∧ TileAt wr b_t13 (tileL la p.1 p.2) ∧ TileAt wr b_t14 (tileL lb p.1 p.2) ∧ TileAt wr b_u15 (uK op la lb p j)) (fun _ jv _ => (64 - intOf jv).toNat)
      case atStart => exact ⟨0, by omega, rfl, B, by omega, b3, b4, r6, r10, rcp, od, p12, t13, t14, u15⟩
      case round =>
       clear B  hwb1  b3  b4  r6  r10  rcp  od p12 t13 t14 u15
       obtain ⟨j, hj, rfl, B, hwb1, b3, b4, r6, r10, rcp, od, p12, t13, t14, u15⟩ := hrel
       by_cases hjl : j < 64
       ·have f1 : decide ((j : Int) < 64) = true := decide_eq_true (by omega)
        have f2 : decide (j < 64) = true := decide_eq_true hjl
        obtain ⟨_, _, _, x1, x2⟩ := tileL_tok HTA.out p.1 p.2 j hjl
        obtain ⟨_, _, _, y1, y2⟩ := tileL_tok HTB.out p.1 p.2 j hjl
        obtain ⟨x, hx⟩ : ∃ x, (tileL la p.1 p.2 j).a = x := ⟨_, rfl⟩
        obtain ⟨y, hy⟩ : ∃ y, (tileL lb p.1 p.2 j).a = y := ⟨_, rfl⟩
        rw [hx] at x1 x2
        rw [hy] at y1 y2
        obtain ⟨r, hr⟩ : ∃ r, op x y = r := ⟨_, rfl⟩
        obtain ⟨r1, r2⟩ := HOKZ.out.ok x y x1 x2 y1 y2
        rw [hr] at r1 r2
        have HFR := Lib.hid (show ∀ W : World, Calls Tryz.prog gf #[.int .i64 x, .int .i64 y] W fun e W' => e = .returned (.int .i64 r) ∧ Below W.heap.size W W' from fun W => by rw [← hr]; exact HF.out x y W ⟨x1, x2⟩ ⟨y1, y2⟩)
        have HU := Lib.hid (uK_step op la lb p hjl (show op (tileL la p.1 p.2 j).a (tileL lb p.1 p.2 j).a = r from by rw [hx, hy]; exact hr))
        clear hr
        go_upto_region 16 with fail
        refine wp_region_lit ?_
        try simp only [gelS]
        refine wpList_chunk 1 (by kernel_rfl) ?_
        simp only [takS, Nat.reduceAdd]
        repeat (first | go_big_quiet_skip | (go_big_quiet_want; go_big_quiet_op; go_big_quiet_on))
        refine wpQuiet_nil ?_
        refine wpList_nil ?_
        go_upto_region 17 with fail
        refine wp_region_lit ?_
        try simp only [gelS]
        refine wpList_chunk 2 (by kernel_rfl) ?_
        simp only [takS, Nat.reduceAdd]
        repeat (first | go_big_quiet_skip | (go_big_quiet_want; go_big_quiet_op; go_big_quiet_on))
        refine wpQuiet_nil ?_
        refine wpList_nil ?_
        go_upto_region 18 with fail
        try simp only [gelS]
        try have lx_b3 := b3.lt
        try have lx_b4 := b4.lt
        try have lx_r6 := r6.lt
        try have lx_r10 := r10.lt
        try have lx_rcp := rcp.lt
        try have lx_od := od.lt
        try have lx_p12 := p12.lt
        try have lx_t13 := t13.lt
        try have lx_t14 := t14.lt
        try have lx_u15 := u15.lt
        refine wp_region_RL 16 [(12, detS ?v2_12)] (by kernel_rfl) (by kernel_rfl) (by kernel_rfl) ?_
        rotate_left 1
        simp only [takS, Nat.reduceAdd]
        refine wpRL_chunk 12 (by kernel_rfl) ?_
        simp only [takS, Nat.reduceAdd]
        repeat (first | go_big_quiet_skip | (go_big_quiet_want; first | (refine quiet_loadAny (t := 5) rfl _ _ _ rfl (fun w hw => run_load_u8 (alphaE (ov_tile t13 w hw) hjl hx)) (by first | rfl | omega) ?_; simp only [putS]; go_big_quiet_on) | (refine quiet_loadAny (t := 5) rfl _ _ _ rfl (fun w hw => run_load_u8 (alphaE (ov_tile t14 w hw) hjl hy)) (by first | rfl | omega) ?_; simp only [putS]; go_big_quiet_on) | (go_big_quiet_op; go_big_quiet_on)))
        refine wpQuiet_nil ?_
        refine wpRL_callB (by rfl) (by first | rfl | simp [Region.wanted, yielded]) ?_ ?_
        ·intro wn hbn hE Kx hKx
         have hsz := B.size
         have hzn := hbn.size
         replace B := B.trans (hbn.mono B.size)
         (try replace b3 := b3.below hbn)
         (try replace b4 := b4.below hbn)
         (try replace r6 := r6.below hbn)
         (try replace r10 := r10.below hbn)
         (try replace rcp := rcp.below hbn)
         (try replace od := od.below hbn)
         (try replace p12 := p12.below hbn)
         (try replace t13 := t13.below hbn)
         (try replace t14 := t14.below hbn)
         (try replace u15 := u15.below hbn)
         refine wp_callV rfl (by simp only [Act.eval, evlS]; rfl) eg' (by simp only [Act.eval, evlS]; rfl) ?_
         refine (HFR.out wn).mono ?_
         rintro e wm ⟨rfl, hbm⟩
         refine ⟨_, rfl, ?_⟩
         have hz := hKx () wm trivial hbm
         dsimp only [detS] at hz
         exact hz
        rintro ⟨⟩
        dsimp only [detS]
        simp only [putS]
        refine wpRL_chunk 3 (by kernel_rfl) ?_
        simp only [takS, Nat.reduceAdd]
        repeat (first | go_big_quiet_skip | (go_big_quiet_want; go_big_quiet_op; go_big_quiet_on))
        refine wpQuiet_nil ?_
        refine wpRL_nil ?_
        intro wn hbn hE
        have hsz := B.size
        have hzn := hbn.size
        replace B := B.trans (hbn.mono B.size)
        (try replace b3 := b3.below hbn)
        (try replace b4 := b4.below hbn)
        (try replace r6 := r6.below hbn)
        (try replace r10 := r10.below hbn)
        (try replace rcp := rcp.below hbn)
        (try replace od := od.below hbn)
        (try replace p12 := p12.below hbn)
        (try replace t13 := t13.below hbn)
        (try replace t14 := t14.below hbn)
        (try replace u15 := u15.below hbn)
        clear hE
        try simp only [List.drop_succ_cons, List.drop_zero]
        go_wp2_with (first | (refine wpList_storeAl rfl _ _ rfl _ _ rfl _ rfl u15 j hjl (by first | rfl | omega) ?_; clear u15; intro wn ht hcn hzn; (try replace od := od.chgN hcn (fun kk hkk => Nat.ne_of_lt (Nat.lt_of_lt_of_le (HOB.out kk hkk) (by omega)))); have hsz := B.size; replace hzn := Nat.le_of_eq hzn.symm; replace B := Chg.below B hcn (by omega) B.size; (try replace b3 := b3.of_eq (hcn.block _ b3.lt (by omega))); (try replace b4 := b4.of_eq (hcn.block _ b4.lt (by omega))); (try replace r6 := r6.of_eq (hcn.block _ r6.lt (by omega))); (try replace r10 := r10.of_eq (hcn.block _ r10.lt (by omega))); (try replace rcp := rcp.of_eq (hcn.block _ rcp.lt (by omega))); (try replace od := od.of_eq (hcn.block _ od.lt (by omega))); (try replace p12 := p12.of_eq (hcn.block _ p12.lt (by omega))); (try replace t13 := t13.of_eq (hcn.block _ t13.lt (by omega))); (try replace t14 := t14.of_eq (hcn.block _ t14.lt (by omega))); have u15 := ht; clear ht; simp only [putS]) | fail)
        refine NoPan.normal ?_
        rw [HU.out] at u15
        go_upto_region 19 with fail
        refine wp_region_lit ?_
        try simp only [gelS]
        refine wpList_chunk 2 (by kernel_rfl) ?_
        simp only [takS, Nat.reduceAdd]
        repeat (first | go_big_quiet_skip | (go_big_quiet_want; go_big_quiet_op; go_big_quiet_on))
        refine wpQuiet_nil ?_
        refine wpList_nil ?_
        go_wp2
        go_roundw
        case rel => exact ⟨j + 1, by omega, by go_num, B, by omega, b3, b4, r6, r10, rcp, od, p12, t13, t14, u15⟩
        case measure => simp [intOf]; omega
       ·have hj64 : j = 64 := by omega
        subst hj64
        rw [uK_all] at u15
        clear hjl hj t13 t14
        go_upto_region 16 with fail
        refine wp_region_lit ?_
        try simp only [gelS]
        refine wpList_chunk 1 (by kernel_rfl) ?_
        simp only [takS, Nat.reduceAdd]
        repeat (first | go_big_quiet_skip | (go_big_quiet_want; go_big_quiet_op; go_big_quiet_on))
        refine wpQuiet_nil ?_
        refine wpList_nil ?_
        go_upto_region 20 with fail
        go_cut [81] from 73 to 80 (fun s wr => s = .bool (okB op la lb M p) ∧ AtB 68 wr b_p12 #[.int .i64 p.1, .int .i64 p.2] ∧ TileAt wr b_u15 (uT op la lb p) ∧ Below w.heap.size w wr ∧ b1 ≤ wr.heap.size ∧ AtB 34 wr b_b3 #[.slice aa la.length ca] ∧ AtB 34 wr b_b4 #[.slice ab lb.length cb] ∧ AtB 34 wr b_r6 #[.slice none 0 0] ∧ AtB 34 wr b_r10 #[.slice ao M.length co] ∧ RCellsE psE g 0 PS wr ∧ OwnT b1 (.slice ao M.length co) M wr)
        case first =>
         cases hz : zeroB (uT op la lb p) with
         | true =>
          have hneq : ∀ w, (binOp .neq 70 (Tile.v (uT op la lb p)) (Tile.v fun _ => Px.zero)).run Tryz.prog w = .ok (.bool false) w := fun w => neq_z hz w
          have HOK := Lib.hid (show okB op la lb M p = false from by unfold okB; rw [hz]; rfl)
          clear hz
          refine wp_region_lit ?_
          try simp only [gelS]
          refine wpList_chunk 1 (by kernel_rfl) ?_
          simp only [takS, Nat.reduceAdd]
          repeat (first | go_big_quiet_skip | (go_big_quiet_want; first | (refine quiet_loadT rfl _ rfl (ov_tile u15) ?_; simp only [putS]; go_big_quiet_on) | (go_big_quiet_op; go_big_quiet_on)))
          refine wpQuiet_nil ?_
          (refine wpList_buildT rfl rfl ?_; simp only [putS])
          refine wpList_chunk 4 (by kernel_rfl) ?_
          simp only [takS, Nat.reduceAdd]
          repeat (first | go_big_quiet_skip | (go_big_quiet_want; first | (refine quiet_loadAny (t := 32) rfl _ _ _ rfl (fun w hw => run_load_sl (ov_B r10 w hw).cell0) (by rfl) ?_; simp only [putS]; go_big_quiet_on) | (go_big_quiet_op; go_big_quiet_on)))
          refine wpQuiet_nil ?_
          refine wpList_skip ?hs21_6 ?_
          case hs21_6 => kernel_rfl
          simp only [putS]
          refine wpList_chunk 2 (by kernel_rfl) ?_
          simp only [takS, Nat.reduceAdd]
          repeat (first | go_big_quiet_skip | (go_big_quiet_want; go_big_quiet_op; go_big_quiet_on))
          refine wpQuiet_nil ?_
          refine wpList_nil ?_
          go_wp2
          go_meet
          exact ⟨by rw [HOK.out], p12, u15, B, by omega, b3, b4, r6, r10, rcp, od⟩
         | false =>
          have hneq : ∀ w, (binOp .neq 70 (Tile.v (uT op la lb p)) (Tile.v fun _ => Px.zero)).run Tryz.prog w = .ok (.bool true) w := fun w => neq_z hz w
          have HOK := Lib.hid (show okB op la lb M p = decide (M.length < 1024) from by unfold okB; rw [hz]; rfl)
          clear hz
          by_cases hml : M.length < 1024
          ·have d1 : decide ((M.length : Int) < 1024) = true := decide_eq_true (by omega)
           have d2 : decide (M.length < 1024) = true := decide_eq_true hml
           have D2 := Lib.hid d2
           refine wp_region_lit ?_
           try simp only [gelS]
           refine wpList_chunk 1 (by kernel_rfl) ?_
           simp only [takS, Nat.reduceAdd]
           repeat (first | go_big_quiet_skip | (go_big_quiet_want; first | (refine quiet_loadT rfl _ rfl (ov_tile u15) ?_; simp only [putS]; go_big_quiet_on) | (go_big_quiet_op; go_big_quiet_on)))
           refine wpQuiet_nil ?_
           (refine wpList_buildT rfl rfl ?_; simp only [putS])
           refine wpList_chunk 4 (by kernel_rfl) ?_
           simp only [takS, Nat.reduceAdd]
           repeat (first | go_big_quiet_skip | (go_big_quiet_want; first | (refine quiet_loadAny (t := 32) rfl _ _ _ rfl (fun w hw => run_load_sl (ov_B r10 w hw).cell0) (by rfl) ?_; simp only [putS]; go_big_quiet_on) | (go_big_quiet_op; go_big_quiet_on)))
           refine wpQuiet_nil ?_
           refine wpList_lenS (by first | rfl | simp [Region.wanted, yielded]) rfl Tryz.underlying32 rfl ?_
           simp only [putS]
           refine wpList_chunk 2 (by kernel_rfl) ?_
           simp only [takS, Nat.reduceAdd]
           repeat (first | go_big_quiet_skip | (go_big_quiet_want; go_big_quiet_op; go_big_quiet_on))
           refine wpQuiet_nil ?_
           refine wpList_nil ?_
           go_wp2
           go_meet
           exact ⟨by rw [HOK.out, D2.out], p12, u15, B, by omega, b3, b4, r6, r10, rcp, od⟩
          ·have d1 : decide ((M.length : Int) < 1024) = false := decide_eq_false (by omega)
           have d2 : decide (M.length < 1024) = false := decide_eq_false hml
           have D2 := Lib.hid d2
           clear hml
           refine wp_region_lit ?_
           try simp only [gelS]
           refine wpList_chunk 1 (by kernel_rfl) ?_
           simp only [takS, Nat.reduceAdd]
           repeat (first | go_big_quiet_skip | (go_big_quiet_want; first | (refine quiet_loadT rfl _ rfl (ov_tile u15) ?_; simp only [putS]; go_big_quiet_on) | (go_big_quiet_op; go_big_quiet_on)))
           refine wpQuiet_nil ?_
           (refine wpList_buildT rfl rfl ?_; simp only [putS])
           refine wpList_chunk 4 (by kernel_rfl) ?_
           simp only [takS, Nat.reduceAdd]
           repeat (first | go_big_quiet_skip | (go_big_quiet_want; first | (refine quiet_loadAny (t := 32) rfl _ _ _ rfl (fun w hw => run_load_sl (ov_B r10 w hw).cell0) (by rfl) ?_; simp only [putS]; go_big_quiet_on) | (go_big_quiet_op; go_big_quiet_on)))
           refine wpQuiet_nil ?_
           refine wpList_lenS (by first | rfl | simp [Region.wanted, yielded]) rfl Tryz.underlying32 rfl ?_
           simp only [putS]
           refine wpList_chunk 2 (by kernel_rfl) ?_
           simp only [takS, Nat.reduceAdd]
           repeat (first | go_big_quiet_skip | (go_big_quiet_want; go_big_quiet_op; go_big_quiet_on))
           refine wpQuiet_nil ?_
           refine wpList_nil ?_
           go_wp2
           go_meet
           exact ⟨by rw [HOK.out, D2.out], p12, u15, B, by omega, b3, b4, r6, r10, rcp, od⟩
        case rest =>
         clear B  hwb1  b3  b4  r6  r10  rcp  od p12 u15
         obtain ⟨hs, p12, u15, B, hwb1, b3, b4, r6, r10, rcp, od⟩ := hcut
         obtain ⟨zb, hzb⟩ : ∃ b, okB op la lb M p = b := ⟨_, rfl⟩
         rw [hzb] at hs
         subst hs
         have HZB := Lib.hid hzb
         clear hzb
         cases zb with
         | true =>
          have hml : M.length < 1024 := by
           have := HZB.out
           unfold okB at this
           rw [Bool.and_eq_true, decide_eq_true_iff] at this
           exact this.2
          have HE := Lib.hid (show combK op la lb (PS.take (k + 1)) = M ++ [⟨p.1, p.2, uT op la lb p⟩] from by rw [HCK.out, HZB.out, if_pos rfl])
          go_upto_region 21 with fail
          refine wp_region_lit ?_
          try simp only [gelS]
          refine wpList_chunk 4 (by kernel_rfl) ?_
          simp only [takS, Nat.reduceAdd]
          repeat (first | go_big_quiet_skip | (go_big_quiet_want; first | (refine quiet_loadAny (t := 32) rfl _ _ _ rfl (fun w hw => run_load_sl (ov_B r10 w hw).cell0) (by rfl) ?_; simp only [putS]; go_big_quiet_on) | (refine quiet_loadAny (t := 68) rfl _ _ _ rfl (fun w hw => run_load_B (ov_B p12 w hw) Tryz.isAgg68 (by kernel_rfl)) (by rfl) ?_; simp only [putS]; go_big_quiet_on) | (refine quiet_loadT rfl _ rfl (ov_tile u15) ?_; simp only [putS]; go_big_quiet_on) | (go_big_quiet_op; go_big_quiet_on)))
          refine wpQuiet_nil ?_
          (refine wpList_buildTA rfl _ _ rfl p.1 p.2 (uT op la lb p) (by rfl) (by rfl) ?_; simp only [putS])
          (refine wpList_bs1T rfl _ rfl ⟨p.1, p.2, uT op la lb p⟩ (by rfl) ?_; intro b_s1 wn hle hge ht hbn hzn; have hsz := B.size; replace B := B.trans (hbn.mono (by omega)); have hln := Nat.lt_of_lt_of_eq (Nat.lt_succ_self _) hzn.symm; clear hzn; (try have hlt := b3.lt); (try replace b3 := b3.below (hbn.mono hle)); (try have hlt := b4.lt); (try replace b4 := b4.below (hbn.mono hle)); (try have hlt := r6.lt); (try replace r6 := r6.below (hbn.mono hle)); (try have hlt := r10.lt); (try replace r10 := r10.below (hbn.mono hle)); (try have hlt := rcp.lt); (try replace rcp := rcp.below (hbn.mono hle)); (try have hlt := od.lt); (try replace od := od.below (hbn.mono hle)); (try have hlt := p12.lt); (try have hlt := u15.lt); have s1 := ht; clear ht; simp only [putS])
          (at_builtin; refine wpList_appendTG rfl _ _ rfl _ rfl _ rfl od s1 (by omega) (by omega) ?_; intro v_od wn ht hbn hbk; have hsz := B.size; have hzn := hbn.size; replace B := B.trans (hbn.mono (by omega)); clear s1; replace b3 := b3.of_eq (hbn.block _ (by omega)); replace b4 := b4.of_eq (hbn.block _ (by omega)); replace r6 := r6.of_eq (hbn.block _ (by omega)); replace r10 := r10.of_eq (hbn.block _ (by omega)); replace rcp := rcp.of_eq (hbn.block _ (by omega)); clear od hbk; have od := ht; clear ht; obtain ⟨a_od, c_od, hv, hco⟩ := od.len; subst hv; simp only [putS])
          refine wpList_chunk 1 (by kernel_rfl) ?_
          simp only [takS, Nat.reduceAdd]
          repeat (first | go_big_quiet_skip | (go_big_quiet_want; go_big_quiet_op; go_big_quiet_on))
          refine wpQuiet_nil ?_
          (refine wpList_storeO rfl _ _ rfl _ rfl _ _ _ rfl r10 ?_; clear r10; intro wn ht hcn hzn; have hsz := B.size; replace hzn := Nat.le_of_eq hzn.symm; replace B := Chg.below B hcn (by omega) B.size; (try replace b3 := b3.of_eq (hcn.block _ b3.lt (by omega))); (try replace b4 := b4.of_eq (hcn.block _ b4.lt (by omega))); (try replace r6 := r6.of_eq (hcn.block _ r6.lt (by omega))); (try replace rcp := rcp.of_eq (hcn.block _ rcp.lt (by omega))); replace od := od.chg hcn (by omega); have r10 := ht; clear ht; simp only [putS])
          refine wpList_nil ?_
          go_upto_region 22 with fail
          refine wp_region_lit ?_
          try simp only [gelS]
          refine wpList_chunk 2 (by kernel_rfl) ?_
          simp only [takS, Nat.reduceAdd]
          repeat (first | go_big_quiet_skip | (go_big_quiet_want; go_big_quiet_op; go_big_quiet_on))
          refine wpQuiet_nil ?_
          refine wpList_nil ?_
          go_wp2
          go_roundw
          case rel => exact ⟨k + 1, _, a_od, c_od, by omega, by go_num, HE, B, by omega, b3, b4, r6, by simpa using r10, rcp, by simpa using od⟩
          case measure => simp [intOf]; omega
         | false =>
          have HE := Lib.hid (show combK op la lb (PS.take (k + 1)) = M from by rw [HCK.out, HZB.out, if_neg (by decide)])
          go_upto_region 22 with fail
          refine wp_region_lit ?_
          try simp only [gelS]
          refine wpList_chunk 2 (by kernel_rfl) ?_
          simp only [takS, Nat.reduceAdd]
          repeat (first | go_big_quiet_skip | (go_big_quiet_want; go_big_quiet_op; go_big_quiet_on))
          refine wpQuiet_nil ?_
          refine wpList_nil ?_
          go_wp2
          go_roundw
          case rel => exact ⟨k + 1, M, ao, co, by omega, by go_num, HE, B, by omega, b3, b4, r6, r10, rcp, od⟩
          case measure => simp [intOf]; omega
    ·have e1 : decide ((k : Int) < (PS.length : Int)) = false := decide_eq_false (by omega)
     have e2 : decide (k < PS.length) = false := decide_eq_false hkl
     have HE := Lib.hid (show combL op la lb = M from by
      unfold combL
      rw [← HPS.out, ← HM.out, show k = PS.length by omega, List.take_length])
     go_upto_region 11 with fail
     refine wp_region_lit ?_
     try simp only [gelS]
     refine wpList_chunk 1 (by kernel_rfl) ?_
     simp only [takS, Nat.reduceAdd]
     repeat (first | go_big_quiet_skip | (go_big_quiet_want; go_big_quiet_op; go_big_quiet_on))
     refine wpQuiet_nil ?_
     refine wpList_nil ?_
     go_upto_region 23 with fail
     refine wp_region_lit ?_
     try simp only [gelS]
     refine wpList_chunk 1 (by kernel_rfl) ?_
     simp only [takS, Nat.reduceAdd]
     repeat (first | go_big_quiet_skip | (go_big_quiet_want; first | (refine quiet_loadAny (t := 34) rfl _ _ _ rfl (fun w hw => run_load_B (ov_B r10 w hw) Tryz.isAgg34 (by kernel_rfl)) (by rfl) ?_; simp only [putS]; go_big_quiet_on) | (go_big_quiet_op; go_big_quiet_on)))
     refine wpQuiet_nil ?_
     (refine wpList_storeB (t := 34) rfl _ _ rfl _ rfl _ rfl r6 (by kernel_rfl) rfl (by simp [Value.oneCell']) ?_; clear r6; intro wn ht hcn hzn; (try replace od := od.chg hcn (by omega)); have hsz := B.size; replace hzn := Nat.le_of_eq hzn.symm; replace B := Chg.below B hcn (by omega) B.size; (try replace od := od.of_eq (hcn.block _ od.lt (by omega))); have r6 := ht; clear ht; simp only [putS])
     refine wpList_nil ?_
     first | (refine bodyPost_ret (results_B (t := 34) rfl _ _ (b_r6) rfl r6 Tryz.isAgg34 (by kernel_rfl)) rfl ?_) | (go_step; refine bodyPost_ret (results_B (t := 34) rfl _ _ (b_r6) rfl r6 Tryz.isAgg34 (by kernel_rfl)) rfl ?_) | (go_step; go_step; refine bodyPost_ret (results_B (t := 34) rfl _ _ (b_r6) rfl r6 Tryz.isAgg34 (by kernel_rfl)) rfl ?_) | (go_step; go_step; go_step; refine bodyPost_ret (results_B (t := 34) rfl _ _ (b_r6) rfl r6 Tryz.isAgg34 (by kernel_rfl)) rfl ?_) | (go_step; go_step; go_step; go_step; refine bodyPost_ret (results_B (t := 34) rfl _ _ (b_r6) rfl r6 Tryz.isAgg34 (by kernel_rfl)) rfl ?_) | (go_step; go_step; go_step; go_step; go_step; refine bodyPost_ret (results_B (t := 34) rfl _ _ (b_r6) rfl r6 Tryz.isAgg34 (by kernel_rfl)) rfl ?_)
     rw [HE.out]
     exact ⟨_, _, rfl, od.rs, B⟩
/- The end of an edge; the reference's in, edge. -/
section
variable {o : Oper} {a : Act} {C : World → Prop} {K : Act → Prop}
theorem quiet_indexA {t : TypeId} {x i : Operand} (h : o.op = .index t x i) (vs : Array Value) (hx : a.eval x = .agg vs) (j : Int) (hi : a.eval i = .int .i64 j) (u : Value) (hr : ∀ w, (Instr.index t (.agg vs) (.int .i64 j)).run Tryz.prog w = .ok u w) (hk : K (a.put o.dst u)) : o.quiet Tryz.prog a C K :=
 ⟨_, fun w hw => by unfold Oper.quietAt execOp; simp only [h, hx, hi, hr w, Sem.run_bind, Sem.run_pure, Result.andThen_ok]; exact ⟨rfl, rfl⟩, hk⟩
end
set_option maxHeartbeats 2000000 in
theorem P_on (x y d : Int) (w : World) (hx : -100000 ≤ x ∧ x ≤ 100000) (hy : -100000 ≤ y ∧ y ≤ 100000) (hd : 0 ≤ d ∧ d ≤ 3) : Calls Tryz.prog 99 #[.agg #[.int .i64 x, .int .i64 y, .int .i64 d]] w fun e w' => e = .returned (.tuple #[.int .i64 (x + dxE d), .int .i64 (y + dyE d)]) ∧ Below w.heap.size w w' := by
 have B := Below.refl w.heap.size w
 rcases dir4 hd with rfl | rfl | rfl | rfl
 ·go_enter Tryz.func99, Tryz.ntmps99
  go_upto_region 0 with fail
  refine wp_region_lit ?_
  try simp only [gelS]
  (refine wpList_boxB (t := 90) rfl _ rfl _ rfl ?_; intro b_r1 wn hle hge ht hbn hzn; have hsz := B.size; replace B := B.trans (hbn.mono (by omega)); have hln := Nat.lt_of_lt_of_eq (Nat.lt_succ_self _) hzn.symm; clear hzn; have r1 := ht; clear ht; simp only [putS])
  refine wpList_chunk 2 (by kernel_rfl) ?_
  simp only [takS, Nat.reduceAdd]
  repeat (first | go_big_quiet_skip | (go_big_quiet_want; go_big_quiet_op; go_big_quiet_on))
  refine wpQuiet_nil ?_
  refine wpList_nil ?_
  go_upto_region 1 with fail
  try simp only [gelS]
  try have lx_r1 := r1.lt
  refine wp_region_RL 16 [] (by kernel_rfl) (by kernel_rfl) (by kernel_rfl) ?_
  rotate_left 0
  simp only [takS, Nat.reduceAdd]
  refine wpRL_chunk 16 (by kernel_rfl) ?_
  simp only [takS, Nat.reduceAdd]
  repeat (first | go_big_quiet_skip | (go_big_quiet_want; first | (refine quiet_loadAny (t := 3) rfl _ _ _ rfl (fun w hw => run_load_int ((ov_B r1 w hw).cellL 0 rfl)) (by first | rfl | omega) ?_; simp only [putS]; go_big_quiet_on) | (refine quiet_loadAny (t := 3) rfl _ _ _ rfl (fun w hw => run_load_int ((ov_B r1 w hw).cellL 1 rfl)) (by first | rfl | omega) ?_; simp only [putS]; go_big_quiet_on) | (refine quiet_loadAny (t := 3) rfl _ _ _ rfl (fun w hw => run_load_int ((ov_B r1 w hw).cellL 2 rfl)) (by first | rfl | omega) ?_; simp only [putS]; go_big_quiet_on) | (refine quiet_indexA rfl #[.int .i64 1, .int .i64 0, .int .i64 (-1), .int .i64 0] rfl _ rfl (.int .i64 (1)) (fun w => by kernel_rfl) ?_; simp only [putS]; go_big_quiet_on) | (refine quiet_indexA rfl #[.int .i64 0, .int .i64 1, .int .i64 0, .int .i64 (-1)] rfl _ rfl (.int .i64 (0)) (fun w => by kernel_rfl) ?_; simp only [putS]; go_big_quiet_on) | (go_big_quiet_op; go_big_quiet_on)))
  refine wpQuiet_nil ?_
  refine wpRL_nil ?_
  intro wn hbn hE
  have hsz := B.size
  have hzn := hbn.size
  replace B := B.trans (hbn.mono B.size)
  (try replace r1 := r1.below hbn)
  clear hE
  try simp only [List.drop_succ_cons, List.drop_zero]
  refine NoPan.normal ?_
  go_wp2
  go_ret2
  exact ⟨by simp [dxE, dyE] <;> omega, B⟩
 ·go_enter Tryz.func99, Tryz.ntmps99
  go_upto_region 0 with fail
  refine wp_region_lit ?_
  try simp only [gelS]
  (refine wpList_boxB (t := 90) rfl _ rfl _ rfl ?_; intro b_r1 wn hle hge ht hbn hzn; have hsz := B.size; replace B := B.trans (hbn.mono (by omega)); have hln := Nat.lt_of_lt_of_eq (Nat.lt_succ_self _) hzn.symm; clear hzn; have r1 := ht; clear ht; simp only [putS])
  refine wpList_chunk 2 (by kernel_rfl) ?_
  simp only [takS, Nat.reduceAdd]
  repeat (first | go_big_quiet_skip | (go_big_quiet_want; go_big_quiet_op; go_big_quiet_on))
  refine wpQuiet_nil ?_
  refine wpList_nil ?_
  go_upto_region 1 with fail
  try simp only [gelS]
  try have lx_r1 := r1.lt
  refine wp_region_RL 16 [] (by kernel_rfl) (by kernel_rfl) (by kernel_rfl) ?_
  rotate_left 0
  simp only [takS, Nat.reduceAdd]
  refine wpRL_chunk 16 (by kernel_rfl) ?_
  simp only [takS, Nat.reduceAdd]
  repeat (first | go_big_quiet_skip | (go_big_quiet_want; first | (refine quiet_loadAny (t := 3) rfl _ _ _ rfl (fun w hw => run_load_int ((ov_B r1 w hw).cellL 0 rfl)) (by first | rfl | omega) ?_; simp only [putS]; go_big_quiet_on) | (refine quiet_loadAny (t := 3) rfl _ _ _ rfl (fun w hw => run_load_int ((ov_B r1 w hw).cellL 1 rfl)) (by first | rfl | omega) ?_; simp only [putS]; go_big_quiet_on) | (refine quiet_loadAny (t := 3) rfl _ _ _ rfl (fun w hw => run_load_int ((ov_B r1 w hw).cellL 2 rfl)) (by first | rfl | omega) ?_; simp only [putS]; go_big_quiet_on) | (refine quiet_indexA rfl #[.int .i64 1, .int .i64 0, .int .i64 (-1), .int .i64 0] rfl _ rfl (.int .i64 (0)) (fun w => by kernel_rfl) ?_; simp only [putS]; go_big_quiet_on) | (refine quiet_indexA rfl #[.int .i64 0, .int .i64 1, .int .i64 0, .int .i64 (-1)] rfl _ rfl (.int .i64 (1)) (fun w => by kernel_rfl) ?_; simp only [putS]; go_big_quiet_on) | (go_big_quiet_op; go_big_quiet_on)))
  refine wpQuiet_nil ?_
  refine wpRL_nil ?_
  intro wn hbn hE
  have hsz := B.size
  have hzn := hbn.size
  replace B := B.trans (hbn.mono B.size)
  (try replace r1 := r1.below hbn)
  clear hE
  try simp only [List.drop_succ_cons, List.drop_zero]
  refine NoPan.normal ?_
  go_wp2
  go_ret2
  exact ⟨by simp [dxE, dyE] <;> omega, B⟩
 ·go_enter Tryz.func99, Tryz.ntmps99
  go_upto_region 0 with fail
  refine wp_region_lit ?_
  try simp only [gelS]
  (refine wpList_boxB (t := 90) rfl _ rfl _ rfl ?_; intro b_r1 wn hle hge ht hbn hzn; have hsz := B.size; replace B := B.trans (hbn.mono (by omega)); have hln := Nat.lt_of_lt_of_eq (Nat.lt_succ_self _) hzn.symm; clear hzn; have r1 := ht; clear ht; simp only [putS])
  refine wpList_chunk 2 (by kernel_rfl) ?_
  simp only [takS, Nat.reduceAdd]
  repeat (first | go_big_quiet_skip | (go_big_quiet_want; go_big_quiet_op; go_big_quiet_on))
  refine wpQuiet_nil ?_
  refine wpList_nil ?_
  go_upto_region 1 with fail
  try simp only [gelS]
  try have lx_r1 := r1.lt
  refine wp_region_RL 16 [] (by kernel_rfl) (by kernel_rfl) (by kernel_rfl) ?_
  rotate_left 0
  simp only [takS, Nat.reduceAdd]
  refine wpRL_chunk 16 (by kernel_rfl) ?_
  simp only [takS, Nat.reduceAdd]
  repeat (first | go_big_quiet_skip | (go_big_quiet_want; first | (refine quiet_loadAny (t := 3) rfl _ _ _ rfl (fun w hw => run_load_int ((ov_B r1 w hw).cellL 0 rfl)) (by first | rfl | omega) ?_; simp only [putS]; go_big_quiet_on) | (refine quiet_loadAny (t := 3) rfl _ _ _ rfl (fun w hw => run_load_int ((ov_B r1 w hw).cellL 1 rfl)) (by first | rfl | omega) ?_; simp only [putS]; go_big_quiet_on) | (refine quiet_loadAny (t := 3) rfl _ _ _ rfl (fun w hw => run_load_int ((ov_B r1 w hw).cellL 2 rfl)) (by first | rfl | omega) ?_; simp only [putS]; go_big_quiet_on) | (refine quiet_indexA rfl #[.int .i64 1, .int .i64 0, .int .i64 (-1), .int .i64 0] rfl _ rfl (.int .i64 (-1)) (fun w => by kernel_rfl) ?_; simp only [putS]; go_big_quiet_on) | (refine quiet_indexA rfl #[.int .i64 0, .int .i64 1, .int .i64 0, .int .i64 (-1)] rfl _ rfl (.int .i64 (0)) (fun w => by kernel_rfl) ?_; simp only [putS]; go_big_quiet_on) | (go_big_quiet_op; go_big_quiet_on)))
  refine wpQuiet_nil ?_
  refine wpRL_nil ?_
  intro wn hbn hE
  have hsz := B.size
  have hzn := hbn.size
  replace B := B.trans (hbn.mono B.size)
  (try replace r1 := r1.below hbn)
  clear hE
  try simp only [List.drop_succ_cons, List.drop_zero]
  refine NoPan.normal ?_
  go_wp2
  go_ret2
  exact ⟨by simp [dxE, dyE] <;> omega, B⟩
 ·go_enter Tryz.func99, Tryz.ntmps99
  go_upto_region 0 with fail
  refine wp_region_lit ?_
  try simp only [gelS]
  (refine wpList_boxB (t := 90) rfl _ rfl _ rfl ?_; intro b_r1 wn hle hge ht hbn hzn; have hsz := B.size; replace B := B.trans (hbn.mono (by omega)); have hln := Nat.lt_of_lt_of_eq (Nat.lt_succ_self _) hzn.symm; clear hzn; have r1 := ht; clear ht; simp only [putS])
  refine wpList_chunk 2 (by kernel_rfl) ?_
  simp only [takS, Nat.reduceAdd]
  repeat (first | go_big_quiet_skip | (go_big_quiet_want; go_big_quiet_op; go_big_quiet_on))
  refine wpQuiet_nil ?_
  refine wpList_nil ?_
  go_upto_region 1 with fail
  try simp only [gelS]
  try have lx_r1 := r1.lt
  refine wp_region_RL 16 [] (by kernel_rfl) (by kernel_rfl) (by kernel_rfl) ?_
  rotate_left 0
  simp only [takS, Nat.reduceAdd]
  refine wpRL_chunk 16 (by kernel_rfl) ?_
  simp only [takS, Nat.reduceAdd]
  repeat (first | go_big_quiet_skip | (go_big_quiet_want; first | (refine quiet_loadAny (t := 3) rfl _ _ _ rfl (fun w hw => run_load_int ((ov_B r1 w hw).cellL 0 rfl)) (by first | rfl | omega) ?_; simp only [putS]; go_big_quiet_on) | (refine quiet_loadAny (t := 3) rfl _ _ _ rfl (fun w hw => run_load_int ((ov_B r1 w hw).cellL 1 rfl)) (by first | rfl | omega) ?_; simp only [putS]; go_big_quiet_on) | (refine quiet_loadAny (t := 3) rfl _ _ _ rfl (fun w hw => run_load_int ((ov_B r1 w hw).cellL 2 rfl)) (by first | rfl | omega) ?_; simp only [putS]; go_big_quiet_on) | (refine quiet_indexA rfl #[.int .i64 1, .int .i64 0, .int .i64 (-1), .int .i64 0] rfl _ rfl (.int .i64 (0)) (fun w => by kernel_rfl) ?_; simp only [putS]; go_big_quiet_on) | (refine quiet_indexA rfl #[.int .i64 0, .int .i64 1, .int .i64 0, .int .i64 (-1)] rfl _ rfl (.int .i64 (-1)) (fun w => by kernel_rfl) ?_; simp only [putS]; go_big_quiet_on) | (go_big_quiet_op; go_big_quiet_on)))
  refine wpQuiet_nil ?_
  refine wpRL_nil ?_
  intro wn hbn hE
  have hsz := B.size
  have hzn := hbn.size
  replace B := B.trans (hbn.mono B.size)
  clear hE
  try simp only [List.drop_succ_cons, List.drop_zero]
  refine NoPan.normal ?_
  go_wp2
  go_ret2
  exact ⟨by simp [dxE, dyE] <;> omega, B⟩
end Go.Proofs.YtamgpfblhlfhaaaGreat
/- A range over an iterator that keeps a block of its own and writes it between two rounds; a body that writes a map. Marks of several such statements. -/
namespace Go.Proofs.YtamgpfblhlfhaaaGreat
open Go Go.RowKit
set_option linter.unusedVariables false
set_option linter.unusedSimpArgs false
/-- The turn of block c is borne. -/
def AbidesOwn {β : Type} (c : Nat) (J : β → World → Prop) : Prop :=
 ∀ s W W' row, J s W → W.grownBy W' row → (∀ r, row = some r → r = c) → J s W'
theorem AbidesOwn.below {β : Type} {c : Nat} {J : β → World → Prop} (h : AbidesOwn c J) {s : β} {W W' : World} (hs : J s W) (hb : Below W.heap.size W W') : J s W' :=
 h s W W' none hs (grown_of_below hb) (fun r e => by cases e)
/-- An iterator whose call lays a block of its own first: what it hands over, each time what Al says. -/
def SeqOwn {α : Type} (F : Fence) (n : Nat) (P : Program) (g : Nat) (lb : Array Value) (encs : α → Array Value) (Kp : Nat → World → World → Prop) (S : List α → Prop) (Al : List α → α → Prop) (w : World) : Prop :=
 ∀ (l : Nat) (J : List α → World → Prop) (W : World), Below w.heap.size w W → AbidesOwn W.heap.size J →
  (∀ pre x W1, J pre W1 → Al pre x → W.heap.size < W1.heap.size → YieldAt F (n - 1) P l (encs x) W1 fun e W' => e = .returned (.bool true) ∧ J (pre ++ [x]) W' ∧ Kp W.heap.size W1 W') →
  J [] W →
  CallsIn F n P g (#[.func (.yield l) #[] #[]] ++ lb) W fun e W' => (∃ v, e = .returned v) ∧ ∃ xs, S xs ∧ J xs W'
/-- How the body of a round is left: it goes on; the two blocks from B on lie as they lay. -/
def ownPostT {α : Type} (B : Nat) (Kp : World → World → Prop) (I : List α → World → Prop) (xs : List α) (W : World) : Exit → Act → World → Prop
 | .normal, _, W' => (∀ k o, B ≤ k → k < B + 2 → W.heap[k]? = some o → W'.heap[k]? = some o) ∧ Kp W W' ∧ I xs W'
 | _, _, _ => False
section
variable {F : Fence} {n : Nat} {P : Program}
theorem rangeFunc_own {α : Type} {g : Operand} {ps : Array Tmp} {assign body : Code} {Q : Exit → Act → World → Prop} {a : Act} {w : World}
  (hro : F.round = none) (h1 : 1 ≤ n) {gf : Nat} {lb : Array Value} (hg : a.eval g = .func (.func gf) #[] lb) (hFg : F.fn gf) (eg : ∀ args w, (callFunc gf args).run P w = .ok (.enter gf args) w)
  {encs : α → Array Value} {Kp : Nat → World → World → Prop} {S : List α → Prop} {Al : List α → α → Prop} {w0 : World} (hseq : SeqOwn F (n - 1) P gf lb encs Kp S Al w0)
  (hKt : ∀ {A B C : World}, Kp (w.heap.size + 2) A B → Kp (w.heap.size + 2) B C → Kp (w.heap.size + 2) A C) (hKb : ∀ (W : World) (l : Nat) (o o' : Obj), W.heap[l]? = some o → o.isCells = false → Kp (w.heap.size + 2) W (W.putObj l o'))
  (hKg : ∀ (A B : World), Below A.heap.size A B → Kp (w.heap.size + 2) A B) (hb0 : Below w0.heap.size w0 w) (hps : ∀ x, (encs x).size = ps.size)
  (I : List α → World → Prop) (hI : OwnFrom w.heap.size I) (hIo : AbidesOwn (w.heap.size + 2) I) (h0 : I [] w) (As : α → Act → World → Prop) (hAs : ∀ x, OwnFrom w.heap.size (As x))
  (hassign : ∀ (l : Nat) (pre : List α) (x : α) (W : World) (K : Act → World → Prop), I pre W → w.heap.size + 2 < W.heap.size → (∀ a' W', Below W.heap.size W W' → As x a' W' → K a' W') →
   assign.wpIn (F.inRound l) (n - 1 - 1) P (Exit.then K (fun _ _ _ => False)) { tmps := (ps.zip (encs x)).foldl (fun t (p, v) => t.setIfInBounds p v) a.tmps, defers := [] } W)
  (hbody : ∀ (l : Nat) (pre : List α) (x : α) (W : World) (a' : Act), I pre W → As x a' W → Al pre x → w.heap.size + 2 < W.heap.size → body.wpIn (F.inRound l) (n - 1 - 1) P (ownPostT w.heap.size (Kp (w.heap.size + 2)) I (pre ++ [x]) W) a' W)
  (hdone : ∀ (D : Nat) (xs : List α) (W : World), w.heap.size ≤ D → S xs → I xs W → W.heap[D]? = some (.deferred (some [])) → Q .normal { a with defers := { target := .collected D, args := #[] } :: a.defers } W) :
  (Code.rangeFunc g ps assign body).wpIn F n P Q a w := by
 refine wpIn_rangeFunc fun fn hfn => ?_
 rw [hro]
 obtain ⟨rc, hrc⟩ : ∃ rc : LoopState → Option Code → Loop, rc = fun st pe => { state := st, pending := pe, fn, tmps := a.tmps, params := ps, assign, body, defers := w.heap.size } := ⟨_, rfl⟩
 obtain ⟨W1, hW1⟩ : ∃ W1, (w.alloc (.deferred (some []))).alloc (.loop (rc .ready none)) = W1 := ⟨_, rfl⟩
 have blkL : W1.heap[w.heap.size + 1]? = some (.loop (rc .ready none)) := by
  have := World.alloc_heap_new (w.alloc (.deferred (some []))) (.loop (rc .ready none))
  rw [← hW1]
  rwa [World.size_alloc] at this
 have blkD : W1.heap[w.heap.size]? = some (.deferred (some [])) := by
  rw [← hW1]
  exact (Below.heap_alloc _ _ _ (by simp)).trans (World.alloc_heap_new w _)
 have grown : Below w0.heap.size w0 W1 := by
  rw [← hW1]
  exact hb0.trans ((((Below.refl _ w).alloc (Nat.le_refl _) _).alloc (by simp) _).mono hb0.size)
 have szW1 : W1.heap.size = w.heap.size + 2 := by rw [← hW1]; simp [World.size_alloc]
 have start : I [] W1 := by rw [← hW1]; exact hI.alloc _ (hI.alloc _ h0)
 refine ⟨w.heap.size + 1, [{ target := .collected w.heap.size, args := #[] }], W1, { target := .fn (.func gf) lb, args := #[.func (.yield (w.heap.size + 1)) #[] #[]] }, W1, gf,
  #[.func (.yield (w.heap.size + 1)) #[] #[]] ++ lb, W1, ?_, ?_, ?_, ?_, fun _ => h1, ?_⟩
 ·rw [← hW1, hrc]; exact run_enterLoop_outer _ _ _ _ _
 ·simp only [resolve, hg]
  simp [go_sem]
 ·intro f' hf'
  simp [Target.leads] at hf'
  subst hf'
  exact hFg
 ·simp [invoke, go_sem, eg]
 refine (hseq (w.heap.size + 1)
  (fun pre W => I pre W ∧ W.heap[w.heap.size + 1]? = some (.loop (rc .ready none)) ∧ W.heap[w.heap.size]? = some (.deferred (some [])))
  W1 grown
  (fun s A B row hs hg' hr => ⟨hIo s A B row hs.1 hg' (fun r e => (hr r e).trans szW1), (hg'.block _ (Array.getElem?_eq_some_iff.1 hs.2.1).1 (fun e => by have := hr _ e.symm; omega)).trans hs.2.1, (hg'.block _ (Array.getElem?_eq_some_iff.1 hs.2.2).1 (fun e => by have := hr _ e.symm; omega)).trans hs.2.2⟩)
  ?_ ⟨start, blkL, blkD⟩).mono ?_
 ·rintro pre x W ⟨hi, hl, hk⟩ hal hgt
  rw [szW1] at hgt ⊢
  have hy := run_yield (P := P) (args := encs x) hl (by rw [hrc]; exact hps x)
  rw [hrc] at hy
  refine ⟨fn, _, assign, body, hy, roundIn_of_wpIn hfn (hassign _ pre x W _ hi hgt fun a' V hb ha => ?_)⟩
  have hlV : V.heap[w.heap.size + 1]? = some (.loop (rc .ready none)) := (hb.block _ (Array.getElem?_eq_some_iff.1 hl).1).trans hl
  have hkV : V.heap[w.heap.size]? = some (.deferred (some [])) := (hb.block _ (Array.getElem?_eq_some_iff.1 hk).1).trans hk
  have hiV : I pre V := hI pre W V none hi (grown_of_below hb) (fun r e => by cases e)
  refine ⟨_, run_beginRound hlV (by rw [hrc]), ?_⟩
  obtain ⟨V1, hV1⟩ : ∃ V1, V.putObj (w.heap.size + 1) (.loop { rc .ready none with state := .busy }) = V1 := ⟨_, rfl⟩
  have hl1 : V1.heap[w.heap.size + 1]? = some (.loop { rc .ready none with state := .busy }) := by rw [← hV1]; exact World.putObj_heap_same (Array.getElem?_eq_some_iff.1 hlV).1
  have hk1 : V1.heap[w.heap.size]? = some (.deferred (some [])) := by rw [← hV1]; exact (World.putObj_heap_other (by omega)).trans hkV
  have hKp1 : Kp (w.heap.size + 2) W V1 := hKt (hKg _ _ hb) (by rw [← hV1]; exact hKb _ _ _ _ hlV rfl)
  have hi1 : I pre V1 := by rw [← hV1]; exact hI.putObj _ hiV (by omega) hlV rfl
  have ha1 : As x a' V1 := by rw [← hV1]; exact (hAs x).putObj _ ha (by omega) hlV rfl
  have hgt1 : w.heap.size + 2 < V1.heap.size := by
   have := hb.size
   rw [← hV1, World.putObj_size]; omega
  rw [hV1]
  refine wpIn_mono (hbody _ pre x V1 a' hi1 ha1 hal hgt1) ?_
  rintro e a3 W3 hp
  cases e with
  | normal =>
   obtain ⟨ko, kp, hi3⟩ := hp
   have hl3 := ko _ _ (by omega) (by omega) hl1
   have hk3 := ko _ _ (Nat.le_refl _) (by omega) hk1
   have he := run_endRound (P := P) none hl3
   rw [hrc] at he
   refine ⟨_, _, he, rfl, ⟨hI.putObj _ hi3 (by omega) hl3 rfl, ?_, (World.putObj_heap_other (by omega)).trans hk3⟩, hKt (hKt hKp1 kp) (hKb _ _ _ _ hl3 rfl)⟩
   rw [World.putObj_heap_same (Array.getElem?_eq_some_iff.1 hl3).1, hrc]
   rfl
  | ret => exact hp.elim
  | exit id => exact hp.elim
  | goto t => exact hp.elim
  | panic ch => exact hp.elim
  | outgrown => exact hp.elim
 ·rintro e W2 ⟨⟨v, rfl⟩, xs, hS, hi, hl, hk⟩
  have he := run_endLoop (P := P) hl (by rw [hrc]; simp)
  rw [hrc] at he
  exact ⟨none, _, he, hdone _ xs _ (Nat.le_refl _) hS (hI.putObj _ hi (by omega) hl rfl) ((World.putObj_heap_other (by omega)).trans hk)⟩
end
end Go.Proofs.YtamgpfblhlfhaaaGreat
/- The iterator over the edges of a polygon: its contract. -/
namespace Go.Proofs.YtamgpfblhlfhaaaGreat
open Go.RowKit Go.Shelf Pl
attribute [local go_sem] Oper.semAt_some
set_option linter.unusedVariables false
set_option linter.unusedSimpArgs false
set_option maxRecDepth 20000
/-- The cells below n lie as they lay. -/
def HoldC (n : Nat) (W W' : World) : Prop := ∀ (k : Nat) (o : Obj), k < n → W.heap[k]? = some o → o.isCells = true → W'.heap[k]? = some o
theorem HoldC.of_below {n : Nat} {W W' : World} (h : Below n W W') : HoldC n W W' := fun k o hk ho _ => (h.block k hk).trans ho
theorem HoldC.below {n : Nat} {A B C : World} (h : HoldC n A B) (hb : Below B.heap.size B C) : HoldC n A C := fun k o hk ho hc => by
 have h1 := h k o hk ho hc
 exact (hb.block k (Array.getElem?_eq_some_iff.1 h1).1).trans h1
theorem HoldC.chg {n b : Nat} {t : TypeId} {cs : Array Value} {A B C : World} (h : HoldC n A B) (ho : AtB t B b cs) (hb : n ≤ b) (hc : Chg b B C) : HoldC n A C := fun k o hk ho hcl => by
 have h1 := h k o hk ho hcl
 exact (hc.block k (Array.getElem?_eq_some_iff.1 h1).1 (by omega)).trans h1
theorem AtB.hold {n b : Nat} {t : TypeId} {cs : Array Value} {W W' : World} (h : AtB t W b cs) (hb : b < n) (hc : HoldC n W W') : AtB t W' b cs := hc b _ hb h rfl
theorem cells_obj {W : World} {g o : Nat} {v : Value} (h : W.cell? ⟨g, o, none⟩ = some v) : ∃ x : Obj, W.heap[g]? = some x ∧ x.isCells = true := by
 unfold World.cell? at h
 cases hx : W.heap[g]? with
 | none => simp [hx] at h
 | some x => exact ⟨x, rfl, cell_not (by unfold World.cell?; exact h) x hx⟩
theorem RS.hold {v : Value} {ls : List TA} {n : Nat} {W W' : World} (h : RS v ls W) (hn : W.heap.size ≤ n) (hc : HoldC n W W') : RS v ls W' := by
 rcases h with h | ⟨g, o, c, e, hcp, sc⟩
 ·exact .inl h
 ·refine .inr ⟨g, o, c, e, hcp, fun hl => ?_⟩
  have rc := sc hl
  have h0 := rc.2 0 hl 0 (by omega)
  obtain ⟨v, hv⟩ : ∃ v, (taC (aT ls 0))[0]? = some v := ⟨_, taC_x _⟩
  rw [hv] at h0
  obtain ⟨x, hx, hxc⟩ := cells_obj h0
  exact rc.of_eq ((hc g x (by have := rc.lt; omega) hx hxc).trans hx.symm)
theorem InB.hold {r t : Nat} {ls : List TA} {th : Int} {W W' : World} (h : InB r t ls th W) (hc : HoldC W.heap.size W W') : InB r t ls th W' := by
 obtain ⟨v, h1, h2, h3⟩ := h
 exact ⟨v, h1.hold h1.lt hc, h2.hold h2.lt hc, h3.hold (Nat.le_refl _) hc⟩
/-- What a round of a body keeps that writes the block bl: the cells below n, the block c. -/
def KpO (n bl c : Nat) (W W' : World) : Prop := W.heap.size ≤ W'.heap.size ∧ ∀ (k : Nat) (o : Obj), (k < n ∧ k ≠ bl ∨ k = c) → W.heap[k]? = some o → o.isCells = true → W'.heap[k]? = some o
theorem KpO.trans {n bl c : Nat} {A B C : World} (h : KpO n bl c A B) (k : KpO n bl c B C) : KpO n bl c A C := ⟨Nat.le_trans h.1 k.1, fun i o hi ho hc => k.2 i o hi (h.2 i o hi ho hc) hc⟩
theorem KpO.putObj {n bl c : Nat} {W : World} {l : Nat} {o : Obj} (o' : Obj) (hl : W.heap[l]? = some o) (ho : o.isCells = false) : KpO n bl c W (W.putObj l o') :=
 ⟨by simp [World.putObj], fun k x hk hx hc => by
  have : k ≠ l := fun e => by rw [e, hl] at hx; cases hx; rw [ho] at hc; cases hc
  exact (World.putObj_heap_other (by omega)).trans hx⟩
theorem KpO.below {n bl c : Nat} {W W' : World} (h : Below W.heap.size W W') : KpO n bl c W W' := ⟨h.size, fun k o _ ho _ => (h.block k (Array.getElem?_eq_some_iff.1 ho).1).trans ho⟩
theorem KpO.atB {n bl c b : Nat} {t : TypeId} {cs : Array Value} {W W' : World} (h : KpO n bl c W W') (hb : b < n ∧ b ≠ bl ∨ b = c) (ha : AtB t W b cs) : AtB t W' b cs := h.2 b _ hb ha rfl
theorem HoldC.kpo {m n bl c : Nat} {A W W' : World} (h : HoldC m A W) (hm : m ≤ n) (hb : m ≤ bl) (k : KpO n bl c W W') : HoldC m A W' := fun i o hi ho hc => k.2 i o (.inl ⟨by omega, by omega⟩) (h i o hi ho hc) hc
section
variable {F : Fence} {n : Nat} {P : Program} {ops : Array Oper} {rest : List Oper} {o : Oper} {a : Act} {w : World} {Q : Exit → Act → World → Prop}
theorem wpListIn_ld {t : TypeId} {x : Operand} (hg : o.guard = none) (hop : o.op = .load t x) (p : Value) (hx : a.eval x = p) (v : Value) (hr : (Instr.loadAt t p).run P w = .ok v w) (h : wpListIn F n P ops Q rest (a.put o.dst v) w) : wpListIn F n P ops Q (o :: rest) a w := by
 refine wpListIn_plain hg fun K' hK' => ?_
 unfold Oper.wpIn
 refine ⟨by simp [Oper.about, hop], ?_⟩
 rw [Oper.semAt_plain F _ _ (by rw [hop]; intro c hc'; cases hc')]
 simp [execOp, hop, hx, hr, Result.andThen]
 exact hK' _ _ h
theorem wpListIn_mv {x : Operand} (hg : o.guard = none) (hop : o.op = .move x) (v : Value) (hx : a.eval x = v) (h : wpListIn F n P ops Q rest (a.put o.dst v) w) : wpListIn F n P ops Q (o :: rest) a w := by
 refine wpListIn_plain hg fun K' hK' => ?_
 unfold Oper.wpIn
 refine ⟨by simp [Oper.about, hop], ?_⟩
 rw [Oper.semAt_plain F _ _ (by rw [hop]; intro c hc'; cases hc')]
 simp [execOp, hop, hx, Result.andThen]
 exact hK' _ _ h
end
theorem least_ex {p : Nat → Prop} (h : ∃ m, p m) : ∃ m, p m ∧ ∀ j, p j → m ≤ j := by
 obtain ⟨m, hm⟩ := h
 induction m using Nat.strongRecOn with
 | _ m ih =>
  by_cases hx : ∃ j, j < m ∧ p j
  ·obtain ⟨j, hj, hp⟩ := hx
   exact ih j hj hp
  ·exact ⟨m, hm, fun j hj => Nat.le_of_not_lt fun hlt => hx ⟨j, hlt, hj⟩⟩
/-- m is the least number of which p holds. -/
def LeastP (p : Nat → Prop) (m : Nat) : Prop := p m ∧ ∀ j, p j → m ≤ j
theorem eps_least {p : Nat → Prop} (h : ∃ m, p m) : LeastP p (Classical.epsilon (LeastP p)) := Classical.epsilon_spec (least_ex h)
theorem eps_le {p : Nat → Prop} {m : Nat} (h : p m) : Classical.epsilon (LeastP p) ≤ m := (eps_least ⟨m, h⟩).2 m h
theorem P_onO (x y d x' y' : Int) (w : World) (hx : -100000 ≤ x ∧ x ≤ 100000) (hy : -100000 ≤ y ∧ y ≤ 100000) (hd : 0 ≤ d ∧ d ≤ 3) (e1 : x + dxE d = x') (e2 : y + dyE d = y') : Calls Tryz.prog 99 #[.agg #[.int .i64 x, .int .i64 y, .int .i64 d]] w fun e w' => e = .returned (.tuple #[.int .i64 x', .int .i64 y']) ∧ Below w.heap.size w w' := e1 ▸ e2 ▸ P_on x y d w hx hy hd
def edC (e : Ed) : Array Value := #[.int .i64 e.x, .int .i64 e.y, .int .i64 e.d]
theorem equalIn_stS (d : Nat) (e f : Ed) (w : World) : (Op.equalIn (d + 2) 90 (.agg (edC e)) (.agg (edC f))).run Tryz.prog w = .ok (decide (e = f)) w := by
 obtain ⟨x, y, z⟩ := e
 obtain ⟨x', y', z'⟩ := f
 have h : (Op.equalIn (d + 2) 90 (.agg (edC ⟨x, y, z⟩)) (.agg (edC ⟨x', y', z'⟩))).run Tryz.prog w = .ok (x == x' && (y == y' && z == z')) w := by
  simp only [edC]
  by_cases h1 : x = x' <;> by_cases h2 : y = y' <;> by_cases h3 : z = z' <;> simp [go_sem, h1, h2, h3]
 rw [h]
 congr 1
 rw [Bool.eq_iff_iff]
 simp
theorem eql_stS (e f : Ed) (w : World) : (binOp .eql 90 (.agg (edC e)) (.agg (edC f))).run Tryz.prog w = .ok (.bool (decide (e = f))) w := by
 have h := run_eql_struct (P := Tryz.prog) w 90 (edC e) (edC f)
 rw [h, equalIn_stS 9998 e f w]; rfl
@[go_sem] theorem guard_stS (op : BinOp) (p q : Operand) (cs ds : Array Value) (w : World) : (eqGuard op 90 p q (.agg cs) (.agg ds)).run Tryz.prog w = .ok () w := run_eqGuard_agg w op 90 p q _ _ (by kernel_rfl)
section
variable {o : Oper} {a : Act} {C : World → Prop} {K : Act → Prop}
theorem quiet_eqlS {x y : Operand} {t2 : TypeId} (h : o.op = .binOp .eql 90 x y t2) (e f : Ed) (hx : a.eval x = .agg (edC e)) (hy : a.eval y = .agg (edC f)) (b : Bool) (hb : decide (e = f) = b) (hk : K (a.put o.dst (.bool b))) : o.quiet Tryz.prog a C K :=
 ⟨_, fun w hw => by unfold Oper.quietAt execOp; simp only [h, hx, hy, guard_stS, eql_stS, hb, Sem.run_bind, Sem.run_pure, Result.andThen_ok]; exact ⟨rfl, rfl⟩, hk⟩
end
section
variable {o : Oper} {a : Act} {C : World → Prop} {K : Act → Prop}
end
theorem run_alloc_St (w : World) (o : Oper) (ho : o.op = .alloc 90) (ev : Operand → Value) : (execOp ev o).run Tryz.prog w = .ok (.value (.pointer (some ⟨w.heap.size, 0, none⟩))) (w.alloc (.cells #[.int .i64 0, .int .i64 0, .int .i64 0] 90)) := by
 obtain ⟨d, op, ty, pos, af, g⟩ := o
 simp only at ho
 subst ho
 kernel_rfl
theorem P_from (r t : Nat) (x y d : Int) (w : World) : Calls Tryz.prog 61 #[.agg #[fB r t], .agg #[.int .i64 x, .int .i64 y, .int .i64 d]] w fun v w' => ∃ bs bb, v = .returned (.func (.func 98) #[] #[.pointer (some ⟨bs, 0, none⟩), .pointer (some ⟨bb, 0, none⟩)]) ∧ w.heap.size ≤ bs ∧ w.heap.size ≤ bb ∧ AtB 90 w' bs #[.int .i64 x, .int .i64 y, .int .i64 d] ∧ AtB 86 w' bb #[fB r t] ∧ Below w.heap.size w w' := by
 have B := Below.refl w.heap.size w
 go_enter Tryz.func61, Tryz.ntmps61
 go_upto_region 0 with fail
 refine wp_region_lit ?_
 try simp only [gelS]
 (refine wpList_boxB (t := 86) rfl _ rfl _ rfl ?_; intro b_p2 wn hle hge ht hbn hzn; have hsz := B.size; replace B := B.trans (hbn.mono (by omega)); have hln := Nat.lt_of_lt_of_eq (Nat.lt_succ_self _) hzn.symm; clear hzn; have p2 := ht; clear ht; simp only [putS])
 (refine wpList_boxB (t := 90) rfl _ rfl _ rfl ?_; intro b_p1 wn hle hge ht hbn hzn; have hsz := B.size; replace B := B.trans (hbn.mono (by omega)); have hln := Nat.lt_of_lt_of_eq (Nat.lt_succ_self _) hzn.symm; clear hzn; (try have hlt := p2.lt); (try replace p2 := p2.below (hbn.mono hle)); have p1 := ht; clear ht; simp only [putS])
 refine wpList_chunk 1 (by kernel_rfl) ?_
 simp only [takS, Nat.reduceAdd]
 repeat (first | go_big_quiet_skip | (go_big_quiet_want; go_big_quiet_op; go_big_quiet_on))
 refine wpQuiet_nil ?_
 refine wpList_nil ?_
 go_upto_region 1 with fail
 refine wp_region_lit ?_
 try simp only [gelS]
 (refine wpList_val rfl (.func (.func 98) #[] #[.pointer (some ⟨b_p1, 0, none⟩), .pointer (some ⟨b_p2, 0, none⟩)]) (by first | rfl | simp [go_sem, Act.eval]) ?_; simp only [putS])
 refine wpList_chunk 1 (by kernel_rfl) ?_
 simp only [takS, Nat.reduceAdd]
 repeat (first | go_big_quiet_skip | (go_big_quiet_want; go_big_quiet_op; go_big_quiet_on))
 refine wpQuiet_nil ?_
 refine wpList_nil ?_
 go_wp2
 go_ret
 exact ⟨_, _, rfl, by omega, by omega, p1, p2, B⟩
set_option maxHeartbeats 4000000 in
theorem from_stops (r t : Nat) (ls : List TA) (th : Int) (tk : TokL ls) (hn : ls.length ≤ maxLen) (R : Rc) (hR : -65536 ≤ R.x0 ∧ R.x1 ≤ 65536 ∧ -65536 ≤ R.y0 ∧ R.y1 ≤ 65536) (hbx : BoxE (setG ls th) R) (s : Ed) (hs : Bnd (setG ls th) s) (bs bb bl n : Nat) (hn1 : 1 ≤ n) (w wI : World)
  (p1 : AtB 90 w bs (edC s)) (p2 : AtB 86 w bb #[fB r t]) (hI : InB r t ls th wI) (hw : HoldC wI.heap.size wI w) (hwI : wI.heap.size ≤ w.heap.size) (hbl : wI.heap.size ≤ bl) (h1 : bs ≠ bl) (h2 : bb ≠ bl) :
  SeqOwn Fence.wide n Tryz.prog 98 #[.pointer (some ⟨bs, 0, none⟩), .pointer (some ⟨bb, 0, none⟩)] (fun e : Ed => #[.agg (edC e)]) (KpO w.heap.size bl) (fun xs => xs = folE (setG ls th) R s) (fun pre x => ∃ k, k < perE (setG ls th) R s ∧ pre = orbK (setG ls th) s k ∧ x = orbE (setG ls th) s k) w := fun l J W0 hW hJa hY hJ => by
 have hl1 := p1.lt
 have hl2 := p2.lt
 replace p1 := p1.of_eq (hW.block _ p1.lt)
 replace p2 := p2.of_eq (hW.block _ p2.lt)
 have HW := hw.below hW
 have hwW := hW.size
 have HI := Lib.hid hI
 have HJ := Lib.hid (fun (s : List Ed) (X Y : World) (hs : J s X) (hb : Exc W0.heap.size X.heap.size X Y) => hJa s X Y (some W0.heap.size) hs ⟨hb.os, hb.tape, hb.output, hb.grow, fun k hk hne => hb.block k hk (fun e => hne (by rw [e]))⟩ (fun r e => by cases e; rfl))
 have HJB := Lib.hid (fun (s : List Ed) (X Y : World) (hs : J s X) (hb : Below X.heap.size X Y) => hJa.below hs hb)
 have HY := Lib.hid hY
 have HP := Lib.hid (perE_spec hbx hs)
 have HB := Lib.hid (fun k => orb_bnd hs k)
 have HX := Lib.hid hbx
 clear hI hJa hY hbx
 refine callsIn_wide.2 ?_
 show Calls Tryz.prog 98 #[.func (.yield l) #[] #[], .pointer (some ⟨bs, 0, none⟩), .pointer (some ⟨bb, 0, none⟩)] W0 _
 have B := Below.refl W0.heap.size W0
 go_enter Tryz.func98, Tryz.ntmps98
 go_upto_region 0 with fail
 refine wp_region_lit ?_
 try simp only [gelS]
 refine wpList_chunk 1 (by kernel_rfl) ?_
 simp only [takS, Nat.reduceAdd]
 repeat (first | go_big_quiet_skip | (go_big_quiet_want; first | (refine quiet_loadAny (t := 90) rfl _ _ _ rfl (fun w hw => run_load_B (ov_B p1 w hw) Tryz.isAgg90 (by kernel_rfl)) (by rfl) ?_; simp only [putS]; go_big_quiet_on) | (go_big_quiet_op; go_big_quiet_on)))
 refine wpQuiet_nil ?_
 (refine wpList_allocBk (t := 90) rfl _ (run_alloc_St _ _ rfl) ?_; intro b_p4 wn hle hge ht hbn hzn; have hsz := B.size; replace B := B.trans (hbn.mono (by omega)); have hln := Nat.lt_of_lt_of_eq (Nat.lt_succ_self _) hzn.symm; clear hzn; (try have hlt := p1.lt); (try replace p1 := p1.below (hbn.mono hle)); (try have hlt := p2.lt); (try replace p2 := p2.below (hbn.mono hle)); (try have hlt := HW.lt); (try replace HW := HW.below (hbn.mono hle)); have p4 := ht; clear ht; simp only [putS])
 (refine wpList_storeB (t := 90) rfl _ _ rfl _ rfl _ rfl p4 (by kernel_rfl) rfl (by simp [edC, Value.oneCell']) ?_; have p4o := p4; clear p4; intro wn ht hcn hzn; (try replace HW := HW.chg p4o (by omega) hcn); have hsz := B.size; replace hzn := Nat.le_of_eq hzn.symm; replace B := Chg.below B hcn (by omega) B.size; (try replace p1 := p1.of_eq (hcn.block _ p1.lt (by omega))); (try replace p2 := p2.of_eq (hcn.block _ p2.lt (by omega))); (try replace HW := HW.of_eq (hcn.block _ HW.lt (by omega))); have p4 := ht; clear ht; simp only [putS])
 refine wpList_nil ?_
 have hb4 : b_p4 = W0.heap.size := by omega
 have hbsz := B.size
 have hJ1 := HJB.out _ _ _ hJ B
 have k4 := p4.lt
 replace hJ := hJ1
 clear hJ1 B hW
 have HS4 := Lib.hid (show b_p4 = W0.heap.size ∧ wI.heap.size ≤ b_p4 from ⟨hb4, by omega⟩)
 have n14 : bs < b_p4 := by omega
 have n24 : bb < b_p4 := by omega
 have hbI : wI.heap.size ≤ b_p4 := HS4.out.2
 clear HS4
 subst hb4
 generalize W0.heap.size = c at *
 go_wp2
 go_loopw [5, 6, 8, 9, 19, 20] (fun _ _ _ _ _ _ wr => ∃ m, (∃ k, m + k = perE (setG ls th) R s ∧ 0 < m ∧ J (orbK (setG ls th) s k) wr ∧ AtB 90 wr c (edC (orbE (setG ls th) s k)) ∧ AtB 90 wr bs (edC s) ∧ AtB 86 wr bb #[fB r t] ∧ HoldC wI.heap.size wI wr)) (fun _ _ _ _ _ _ wr => Classical.epsilon (LeastP fun m => (∃ k, m + k = perE (setG ls th) R s ∧ 0 < m ∧ J (orbK (setG ls th) s k) wr ∧ AtB 90 wr c (edC (orbE (setG ls th) s k)) ∧ AtB 90 wr bs (edC s) ∧ AtB 86 wr bb #[fB r t] ∧ HoldC wI.heap.size wI wr)))
 case atStart => exact ⟨perE (setG ls th) R s, 0, by omega, HP.out.2.1, hJ, p4, p1, p2, HW⟩
 case round =>
  clear hJ p4 p1 p2 HW
  have hleast := (eps_least hrel).1
  generalize hm : Classical.epsilon (LeastP fun m => (∃ k, m + k = perE (setG ls th) R s ∧ 0 < m ∧ J (orbK (setG ls th) s k) wr ∧ AtB 90 wr c (edC (orbE (setG ls th) s k)) ∧ AtB 90 wr bs (edC s) ∧ AtB 86 wr bb #[fB r t] ∧ HoldC wI.heap.size wI wr)) = m at hleast
  obtain ⟨k, hmk, hm0, hJ, p4, p1, p2, HW⟩ := hleast
  obtain ⟨fn, tmps, assign, body, hy, hR⟩ := HY.out (orbK (setG ls th) s k) (orbE (setG ls th) s k) _ hJ ⟨k, by omega, rfl, rfl⟩ p4.lt
  go_upto_region 1 with fail
  refine (wpIn_wide (n := n)).1 ?_
  refine wpIn_region_lit ?_
  try simp only [gelS]
  refine wpListIn_mv rfl rfl (.func (.yield l) #[] #[]) rfl ?_
  simp only [putS]
  refine wpListIn_ld rfl rfl _ rfl _ (run_load_B p4 Tryz.isAgg90 (by kernel_rfl)) ?_
  simp only [putS]
  gi_wp2
  refine hR.mono ?_
  rintro e W1 ⟨rfl, hJ1, hkp⟩
  replace p4 := hkp.atB (.inr rfl) p4
  replace p1 := hkp.atB (.inl ⟨hl1, h1⟩) p1
  replace p2 := hkp.atB (.inl ⟨hl2, h2⟩) p2
  replace HW := HW.kpo hwI hbl hkp
  rw [← orbK_snoc] at hJ1
  have hbd := HB.out k
  have hcs := next_cases hbd
  have hnx : orbE (setG ls th) s (k + 1) = nextE (setG ls th) (orbE (setG ls th) s k) := rfl
  have hbx := HX.out _ hbd
  have hbn1 := HX.out _ (HB.out (k + 1))
  have hend := Lib.hid (show k + 1 = perE (setG ls th) R s → orbE (setG ls th) s (k + 1) = s from fun e => by rw [e]; exact HP.out.1)
  have hgo := Lib.hid (show k + 1 < perE (setG ls th) R s → orbE (setG ls th) s (k + 1) ≠ s from fun e => HP.out.2.2.2 _ (by omega) e)
  have HM := Lib.hid hm
  clear hm hJ hy hR hkp hrel
  obtain ⟨⟨x, y, d⟩, he⟩ : ∃ e, orbE (setG ls th) s k = e := ⟨_, rfl⟩
  rw [he] at p4 hbd hcs hbx hnx
  obtain ⟨⟨x', y', d'⟩, he'⟩ : ∃ e, orbE (setG ls th) s (k + 1) = e := ⟨_, rfl⟩
  rw [he'] at hnx hbn1 hend hgo
  rw [← hnx] at hcs
  simp only at hcs hbx hbn1
  obtain ⟨hx', hy', hb', hcs⟩ := hcs
  have hd : 0 ≤ d ∧ d ≤ 3 := hbd.1
  rw [← hx', ← hy'] at hcs
  replace p4 : AtB 90 W1 c #[.int .i64 x, .int .i64 y, .int .i64 d] := p4
  obtain ⟨q1, hq1⟩ : ∃ q, (d + 1) % 4 = q := ⟨_, rfl⟩
  obtain ⟨q3, hq3⟩ : ∃ q, (d + 3) % 4 = q := ⟨_, rfl⟩
  have ht1 : Int.tmod (d + 1) 4 = q1 := by rw [Int.tmod_eq_emod_of_nonneg (by omega)]; exact hq1
  have ht3 : Int.tmod (d + 3) 4 = q3 := by rw [Int.tmod_eq_emod_of_nonneg (by omega)]; exact hq3
  have ht0 : Int.tmod d 4 = d := by rw [Int.tmod_eq_emod_of_nonneg (by omega)]; omega
  have b1 : 0 ≤ q1 ∧ q1 ≤ 3 := by omega
  have b3 : 0 ≤ q3 ∧ q3 ≤ 3 := by omega
  rw [hq1, hq3] at hcs
  have bx : -100000 ≤ x ∧ x ≤ 100000 := by omega
  have by_ : -100000 ≤ y ∧ y ≤ 100000 := by omega
  have bx' : -100000 ≤ x' ∧ x' ≤ 100000 := by omega
  have by' : -100000 ≤ y' ∧ y' ≤ 100000 := by omega
  have HON := Lib.hid (show x + dxE d = x' ∧ y + dyE d = y' from ⟨hx'.symm, hy'.symm⟩)
  have HE' := Lib.hid he'
  clear he he' hx' hy' hbx hbn1 hbd hb' hnx
  have B := Exc.refl c W1
  have k4 := p4.lt
  gi_wp2
  go_upto_region 2 with fail
  refine wp_region_lit ?_
  try simp only [gelS]
  refine wpList_chunk 1 (by kernel_rfl) ?_
  simp only [takS, Nat.reduceAdd]
  repeat (first | go_big_quiet_skip | (go_big_quiet_want; first | (refine quiet_loadAny (t := 90) rfl _ _ _ rfl (fun w hw => run_load_B (ov_B p4 w hw) Tryz.isAgg90 (by kernel_rfl)) (by rfl) ?_; simp only [putS]; go_big_quiet_on) | (go_big_quiet_op; go_big_quiet_on)))
  refine wpQuiet_nil ?_
  refine wpList_callF (by first | rfl | simp [Region.wanted, yielded]) rfl (enters_of Tryz.func99 (by kernel_rfl) rfl) (by simp only [Act.eval, evlS]; rfl) ?_
  refine (P_onO x y d x' y' _ bx by_ hd HON.out.1 HON.out.2).mono ?_
  rintro e wn ⟨rfl, hbn⟩
  have hsz := B.size
  have hzn := hbn.size
  replace B := B.trans (hbn.mono B.size)
  (try replace p4 := p4.below hbn)
  (try replace p1 := p1.below hbn)
  (try replace p2 := p2.below hbn)
  (try replace HW := HW.below hbn)
  refine ⟨_, rfl, ?_⟩
  simp only [putS]
  refine wpList_chunk 5 (by kernel_rfl) ?_
  simp only [takS, Nat.reduceAdd]
  repeat (first | go_big_quiet_skip | (go_big_quiet_want; go_big_quiet_op; go_big_quiet_on))
  refine wpQuiet_nil ?_
  refine wpList_nil ?_
  go_upto_region 3 with fail
  refine wp_region_lit ?_
  try simp only [gelS]
  refine wpList_chunk 2 (by kernel_rfl) ?_
  simp only [takS, Nat.reduceAdd]
  repeat (first | go_big_quiet_skip | (go_big_quiet_want; go_big_quiet_op; go_big_quiet_on))
  refine wpQuiet_nil ?_
  refine wpList_nil ?_
  go_wp2
  refine wp_loop_rounds 3 ?_
  rw [rounds_succ]
  rcases hcs with ⟨hd', c1⟩ | ⟨hd', c1, c2⟩ | ⟨hd', c1, c2, c3⟩
  ·have HD := Lib.hid hd'
   clear hd'
   go_upto_region 4 with fail
   refine wp_region_lit ?_
   try simp only [gelS]
   refine wpList_chunk 1 (by kernel_rfl) ?_
   simp only [takS, Nat.reduceAdd]
   repeat (first | go_big_quiet_skip | (go_big_quiet_want; go_big_quiet_op; go_big_quiet_on))
   refine wpQuiet_nil ?_
   refine wpList_nil ?_
   go_upto_region 5 with fail
   refine wp_region_lit ?_
   try simp only [gelS]
   refine wpList_chunk 2 (by kernel_rfl) ?_
   simp only [takS, Nat.reduceAdd]
   repeat (first | go_big_quiet_skip | (go_big_quiet_want; first | (refine quiet_indexA rfl #[.int .i64 1, .int .i64 0, .int .i64 3] rfl (0) rfl (.int .i64 (1)) (fun w => by kernel_rfl) ?_; simp only [putS]; go_big_quiet_on) | (go_big_quiet_op; go_big_quiet_on)))
   refine wpQuiet_nil ?_
   refine wpList_nil ?_
   go_upto_region 6 with fail
   refine wp_region_lit ?_
   try simp only [gelS]
   refine wpList_chunk 8 (by kernel_rfl) ?_
   simp only [takS, Nat.reduceAdd]
   repeat (first | go_big_quiet_skip | (go_big_quiet_want; first | (refine quiet_loadAny (t := 3) rfl _ _ _ rfl (fun w hw => run_load_int ((ov_B p4 w hw).cellL 2 rfl)) (by rfl) ?_; simp only [putS]; go_big_quiet_on) | (go_big_quiet_op; go_big_quiet_on)))
   refine wpQuiet_nil ?_
   (refine wpList_allocBk (t := 90) rfl _ (run_alloc_St _ _ rfl) ?_; intro b_p9 wn hle hge ht hbn hzn; have hsz := B.size; replace B := B.trans (hbn.mono (by omega)); have hln := Nat.lt_of_lt_of_eq (Nat.lt_succ_self _) hzn.symm; clear hzn; (try have hlt := p4.lt); (try replace p4 := p4.below (hbn.mono hle)); (try have hlt := p1.lt); (try replace p1 := p1.below (hbn.mono hle)); (try have hlt := p2.lt); (try replace p2 := p2.below (hbn.mono hle)); (try have hlt := HW.lt); (try replace HW := HW.below (hbn.mono hle)); have p9 := ht; clear ht; simp only [putS])
   (refine wpList_storeB (t := 90) rfl _ _ rfl _ rfl _ rfl p9 (by kernel_rfl) rfl (by simp [edC, Value.oneCell']) ?_; have p9o := p9; clear p9; intro wn ht hcn hzn; (try replace HW := HW.chg p9o (by omega) hcn); have hsz := B.size; replace hzn := Nat.le_of_eq hzn.symm; replace B := Exc.store B hcn (by omega); (try replace p4 := p4.of_eq (hcn.block _ p4.lt (by omega))); (try replace p1 := p1.of_eq (hcn.block _ p1.lt (by omega))); (try replace p2 := p2.of_eq (hcn.block _ p2.lt (by omega))); (try replace HW := HW.of_eq (hcn.block _ HW.lt (by omega))); have p9 := ht; clear ht; simp only [putS])
   refine wpList_nil ?_
   replace p9 : AtB 90 _ b_p9 #[.int .i64 x', .int .i64 y', .int .i64 q1] := p9
   have hI := HI.out.hold HW
   have k9 := p9.lt
   go_upto_region 7 with fail
   refine wp_region_lit ?_
   try simp only [gelS]
   refine wpList_chunk 2 (by kernel_rfl) ?_
   simp only [takS, Nat.reduceAdd]
   repeat (first | go_big_quiet_skip | (go_big_quiet_want; first | (refine quiet_loadAny (t := 90) rfl _ _ _ rfl (fun w hw => run_load_B (ov_B p9 w hw) Tryz.isAgg90 (by kernel_rfl)) (by rfl) ?_; simp only [putS]; go_big_quiet_on) | (refine quiet_loadAny (t := 86) rfl _ _ _ rfl (fun w hw => run_load_B (ov_B p2 w hw) Tryz.isAgg86 (by kernel_rfl)) (by rfl) ?_; simp only [putS]; go_big_quiet_on) | (go_big_quiet_op; go_big_quiet_on)))
   refine wpQuiet_nil ?_
   refine wpList_callF (by first | rfl | simp [Region.wanted, yielded]) rfl (enters_of Tryz.func60 (by kernel_rfl) rfl) (by simp only [Act.eval, evlS]; rfl) ?_
   refine (P_has r t ls th x' y' q1 true _ hI tk hn bx' by' b1 c1).mono ?_
   rintro e wn ⟨rfl, hbn⟩
   have hsz := B.size
   have hzn := hbn.size
   replace B := B.trans (hbn.mono B.size)
   (try replace p4 := p4.below hbn)
   (try replace p1 := p1.below hbn)
   (try replace p2 := p2.below hbn)
   (try replace HW := HW.below hbn)
   (try replace p9 := p9.below hbn)
   refine ⟨_, rfl, ?_⟩
   simp only [putS]
   refine wpList_nil ?_
   clear hI
   go_upto_region 8 with fail
   refine wp_region_lit ?_
   try simp only [gelS]
   refine wpList_chunk 1 (by kernel_rfl) ?_
   simp only [takS, Nat.reduceAdd]
   repeat (first | go_big_quiet_skip | (go_big_quiet_want; first | (refine quiet_loadAny (t := 90) rfl _ _ _ rfl (fun w hw => run_load_B (ov_B p9 w hw) Tryz.isAgg90 (by kernel_rfl)) (by rfl) ?_; simp only [putS]; go_big_quiet_on) | (go_big_quiet_op; go_big_quiet_on)))
   refine wpQuiet_nil ?_
   (refine wpList_storeB (t := 90) rfl _ _ rfl _ rfl _ rfl p4 (by kernel_rfl) rfl (by simp [edC, Value.oneCell']) ?_; have p4o := p4; clear p4; intro wn ht hcn hzn; (try replace HW := HW.chg p4o (by omega) hcn); have hsz := B.size; replace hzn := Nat.le_of_eq hzn.symm; replace B := Exc.chg B hcn; (try replace p1 := p1.of_eq (hcn.block _ p1.lt (by omega))); (try replace p2 := p2.of_eq (hcn.block _ p2.lt (by omega))); (try replace HW := HW.of_eq (hcn.block _ HW.lt (by omega))); (try replace p9 := p9.of_eq (hcn.block _ p9.lt (by omega))); have p4 := ht; clear ht; simp only [putS])
   refine wpList_nil ?_
   replace p4 : AtB 90 _ c #[.int .i64 x', .int .i64 y', .int .i64 q1] := p4
   replace p4 : AtB 90 _ c (edC ⟨x', y', q1⟩) := p4
   rw [← HD.out] at p4
   go_upto_region 10 with fail
   by_cases hlast : k + 1 = perE (setG ls th) R s
   ·have he2 := hend.out hlast
    have q2 : decide ((⟨x', y', d'⟩ : Ed) = s) = true := decide_eq_true he2
    refine wp_region_lit ?_
    try simp only [gelS]
    refine wpList_chunk 3 (by kernel_rfl) ?_
    simp only [takS, Nat.reduceAdd]
    repeat (first | go_big_quiet_skip | (go_big_quiet_want; first | (refine quiet_loadAny (t := 90) rfl _ _ _ rfl (fun w hw => run_load_B (ov_B p4 w hw) Tryz.isAgg90 (by kernel_rfl)) (by rfl) ?_; simp only [putS]; go_big_quiet_on) | (refine quiet_loadAny (t := 90) rfl _ _ _ rfl (fun w hw => run_load_B (ov_B p1 w hw) Tryz.isAgg90 (by kernel_rfl)) (by rfl) ?_; simp only [putS]; go_big_quiet_on) | (refine quiet_eqlS rfl ⟨x', y', d'⟩ s rfl rfl _ q2 ?_; simp only [putS]; go_big_quiet_on) | (go_big_quiet_op; go_big_quiet_on)))
    refine wpQuiet_nil ?_
    refine wpList_nil ?_
    go_wp2
    refine bodyPost_ret (results_none rfl _ _ _) rfl ?_
    exact ⟨⟨_, rfl⟩, _, rfl, by unfold folE; rw [← hlast]; exact HJ.out _ _ _ hJ1 B⟩
   ·have q2 : decide ((⟨x', y', d'⟩ : Ed) = s) = false := decide_eq_false (hgo.out (by omega))
    refine wp_region_lit ?_
    try simp only [gelS]
    refine wpList_chunk 3 (by kernel_rfl) ?_
    simp only [takS, Nat.reduceAdd]
    repeat (first | go_big_quiet_skip | (go_big_quiet_want; first | (refine quiet_loadAny (t := 90) rfl _ _ _ rfl (fun w hw => run_load_B (ov_B p4 w hw) Tryz.isAgg90 (by kernel_rfl)) (by rfl) ?_; simp only [putS]; go_big_quiet_on) | (refine quiet_loadAny (t := 90) rfl _ _ _ rfl (fun w hw => run_load_B (ov_B p1 w hw) Tryz.isAgg90 (by kernel_rfl)) (by rfl) ?_; simp only [putS]; go_big_quiet_on) | (refine quiet_eqlS rfl ⟨x', y', d'⟩ s rfl rfl _ q2 ?_; simp only [putS]; go_big_quiet_on) | (go_big_quiet_op; go_big_quiet_on)))
    refine wpQuiet_nil ?_
    refine wpList_nil ?_
    go_wp2
    have hR2 : ∃ k, (m - 1) + k = perE (setG ls th) R s ∧ 0 < (m - 1) ∧ J (orbK (setG ls th) s k) wn ∧ AtB 90 wn c (edC (orbE (setG ls th) s k)) ∧ AtB 90 wn bs (edC s) ∧ AtB 86 wn bb #[fB r t] ∧ HoldC wI.heap.size wI wn :=
     ⟨k + 1, by omega, by omega, HJ.out _ _ _ hJ1 B, by rw [HE'.out]; exact p4, p1, p2, HW⟩
    go_roundw
    case rel => exact ⟨_, hR2⟩
    case measure => exact Nat.lt_of_le_of_lt (eps_le hR2) (by omega)
  ·have HD := Lib.hid hd'
   clear hd'
   go_upto_region 4 with fail
   refine wp_region_lit ?_
   try simp only [gelS]
   refine wpList_chunk 1 (by kernel_rfl) ?_
   simp only [takS, Nat.reduceAdd]
   repeat (first | go_big_quiet_skip | (go_big_quiet_want; go_big_quiet_op; go_big_quiet_on))
   refine wpQuiet_nil ?_
   refine wpList_nil ?_
   go_upto_region 5 with fail
   refine wp_region_lit ?_
   try simp only [gelS]
   refine wpList_chunk 2 (by kernel_rfl) ?_
   simp only [takS, Nat.reduceAdd]
   repeat (first | go_big_quiet_skip | (go_big_quiet_want; first | (refine quiet_indexA rfl #[.int .i64 1, .int .i64 0, .int .i64 3] rfl (0) rfl (.int .i64 (1)) (fun w => by kernel_rfl) ?_; simp only [putS]; go_big_quiet_on) | (go_big_quiet_op; go_big_quiet_on)))
   refine wpQuiet_nil ?_
   refine wpList_nil ?_
   go_upto_region 6 with fail
   refine wp_region_lit ?_
   try simp only [gelS]
   refine wpList_chunk 8 (by kernel_rfl) ?_
   simp only [takS, Nat.reduceAdd]
   repeat (first | go_big_quiet_skip | (go_big_quiet_want; first | (refine quiet_loadAny (t := 3) rfl _ _ _ rfl (fun w hw => run_load_int ((ov_B p4 w hw).cellL 2 rfl)) (by rfl) ?_; simp only [putS]; go_big_quiet_on) | (go_big_quiet_op; go_big_quiet_on)))
   refine wpQuiet_nil ?_
   (refine wpList_allocBk (t := 90) rfl _ (run_alloc_St _ _ rfl) ?_; intro b_p9 wn hle hge ht hbn hzn; have hsz := B.size; replace B := B.trans (hbn.mono (by omega)); have hln := Nat.lt_of_lt_of_eq (Nat.lt_succ_self _) hzn.symm; clear hzn; (try have hlt := p4.lt); (try replace p4 := p4.below (hbn.mono hle)); (try have hlt := p1.lt); (try replace p1 := p1.below (hbn.mono hle)); (try have hlt := p2.lt); (try replace p2 := p2.below (hbn.mono hle)); (try have hlt := HW.lt); (try replace HW := HW.below (hbn.mono hle)); have p9 := ht; clear ht; simp only [putS])
   (refine wpList_storeB (t := 90) rfl _ _ rfl _ rfl _ rfl p9 (by kernel_rfl) rfl (by simp [edC, Value.oneCell']) ?_; have p9o := p9; clear p9; intro wn ht hcn hzn; (try replace HW := HW.chg p9o (by omega) hcn); have hsz := B.size; replace hzn := Nat.le_of_eq hzn.symm; replace B := Exc.store B hcn (by omega); (try replace p4 := p4.of_eq (hcn.block _ p4.lt (by omega))); (try replace p1 := p1.of_eq (hcn.block _ p1.lt (by omega))); (try replace p2 := p2.of_eq (hcn.block _ p2.lt (by omega))); (try replace HW := HW.of_eq (hcn.block _ HW.lt (by omega))); have p9 := ht; clear ht; simp only [putS])
   refine wpList_nil ?_
   replace p9 : AtB 90 _ b_p9 #[.int .i64 x', .int .i64 y', .int .i64 q1] := p9
   have hI := HI.out.hold HW
   have k9 := p9.lt
   go_upto_region 7 with fail
   refine wp_region_lit ?_
   try simp only [gelS]
   refine wpList_chunk 2 (by kernel_rfl) ?_
   simp only [takS, Nat.reduceAdd]
   repeat (first | go_big_quiet_skip | (go_big_quiet_want; first | (refine quiet_loadAny (t := 90) rfl _ _ _ rfl (fun w hw => run_load_B (ov_B p9 w hw) Tryz.isAgg90 (by kernel_rfl)) (by rfl) ?_; simp only [putS]; go_big_quiet_on) | (refine quiet_loadAny (t := 86) rfl _ _ _ rfl (fun w hw => run_load_B (ov_B p2 w hw) Tryz.isAgg86 (by kernel_rfl)) (by rfl) ?_; simp only [putS]; go_big_quiet_on) | (go_big_quiet_op; go_big_quiet_on)))
   refine wpQuiet_nil ?_
   refine wpList_callF (by first | rfl | simp [Region.wanted, yielded]) rfl (enters_of Tryz.func60 (by kernel_rfl) rfl) (by simp only [Act.eval, evlS]; rfl) ?_
   refine (P_has r t ls th x' y' q1 false _ hI tk hn bx' by' b1 c1).mono ?_
   rintro e wn ⟨rfl, hbn⟩
   have hsz := B.size
   have hzn := hbn.size
   replace B := B.trans (hbn.mono B.size)
   (try replace p4 := p4.below hbn)
   (try replace p1 := p1.below hbn)
   (try replace p2 := p2.below hbn)
   (try replace HW := HW.below hbn)
   (try replace p9 := p9.below hbn)
   refine ⟨_, rfl, ?_⟩
   simp only [putS]
   refine wpList_nil ?_
   clear hI
   go_upto_region 9 with fail
   refine wp_region_lit ?_
   try simp only [gelS]
   refine wpList_chunk 2 (by kernel_rfl) ?_
   simp only [takS, Nat.reduceAdd]
   repeat (first | go_big_quiet_skip | (go_big_quiet_want; go_big_quiet_op; go_big_quiet_on))
   refine wpQuiet_nil ?_
   refine wpList_nil ?_
   clear p9 k9
   go_wp2
   rw [rounds_succ]
   go_upto_region 4 with fail
   refine wp_region_lit ?_
   try simp only [gelS]
   refine wpList_chunk 1 (by kernel_rfl) ?_
   simp only [takS, Nat.reduceAdd]
   repeat (first | go_big_quiet_skip | (go_big_quiet_want; go_big_quiet_op; go_big_quiet_on))
   refine wpQuiet_nil ?_
   refine wpList_nil ?_
   go_upto_region 5 with fail
   refine wp_region_lit ?_
   try simp only [gelS]
   refine wpList_chunk 2 (by kernel_rfl) ?_
   simp only [takS, Nat.reduceAdd]
   repeat (first | go_big_quiet_skip | (go_big_quiet_want; first | (refine quiet_indexA rfl #[.int .i64 1, .int .i64 0, .int .i64 3] rfl (1) rfl (.int .i64 (0)) (fun w => by kernel_rfl) ?_; simp only [putS]; go_big_quiet_on) | (go_big_quiet_op; go_big_quiet_on)))
   refine wpQuiet_nil ?_
   refine wpList_nil ?_
   go_upto_region 6 with fail
   refine wp_region_lit ?_
   try simp only [gelS]
   refine wpList_chunk 8 (by kernel_rfl) ?_
   simp only [takS, Nat.reduceAdd]
   repeat (first | go_big_quiet_skip | (go_big_quiet_want; first | (refine quiet_loadAny (t := 3) rfl _ _ _ rfl (fun w hw => run_load_int ((ov_B p4 w hw).cellL 2 rfl)) (by rfl) ?_; simp only [putS]; go_big_quiet_on) | (go_big_quiet_op; go_big_quiet_on)))
   refine wpQuiet_nil ?_
   (refine wpList_allocBk (t := 90) rfl _ (run_alloc_St _ _ rfl) ?_; intro b_p9 wn hle hge ht hbn hzn; have hsz := B.size; replace B := B.trans (hbn.mono (by omega)); have hln := Nat.lt_of_lt_of_eq (Nat.lt_succ_self _) hzn.symm; clear hzn; (try have hlt := p4.lt); (try replace p4 := p4.below (hbn.mono hle)); (try have hlt := p1.lt); (try replace p1 := p1.below (hbn.mono hle)); (try have hlt := p2.lt); (try replace p2 := p2.below (hbn.mono hle)); (try have hlt := HW.lt); (try replace HW := HW.below (hbn.mono hle)); have p9 := ht; clear ht; simp only [putS])
   (refine wpList_storeB (t := 90) rfl _ _ rfl _ rfl _ rfl p9 (by kernel_rfl) rfl (by simp [edC, Value.oneCell']) ?_; have p9o := p9; clear p9; intro wn ht hcn hzn; (try replace HW := HW.chg p9o (by omega) hcn); have hsz := B.size; replace hzn := Nat.le_of_eq hzn.symm; replace B := Exc.store B hcn (by omega); (try replace p4 := p4.of_eq (hcn.block _ p4.lt (by omega))); (try replace p1 := p1.of_eq (hcn.block _ p1.lt (by omega))); (try replace p2 := p2.of_eq (hcn.block _ p2.lt (by omega))); (try replace HW := HW.of_eq (hcn.block _ HW.lt (by omega))); have p9 := ht; clear ht; simp only [putS])
   refine wpList_nil ?_
   replace p9 : AtB 90 _ b_p9 #[.int .i64 x', .int .i64 y', .int .i64 d] := p9
   have hI := HI.out.hold HW
   have k9 := p9.lt
   go_upto_region 7 with fail
   refine wp_region_lit ?_
   try simp only [gelS]
   refine wpList_chunk 2 (by kernel_rfl) ?_
   simp only [takS, Nat.reduceAdd]
   repeat (first | go_big_quiet_skip | (go_big_quiet_want; first | (refine quiet_loadAny (t := 90) rfl _ _ _ rfl (fun w hw => run_load_B (ov_B p9 w hw) Tryz.isAgg90 (by kernel_rfl)) (by rfl) ?_; simp only [putS]; go_big_quiet_on) | (refine quiet_loadAny (t := 86) rfl _ _ _ rfl (fun w hw => run_load_B (ov_B p2 w hw) Tryz.isAgg86 (by kernel_rfl)) (by rfl) ?_; simp only [putS]; go_big_quiet_on) | (go_big_quiet_op; go_big_quiet_on)))
   refine wpQuiet_nil ?_
   refine wpList_callF (by first | rfl | simp [Region.wanted, yielded]) rfl (enters_of Tryz.func60 (by kernel_rfl) rfl) (by simp only [Act.eval, evlS]; rfl) ?_
   refine (P_has r t ls th x' y' d true _ hI tk hn bx' by' hd c2).mono ?_
   rintro e wn ⟨rfl, hbn⟩
   have hsz := B.size
   have hzn := hbn.size
   replace B := B.trans (hbn.mono B.size)
   (try replace p4 := p4.below hbn)
   (try replace p1 := p1.below hbn)
   (try replace p2 := p2.below hbn)
   (try replace HW := HW.below hbn)
   (try replace p9 := p9.below hbn)
   refine ⟨_, rfl, ?_⟩
   simp only [putS]
   refine wpList_nil ?_
   clear hI
   go_upto_region 8 with fail
   refine wp_region_lit ?_
   try simp only [gelS]
   refine wpList_chunk 1 (by kernel_rfl) ?_
   simp only [takS, Nat.reduceAdd]
   repeat (first | go_big_quiet_skip | (go_big_quiet_want; first | (refine quiet_loadAny (t := 90) rfl _ _ _ rfl (fun w hw => run_load_B (ov_B p9 w hw) Tryz.isAgg90 (by kernel_rfl)) (by rfl) ?_; simp only [putS]; go_big_quiet_on) | (go_big_quiet_op; go_big_quiet_on)))
   refine wpQuiet_nil ?_
   (refine wpList_storeB (t := 90) rfl _ _ rfl _ rfl _ rfl p4 (by kernel_rfl) rfl (by simp [edC, Value.oneCell']) ?_; have p4o := p4; clear p4; intro wn ht hcn hzn; (try replace HW := HW.chg p4o (by omega) hcn); have hsz := B.size; replace hzn := Nat.le_of_eq hzn.symm; replace B := Exc.chg B hcn; (try replace p1 := p1.of_eq (hcn.block _ p1.lt (by omega))); (try replace p2 := p2.of_eq (hcn.block _ p2.lt (by omega))); (try replace HW := HW.of_eq (hcn.block _ HW.lt (by omega))); (try replace p9 := p9.of_eq (hcn.block _ p9.lt (by omega))); have p4 := ht; clear ht; simp only [putS])
   refine wpList_nil ?_
   replace p4 : AtB 90 _ c #[.int .i64 x', .int .i64 y', .int .i64 d] := p4
   replace p4 : AtB 90 _ c (edC ⟨x', y', d⟩) := p4
   rw [← HD.out] at p4
   go_upto_region 10 with fail
   by_cases hlast : k + 1 = perE (setG ls th) R s
   ·have he2 := hend.out hlast
    have q2 : decide ((⟨x', y', d'⟩ : Ed) = s) = true := decide_eq_true he2
    refine wp_region_lit ?_
    try simp only [gelS]
    refine wpList_chunk 3 (by kernel_rfl) ?_
    simp only [takS, Nat.reduceAdd]
    repeat (first | go_big_quiet_skip | (go_big_quiet_want; first | (refine quiet_loadAny (t := 90) rfl _ _ _ rfl (fun w hw => run_load_B (ov_B p4 w hw) Tryz.isAgg90 (by kernel_rfl)) (by rfl) ?_; simp only [putS]; go_big_quiet_on) | (refine quiet_loadAny (t := 90) rfl _ _ _ rfl (fun w hw => run_load_B (ov_B p1 w hw) Tryz.isAgg90 (by kernel_rfl)) (by rfl) ?_; simp only [putS]; go_big_quiet_on) | (refine quiet_eqlS rfl ⟨x', y', d'⟩ s rfl rfl _ q2 ?_; simp only [putS]; go_big_quiet_on) | (go_big_quiet_op; go_big_quiet_on)))
    refine wpQuiet_nil ?_
    refine wpList_nil ?_
    go_wp2
    refine bodyPost_ret (results_none rfl _ _ _) rfl ?_
    exact ⟨⟨_, rfl⟩, _, rfl, by unfold folE; rw [← hlast]; exact HJ.out _ _ _ hJ1 B⟩
   ·have q2 : decide ((⟨x', y', d'⟩ : Ed) = s) = false := decide_eq_false (hgo.out (by omega))
    refine wp_region_lit ?_
    try simp only [gelS]
    refine wpList_chunk 3 (by kernel_rfl) ?_
    simp only [takS, Nat.reduceAdd]
    repeat (first | go_big_quiet_skip | (go_big_quiet_want; first | (refine quiet_loadAny (t := 90) rfl _ _ _ rfl (fun w hw => run_load_B (ov_B p4 w hw) Tryz.isAgg90 (by kernel_rfl)) (by rfl) ?_; simp only [putS]; go_big_quiet_on) | (refine quiet_loadAny (t := 90) rfl _ _ _ rfl (fun w hw => run_load_B (ov_B p1 w hw) Tryz.isAgg90 (by kernel_rfl)) (by rfl) ?_; simp only [putS]; go_big_quiet_on) | (refine quiet_eqlS rfl ⟨x', y', d'⟩ s rfl rfl _ q2 ?_; simp only [putS]; go_big_quiet_on) | (go_big_quiet_op; go_big_quiet_on)))
    refine wpQuiet_nil ?_
    refine wpList_nil ?_
    go_wp2
    have hR2 : ∃ k, (m - 1) + k = perE (setG ls th) R s ∧ 0 < (m - 1) ∧ J (orbK (setG ls th) s k) wn ∧ AtB 90 wn c (edC (orbE (setG ls th) s k)) ∧ AtB 90 wn bs (edC s) ∧ AtB 86 wn bb #[fB r t] ∧ HoldC wI.heap.size wI wn :=
     ⟨k + 1, by omega, by omega, HJ.out _ _ _ hJ1 B, by rw [HE'.out]; exact p4, p1, p2, HW⟩
    go_roundw
    case rel => exact ⟨_, hR2⟩
    case measure => exact Nat.lt_of_le_of_lt (eps_le hR2) (by omega)
  ·have HD := Lib.hid hd'
   clear hd'
   go_upto_region 4 with fail
   refine wp_region_lit ?_
   try simp only [gelS]
   refine wpList_chunk 1 (by kernel_rfl) ?_
   simp only [takS, Nat.reduceAdd]
   repeat (first | go_big_quiet_skip | (go_big_quiet_want; go_big_quiet_op; go_big_quiet_on))
   refine wpQuiet_nil ?_
   refine wpList_nil ?_
   go_upto_region 5 with fail
   refine wp_region_lit ?_
   try simp only [gelS]
   refine wpList_chunk 2 (by kernel_rfl) ?_
   simp only [takS, Nat.reduceAdd]
   repeat (first | go_big_quiet_skip | (go_big_quiet_want; first | (refine quiet_indexA rfl #[.int .i64 1, .int .i64 0, .int .i64 3] rfl (0) rfl (.int .i64 (1)) (fun w => by kernel_rfl) ?_; simp only [putS]; go_big_quiet_on) | (go_big_quiet_op; go_big_quiet_on)))
   refine wpQuiet_nil ?_
   refine wpList_nil ?_
   go_upto_region 6 with fail
   refine wp_region_lit ?_
   try simp only [gelS]
   refine wpList_chunk 8 (by kernel_rfl) ?_
   simp only [takS, Nat.reduceAdd]
   repeat (first | go_big_quiet_skip | (go_big_quiet_want; first | (refine quiet_loadAny (t := 3) rfl _ _ _ rfl (fun w hw => run_load_int ((ov_B p4 w hw).cellL 2 rfl)) (by rfl) ?_; simp only [putS]; go_big_quiet_on) | (go_big_quiet_op; go_big_quiet_on)))
   refine wpQuiet_nil ?_
   (refine wpList_allocBk (t := 90) rfl _ (run_alloc_St _ _ rfl) ?_; intro b_p9 wn hle hge ht hbn hzn; have hsz := B.size; replace B := B.trans (hbn.mono (by omega)); have hln := Nat.lt_of_lt_of_eq (Nat.lt_succ_self _) hzn.symm; clear hzn; (try have hlt := p4.lt); (try replace p4 := p4.below (hbn.mono hle)); (try have hlt := p1.lt); (try replace p1 := p1.below (hbn.mono hle)); (try have hlt := p2.lt); (try replace p2 := p2.below (hbn.mono hle)); (try have hlt := HW.lt); (try replace HW := HW.below (hbn.mono hle)); have p9 := ht; clear ht; simp only [putS])
   (refine wpList_storeB (t := 90) rfl _ _ rfl _ rfl _ rfl p9 (by kernel_rfl) rfl (by simp [edC, Value.oneCell']) ?_; have p9o := p9; clear p9; intro wn ht hcn hzn; (try replace HW := HW.chg p9o (by omega) hcn); have hsz := B.size; replace hzn := Nat.le_of_eq hzn.symm; replace B := Exc.store B hcn (by omega); (try replace p4 := p4.of_eq (hcn.block _ p4.lt (by omega))); (try replace p1 := p1.of_eq (hcn.block _ p1.lt (by omega))); (try replace p2 := p2.of_eq (hcn.block _ p2.lt (by omega))); (try replace HW := HW.of_eq (hcn.block _ HW.lt (by omega))); have p9 := ht; clear ht; simp only [putS])
   refine wpList_nil ?_
   replace p9 : AtB 90 _ b_p9 #[.int .i64 x', .int .i64 y', .int .i64 q1] := p9
   have hI := HI.out.hold HW
   have k9 := p9.lt
   go_upto_region 7 with fail
   refine wp_region_lit ?_
   try simp only [gelS]
   refine wpList_chunk 2 (by kernel_rfl) ?_
   simp only [takS, Nat.reduceAdd]
   repeat (first | go_big_quiet_skip | (go_big_quiet_want; first | (refine quiet_loadAny (t := 90) rfl _ _ _ rfl (fun w hw => run_load_B (ov_B p9 w hw) Tryz.isAgg90 (by kernel_rfl)) (by rfl) ?_; simp only [putS]; go_big_quiet_on) | (refine quiet_loadAny (t := 86) rfl _ _ _ rfl (fun w hw => run_load_B (ov_B p2 w hw) Tryz.isAgg86 (by kernel_rfl)) (by rfl) ?_; simp only [putS]; go_big_quiet_on) | (go_big_quiet_op; go_big_quiet_on)))
   refine wpQuiet_nil ?_
   refine wpList_callF (by first | rfl | simp [Region.wanted, yielded]) rfl (enters_of Tryz.func60 (by kernel_rfl) rfl) (by simp only [Act.eval, evlS]; rfl) ?_
   refine (P_has r t ls th x' y' q1 false _ hI tk hn bx' by' b1 c1).mono ?_
   rintro e wn ⟨rfl, hbn⟩
   have hsz := B.size
   have hzn := hbn.size
   replace B := B.trans (hbn.mono B.size)
   (try replace p4 := p4.below hbn)
   (try replace p1 := p1.below hbn)
   (try replace p2 := p2.below hbn)
   (try replace HW := HW.below hbn)
   (try replace p9 := p9.below hbn)
   refine ⟨_, rfl, ?_⟩
   simp only [putS]
   refine wpList_nil ?_
   clear hI
   go_upto_region 9 with fail
   refine wp_region_lit ?_
   try simp only [gelS]
   refine wpList_chunk 2 (by kernel_rfl) ?_
   simp only [takS, Nat.reduceAdd]
   repeat (first | go_big_quiet_skip | (go_big_quiet_want; go_big_quiet_op; go_big_quiet_on))
   refine wpQuiet_nil ?_
   refine wpList_nil ?_
   clear p9 k9
   go_wp2
   rw [rounds_succ]
   go_upto_region 4 with fail
   refine wp_region_lit ?_
   try simp only [gelS]
   refine wpList_chunk 1 (by kernel_rfl) ?_
   simp only [takS, Nat.reduceAdd]
   repeat (first | go_big_quiet_skip | (go_big_quiet_want; go_big_quiet_op; go_big_quiet_on))
   refine wpQuiet_nil ?_
   refine wpList_nil ?_
   go_upto_region 5 with fail
   refine wp_region_lit ?_
   try simp only [gelS]
   refine wpList_chunk 2 (by kernel_rfl) ?_
   simp only [takS, Nat.reduceAdd]
   repeat (first | go_big_quiet_skip | (go_big_quiet_want; first | (refine quiet_indexA rfl #[.int .i64 1, .int .i64 0, .int .i64 3] rfl (1) rfl (.int .i64 (0)) (fun w => by kernel_rfl) ?_; simp only [putS]; go_big_quiet_on) | (go_big_quiet_op; go_big_quiet_on)))
   refine wpQuiet_nil ?_
   refine wpList_nil ?_
   go_upto_region 6 with fail
   refine wp_region_lit ?_
   try simp only [gelS]
   refine wpList_chunk 8 (by kernel_rfl) ?_
   simp only [takS, Nat.reduceAdd]
   repeat (first | go_big_quiet_skip | (go_big_quiet_want; first | (refine quiet_loadAny (t := 3) rfl _ _ _ rfl (fun w hw => run_load_int ((ov_B p4 w hw).cellL 2 rfl)) (by rfl) ?_; simp only [putS]; go_big_quiet_on) | (go_big_quiet_op; go_big_quiet_on)))
   refine wpQuiet_nil ?_
   (refine wpList_allocBk (t := 90) rfl _ (run_alloc_St _ _ rfl) ?_; intro b_p9 wn hle hge ht hbn hzn; have hsz := B.size; replace B := B.trans (hbn.mono (by omega)); have hln := Nat.lt_of_lt_of_eq (Nat.lt_succ_self _) hzn.symm; clear hzn; (try have hlt := p4.lt); (try replace p4 := p4.below (hbn.mono hle)); (try have hlt := p1.lt); (try replace p1 := p1.below (hbn.mono hle)); (try have hlt := p2.lt); (try replace p2 := p2.below (hbn.mono hle)); (try have hlt := HW.lt); (try replace HW := HW.below (hbn.mono hle)); have p9 := ht; clear ht; simp only [putS])
   (refine wpList_storeB (t := 90) rfl _ _ rfl _ rfl _ rfl p9 (by kernel_rfl) rfl (by simp [edC, Value.oneCell']) ?_; have p9o := p9; clear p9; intro wn ht hcn hzn; (try replace HW := HW.chg p9o (by omega) hcn); have hsz := B.size; replace hzn := Nat.le_of_eq hzn.symm; replace B := Exc.store B hcn (by omega); (try replace p4 := p4.of_eq (hcn.block _ p4.lt (by omega))); (try replace p1 := p1.of_eq (hcn.block _ p1.lt (by omega))); (try replace p2 := p2.of_eq (hcn.block _ p2.lt (by omega))); (try replace HW := HW.of_eq (hcn.block _ HW.lt (by omega))); have p9 := ht; clear ht; simp only [putS])
   refine wpList_nil ?_
   replace p9 : AtB 90 _ b_p9 #[.int .i64 x', .int .i64 y', .int .i64 d] := p9
   have hI := HI.out.hold HW
   have k9 := p9.lt
   go_upto_region 7 with fail
   refine wp_region_lit ?_
   try simp only [gelS]
   refine wpList_chunk 2 (by kernel_rfl) ?_
   simp only [takS, Nat.reduceAdd]
   repeat (first | go_big_quiet_skip | (go_big_quiet_want; first | (refine quiet_loadAny (t := 90) rfl _ _ _ rfl (fun w hw => run_load_B (ov_B p9 w hw) Tryz.isAgg90 (by kernel_rfl)) (by rfl) ?_; simp only [putS]; go_big_quiet_on) | (refine quiet_loadAny (t := 86) rfl _ _ _ rfl (fun w hw => run_load_B (ov_B p2 w hw) Tryz.isAgg86 (by kernel_rfl)) (by rfl) ?_; simp only [putS]; go_big_quiet_on) | (go_big_quiet_op; go_big_quiet_on)))
   refine wpQuiet_nil ?_
   refine wpList_callF (by first | rfl | simp [Region.wanted, yielded]) rfl (enters_of Tryz.func60 (by kernel_rfl) rfl) (by simp only [Act.eval, evlS]; rfl) ?_
   refine (P_has r t ls th x' y' d false _ hI tk hn bx' by' hd c2).mono ?_
   rintro e wn ⟨rfl, hbn⟩
   have hsz := B.size
   have hzn := hbn.size
   replace B := B.trans (hbn.mono B.size)
   (try replace p4 := p4.below hbn)
   (try replace p1 := p1.below hbn)
   (try replace p2 := p2.below hbn)
   (try replace HW := HW.below hbn)
   (try replace p9 := p9.below hbn)
   refine ⟨_, rfl, ?_⟩
   simp only [putS]
   refine wpList_nil ?_
   clear hI
   go_upto_region 9 with fail
   refine wp_region_lit ?_
   try simp only [gelS]
   refine wpList_chunk 2 (by kernel_rfl) ?_
   simp only [takS, Nat.reduceAdd]
   repeat (first | go_big_quiet_skip | (go_big_quiet_want; go_big_quiet_op; go_big_quiet_on))
   refine wpQuiet_nil ?_
   refine wpList_nil ?_
   clear p9 k9
   go_wp2
   rw [rounds_succ]
   go_upto_region 4 with fail
   refine wp_region_lit ?_
   try simp only [gelS]
   refine wpList_chunk 1 (by kernel_rfl) ?_
   simp only [takS, Nat.reduceAdd]
   repeat (first | go_big_quiet_skip | (go_big_quiet_want; go_big_quiet_op; go_big_quiet_on))
   refine wpQuiet_nil ?_
   refine wpList_nil ?_
   go_upto_region 5 with fail
   refine wp_region_lit ?_
   try simp only [gelS]
   refine wpList_chunk 2 (by kernel_rfl) ?_
   simp only [takS, Nat.reduceAdd]
   repeat (first | go_big_quiet_skip | (go_big_quiet_want; first | (refine quiet_indexA rfl #[.int .i64 1, .int .i64 0, .int .i64 3] rfl (2) rfl (.int .i64 (3)) (fun w => by kernel_rfl) ?_; simp only [putS]; go_big_quiet_on) | (go_big_quiet_op; go_big_quiet_on)))
   refine wpQuiet_nil ?_
   refine wpList_nil ?_
   go_upto_region 6 with fail
   refine wp_region_lit ?_
   try simp only [gelS]
   refine wpList_chunk 8 (by kernel_rfl) ?_
   simp only [takS, Nat.reduceAdd]
   repeat (first | go_big_quiet_skip | (go_big_quiet_want; first | (refine quiet_loadAny (t := 3) rfl _ _ _ rfl (fun w hw => run_load_int ((ov_B p4 w hw).cellL 2 rfl)) (by rfl) ?_; simp only [putS]; go_big_quiet_on) | (go_big_quiet_op; go_big_quiet_on)))
   refine wpQuiet_nil ?_
   (refine wpList_allocBk (t := 90) rfl _ (run_alloc_St _ _ rfl) ?_; intro b_p9 wn hle hge ht hbn hzn; have hsz := B.size; replace B := B.trans (hbn.mono (by omega)); have hln := Nat.lt_of_lt_of_eq (Nat.lt_succ_self _) hzn.symm; clear hzn; (try have hlt := p4.lt); (try replace p4 := p4.below (hbn.mono hle)); (try have hlt := p1.lt); (try replace p1 := p1.below (hbn.mono hle)); (try have hlt := p2.lt); (try replace p2 := p2.below (hbn.mono hle)); (try have hlt := HW.lt); (try replace HW := HW.below (hbn.mono hle)); have p9 := ht; clear ht; simp only [putS])
   (refine wpList_storeB (t := 90) rfl _ _ rfl _ rfl _ rfl p9 (by kernel_rfl) rfl (by simp [edC, Value.oneCell']) ?_; have p9o := p9; clear p9; intro wn ht hcn hzn; (try replace HW := HW.chg p9o (by omega) hcn); have hsz := B.size; replace hzn := Nat.le_of_eq hzn.symm; replace B := Exc.store B hcn (by omega); (try replace p4 := p4.of_eq (hcn.block _ p4.lt (by omega))); (try replace p1 := p1.of_eq (hcn.block _ p1.lt (by omega))); (try replace p2 := p2.of_eq (hcn.block _ p2.lt (by omega))); (try replace HW := HW.of_eq (hcn.block _ HW.lt (by omega))); have p9 := ht; clear ht; simp only [putS])
   refine wpList_nil ?_
   replace p9 : AtB 90 _ b_p9 #[.int .i64 x', .int .i64 y', .int .i64 q3] := p9
   have hI := HI.out.hold HW
   have k9 := p9.lt
   go_upto_region 7 with fail
   refine wp_region_lit ?_
   try simp only [gelS]
   refine wpList_chunk 2 (by kernel_rfl) ?_
   simp only [takS, Nat.reduceAdd]
   repeat (first | go_big_quiet_skip | (go_big_quiet_want; first | (refine quiet_loadAny (t := 90) rfl _ _ _ rfl (fun w hw => run_load_B (ov_B p9 w hw) Tryz.isAgg90 (by kernel_rfl)) (by rfl) ?_; simp only [putS]; go_big_quiet_on) | (refine quiet_loadAny (t := 86) rfl _ _ _ rfl (fun w hw => run_load_B (ov_B p2 w hw) Tryz.isAgg86 (by kernel_rfl)) (by rfl) ?_; simp only [putS]; go_big_quiet_on) | (go_big_quiet_op; go_big_quiet_on)))
   refine wpQuiet_nil ?_
   refine wpList_callF (by first | rfl | simp [Region.wanted, yielded]) rfl (enters_of Tryz.func60 (by kernel_rfl) rfl) (by simp only [Act.eval, evlS]; rfl) ?_
   refine (P_has r t ls th x' y' q3 true _ hI tk hn bx' by' b3 c3).mono ?_
   rintro e wn ⟨rfl, hbn⟩
   have hsz := B.size
   have hzn := hbn.size
   replace B := B.trans (hbn.mono B.size)
   (try replace p4 := p4.below hbn)
   (try replace p1 := p1.below hbn)
   (try replace p2 := p2.below hbn)
   (try replace HW := HW.below hbn)
   (try replace p9 := p9.below hbn)
   refine ⟨_, rfl, ?_⟩
   simp only [putS]
   refine wpList_nil ?_
   clear hI
   go_upto_region 8 with fail
   refine wp_region_lit ?_
   try simp only [gelS]
   refine wpList_chunk 1 (by kernel_rfl) ?_
   simp only [takS, Nat.reduceAdd]
   repeat (first | go_big_quiet_skip | (go_big_quiet_want; first | (refine quiet_loadAny (t := 90) rfl _ _ _ rfl (fun w hw => run_load_B (ov_B p9 w hw) Tryz.isAgg90 (by kernel_rfl)) (by rfl) ?_; simp only [putS]; go_big_quiet_on) | (go_big_quiet_op; go_big_quiet_on)))
   refine wpQuiet_nil ?_
   (refine wpList_storeB (t := 90) rfl _ _ rfl _ rfl _ rfl p4 (by kernel_rfl) rfl (by simp [edC, Value.oneCell']) ?_; have p4o := p4; clear p4; intro wn ht hcn hzn; (try replace HW := HW.chg p4o (by omega) hcn); have hsz := B.size; replace hzn := Nat.le_of_eq hzn.symm; replace B := Exc.chg B hcn; (try replace p1 := p1.of_eq (hcn.block _ p1.lt (by omega))); (try replace p2 := p2.of_eq (hcn.block _ p2.lt (by omega))); (try replace HW := HW.of_eq (hcn.block _ HW.lt (by omega))); have p4 := ht; clear ht; simp only [putS])
   refine wpList_nil ?_
   replace p4 : AtB 90 _ c #[.int .i64 x', .int .i64 y', .int .i64 q3] := p4
   replace p4 : AtB 90 _ c (edC ⟨x', y', q3⟩) := p4
   rw [← HD.out] at p4
   go_upto_region 10 with fail
   by_cases hlast : k + 1 = perE (setG ls th) R s
   ·have he2 := hend.out hlast
    have q2 : decide ((⟨x', y', d'⟩ : Ed) = s) = true := decide_eq_true he2
    refine wp_region_lit ?_
    try simp only [gelS]
    refine wpList_chunk 3 (by kernel_rfl) ?_
    simp only [takS, Nat.reduceAdd]
    repeat (first | go_big_quiet_skip | (go_big_quiet_want; first | (refine quiet_loadAny (t := 90) rfl _ _ _ rfl (fun w hw => run_load_B (ov_B p4 w hw) Tryz.isAgg90 (by kernel_rfl)) (by rfl) ?_; simp only [putS]; go_big_quiet_on) | (refine quiet_loadAny (t := 90) rfl _ _ _ rfl (fun w hw => run_load_B (ov_B p1 w hw) Tryz.isAgg90 (by kernel_rfl)) (by rfl) ?_; simp only [putS]; go_big_quiet_on) | (refine quiet_eqlS rfl ⟨x', y', d'⟩ s rfl rfl _ q2 ?_; simp only [putS]; go_big_quiet_on) | (go_big_quiet_op; go_big_quiet_on)))
    refine wpQuiet_nil ?_
    refine wpList_nil ?_
    go_wp2
    refine bodyPost_ret (results_none rfl _ _ _) rfl ?_
    exact ⟨⟨_, rfl⟩, _, rfl, by unfold folE; rw [← hlast]; exact HJ.out _ _ _ hJ1 B⟩
   ·have q2 : decide ((⟨x', y', d'⟩ : Ed) = s) = false := decide_eq_false (hgo.out (by omega))
    refine wp_region_lit ?_
    try simp only [gelS]
    refine wpList_chunk 3 (by kernel_rfl) ?_
    simp only [takS, Nat.reduceAdd]
    repeat (first | go_big_quiet_skip | (go_big_quiet_want; first | (refine quiet_loadAny (t := 90) rfl _ _ _ rfl (fun w hw => run_load_B (ov_B p4 w hw) Tryz.isAgg90 (by kernel_rfl)) (by rfl) ?_; simp only [putS]; go_big_quiet_on) | (refine quiet_loadAny (t := 90) rfl _ _ _ rfl (fun w hw => run_load_B (ov_B p1 w hw) Tryz.isAgg90 (by kernel_rfl)) (by rfl) ?_; simp only [putS]; go_big_quiet_on) | (refine quiet_eqlS rfl ⟨x', y', d'⟩ s rfl rfl _ q2 ?_; simp only [putS]; go_big_quiet_on) | (go_big_quiet_op; go_big_quiet_on)))
    refine wpQuiet_nil ?_
    refine wpList_nil ?_
    go_wp2
    have hR2 : ∃ k, (m - 1) + k = perE (setG ls th) R s ∧ 0 < (m - 1) ∧ J (orbK (setG ls th) s k) wn ∧ AtB 90 wn c (edC (orbE (setG ls th) s k)) ∧ AtB 90 wn bs (edC s) ∧ AtB 86 wn bb #[fB r t] ∧ HoldC wI.heap.size wI wn :=
     ⟨k + 1, by omega, by omega, HJ.out _ _ _ hJ1 B, by rw [HE'.out]; exact p4, p1, p2, HW⟩
    go_roundw
    case rel => exact ⟨_, hR2⟩
    case measure => exact Nat.lt_of_le_of_lt (eps_le hR2) (by omega)
end Go.Proofs.YtamgpfblhlfhaaaGreat
/- The map of the edges that are done; marks of several ranges. -/
namespace Go.Proofs.YtamgpfblhlfhaaaGreat
open Go.RowKit Go.Shelf Pl
set_option linter.unusedVariables false
set_option linter.unusedSimpArgs false
set_option maxRecDepth 20000
theorem laidP : laidOutB Tryz.prog = true := by kernel_rfl
theorem stepK : Go.Maps.Keyed Tryz.prog 90 := Go.Maps.Keyed.of_law (deep_law_gate laidP (of_decide_eq_true (by kernel_rfl)) (of_decide_eq_true (by kernel_rfl)) (by kernel_rfl) (by rw [Tryz.underlying90]))
def keyE (e : Ed) : Lit := .string (keyBytes [.int .i64 e.x, .int .i64 e.y, .int .i64 e.d])
def WfE (e : Ed) : Prop := (Lit.int .i64 e.x).wf = true ∧ (Lit.int .i64 e.y).wf = true ∧ (Lit.int .i64 e.d).wf = true
theorem key_at {e : Ed} (h : WfE e) : keyOf Tryz.prog 90 (.agg (edC e)) = some (keyE e) := by
 obtain ⟨h1, h2, h3⟩ := h
 have ht : Tryz.prog.keyType 90 = true := by kernel_rfl
 have hc : Tryz.prog.cellsOf 90 = 3 := by kernel_rfl
 have hi : Tryz.prog.cellsOf 3 = 1 := by kernel_rfl
 unfold keyOf
 rw [Tryz.underlying90]
 simp only [ht]
 have hf : (Value.agg (edC e)).formed Tryz.prog 90 = true := by simp [Value.formed, Tryz.underlying90, hc, edC]
 rw [hf]
 have hpos : 1 ≤ Tryz.prog.types.size := of_decide_eq_true (by kernel_rfl)
 obtain ⟨M, hM⟩ : ∃ M, Tryz.prog.types.size = M + 1 := ⟨Tryz.prog.types.size - 1, by omega⟩
 rw [hM]
 simp only [Bool.and_self, if_true, Program.keyLits, Tryz.underlying90, hc]
 simp [edC, Value.cells, hi, Tryz.underlying3, h1, h2, h3, keyE]
theorem key_inj {e f : Ed} (he : WfE e) (hf : WfE f) (h : keyE e = keyE f) : e = f := by
 have h1 := key_at he
 rw [h] at h1
 have := stepK.inj h1 (key_at hf)
 obtain ⟨x, y, d⟩ := e
 obtain ⟨x', y', d'⟩ := f
 simpa [edC] using this
/-- The block b is the map of the edges L. -/
def DoneM (b : Nat) (L : List Ed) (w : World) : Prop := (∀ e ∈ L, WfE e) ∧ ∃ n, n ≤ L.length ∧ w.ownsMap Tryz.prog 90 (plainElem (H := Unit) Tryz.prog 4) b n (Maps.setOf (.lit (.bool true)) (L.map keyE))
theorem DoneM.lt {b : Nat} {L : List Ed} {w : World} (h : DoneM b L w) : b < w.heap.size := by
 obtain ⟨_, n, _, h⟩ := h
 exact h.lt
theorem DoneM.kept {b : Nat} {L : List Ed} {w w' : World} {row : Option Nat} (h : DoneM b L w) (hg : w.grownBy w' row) (hne : some b ≠ row) : DoneM b L w' := by
 obtain ⟨h1, n, h2, h⟩ := h
 exact ⟨h1, n, h2, h.kept hg hne⟩
theorem DoneM.below {b : Nat} {L : List Ed} {w w' : World} (h : DoneM b L w) (hb : Below w.heap.size w w') : DoneM b L w' := h.kept (grown_of_below hb) (fun e => by cases e)
theorem DoneM.obj {b : Nat} {L : List Ed} {w : World} (h : DoneM b L w) : ∃ es c, w.heap[b]? = some (.map es c) := by
 obtain ⟨_, n, _, es, c, h, _⟩ := h
 exact ⟨es, c, h⟩
theorem DoneM.chg {b c : Nat} {L : List Ed} {t : TypeId} {cs : Array Value} {w w' : World} (h : DoneM b L w) (ha : AtB t w c cs) (_ : True) (hc : Chg c w w') : DoneM b L w' :=
 h.kept (row := some c) ⟨hc.os, hc.tape, hc.output, hc.size, fun k hk hne => hc.block k hk (fun e => hne (by rw [e]))⟩ (fun e => by
  injection e with e
  obtain ⟨es, cl, ho⟩ := h.obj
  rw [e, show w.heap[c]? = _ from ha] at ho
  cases ho)
theorem DoneM.nil {b : Nat} {w : World} (h : w.heap[b]? = some (.map #[] 0)) : DoneM b [] w := ⟨fun e he => (by cases he), 0, Nat.le_refl _, Go.Joins.ownsMap_empty h⟩
theorem atKey_fold (u z : DataW Unit) (k : Lit) : ∀ (acc : List Lit) (m : DataW Unit), Maps.IsMap m → (∀ x ∈ acc, WideAt.IsKeyLit x) → (k ∈ acc → (acc.foldl (fun m x => m.put x u) m).atKey k z = u) ∧ (k ∉ acc → (acc.foldl (fun m x => m.put x u) m).atKey k z = m.atKey k z)
 | [], m, _, _ => ⟨fun h => (by cases h), fun _ => rfl⟩
 | x :: r, m, hm, h => by
  rw [List.foldl_cons]
  obtain ⟨i1, i2⟩ := atKey_fold u z k r (m.put x u) (hm.put x u) (fun y hy => h y (by simp [hy]))
  refine ⟨fun hk => ?_, fun hk => ?_⟩
  ·by_cases hr : k ∈ r
   ·exact i1 hr
   ·rw [i2 hr]
    rcases List.mem_cons.1 hk with e | e
    ·subst e
     exact Maps.atKey_put_same hm (h k (by simp)) u z
    ·exact absurd e hr
  ·rw [i2 (fun hr => hk (List.mem_cons_of_mem _ hr)), Maps.atKey_put_other (fun e => hk (by rw [e]; simp))]
theorem atKey_done {L : List Ed} {e : Ed} (hL : ∀ f ∈ L, WfE f) (he : WfE e) : (Maps.setOf (.lit (.bool true)) (L.map keyE) : DataW Unit).atKey (keyE e) (.lit (.bool false)) = .lit (.bool (decide (e ∈ L))) := by
 unfold Maps.setOf
 obtain ⟨i1, i2⟩ := atKey_fold (.lit (.bool true)) (.lit (.bool false)) (keyE e) (L.map keyE) (.map []) Maps.isMap_empty (fun x hx => by
  obtain ⟨f, hf, rfl⟩ := List.mem_map.1 hx
  exact stepK.key (key_at (hL f hf)))
 by_cases h : e ∈ L
 ·rw [i1 (List.mem_map.2 ⟨e, h, rfl⟩), decide_eq_true h]
 ·rw [i2 (fun hm => by
   obtain ⟨f, hf, hk⟩ := List.mem_map.1 hm
   exact h (key_inj (hL f hf) he hk ▸ hf)), decide_eq_false h]
  rfl
theorem DoneM.look {b : Nat} {L : List Ed} {w : World} (h : DoneM b L w) {e : Ed} (he : WfE e) : (Instr.lookup 87 (.map (some b)) (.agg (edC e)) false).run Tryz.prog w = .ok (.bool (decide (e ∈ L))) w := by
 obtain ⟨h1, n, _, ho⟩ := h
 obtain ⟨v, ps, hr, hv⟩ := ho.lookup (t := 87) (e := 4) stepK Tryz.underlying87 (z := .bool false) (by kernel_rfl) (zd := .lit (.bool false)) (zp := []) (by unfold plainElem; rw [Tryz.underlying4]) (key_at he)
 rw [atKey_done h1 he] at hv
 rw [hr]
 unfold plainElem at hv
 rw [Tryz.underlying4] at hv
 cases v <;> simp at hv
 rw [hv.1]
section
variable {ops : Array Oper} {rest : List Oper} {o : Oper} {a : Act} {w : World} {Q : Exit → Act → World → Prop}
theorem wpList_done (hg : o.guard = none) (m x : Operand) (hop : o.op = .mapUpdate 87 m x (.const (.bool true))) {b : Nat} {L : List Ed} (hm : a.eval m = .map (some b)) (hd : DoneM b L w) (e : Ed) (hx : a.eval x = .agg (edC e)) (he : WfE e) (hn : L.length < maxLen)
  (h : ∀ w', DoneM b (L ++ [e]) w' → w.grownBy w' (some b) → wpList Tryz.prog ops Q rest (a.put o.dst undef) w') : wpList Tryz.prog ops Q (o :: rest) a w := by
 obtain ⟨h1, n, hnl, ho⟩ := hd
 refine wpList_mapUpdate_own (H := Unit) w hg m x (.const (.bool true)) 87 hop 90 4 stepK Tryz.underlying87 _ b n _ hm ho (by omega) _ (.bool true) _ hx rfl (key_at he) (.lit (.bool true)) [] (by unfold plainElem; rw [Tryz.underlying4]) fun w' h2 h3 => h w' ⟨fun f hf => ?_, n + 1, by rw [List.length_append]; simp; omega, ?_⟩ h3
 ·rcases List.mem_append.1 hf with hf | hf
  ·exact h1 f hf
  ·rw [List.mem_singleton.1 hf]; exact he
 ·rw [List.map_append, List.map_singleton, Maps.setOf_snoc]
  exact h2
end
/-! ### Marks -/
/-- The marks that ranges have left: blocks from n on, each another. -/
def Marks (n : Nat) : List Deferred → World → Prop
 | [], _ => True
 | d :: ds, w => (∃ D, d = { target := .collected D, args := #[] } ∧ n ≤ D ∧ DefAt w D ∧ ∀ D', { target := .collected D', args := #[] } ∈ ds → D' ≠ D) ∧ Marks n ds w
theorem Marks.kept {n : Nat} {w w' : World} : ∀ {ds : List Deferred}, Marks n ds w → (∀ D, DefAt w D → { target := .collected D, args := #[] } ∈ ds → DefAt w' D) → Marks n ds w'
 | [], _, _ => trivial
 | d :: ds, ⟨⟨D, e, hn, hD, hne⟩, h⟩, hk => ⟨⟨D, e, hn, hk D hD (by rw [e]; simp), hne⟩, Marks.kept h (fun D' h1 h2 => hk D' h1 (by simp [h2]))⟩
theorem Marks.below {n : Nat} {w w' : World} {ds : List Deferred} (h : Marks n ds w) (hb : Below w.heap.size w w') : Marks n ds w' := h.kept fun D hD _ => hD.of_eq (hb.block _ hD.lt)
theorem Marks.chg {n c : Nat} {ds : List Deferred} {t : TypeId} {cs : Array Value} {w w' : World} (h : Marks n ds w) (ha : AtB t w c cs) (_ : True) (hc : Chg c w w') : Marks n ds w' := h.kept fun D hD _ => hD.of_eq (hc.block _ hD.lt (fun e => hD.ne ha e.symm))
theorem Marks.lt {n : Nat} {w : World} : ∀ {ds : List Deferred}, Marks n ds w → ∀ D, { target := .collected D, args := #[] } ∈ ds → D < w.heap.size
 | d :: ds, ⟨⟨D, e, hn, hD, hne⟩, h⟩, D', hm => by
  rcases List.mem_cons.1 hm with hm | hm
  ·rw [e] at hm
   simp at hm
   rw [hm]; exact hD.lt
  ·exact Marks.lt h D' hm
theorem Marks.leaves {F : Fence} {m : Nat} {P : Program} {fn : Func} {tmps : Array Value} {R : Ending → World → Prop} {n : Nat} {I : World → Prop} (hI : ∀ w D, n ≤ D → DefAt w D → I w → I (w.putObj D (.deferred none))) (hR : ∀ w, I w → LeavesIn F m P fn tmps R [] .returning w) :
  ∀ {ds : List Deferred} {w : World}, Marks n ds w → I w → LeavesInM F m P fn tmps R ds .returning w
 | [], w, _, h => hR w h
 | d :: ds, w, ⟨⟨D, e, hn, hD, hne⟩, h⟩, hi => by
  refine ⟨by simp, .inl ⟨D, _, by rw [e], run_takeDeferred hD, ?_⟩⟩
  refine Marks.leaves hI hR (h.kept fun D' h1 h2 => ?_) (hI w D hn hD hi)
  exact (World.putObj_heap_other (hne D' h2)).trans h1
/- Lists of edges; lists of polygons: slices of slices that the call owns. -/
def edE : Elt Ed 3 90 92 where
 enc := edC
 bytes := 24
 zero := ⟨0, 0, 0⟩
 size := fun _ => rfl
 one := fun x u hu => by
  have : u ∈ [Value.int .i64 x.x, .int .i64 x.y, .int .i64 x.d] := hu
  rcases List.mem_cons.1 this with rfl | this
  ·rfl
  ·rcases List.mem_cons.1 this with rfl | this
   ·rfl
   ·rw [List.mem_singleton.1 this]; rfl
 pos := by omega
 small := by omega
 und := Tryz.underlying92
 info := by kernel_rfl
 zer := by kernel_rfl
structure Slc where
 a : Option Addr
 n : Nat
 c : Nat
def Slc.v (s : Slc) : Value := .slice s.a s.n s.c
def slE : Elt Slc 1 22 55 where
 enc := fun s => #[s.v]
 bytes := 24
 zero := ⟨none, 0, 0⟩
 size := fun _ => rfl
 one := fun x u hu => by
  have : u ∈ [x.v] := hu
  rw [List.mem_singleton.1 this]; rfl
 pos := by omega
 small := by omega
 und := Tryz.underlying55
 info := by kernel_rfl
 zer := by kernel_rfl
section
variable {α β : Type} {k k' : Nat} {T ST T' ST' : TypeId} {E : Elt α k T ST} {E' : Elt β k' T' ST'} {B B' : Nat} {v v' : Value} {ls : List α} {ls' : List β} {w w' : World}
theorem OwnE.kept {row : Option Nat} (h : OwnE E B v ls w) (hg : w.grownBy w' row) (hne : v.ownBlock = none ∨ v.ownBlock ≠ row) : OwnE E B v ls w' := World.ownsRow.kept h hg hne
theorem OwnE.obj {g : Nat} (h : OwnE E B v ls w) (hv : v.ownBlock = some g) : ∃ cur, w.heap[g]? = some (.cells cur T (0, 0)) := by
 obtain ⟨_, h2⟩ := h
 rcases h2 with ⟨rfl, _⟩ | ⟨g', cap, cur, rfl, _, hg, _⟩
 ·cases hv
 ·have : g' = g := by simpa [Value.ownBlock] using hv
  rw [← this]
  exact ⟨cur, hg⟩
theorem OwnE.ne_obj {o : Obj} {r : Nat} (h : OwnE E B v ls w) (hr : w.heap[r]? = some o) (hT : ∀ cur, o ≠ .cells cur T (0, 0)) : v.ownBlock = none ∨ v.ownBlock ≠ some r := by
 cases hv : v.ownBlock with
 | none => exact .inl rfl
 | some g =>
  right
  intro e
  injection e with e
  obtain ⟨cur, hc⟩ := h.obj hv
  rw [e, hr] at hc
  injection hc with hc
  exact hT cur hc
theorem OwnE.ne_of (hT : T ≠ T') (h : OwnE E B v ls w) (h' : OwnE E' B' v' ls' w) : v.ownBlock = none ∨ v.ownBlock ≠ v'.ownBlock := by
 cases hv' : v'.ownBlock with
 | none =>
  cases hv : v.ownBlock with
  | none => exact .inl rfl
  | some g => exact .inr (by simp)
 | some r =>
  obtain ⟨cur, hc⟩ := h'.obj hv'
  exact h.ne_obj hc (fun cur' e => by
   injection e with _ e
   exact hT e.symm)
theorem OwnE.blk (h : OwnE E B v ls w) {g : Nat} (hv : v.ownBlock = some g) : B ≤ g ∧ g < w.heap.size := World.ownsRow.lt h g hv
variable {ops : Array Oper} {rest : List Oper} {o : Oper} {a : Act} {Q : Exit → Act → World → Prop}
/-- A slice appended to a row of the call's own: which block is turned. -/
theorem wpList_appendXB (hg : o.guard = none) (s x : Operand) (ho : o.op = .call { callee := .builtin .append, args := #[s, x], argTypes := #[ST, ST] }) (v u : Value) (hs : a.eval s = v) (hx : a.eval x = u) {ks : List α} (hown : OwnE E B v ls w) (hu : RSE E u ks w) (hks : 0 < ks.length) (hlen : ls.length + ks.length ≤ maxLen) (hby' : (ls.length + ks.length) * E.bytes ≤ 140737488355328) (hB : B ≤ w.heap.size)
  (h : ∀ v' w', OwnE E B v' (ls ++ ks) w' → w.grownBy w' v.ownBlock → wpList Tryz.prog ops Q rest (a.put o.dst v') w') : wpList Tryz.prog ops Q (o :: rest) a w := by
 obtain ⟨i, z, hi, hz, hsz, hby, hzc⟩ := E.facts
 have hzs : z.cells.size = k := by rw [hzc, E.size]
 obtain ⟨ad, c, rfl, hc⟩ := hu.len
 obtain ⟨g, of, rfl, sc⟩ := hu.at hks
 refine wpList_append_own (P := Tryz.prog) w hg s x ST ho B T i z k E.bytes E.und hi hz hsz hby hzs E.pos v ls.length (rowE E ls) hs hown ⟨g, of, none⟩ ks.length c (rowE E ks) hx (rowE_length E ks) ?_ (rowE_oneCell E ks) hlen hby' hB ?_
 ·intro j u hu
  have e : (⟨g, of, none⟩ : Addr).add j = ⟨g, of + j, none⟩ := by unfold Addr.add; split <;> simp_all
  rw [e]
  exact sc.row j u hu
 ·intro v' w' h1 h2 h3
  refine h v' w' ?_ h2
  unfold OwnE
  rw [rowE_append, List.length_append]
  exact h1
/-- A slice appended to a row of the call's own: which block is turned. -/
theorem wpList_appendX (hg : o.guard = none) (s x : Operand) (ho : o.op = .call { callee := .builtin .append, args := #[s, x], argTypes := #[ST, ST] }) (v u : Value) (hs : a.eval s = v) (hx : a.eval x = u) {ks : List α} (hown : OwnE E B v ls w) (hu : RSE E u ks w) (hks : 0 < ks.length) (hlen : ls.length + ks.length ≤ 100000000) (hB : B ≤ w.heap.size)
  (h : ∀ v' w', OwnE E B v' (ls ++ ks) w' → w.grownBy w' v.ownBlock → wpList Tryz.prog ops Q rest (a.put o.dst v') w') : wpList Tryz.prog ops Q (o :: rest) a w := by
 refine wpList_appendXB hg s x ho v u hs hx hown hu hks (by unfold maxLen; omega) ?_ hB h
 have := Nat.mul_le_mul hlen E.small
 omega
end
/-- v is a list of the polygons P: rows that the call owns. -/
def OwnP (B : Nat) (v : Value) (P : List (List Pnt)) (w : World) : Prop := ∃ vs : List Slc, OwnE slE B v vs w ∧ vs.length = P.length ∧ ∀ (i : Nat) (s : Slc) (l : List Pnt), vs[i]? = some s → P[i]? = some l → OwnE ptE B s.v l w
/-- v is a list of the polygons P. -/
def RPoly (v : Value) (P : List (List Pnt)) (w : World) : Prop := ∃ vs : List Slc, RSE slE v vs w ∧ vs.length = P.length ∧ ∀ (i : Nat) (s : Slc) (l : List Pnt), vs[i]? = some s → P[i]? = some l → RSE ptE s.v l w
section
variable {B : Nat} {v : Value} {P : List (List Pnt)} {w w' : World}
theorem OwnP.nil (B : Nat) (w : World) : OwnP B (.slice none 0 0) [] w := ⟨[], OwnE.nil B w, rfl, fun i s l h => (by simp at h)⟩
theorem OwnP.kept {row : Option Nat} (h : OwnP B v P w) (hg : w.grownBy w' row) (hr : ∀ r, row = some r → ∃ o : Obj, w.heap[r]? = some o ∧ (∀ cur, o ≠ .cells cur 22 (0, 0)) ∧ ∀ cur, o ≠ .cells cur 53 (0, 0)) : OwnP B v P w' := by
 obtain ⟨vs, h1, h2, h3⟩ := h
 have key : ∀ {α : Type} {k : Nat} {T ST : TypeId} {E : Elt α k T ST} {v : Value} {ls : List α}, OwnE E B v ls w → (∀ r, row = some r → ∃ o : Obj, w.heap[r]? = some o ∧ ∀ cur, o ≠ .cells cur T (0, 0)) → OwnE E B v ls w' := fun ho hrr => by
  refine ho.kept hg ?_
  cases hrow : row with
  | none =>
   rename_i v _
   cases hv : v.ownBlock with
   | none => exact .inl rfl
   | some g => exact .inr (by simp)
  | some r =>
   obtain ⟨o, h4, h5⟩ := hrr r hrow
   exact ho.ne_obj h4 h5
 exact ⟨vs, key h1 (fun r e => let ⟨o, a, b, _⟩ := hr r e; ⟨o, a, b⟩), h2, fun i s l a b => key (h3 i s l a b) (fun r e => let ⟨o, a, _, b⟩ := hr r e; ⟨o, a, b⟩)⟩
theorem OwnP.below (h : OwnP B v P w) (hb : Below w.heap.size w w') : OwnP B v P w' := h.kept (grown_of_below hb) (fun r e => by cases e)
theorem OwnP.mono {B' : Nat} (h : OwnP B v P w) (hb : B' ≤ B) : OwnP B' v P w := by
 obtain ⟨vs, h1, h2, h3⟩ := h
 exact ⟨vs, h1.mono hb, h2, fun i s l a b => (h3 i s l a b).mono hb⟩
theorem OwnP.len (h : OwnP B v P w) : ∃ a c, v = .slice a P.length c ∧ P.length ≤ c := by
 obtain ⟨vs, h1, h2, h3⟩ := h
 rw [← h2]
 exact h1.len
theorem OwnP.blk (h : OwnP B v P w) {g : Nat} (hv : v.ownBlock = some g) : B ≤ g ∧ g < w.heap.size ∧ ∃ cur, w.heap[g]? = some (.cells cur 22 (0, 0)) := by
 obtain ⟨vs, h1, h2, h3⟩ := h
 exact ⟨(h1.blk hv).1, (h1.blk hv).2, h1.obj hv⟩
theorem OwnP.rs (h : OwnP B v P w) : RPoly v P w := by
 obtain ⟨vs, h1, h2, h3⟩ := h
 exact ⟨vs, h1.rs, h2, fun i s l a b => (h3 i s l a b).rs⟩
theorem RPoly.below (h : RPoly v P w) (hb : Below w.heap.size w w') : RPoly v P w' := by
 obtain ⟨vs, h1, h2, h3⟩ := h
 exact ⟨vs, h1.below hb, h2, fun i s l a b => (h3 i s l a b).below hb⟩
theorem RPoly.len (h : RPoly v P w) : ∃ a c, v = .slice a P.length c ∧ P.length ≤ c := by
 obtain ⟨vs, h1, h2, h3⟩ := h
 rw [← h2]
 exact h1.len
variable {ops : Array Oper} {rest : List Oper} {o : Oper} {a : Act} {Q : Exit → Act → World → Prop}
/-- A polygon appended. -/
theorem wpList_appendP (hg : o.guard = none) (s x : Operand) (ho : o.op = .call { callee := .builtin .append, args := #[s, x], argTypes := #[55, 55] }) (v : Value) (hs : a.eval s = v) (sl : Slc) (l : List Pnt) {b : Nat} (hx : a.eval x = .slice (some ⟨b, 0, none⟩) 1 1) (hown : OwnP B v P w) (hb : AtB 22 w b #[sl.v]) (hl : OwnE ptE B sl.v l w) (hlen : P.length + 1 ≤ 100000000) (hB : B ≤ w.heap.size)
  (h : ∀ v' w', OwnP B v' (P ++ [l]) w' → w.grownBy w' v.ownBlock → wpList Tryz.prog ops Q rest (a.put o.dst v') w') : wpList Tryz.prog ops Q (o :: rest) a w := by
 obtain ⟨vs, h1, h2, h3⟩ := hown
 refine wpList_appendX (E := slE) hg s x ho v _ hs hx h1 (RSE.one (E := slE) (x := sl) hb) (by simp) (by rw [h2]; simpa using hlen) hB fun v' w' h4 h5 => h v' w' ⟨vs ++ [sl], h4, by simp [h2], fun i s l' hi hl' => ?_⟩ h5
 rw [List.getElem?_append] at hi hl'
 by_cases hlt : i < vs.length
 ·rw [if_pos hlt] at hi
  rw [if_pos (by omega)] at hl'
  exact (h3 i s l' hi hl').kept h5 ((h3 i s l' hi hl').ne_of (by decide) h1)
 ·rw [if_neg hlt] at hi
  rw [if_neg (by omega)] at hl'
  have e : i - vs.length = 0 := by
   have := (List.getElem?_eq_some_iff.1 hi).1
   simp at this
   omega
  rw [e] at hi
  rw [show i - P.length = 0 by omega] at hl'
  have e1 : sl = s := by simpa using hi
  have e2 : l = l' := by simpa using hl'
  subst e1 e2
  exact hl.kept h5 (hl.ne_of (by decide) h1)
end
end Go.Proofs.YtamgpfblhlfhaaaGreat
/- Plain: how many edges, how many polygons a scan has. -/
namespace Go.Proofs.YtamgpfblhlfhaaaGreat
open Go.RowKit Pl
set_option linter.unusedVariables false
set_option linter.unusedSimpArgs false
theorem scan1_len {S : Int → Int → Bool} {r : Rc} (hb : BoxE S r) (st : ScSt) (x y : Int) : (scan1 S r st x y).1.length ≤ st.1.length + boxN r ∧ (scan1 S r st x y).2.length ≤ st.2.length + 1 := by
 unfold scan1
 by_cases h : (decide ((⟨x, y, 0⟩ : Ed) ∈ st.1) || !hasE S x y 0) = true
 ·rw [if_pos h]; omega
 ·rw [if_neg h]
  simp only [Bool.or_eq_true, not_or, Bool.not_eq_true', Bool.not_eq_false] at h
  have hB : Bnd S ⟨x, y, 0⟩ := ⟨⟨Int.le_refl _, by show (0 : Int) ≤ 3; omega⟩, h.2⟩
  have := (perE_spec hb hB).2.2.1
  simp only [List.length_append, List.length_cons, List.length_nil]
  unfold folE
  rw [orbK_len]
  omega
theorem scanX_len {S : Int → Int → Bool} {r : Rc} (hb : BoxE S r) (y : Int) (st : ScSt) : ∀ k, (scanX S r y st k).1.length ≤ st.1.length + k * boxN r ∧ (scanX S r y st k).2.length ≤ st.2.length + k
 | 0 => by show st.1.length ≤ _ ∧ st.2.length ≤ _; omega
 | k + 1 => by
  have ih := scanX_len hb y st k
  have h1 := scan1_len hb (scanX S r y st k) (r.x0 + (k : Int)) y
  show (scan1 S r (scanX S r y st k) (r.x0 + (k : Int)) y).1.length ≤ _ ∧ _
  rw [Nat.succ_mul]
  exact ⟨by omega, by have h2 := h1.2; show (scan1 S r (scanX S r y st k) (r.x0 + (k : Int)) y).2.length ≤ _; omega⟩
theorem scanY_len {S : Int → Int → Bool} {r : Rc} (hb : BoxE S r) : ∀ k, (scanY S r k).1.length ≤ k * ((r.x1 - r.x0).toNat * boxN r) ∧ (scanY S r k).2.length ≤ k * (r.x1 - r.x0).toNat
 | 0 => by show (0 : Nat) ≤ _ ∧ (0 : Nat) ≤ _; omega
 | k + 1 => by
  have ih := scanY_len hb k
  have h1 := scanX_len hb (r.y0 + (k : Int)) (scanY S r k) (r.x1 - r.x0).toNat
  show (scanX S r (r.y0 + (k : Int)) (scanY S r k) (r.x1 - r.x0).toNat).1.length ≤ _ ∧ (scanX S r (r.y0 + (k : Int)) (scanY S r k) (r.x1 - r.x0).toNat).2.length ≤ _
  rw [Nat.succ_mul, Nat.succ_mul]
  omega
/-- In a small box. -/
theorem box_small {r : Rc} (h : -100 ≤ r.x0 ∧ r.x1 ≤ 100 ∧ -100 ≤ r.y0 ∧ r.y1 ≤ 100) : boxN r ≤ 161604 ∧ (r.x1 - r.x0).toNat ≤ 200 ∧ (r.y1 - r.y0).toNat ≤ 200 := by
 have h1 : (r.x1 - r.x0).toNat ≤ 200 := by omega
 have h2 : (r.y1 - r.y0).toNat ≤ 200 := by omega
 refine ⟨?_, h1, h2⟩
 unfold boxN
 have h3 := Nat.mul_le_mul (show 4 * ((r.x1 - r.x0).toNat + 1) ≤ 804 by omega) (show (r.y1 - r.y0).toNat + 1 ≤ 201 by omega)
 omega
theorem scan_small {S : Int → Int → Bool} {r : Rc} (hb : BoxE S r) (h : -100 ≤ r.x0 ∧ r.x1 ≤ 100 ∧ -100 ≤ r.y0 ∧ r.y1 ≤ 100) {i j : Nat} (hi : i ≤ (r.y1 - r.y0).toNat) (hj : j ≤ (r.x1 - r.x0).toNat) (y : Int) :
  (scanX S r y (scanY S r i) j).1.length ≤ 7000000000 ∧ (scanX S r y (scanY S r i) j).2.length ≤ 50000 := by
 obtain ⟨b1, b2, b3⟩ := box_small h
 have h1 := scanX_len hb y (scanY S r i) j
 have h2 := scanY_len hb i
 have m1 : j * boxN r ≤ 200 * 161604 := Nat.mul_le_mul (by omega) b1
 have m2 : (r.x1 - r.x0).toNat * boxN r ≤ 200 * 161604 := Nat.mul_le_mul b2 b1
 have m3 : i * ((r.x1 - r.x0).toNat * boxN r) ≤ 200 * (200 * 161604) := Nat.mul_le_mul (by omega) m2
 have m4 : i * (r.x1 - r.x0).toNat ≤ 200 * 200 := Nat.mul_le_mul (by omega) b2
 omega
/-- The direction that is tried j-th. -/
def dirF (d : Int) (j : Nat) : Int := (d + 1 + 3 * (j : Int)) % 4
/-- The first direction, of those tried so far, in which an edge goes on; -1 where none does. -/
def nxF (S : Int → Int → Bool) (x y d : Int) : Nat → Int
 | 0 => -1
 | j + 1 => if (hasE S x y (dirF d j) && decide (nxF S x y d j < 0)) = true then dirF d j else nxF S x y d j
end Go.Proofs.YtamgpfblhlfhaaaGreat
/- For Outline: blocks for a map, for a list of edges; what a range over edges leaves as it was. -/
namespace Go.Proofs.YtamgpfblhlfhaaaGreat
open Go.RowKit Go.Shelf Pl
attribute [local go_sem] Oper.semAt_some
set_option linter.unusedVariables false
set_option linter.unusedSimpArgs false
set_option maxRecDepth 20000
theorem run_alloc_Bd (w : World) (o : Oper) (ho : o.op = .alloc 86) (ev : Operand → Value) : (execOp ev o).run Tryz.prog w = .ok (.value (.pointer (some ⟨w.heap.size, 0, none⟩))) (w.alloc (.cells #[.nilFunc] 86)) := by
 obtain ⟨d, p, t, ps, af, gd⟩ := o
 simp only at ho
 subst ho
 kernel_rfl
theorem run_alloc_Mv (w : World) (o : Oper) (ho : o.op = .alloc 87) (ev : Operand → Value) : (execOp ev o).run Tryz.prog w = .ok (.value (.pointer (some ⟨w.heap.size, 0, none⟩))) (w.alloc (.cells #[.map none] 87)) := by
 obtain ⟨d, p, t, ps, af, gd⟩ := o
 simp only at ho
 subst ho
 kernel_rfl
theorem run_alloc_Ss (w : World) (o : Oper) (ho : o.op = .alloc 92) (ev : Operand → Value) : (execOp ev o).run Tryz.prog w = .ok (.value (.pointer (some ⟨w.heap.size, 0, none⟩))) (w.alloc (.cells #[.slice none 0 0] 92)) := by
 obtain ⟨d, p, t, ps, af, gd⟩ := o
 simp only at ho
 subst ho
 kernel_rfl
theorem run_load_mv {w : World} {b j : Nat} {v : Value} (h : w.cell? ⟨b, j, none⟩ = some v) : (Instr.loadAt 87 (.pointer (some ⟨b, j, none⟩))).run Tryz.prog w = .ok v w := by
 simp [go_sem, h]
theorem run_load_ss {w : World} {b j : Nat} {v : Value} (h : w.cell? ⟨b, j, none⟩ = some v) : (Instr.loadAt 92 (.pointer (some ⟨b, j, none⟩))).run Tryz.prog w = .ok v w := by
 simp [go_sem, h]
section
variable {v : Value} {ops : Array Oper} {rest : List Oper} {o : Oper} {a : Act} {w : World} {Q : Exit → Act → World → Prop}
theorem wpList_storeSs (hg : o.guard = none) (x y : Operand) (ho : o.op = .store 92 x y) (b : Nat) (hx : a.eval x = .pointer (some ⟨b, 0, none⟩)) (a' : Option Addr) (n' c' : Nat) (hy : a.eval y = .slice a' n' c') (ht : AtB 92 w b #[v])
  (h : ∀ w', AtB 92 w' b #[.slice a' n' c'] → Chg b w w' → w'.heap.size = w.heap.size → wpList Tryz.prog ops Q rest (a.put o.dst undef) w') : wpList Tryz.prog ops Q (o :: rest) a w := by
 have c0 := ht.cell 0 rfl
 have f0 := ht.frozen 0
 refine wpList_storeAny hg x y ho (w.setCell ⟨b, 0, none⟩ (.slice a' n' c')) ?_ (h _ ?_ ((Chg.refl b w).setCell _) (by simp only [World.size_setCell]))
 ·rw [hx, hy]
  simp [go_sem, c0, f0]
 ·exact heap_setCell_same w b 0 #[v] _ _ ht
theorem wpList_storeMv (hg : o.guard = none) (x y : Operand) (ho : o.op = .store 87 x y) (b m : Nat) (hx : a.eval x = .pointer (some ⟨b, 0, none⟩)) (hy : a.eval y = .map (some m)) (ht : AtB 87 w b #[v])
  (h : ∀ w', AtB 87 w' b #[.map (some m)] → Chg b w w' → w'.heap.size = w.heap.size → wpList Tryz.prog ops Q rest (a.put o.dst undef) w') : wpList Tryz.prog ops Q (o :: rest) a w := by
 have c0 := ht.cell 0 rfl
 have f0 := ht.frozen 0
 refine wpList_storeAny hg x y ho (w.setCell ⟨b, 0, none⟩ (.map (some m))) ?_ (h _ ?_ ((Chg.refl b w).setCell _) (by simp only [World.size_setCell]))
 ·rw [hx, hy]
  simp [go_sem, c0, f0]
 ·exact heap_setCell_same w b 0 #[v] _ _ ht
theorem wpList_mkMap (hg : o.guard = none) (ho : o.op = .makeMap 87 none)
  (h : ∀ b w', w.heap.size ≤ b → b ≤ w.heap.size → DoneM b [] w' → Below b w w' → w'.heap.size = b + 1 → wpList Tryz.prog ops Q rest (a.put o.dst (.map (some b))) w') : wpList Tryz.prog ops Q (o :: rest) a w :=
 wpList_plain hg fun K hK => by
  unfold Oper.wp
  have e : (execOp a.eval o).run Tryz.prog w = .ok (.value (.map (some w.heap.size))) (w.alloc (.map #[] 0)) := by
   obtain ⟨d, p, t, ps, af, gd⟩ := o
   simp only at ho
   subst ho
   rfl
  rw [e]
  exact hK _ _ (h _ _ (Nat.le_refl _) (Nat.le_refl _) (DoneM.nil (World.alloc_heap_new w _)) ((Below.refl _ _).alloc (Nat.le_refl _) _) (World.size_alloc _ _))
end
/-- Of what was there at A only the blocks m and l have turned. -/
structure KX (A : World) (m l : Nat) (W : World) : Prop where
 os : W.os = A.os
 tape : W.tape = A.tape
 output : W.output = A.output
 size : A.heap.size ≤ W.heap.size
 block : ∀ k, k < A.heap.size → k ≠ m → k ≠ l → W.heap[k]? = A.heap[k]?
theorem KX.refl (A : World) (m l : Nat) : KX A m l A := ⟨rfl, rfl, rfl, Nat.le_refl _, fun _ _ _ _ => rfl⟩
theorem KX.grown {A W W' : World} {m l : Nat} {row : Option Nat} (h : KX A m l W) (hg : W.grownBy W' row) (hr : ∀ r, row = some r → A.heap.size ≤ r ∨ r = m ∨ r = l) : KX A m l W' :=
 ⟨hg.os.trans h.os, hg.tape.trans h.tape, hg.output.trans h.output, Nat.le_trans h.size hg.size, fun k hk h1 h2 => (hg.block k (by have := h.size; omega) (fun e => by have := hr k e.symm; omega)).trans (h.block k hk h1 h2)⟩
theorem KX.atB {A W : World} {m l b : Nat} {t : TypeId} {cs : Array Value} (h : KX A m l W) (ha : AtB t A b cs) (h1 : b ≠ m) (h2 : b ≠ l) : AtB t W b cs := ha.of_eq (h.block b ha.lt h1 h2)
theorem KX.below {A W w : World} {m l n : Nat} (h : KX A m l W) (hb : Below n w A) (hn : n ≤ A.heap.size) (h1 : n ≤ m) (h2 : n ≤ l) : Below n w W :=
 ⟨h.os.trans hb.os, h.tape.trans hb.tape, h.output.trans hb.output, Nat.le_trans hb.size h.size, fun k hk => (h.block k (by omega) (by omega) (by omega)).trans (hb.block k hk)⟩
theorem KX.hold {A W w : World} {m l n : Nat} (h : KX A m l W) (hb : HoldC n w A) (h1 : n ≤ m) (h2 : n ≤ l) : HoldC n w W := fun k o hk ho hc => by
 have h3 := hb k o hk ho hc
 exact (h.block k (Array.getElem?_eq_some_iff.1 h3).1 (by omega) (by omega)).trans h3
theorem KX.marks {A W : World} {m l n : Nat} {ds : List Deferred} (h : KX A m l W) (hm : Marks n ds A) (h1 : ∀ D, DefAt A D → D ≠ m) (h2 : ∀ D, DefAt A D → D ≠ l) : Marks n ds W := hm.kept fun D hD _ => hD.of_eq (h.block D hD.lt (h1 D hD) (h2 D hD))
theorem OwnE.keptO {α : Type} {k : Nat} {T ST : TypeId} {E : Elt α k T ST} {B : Nat} {v : Value} {ls : List α} {w w' : World} (h : OwnE E B v ls w) (hk : ∀ (g : Nat) (cur : Array Value), w.heap[g]? = some (Obj.cells cur T (0, 0)) → w'.heap[g]? = some (Obj.cells cur T (0, 0))) : OwnE E B v ls w' := by
 obtain ⟨h1, h2⟩ := h
 refine ⟨h1, ?_⟩
 rcases h2 with h2 | ⟨g, cap, cur, e, hb, hg, r⟩
 ·exact .inl h2
 ·exact .inr ⟨g, cap, cur, e, hb, hk g cur hg, r⟩
theorem OwnP.keptO {B : Nat} {v : Value} {P : List (List Pnt)} {w w' : World} (h : OwnP B v P w) (hk : ∀ (g : Nat) (cur : Array Value) (t : TypeId), t = 22 ∨ t = 53 → w.heap[g]? = some (Obj.cells cur t (0, 0)) → w'.heap[g]? = some (Obj.cells cur t (0, 0))) : OwnP B v P w' := by
 obtain ⟨vs, h1, h2, h3⟩ := h
 exact ⟨vs, h1.keptO (fun g cur => hk g cur _ (.inl rfl)), h2, fun i s l a b => (h3 i s l a b).keptO (fun g cur => hk g cur _ (.inr rfl))⟩
theorem OwnP.chg {B c : Nat} {v : Value} {P : List (List Pnt)} {t : TypeId} {cs : Array Value} {w w' : World} (h : OwnP B v P w) (ha : AtB t w c cs) (ht : t ≠ 22 ∧ t ≠ 53) (hc : Chg c w w') : OwnP B v P w' :=
 h.keptO fun g cur t' ht' hg => (hc.block g (Array.getElem?_eq_some_iff.1 hg).1 (fun e => by
  rw [e, show w.heap[c]? = _ from ha] at hg
  injection hg with hg
  injection hg with _ hg
  rcases ht' with rfl | rfl
  ·exact ht.1 hg
  ·exact ht.2 hg)).trans hg
theorem KX.polys {A W : World} {m l B : Nat} {v : Value} {P : List (List Pnt)} (h : KX A m l W) (hp : OwnP B v P A) (h1 : ∃ es c, A.heap[m]? = some (.map es c)) {t : TypeId} {cs : Array Value} (h2 : AtB t A l cs) (ht : t ≠ 22 ∧ t ≠ 53) : OwnP B v P W :=
 hp.keptO fun g cur t' ht' hg => (h.block g (Array.getElem?_eq_some_iff.1 hg).1 (fun e => by
  obtain ⟨es, c, h1⟩ := h1
  rw [e, h1] at hg
  cases hg) (fun e => by
  rw [e, show A.heap[l]? = _ from h2] at hg
  injection hg with hg
  injection hg with _ hg
  rcases ht' with rfl | rfl
  ·exact ht.1 hg
  ·exact ht.2 hg)).trans hg
/-- A range's facts lie in cells, the map aside. -/
theorem chg_of_grown {w w' : World} {b : Nat} (h : w.grownBy w' (some b)) : Chg b w w' := ⟨h.os, h.tape, h.output, h.size, fun k hk hne => h.block k hk (fun e => hne (by injection e))⟩
theorem DoneM.ne {m b : Nat} {L : List Ed} {t : TypeId} {cs : Array Value} {w : World} (h : DoneM m L w) (ha : AtB t w b cs) : b ≠ m := fun e => by
 obtain ⟨es, c, ho⟩ := h.obj
 rw [← e, show w.heap[b]? = _ from ha] at ho
 cases ho
theorem DoneM.neD {m D : Nat} {L : List Ed} {w : World} (h : DoneM m L w) (ha : DefAt w D) : D ≠ m := fun e => by
 obtain ⟨es, c, ho⟩ := h.obj
 rw [← e, show w.heap[D]? = _ from ha] at ho
 cases ho
theorem DoneM.of_eq {b : Nat} {L : List Ed} {w w' : World} (h : DoneM b L w) (e : w'.heap[b]? = w.heap[b]?) : DoneM b L w' := by
 obtain ⟨h1, n, h2, es, c, h3, r⟩ := h
 exact ⟨h1, n, h2, es, c, e.trans h3, r⟩
theorem OwnE.chgT {α : Type} {k : Nat} {T ST : TypeId} {E : Elt α k T ST} {B c : Nat} {v : Value} {ls : List α} {t : TypeId} {cs : Array Value} {w w' : World} (h : OwnE E B v ls w) (ha : AtB t w c cs) (ht : t ≠ T) (hc : Chg c w w') : OwnE E B v ls w' :=
 h.keptO fun g cur hg => (hc.block g (Array.getElem?_eq_some_iff.1 hg).1 (fun e => by
  rw [e, show w.heap[c]? = _ from ha] at hg
  injection hg with hg
  injection hg with _ hg
  exact ht hg)).trans hg
theorem OwnE.ownR {α : Type} {k : Nat} {T ST : TypeId} {E : Elt α k T ST} {B : Nat} {v : Value} {ls : List α} {w w' : World} {row : Option Nat} (h : OwnE E B v ls w) (hg : w.grownBy w' row) (hr : ∀ r, row = some r → ∃ o : Obj, w.heap[r]? = some o ∧ o.isCells = false) : OwnE E B v ls w' := by
 refine h.kept hg ?_
 cases hrow : row with
 | none =>
  cases hv : v.ownBlock with
  | none => exact .inl rfl
  | some g => exact .inr (by simp)
 | some r =>
  obtain ⟨o, h1, h2⟩ := hr r hrow
  exact h.ne_obj h1 (fun cur e => by rw [e] at h2; cases h2)
theorem OwnE.keptC {α : Type} {k : Nat} {T ST : TypeId} {E : Elt α k T ST} {B : Nat} {v : Value} {ls : List α} {w w' : World} {row : Option Nat} (h : OwnE E B v ls w) (hg : w.grownBy w' row) (hr : ∀ r, row = some r → r < B) : OwnE E B v ls w' := by
 refine h.kept hg ?_
 cases hv : v.ownBlock with
 | none => exact .inl rfl
 | some g => exact .inr fun e => by have := hr g e.symm; have := (h.blk hv).1; omega
theorem KX.exc {A W W' : World} {m l n : Nat} (h : KX A m l W) (he : Exc m n W W') (hn : A.heap.size ≤ n) : KX A m l W' :=
 ⟨he.os.trans h.os, he.tape.trans h.tape, he.output.trans h.output, Nat.le_trans h.size he.grow, fun k hk h1 h2 => (he.block k (by omega) h1).trans (h.block k hk h1 h2)⟩
theorem KX.chgL {A W W' : World} {m l : Nat} (h : KX A m l W) (hc : Chg l W W') : KX A m l W' :=
 ⟨hc.os.trans h.os, hc.tape.trans h.tape, hc.output.trans h.output, Nat.le_trans h.size hc.size, fun k hk h1 h2 => (hc.block k (by have := h.size; omega) h2).trans (h.block k hk h1 h2)⟩
theorem rce_edS {g o : Nat} {ls : List Ed} {w : World} (h : RCellsE edE g o ls w) {i : Nat} {x y d : Int} (hi : ls[i]? = some ⟨x, y, d⟩) : (Instr.loadAt 90 (.pointer (some ⟨g, o + i * 3, none⟩))).run Tryz.prog w = .ok (.agg #[.int .i64 x, .int .i64 y, .int .i64 d]) w :=
 h.load Tryz.isAgg90 hi
theorem rce_eddS {g o : Nat} {ls : List Ed} {w : World} (h : RCellsE edE g o ls w) {i : Nat} {x y d : Int} (hi : ls[i]? = some ⟨x, y, d⟩) : (Instr.loadAt 3 (.pointer (some ⟨g, o + i * 3 + 2, none⟩))).run Tryz.prog w = .ok (.int .i64 d) w :=
 run_load_int (by have := h.2 i _ hi 2 (by omega); rw [← Nat.add_assoc] at this; exact this)
section
variable {ops : Array Oper} {rest : List Oper} {o : Oper} {a : Act} {w : World} {Q : Exit → Act → World → Prop}
theorem owp_bs1S {K : Act → World → Prop} (y : Operand) (ho : o.op = .buildSlice 55 1 #[(0, y)]) (s : Slc) (hy : a.eval y = s.v)
  (h : ∀ b w', w.heap.size ≤ b → b ≤ w.heap.size → AtB 22 w' b #[s.v] → Below b w w' → w'.heap.size = b + 1 → K (a.put o.dst (.slice (some ⟨b, 0, none⟩) 1 1)) w') : o.wp Tryz.prog a w K Q := by
 obtain ⟨i, z, hi, hz, hsz, hby, hzc⟩ := slE.facts
 refine wp_buildSlice 55 22 1 #[(0, y)] ho #[s.v] i z slE.und hi hz (by rw [hsz]; omega) (by rw [hsz]; omega) ?_ (h _ _ (Nat.le_refl _) (Nat.le_refl _) (by unfold AtB; rw [heap_get_alloc, if_pos rfl]) ((Below.refl _ _).alloc (Nat.le_refl _) _) (World.size_alloc _ _))
 rw [hsz]
 have hp : ((#[(0, y)] : Array (Nat × Operand)).map fun (i, x) => (i, a.eval x)).toList = [(0, s.v)] := by simp [hy]
 rw [hp]
 have hc : (s.v).cells = #[s.v] := rfl
 obtain ⟨r, hr1, hr2, hr3⟩ := Great.fill_dense (show 0 < 1 by omega) [s.v] 0 ((Array.range (1 * 1)).map (z.cells[· % z.cells.size]!)) (fun v hv => by rw [List.mem_singleton.1 hv, hc]; rfl) (by simp)
 have e : (([s.v].zipIdx 0).map fun y => (y.2, y.1)) = [(0, s.v)] := rfl
 rw [e] at hr1
 rw [hr1]
 congr 1
 apply Array.ext_getElem?
 intro j
 rw [hr3 j]
 by_cases h : j < 1
 ·have : j = 0 := by omega
  subst this
  simp [hc]
 ·rw [if_neg (by simp; omega), Array.getElem?_eq_none (by simp; omega), Array.getElem?_eq_none (by simp; omega)]
theorem wpList_bs1S (hg : o.guard = none) (y : Operand) (ho : o.op = .buildSlice 55 1 #[(0, y)]) (s : Slc) (hy : a.eval y = s.v)
  (h : ∀ b w', w.heap.size ≤ b → b ≤ w.heap.size → AtB 22 w' b #[s.v] → Below b w w' → w'.heap.size = b + 1 → wpList Tryz.prog ops Q rest (a.put o.dst (.slice (some ⟨b, 0, none⟩) 1 1)) w') : wpList Tryz.prog ops Q (o :: rest) a w :=
 wpList_plain hg fun K hK => owp_bs1S y ho s hy fun b w' h1 h2 h3 h4 h5 => hK _ _ (h b w' h1 h2 h3 h4 h5)
end
theorem HoldC.grown {n : Nat} {A W W' : World} {row : Option Nat} (h : HoldC n A W) (hg : W.grownBy W' row) (hr : ∀ r, row = some r → n ≤ r) : HoldC n A W' := fun k o hk ho hc => by
 have h1 := h k o hk ho hc
 exact (hg.block k (Array.getElem?_eq_some_iff.1 h1).1 (fun e => by have := hr k e.symm; omega)).trans h1
theorem Below.grown' {n : Nat} {A W W' : World} {row : Option Nat} (h : Below n A W) (hn : n ≤ A.heap.size) (hg : W.grownBy W' row) (hr : ∀ r, row = some r → n ≤ r) : Below n A W' := by
 refine ⟨hg.os.trans h.os, hg.tape.trans h.tape, hg.output.trans h.output, Nat.le_trans h.size hg.size, fun k hk => ?_⟩
 have h1 := h.size
 exact (hg.block k (by omega) (fun e => by have := hr k e.symm; omega)).trans (h.block k hk)
end Go.Proofs.YtamgpfblhlfhaaaGreat
