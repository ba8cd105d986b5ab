/- feedReplies_holds: part 5 of the proof: the plain functions, the walks of the program's functions and the laws about them. Conditions: those that each theorem states. -/
import Derived.Test.YtfdhnmijaobbdaaReplies1
import Derived.Test.YtfdhnmijaobbdaaReplies2
import Derived.Test.YtfdhnmijaobbdaaReplies3
import Derived.Test.YtfdhnmijaobbdaaReplies4
section
namespace Go.Proofs.Ytfdhnmijaobbdaa.S
open Go.RowKit Go.Proofs.YtfdhnmijaobbdaaW.PrintWords Go.Proofs.YtfdhnmijaobbdaaW.PrintLast Go.Proofs.YtfdhnmijaobbdaaW.PrintMore
attribute [local go_sem] max2_int min2_int max_two min_two max_three min_three max_four min_four   -- for this text's walks alone
set_option linter.unusedVariables false
set_option linter.unusedSimpArgs false
def chalklineref35_Reply.j0 : Nat → List (S52) → Int → Int → Bool → Option (Int × Int × Int × Int × (List (S60)) × (List (S64)) × Int)
  | 0, _, _, _, _ => none
  | k + 1, x0, x1, x2, x31 => if x31 = true then (some (0, 0, 0, 0, ([] : List (S60)), ([] : List (S64)), 1)) else (if x1 ≥ (x0.length : Int) then (some (0, 0, 0, 0, ([] : List (S60)), ([] : List (S64)), 341)) else (if 0 ≤ (wrap64 ((x0.length : Int) - 1)) then (if (wrap64 ((x0.length : Int) - 1)) < (x0.length : Int) then (if x1 > 0 then (if 0 ≤ (wrap64 (x1 - 1)) then (if (wrap64 (x1 - 1)) < (x0.length : Int) then (if (((rd_T52 x0 (wrap64 (x1 - 1))).f1.f0).length : Int) = (((rd_T52 x0 (wrap64 ((x0.length : Int) - 1))).f1.f0).length : Int) then ((chalklineref04_Diff.f k ((rd_T52 x0 (wrap64 (x1 - 1))).f1.f0) ((rd_T52 x0 (wrap64 ((x0.length : Int) - 1))).f1.f0)).bind fun bt189 => (some (2, x2, x1, (rd_T52 x0 (wrap64 ((x0.length : Int) - 1))).f0, ([] : List (S60)), bt189.1, 0))) else ((some (([] : List (S60)) : List (S60))).bind fun y193 => (if y193.length + ((rd_T52 x0 (wrap64 ((x0.length : Int) - 1))).f1.f0).length < 8796093022208 then (some (1, x2, 0, (rd_T52 x0 (wrap64 ((x0.length : Int) - 1))).f0, (y193 ++ ((rd_T52 x0 (wrap64 ((x0.length : Int) - 1))).f1.f0)), ([] : List (S64)), 0)) else (none)))) else (none)) else (none)) else ((some (([] : List (S60)) : List (S60))).bind fun y199 => (if y199.length + ((rd_T52 x0 (wrap64 ((x0.length : Int) - 1))).f1.f0).length < 8796093022208 then (some (1, x2, 0, (rd_T52 x0 (wrap64 ((x0.length : Int) - 1))).f0, (y199 ++ ((rd_T52 x0 (wrap64 ((x0.length : Int) - 1))).f1.f0)), ([] : List (S64)), 0)) else (none)))) else (none)) else (none)))
def chalklineref35_Reply.f (k : Nat) (l0 : List (S52)) (a1 : Int) (a2 : Int) : Option (Int × Int × Int × Int × (List (S60)) × (List (S64)) × Int) := (chalklineref35_Check.f k l0).bind fun t184 => (if t184 = 0 then (if a1 < 0 then (chalklineref35_Reply.j0 k l0 a1 a2 true) else (if a1 > 1099511627776 then (chalklineref35_Reply.j0 k l0 a1 a2 true) else (if a2 < 0 then (chalklineref35_Reply.j0 k l0 a1 a2 true) else (chalklineref35_Reply.j0 k l0 a1 a2 (decide (a2 ≥ 8)))))) else (some (0, 0, 0, 0, ([] : List (S60)), ([] : List (S64)), t184)))
def chalklineref35_Reply.T9 : Bool × List (List Nat × List Nat) := (true, [([], []), ([0], [0]), ([1], [1]), ([2], [2]), ([2], [2]), ([4, 2], [2, 4]), ([3, 5, 2], [2, 3, 5]), ([6, 2], [2, 6]), ([7, 2], [2, 7]), ([8, 2], [2, 8]), ([9, 2], [2, 9]), ([2], [2]), ([11, 2], [2, 11]), ([12, 2], [2, 12]), ([13, 2], [2, 13]), ([10, 14, 2], [2, 10, 14]), ([2, 15], [2, 15])])
def chalklineref35_Reply.B9 : List Nat := [0, 1, 3, 7, 7, 23, 63, 127, 255, 511, 1023, 7, 2055, 6151, 14343, 32767, 65535]
theorem chalklineref35_Reply.tab9 : rtab .any (opsOf Try.f14 9) = chalklineref35_Reply.T9 := by kernel_rfl
theorem chalklineref35_Reply.bits9 : waitsOk chalklineref35_Reply.T9.2 chalklineref35_Reply.B9 = true := by kernel_rfl
def chalklineref35_Reply.T10 : Bool × List (List Nat × List Nat) := (true, [([], []), ([], []), ([1], [1]), ([0, 2], [0, 2]), ([3], [3]), ([4], [4]), ([], []), ([6], [6]), ([5, 7], [5, 7]), ([8], [8]), ([9], [9]), ([9], [9]), ([10, 8, 0, 1, 2, 3, 4, 5, 6, 7, 8, 9, 10], [10]), ([11, 12, 0, 1, 2, 3, 4, 5, 6, 7, 8, 9, 10, 11, 12], [11])])
def chalklineref35_Reply.B10 : List Nat := [0, 0, 2, 7, 15, 31, 0, 64, 255, 511, 1023, 1023, 2047, 8191]
theorem chalklineref35_Reply.tab10 : rtab .any (opsOf Try.f14 10) = chalklineref35_Reply.T10 := by kernel_rfl
theorem chalklineref35_Reply.bits10 : waitsOk chalklineref35_Reply.T10.2 chalklineref35_Reply.B10 = true := by kernel_rfl
def chalklineref35_Reply.T12 : Bool × List (List Nat × List Nat) := (true, [([], []), ([], []), ([1], [1]), ([], []), ([], []), ([4], [4]), ([5], [5]), ([3, 6], [3, 6]), ([7], [7]), ([0, 2, 8], [0, 2, 8]), ([9, 7, 0, 1, 2, 3, 4, 5, 6, 7, 8, 9], [9]), ([10, 0, 1, 2, 3, 4, 5, 6, 7, 8, 9, 10], [])])
def chalklineref35_Reply.B12 : List Nat := [0, 0, 2, 0, 0, 16, 48, 120, 248, 511, 1023, 2047]
theorem chalklineref35_Reply.tab12 : rtab .any (opsOf Try.f14 12) = chalklineref35_Reply.T12 := by kernel_rfl
theorem chalklineref35_Reply.bits12 : waitsOk chalklineref35_Reply.T12.2 chalklineref35_Reply.B12 = true := by kernel_rfl
set_option maxHeartbeats 8000000 in
set_option maxRecDepth 100000 in
theorem chalklineref35_Reply.calls (k : Nat) (A0 : Option Addr) (c0 : Nat) (l0 : List (S52)) (a1 : Int) (a2 : Int) (r1 : Int) (r2 : Int) (r3 : Int) (r4 : Int) (r5 : List (S60)) (r6 : List (S64)) (r7 : Int) (w : World) (hr0 : Kd.C k52 w A0 l0.length l0) (hc0 : l0.length ≤ c0) (h : chalklineref35_Reply.f k l0 a1 a2 = some (r1, r2, r3, r4, r5, r6, r7)) :
    Calls Try.prog 14 #[.slice A0 l0.length c0, .int .i64 a1, .int .i64 a2] w fun e w' => ∃ v4_ v5_ : Value, e = .returned (.tuple #[.agg #[.int .i64 r1, .int .i64 r2, .int .i64 r3, .int .i64 r4, v4_, v5_], .int .i64 r7]) ∧ Kd.R k60 60 w' w.heap.size (fun _ => True) v4_ r5 ∧ Kd.R k64 64 w' w.heap.size (fun _ => True) v5_ r6 ∧ Below w.heap.size w w' := by
  have hu32 := Try.underlying32
  have hu52 := Try.underlying52
  have hu25 := Try.underlying25
  have HR0 := Aside0.mk hr0
  have HC0 := Aside0.mk hc0
  clear hr0 hc0
  have HB := Aside0.mk (Below.refl w.heap.size w)
  have H : ((chalklineref35_Check.f k l0).bind fun t184 => (if t184 = 0 then (if a1 < 0 then (chalklineref35_Reply.j0 k l0 a1 a2 true) else (if a1 > 1099511627776 then (chalklineref35_Reply.j0 k l0 a1 a2 true) else (if a2 < 0 then (chalklineref35_Reply.j0 k l0 a1 a2 true) else (chalklineref35_Reply.j0 k l0 a1 a2 (decide (a2 ≥ 8)))))) else (some (0, 0, 0, 0, ([] : List (S60)), ([] : List (S64)), t184)))) = some (r1, r2, r3, r4, r5, r6, r7) := h
  clear h
  replace H := Option.bind_eq_some_iff.mp H
  obtain ⟨t184, A40, H⟩ := H
  replace H : (if t184 = 0 then (if a1 < 0 then (chalklineref35_Reply.j0 k l0 a1 a2 true) else (if a1 > 1099511627776 then (chalklineref35_Reply.j0 k l0 a1 a2 true) else (if a2 < 0 then (chalklineref35_Reply.j0 k l0 a1 a2 true) else (chalklineref35_Reply.j0 k l0 a1 a2 (decide (a2 ≥ 8)))))) else (some (0, 0, 0, 0, ([] : List (S60)), ([] : List (S64)), t184))) = some (r1, r2, r3, r4, r5, r6, r7) := H
  have A4 := Aside0.mk A40
  clear A40
  by_cases c5 : t184 = 0
  · rw [if_pos c5] at H
    have c5b0 : (t184 == 0) = true := beq_iff_eq.mpr c5
    have c5b1 : (t184 != 0) = false := bne_eq_false_iff_eq.mpr c5
    clear c5
    have HC6 := Aside0.mk H
    clear H
    go_enter Try.func14, Try.ntmps14
    go_upto_region 4 with (first | ((with_reducible refine gate_dst (N := 6) rfl ?_); (try (refine gate_guard (by rfl) ?_; dsimp only)); refine box_event ?hg (N := 6) ?hd (cs := #[.int .i64 0, .int .i64 0, .int .i64 0, .int .i64 0, .slice none 0 0, .slice none 0 0]) (t := 32) ?hr ?_; (case hd => rfl); (case hg => rfl); (case hr => first | (go_simp; done) | (go_simp; rfl)); intro gb183 hg w7 hbox hb; have n0_ := Aside0.mk (below_step (b_ HB) hb); have n1_ := Aside0.mk (hbox); have n2_ := Aside0.mk ((by rw [hg]; exact (below_size (b_ HB)) : w.heap.size ≤ gb183)); have n3_ := n2_; clear HB; have HB := n0_; have BK183 := n1_; have GW183 := n2_; have GE183 := n3_; clear n0_ n1_ n2_ n3_; clear hb hbox hg) | ((with_reducible refine gate_callee (f := 17) rfl ?_); refine goesL_ (some 13) rfl rfl Try.func17 (by kernel_rfl) rfl #[.slice A0 l0.length c0] rfl (by (try simp only [List.map_toArray, List.map_cons, List.map_nil]); first | done | rfl | (simp only [List.length_drop, List.length_take]; rfl)) ?_; (with_reducible refine (chalklineref35_Check.calls k _ _ l0 t184 _ ?side1 ?side2 A4.out).mono ?_); (case side1 => repeat (first | exact (Kd.C_below HR0.out HB.out) | (with_reducible refine Kd.C_alloc ?_ _) | (with_reducible refine Kd.C_drewN ?_ _) | (with_reducible refine Kd.C_drew ?_))); (case side2 => exact HC0.out); rintro e w8 ⟨rfl, hb⟩; refine ⟨_, rfl, ?_⟩; have n0_ := Aside0.mk (blk_below (k_ BK183) hb); have n1_ := Aside0.mk (below_step (b_ HB) hb); clear BK183; clear HB; have BK183 := n0_; have HB := n1_; clear n0_ n1_; (try clear hb); (try clear hb2); (try clear hk); (try clear hi)))
    (try simp only [Act.put, List.setIfInBounds_toArray, List.set_cons_zero, List.set_cons_succ])
    go_cut [31] (fun v31 wc => ∃ (kq : Nat) (x31_5 : Bool), v31 = .bool x31_5 ∧ Aside0 (chalklineref35_Reply.j0 kq l0 a1 a2 x31_5 = some (r1, r2, r3, r4, r5, r6, r7)) ∧ Aside0 (kq ≤ k) ∧ Aside0 (wc.heap[gb183]? = some (.cells #[.int .i64 0, .int .i64 0, .int .i64 0, .int .i64 0, (.slice none 0 0), (.slice none 0 0)] 32 (0, 0))) ∧ Aside0 (Below w.heap.size w wc))
    case first =>
      have H := HC6.out
      clear HC6
      by_cases c9 : a1 < 0
      · rw [if_pos c9] at H
        have c9b0 : decide (a1 < 0) = true := decide_eq_true c9
        clear c9
        (first | rw [c9b0] | (simp only [i64_w, i32_w]; rw [c9b0]) | skip)
        have H' := Aside0.mk H
        clear H
        go_wp2
        go_meet
        case rel => exact ⟨_, (true), (by first | rfl | (simp; done) | (simp [*]; done)), H', ⟨by first | omega | exact Nat.le_refl _⟩, ⟨k_ BK183⟩, ⟨b_ HB⟩⟩
      · rw [if_neg c9] at H
        have c9b0 : decide (a1 < 0) = false := decide_eq_false c9
        clear c9
        (first | rw [c9b0] | (simp only [i64_w, i32_w]; rw [c9b0]) | skip)
        by_cases c10 : a1 > 1099511627776
        · rw [if_pos c10] at H
          have c10b0 : decide (1099511627776 < a1) = true := decide_eq_true c10
          clear c10
          have H' := Aside0.mk H
          clear H
          go_wp2
          go_meet
          case rel => exact ⟨_, (true), (by first | rfl | (simp; done) | (simp [*]; done)), H', ⟨by first | omega | exact Nat.le_refl _⟩, ⟨k_ BK183⟩, ⟨b_ HB⟩⟩
        · rw [if_neg c10] at H
          have c10b0 : decide (1099511627776 < a1) = false := decide_eq_false c10
          clear c10
          by_cases c11 : a2 < 0
          · rw [if_pos c11] at H
            have c11b0 : decide (a2 < 0) = true := decide_eq_true c11
            clear c11
            have H' := Aside0.mk H
            clear H
            go_wp2
            go_meet
            case rel => exact ⟨_, (true), (by first | rfl | (simp; done) | (simp [*]; done)), H', ⟨by first | omega | exact Nat.le_refl _⟩, ⟨k_ BK183⟩, ⟨b_ HB⟩⟩
          · rw [if_neg c11] at H
            have c11b0 : decide (a2 < 0) = false := decide_eq_false c11
            clear c11
            have H' := Aside0.mk H
            clear H
            go_wp2
            go_meet
            case rel => exact ⟨_, (decide (a2 ≥ 8)), (by first | rfl | (simp; done) | (simp [*]; done)), H', ⟨by first | omega | exact Nat.le_refl _⟩, ⟨k_ BK183⟩, ⟨b_ HB⟩⟩
    case rest =>
      clear HC6
      try clear c1
      try clear p2
      try clear c5
      try clear c5b0
      try clear c5b1
      try clear c9
      try clear c9b0
      try clear c10
      try clear c10b0
      try clear c11
      try clear c11b0
      obtain ⟨kq, x31_5, rfl, HA, HJ5, BK183, HB⟩ := hcut
      cases kq with
      | zero => exact absurd HA.out (by simp [chalklineref35_Reply.j0])
      | succ kj5 =>
        have H := HA.out
        clear HA
        simp only [chalklineref35_Reply.j0] at H
        by_cases c12 : x31_5 = true
        · subst c12
          have H1 : (some (0, 0, 0, 0, ([] : List (S60)), ([] : List (S64)), 1)) = some (r1, r2, r3, r4, r5, r6, r7) := by rw [if_pos rfl] at H; exact H
          clear H
          have H := H1
          clear H1
          simp only [Option.some.injEq, Prod.mk.injEq] at H
          obtain ⟨rfl, rfl, rfl, rfl, rfl, rfl, rfl⟩ := H
          have hcz13_0 : wc.cell? ⟨gb183, 0, none⟩ = some (.int .i64 0) := (blk_cell BK183.out 0).trans rfl
          have hcz13_1 : wc.cell? ⟨gb183, 1, none⟩ = some (.int .i64 0) := (blk_cell BK183.out 1).trans rfl
          have hcz13_2 : wc.cell? ⟨gb183, 2, none⟩ = some (.int .i64 0) := (blk_cell BK183.out 2).trans rfl
          have hcz13_3 : wc.cell? ⟨gb183, 3, none⟩ = some (.int .i64 0) := (blk_cell BK183.out 3).trans rfl
          have hcz13_4 : wc.cell? ⟨gb183, 4, none⟩ = some (.slice none 0 0) := (blk_cell BK183.out 4).trans rfl
          have hcz13_5 : wc.cell? ⟨gb183, 5, none⟩ = some (.slice none 0 0) := (blk_cell BK183.out 5).trans rfl
          have hfz13_0 := blk_frozen BK183.out 0
          have hfz13_1 := blk_frozen BK183.out 1
          have hfz13_2 := blk_frozen BK183.out 2
          have hfz13_3 := blk_frozen BK183.out 3
          have hfz13_4 := blk_frozen BK183.out 4
          have hfz13_5 := blk_frozen BK183.out 5
          go_wp2
          refine bodyPost_ret (results_ct rfl _ _ gb183 32 #[.int .i64 0, .int .i64 0, .int .i64 0, .int .i64 0, .slice none 0 0, .slice none 0 0] (0, 0) _ rfl (by (with_reducible repeat (first | refine blk_drewN ?_ _ | refine blk_drew ?_ | refine blk_alloc ?_ _)); refine blk_put (cs := #[.int .i64 0, .int .i64 0, .int .i64 0, .int .i64 0, .slice none 0 0, .slice none 0 0]) ?_ 5 _ rfl; (with_reducible repeat (first | refine blk_drewN ?_ _ | refine blk_drew ?_ | refine blk_alloc ?_ _)); refine blk_put (cs := #[.int .i64 0, .int .i64 0, .int .i64 0, .int .i64 0, .slice none 0 0, .slice none 0 0]) ?_ 4 _ rfl; (with_reducible repeat (first | refine blk_drewN ?_ _ | refine blk_drew ?_ | refine blk_alloc ?_ _)); refine blk_put (cs := #[.int .i64 0, .int .i64 0, .int .i64 0, .int .i64 0, .slice none 0 0, .slice none 0 0]) ?_ 3 _ rfl; (with_reducible repeat (first | refine blk_drewN ?_ _ | refine blk_drew ?_ | refine blk_alloc ?_ _)); refine blk_put (cs := #[.int .i64 0, .int .i64 0, .int .i64 0, .int .i64 0, .slice none 0 0, .slice none 0 0]) ?_ 2 _ rfl; (with_reducible repeat (first | refine blk_drewN ?_ _ | refine blk_drew ?_ | refine blk_alloc ?_ _)); refine blk_put (cs := #[.int .i64 0, .int .i64 0, .int .i64 0, .int .i64 0, .slice none 0 0, .slice none 0 0]) ?_ 1 _ rfl; (with_reducible repeat (first | refine blk_drewN ?_ _ | refine blk_drew ?_ | refine blk_alloc ?_ _)); refine blk_put (cs := #[.int .i64 0, .int .i64 0, .int .i64 0, .int .i64 0, .slice none 0 0, .slice none 0 0]) ?_ 0 _ rfl; (with_reducible repeat (first | refine blk_drewN ?_ _ | refine blk_drew ?_ | refine blk_alloc ?_ _)); exact BK183.out) Try.underlying32 rfl (by kernel_rfl)) rfl ?_
          exact ⟨_, _, by first | rfl | (simp [errW_none, errW_some] <;> rfl) | (simp [*, errW_none, errW_some] <;> rfl), by first | exact Kd.R_nil _ _ _ _ _ | exact Kd.N_nil _ _ _ _ _ | exact Kd.V_nil _ _ _ _ _ | exact Kd.Q_nil _ _ _ _ _ | exact Kd.S_nil _ _ _ _ _, by first | exact Kd.R_nil _ _ _ _ _ | exact Kd.N_nil _ _ _ _ _ | exact Kd.V_nil _ _ _ _ _ | exact Kd.Q_nil _ _ _ _ _ | exact Kd.S_nil _ _ _ _ _, b_ HB⟩
        · replace c12 := Bool.eq_false_iff.mpr c12
          subst c12
          have H1 : (if a1 ≥ (l0.length : Int) then (some (0, 0, 0, 0, ([] : List (S60)), ([] : List (S64)), 341)) else (if 0 ≤ (wrap64 ((l0.length : Int) - 1)) then (if (wrap64 ((l0.length : Int) - 1)) < (l0.length : Int) then (if a1 > 0 then (if 0 ≤ (wrap64 (a1 - 1)) then (if (wrap64 (a1 - 1)) < (l0.length : Int) then (if (((rd_T52 l0 (wrap64 (a1 - 1))).f1.f0).length : Int) = (((rd_T52 l0 (wrap64 ((l0.length : Int) - 1))).f1.f0).length : Int) then ((chalklineref04_Diff.f kj5 ((rd_T52 l0 (wrap64 (a1 - 1))).f1.f0) ((rd_T52 l0 (wrap64 ((l0.length : Int) - 1))).f1.f0)).bind fun bt189 => (some (2, a2, a1, (rd_T52 l0 (wrap64 ((l0.length : Int) - 1))).f0, ([] : List (S60)), bt189.1, 0))) else ((some (([] : List (S60)) : List (S60))).bind fun y193 => (if y193.length + ((rd_T52 l0 (wrap64 ((l0.length : Int) - 1))).f1.f0).length < 8796093022208 then (some (1, a2, 0, (rd_T52 l0 (wrap64 ((l0.length : Int) - 1))).f0, (y193 ++ ((rd_T52 l0 (wrap64 ((l0.length : Int) - 1))).f1.f0)), ([] : List (S64)), 0)) else (none)))) else (none)) else (none)) else ((some (([] : List (S60)) : List (S60))).bind fun y199 => (if y199.length + ((rd_T52 l0 (wrap64 ((l0.length : Int) - 1))).f1.f0).length < 8796093022208 then (some (1, a2, 0, (rd_T52 l0 (wrap64 ((l0.length : Int) - 1))).f0, (y199 ++ ((rd_T52 l0 (wrap64 ((l0.length : Int) - 1))).f1.f0)), ([] : List (S64)), 0)) else (none)))) else (none)) else (none))) = some (r1, r2, r3, r4, r5, r6, r7) := by rw [if_neg (show ¬ (false = true) by decide)] at H; exact H
          clear H
          have H := H1
          clear H1
          by_cases c14 : a1 ≥ (l0.length : Int)
          · rw [if_pos c14] at H
            have c14b0 : decide ((l0.length : Int) ≤ a1) = true := decide_eq_true c14
            clear c14
            simp only [Option.some.injEq, Prod.mk.injEq] at H
            obtain ⟨rfl, rfl, rfl, rfl, rfl, rfl, rfl⟩ := H
            have hcz15_0 : wc.cell? ⟨gb183, 0, none⟩ = some (.int .i64 0) := (blk_cell BK183.out 0).trans rfl
            have hcz15_1 : wc.cell? ⟨gb183, 1, none⟩ = some (.int .i64 0) := (blk_cell BK183.out 1).trans rfl
            have hcz15_2 : wc.cell? ⟨gb183, 2, none⟩ = some (.int .i64 0) := (blk_cell BK183.out 2).trans rfl
            have hcz15_3 : wc.cell? ⟨gb183, 3, none⟩ = some (.int .i64 0) := (blk_cell BK183.out 3).trans rfl
            have hcz15_4 : wc.cell? ⟨gb183, 4, none⟩ = some (.slice none 0 0) := (blk_cell BK183.out 4).trans rfl
            have hcz15_5 : wc.cell? ⟨gb183, 5, none⟩ = some (.slice none 0 0) := (blk_cell BK183.out 5).trans rfl
            have hfz15_0 := blk_frozen BK183.out 0
            have hfz15_1 := blk_frozen BK183.out 1
            have hfz15_2 := blk_frozen BK183.out 2
            have hfz15_3 := blk_frozen BK183.out 3
            have hfz15_4 := blk_frozen BK183.out 4
            have hfz15_5 := blk_frozen BK183.out 5
            go_wp2
            refine bodyPost_ret (results_ct rfl _ _ gb183 32 #[.int .i64 0, .int .i64 0, .int .i64 0, .int .i64 0, .slice none 0 0, .slice none 0 0] (0, 0) _ rfl (by (with_reducible repeat (first | refine blk_drewN ?_ _ | refine blk_drew ?_ | refine blk_alloc ?_ _)); refine blk_put (cs := #[.int .i64 0, .int .i64 0, .int .i64 0, .int .i64 0, .slice none 0 0, .slice none 0 0]) ?_ 5 _ rfl; (with_reducible repeat (first | refine blk_drewN ?_ _ | refine blk_drew ?_ | refine blk_alloc ?_ _)); refine blk_put (cs := #[.int .i64 0, .int .i64 0, .int .i64 0, .int .i64 0, .slice none 0 0, .slice none 0 0]) ?_ 4 _ rfl; (with_reducible repeat (first | refine blk_drewN ?_ _ | refine blk_drew ?_ | refine blk_alloc ?_ _)); refine blk_put (cs := #[.int .i64 0, .int .i64 0, .int .i64 0, .int .i64 0, .slice none 0 0, .slice none 0 0]) ?_ 3 _ rfl; (with_reducible repeat (first | refine blk_drewN ?_ _ | refine blk_drew ?_ | refine blk_alloc ?_ _)); refine blk_put (cs := #[.int .i64 0, .int .i64 0, .int .i64 0, .int .i64 0, .slice none 0 0, .slice none 0 0]) ?_ 2 _ rfl; (with_reducible repeat (first | refine blk_drewN ?_ _ | refine blk_drew ?_ | refine blk_alloc ?_ _)); refine blk_put (cs := #[.int .i64 0, .int .i64 0, .int .i64 0, .int .i64 0, .slice none 0 0, .slice none 0 0]) ?_ 1 _ rfl; (with_reducible repeat (first | refine blk_drewN ?_ _ | refine blk_drew ?_ | refine blk_alloc ?_ _)); refine blk_put (cs := #[.int .i64 0, .int .i64 0, .int .i64 0, .int .i64 0, .slice none 0 0, .slice none 0 0]) ?_ 0 _ rfl; (with_reducible repeat (first | refine blk_drewN ?_ _ | refine blk_drew ?_ | refine blk_alloc ?_ _)); exact BK183.out) Try.underlying32 rfl (by kernel_rfl)) rfl ?_
            exact ⟨_, _, by first | rfl | (simp [errW_none, errW_some] <;> rfl) | (simp [*, errW_none, errW_some] <;> rfl), by first | exact Kd.R_nil _ _ _ _ _ | exact Kd.N_nil _ _ _ _ _ | exact Kd.V_nil _ _ _ _ _ | exact Kd.Q_nil _ _ _ _ _ | exact Kd.S_nil _ _ _ _ _, by first | exact Kd.R_nil _ _ _ _ _ | exact Kd.N_nil _ _ _ _ _ | exact Kd.V_nil _ _ _ _ _ | exact Kd.Q_nil _ _ _ _ _ | exact Kd.S_nil _ _ _ _ _, b_ HB⟩
          · rw [if_neg c14] at H
            have c14b0 : decide ((l0.length : Int) ≤ a1) = false := decide_eq_false c14
            clear c14
            obtain ⟨ji16, hji16⟩ : ∃ j_ : Int, (wrap64 ((l0.length : Int) - 1)) = j_ := ⟨_, rfl⟩
            replace H : (if 0 ≤ (ji16) then (if (ji16) < (l0.length : Int) then (if a1 > 0 then (if 0 ≤ (wrap64 (a1 - 1)) then (if (wrap64 (a1 - 1)) < (l0.length : Int) then (if (((rd_T52 l0 (wrap64 (a1 - 1))).f1.f0).length : Int) = (((rd_T52 l0 (ji16)).f1.f0).length : Int) then ((chalklineref04_Diff.f kj5 ((rd_T52 l0 (wrap64 (a1 - 1))).f1.f0) ((rd_T52 l0 (ji16)).f1.f0)).bind fun bt189 => (some (2, a2, a1, (rd_T52 l0 (ji16)).f0, ([] : List (S60)), bt189.1, 0))) else ((some (([] : List (S60)) : List (S60))).bind fun y193 => (if y193.length + ((rd_T52 l0 (ji16)).f1.f0).length < 8796093022208 then (some (1, a2, 0, (rd_T52 l0 (ji16)).f0, (y193 ++ ((rd_T52 l0 (ji16)).f1.f0)), ([] : List (S64)), 0)) else (none)))) else (none)) else (none)) else ((some (([] : List (S60)) : List (S60))).bind fun y199 => (if y199.length + ((rd_T52 l0 (ji16)).f1.f0).length < 8796093022208 then (some (1, a2, 0, (rd_T52 l0 (ji16)).f0, (y199 ++ ((rd_T52 l0 (ji16)).f1.f0)), ([] : List (S64)), 0)) else (none)))) else (none)) else (none)) = some (r1, r2, r3, r4, r5, r6, r7) := by first | (rw [hji16] at H; exact H) | (simp only [hji16] at H ⊢; exact H)
            have hji16w : (IntKind.i64.wrap ((l0.length : Int) - 1)) = ji16 := (i64_w _).trans hji16
            by_cases c17 : 0 ≤ (ji16)
            · rw [if_pos c17] at H
              have c17b0 : decide (0 ≤ (ji16)) = true := decide_eq_true c17
              clear c17
              by_cases c18 : (ji16) < (l0.length : Int)
              · rw [if_pos c18] at H
                have c18b0 : decide ((ji16) < (l0.length : Int)) = true := decide_eq_true c18
                clear c18
                by_cases c19 : a1 > 0
                · rw [if_pos c19] at H
                  have c19b0 : decide (0 < a1) = true := decide_eq_true c19
                  clear c19
                  obtain ⟨ji20, hji20⟩ : ∃ j_ : Int, (wrap64 (a1 - 1)) = j_ := ⟨_, rfl⟩
                  replace H : (if 0 ≤ (ji20) then (if (ji20) < (l0.length : Int) then (if (((rd_T52 l0 (ji20)).f1.f0).length : Int) = (((rd_T52 l0 (ji16)).f1.f0).length : Int) then ((chalklineref04_Diff.f kj5 ((rd_T52 l0 (ji20)).f1.f0) ((rd_T52 l0 (ji16)).f1.f0)).bind fun bt189 => (some (2, a2, a1, (rd_T52 l0 (ji16)).f0, ([] : List (S60)), bt189.1, 0))) else ((some (([] : List (S60)) : List (S60))).bind fun y193 => (if y193.length + ((rd_T52 l0 (ji16)).f1.f0).length < 8796093022208 then (some (1, a2, 0, (rd_T52 l0 (ji16)).f0, (y193 ++ ((rd_T52 l0 (ji16)).f1.f0)), ([] : List (S64)), 0)) else (none)))) else (none)) else (none)) = some (r1, r2, r3, r4, r5, r6, r7) := by first | (rw [hji20] at H; exact H) | (simp only [hji20] at H ⊢; exact H)
                  have hji20w : (IntKind.i64.wrap (a1 - 1)) = ji20 := (i64_w _).trans hji20
                  by_cases c21 : 0 ≤ (ji20)
                  · rw [if_pos c21] at H
                    have c21b0 : decide (0 ≤ (ji20)) = true := decide_eq_true c21
                    clear c21
                    by_cases c22 : (ji20) < (l0.length : Int)
                    · rw [if_pos c22] at H
                      have c22b0 : decide ((ji20) < (l0.length : Int)) = true := decide_eq_true c22
                      clear c22
                      by_cases c23 : (((rd_T52 l0 (ji20)).f1.f0).length : Int) = (((rd_T52 l0 (ji16)).f1.f0).length : Int)
                      · rw [if_pos c23] at H
                        have c23b0 : ((((rd_T52 l0 (ji20)).f1.f0).length : Int) == (((rd_T52 l0 (ji16)).f1.f0).length : Int)) = true := beq_iff_eq.mpr c23
                        have c23b1 : ((((rd_T52 l0 (ji20)).f1.f0).length : Int) != (((rd_T52 l0 (ji16)).f1.f0).length : Int)) = false := bne_eq_false_iff_eq.mpr c23
                        have c23b2 : (((rd_T52 l0 (ji20)).f1.f0).length == ((rd_T52 l0 (ji16)).f1.f0).length) = true := by first | simpa using c23 | (simp at c23 ⊢; omega)
                        clear c23
                        replace H := Option.bind_eq_some_iff.mp H
                        obtain ⟨⟨t189, t192⟩, A240, H⟩ := H
                        replace H : (some (2, a2, a1, (rd_T52 l0 (ji16)).f0, ([] : List (S60)), t189, 0)) = some (r1, r2, r3, r4, r5, r6, r7) := H
                        have A24 := Aside0.mk A240
                        clear A240
                        simp only [Option.some.injEq, Prod.mk.injEq] at H
                        obtain ⟨rfl, rfl, rfl, rfl, rfl, rfl, rfl⟩ := H
                        have p185 : 0 ≤ ((ji16) : Int) := of_decide_eq_true (by first | (with_reducible assumption) | assumption)
                        have q185 : (ji16) < (l0.length : Int) := of_decide_eq_true (by first | (with_reducible assumption) | assumption)
                        obtain ⟨ad185, A185_1, c185_1, e185, hx185_0, hx185_1, hx185_2, hx185_3, hl185_1, hi185_1⟩ := at_T52 HR0.out (ji16) p185 q185
                        cases e185
                        replace hx185_0 := (HB.out.cell (World.block_lt_of_cell? w _ hx185_0)).trans hx185_0
                        replace hx185_1 := (HB.out.cell (World.block_lt_of_cell? w _ hx185_1)).trans hx185_1
                        replace hx185_2 := (HB.out.cell (World.block_lt_of_cell? w _ hx185_2)).trans hx185_2
                        replace hx185_3 := (HB.out.cell (World.block_lt_of_cell? w _ hx185_3)).trans hx185_3
                        have HR185_1 := Aside0.mk hi185_1
                        have HC185_1 := Aside0.mk hl185_1
                        clear hi185_1 hl185_1
                        replace p185 := eq_true p185
                        replace q185 := eq_true q185
                        try go_wp2_with (first | ((with_reducible refine gate_dst (N := 9) rfl ?_); (try (refine gate_guard (by rfl) ?_; dsimp only)); refine box_event ?hg (N := 9) ?hd (cs := #[.int .i64 0, .slice none 0 0, .int .i64 0, .bool false]) (t := 52) ?hr ?_; (case hd => rfl); (case hg => rfl); (case hr => first | (go_simp; done) | (go_simp; rfl)); intro gb186 hg w25 hbox hb; have n0_ := Aside0.mk (blk_below (k_ BK183) hb); have n1_ := Aside0.mk (below_step (b_ HB) hb); have n2_ := Aside0.mk (hbox); have n3_ := Aside0.mk ((by rw [hg]; exact (below_size (b_ HB)) : w.heap.size ≤ gb186)); have n4_ := n3_; have n5_ := Aside0.mk ((by rw [hg]; exact Nat.ne_of_lt (blk_lt (k_ BK183)) : gb183 ≠ gb186)); have n6_ := Aside0.mk ((by rw [hg]; exact Nat.ne_of_gt (blk_lt (k_ BK183)) : gb186 ≠ gb183)); clear BK183; clear HB; have BK183 := n0_; have HB := n1_; have BK186 := n2_; have GW186 := n3_; have GE186 := n4_; have NB183_186 := n5_; have NB186_183 := n6_; clear n0_ n1_ n2_ n3_ n4_ n5_ n6_; clear hb hbox hg; have hnb26 := NB186_183.out; have hnc26 := NB183_186.out; have hcz27_0 : w25.cell? ⟨gb186, 0, none⟩ = some (.int .i64 0) := (blk_cell BK186.out 0).trans rfl; have hcz27_1 : w25.cell? ⟨gb186, 1, none⟩ = some (.slice none 0 0) := (blk_cell BK186.out 1).trans rfl; have hcz27_2 : w25.cell? ⟨gb186, 2, none⟩ = some (.int .i64 0) := (blk_cell BK186.out 2).trans rfl; have hcz27_3 : w25.cell? ⟨gb186, 3, none⟩ = some (.bool false) := (blk_cell BK186.out 3).trans rfl; have hfz27_0 := blk_frozen BK186.out 0; have hfz27_1 := blk_frozen BK186.out 1; have hfz27_2 := blk_frozen BK186.out 2; have hfz27_3 := blk_frozen BK186.out 3))
                        have n0_ : Aside0 (((((w25.setCell ⟨gb186, 0, none⟩ (.int .i64 ((rd_T52 l0 (ji16)).f0))).setCell ⟨gb186, 1, none⟩ (.slice A185_1 ((rd_T52 l0 (ji16)).f1.f0).length c185_1)).setCell ⟨gb186, 2, none⟩ (.int .i64 ((rd_T52 l0 (ji16)).f2))).setCell ⟨gb186, 3, none⟩ (.bool ((rd_T52 l0 (ji16)).f3))).heap[gb183]? = some (.cells #[.int .i64 0, .int .i64 0, .int .i64 0, .int .i64 0, .slice none 0 0, .slice none 0 0] 32 (0, 0))) := ⟨by (with_reducible repeat (first | refine blk_drewN ?_ _ | refine blk_drew ?_ | refine blk_alloc ?_ _)); refine blk_far ?_ NB183_186.out _; (with_reducible repeat (first | refine blk_drewN ?_ _ | refine blk_drew ?_ | refine blk_alloc ?_ _)); refine blk_far ?_ NB183_186.out _; (with_reducible repeat (first | refine blk_drewN ?_ _ | refine blk_drew ?_ | refine blk_alloc ?_ _)); refine blk_far ?_ NB183_186.out _; (with_reducible repeat (first | refine blk_drewN ?_ _ | refine blk_drew ?_ | refine blk_alloc ?_ _)); refine blk_far ?_ NB183_186.out _; (with_reducible repeat (first | refine blk_drewN ?_ _ | refine blk_drew ?_ | refine blk_alloc ?_ _)); exact BK183.out⟩
                        have n1_ : Aside0 (((((w25.setCell ⟨gb186, 0, none⟩ (.int .i64 ((rd_T52 l0 (ji16)).f0))).setCell ⟨gb186, 1, none⟩ (.slice A185_1 ((rd_T52 l0 (ji16)).f1.f0).length c185_1)).setCell ⟨gb186, 2, none⟩ (.int .i64 ((rd_T52 l0 (ji16)).f2))).setCell ⟨gb186, 3, none⟩ (.bool ((rd_T52 l0 (ji16)).f3))).heap[gb186]? = some (.cells #[.int .i64 ((rd_T52 l0 (ji16)).f0), .slice A185_1 ((rd_T52 l0 (ji16)).f1.f0).length c185_1, .int .i64 ((rd_T52 l0 (ji16)).f2), .bool ((rd_T52 l0 (ji16)).f3)] 52 (0, 0))) := ⟨by (with_reducible repeat (first | refine blk_drewN ?_ _ | refine blk_drew ?_ | refine blk_alloc ?_ _)); refine blk_put (cs := #[.int .i64 ((rd_T52 l0 (ji16)).f0), .slice A185_1 ((rd_T52 l0 (ji16)).f1.f0).length c185_1, .int .i64 ((rd_T52 l0 (ji16)).f2), .bool false]) ?_ 3 _ rfl; (with_reducible repeat (first | refine blk_drewN ?_ _ | refine blk_drew ?_ | refine blk_alloc ?_ _)); refine blk_put (cs := #[.int .i64 ((rd_T52 l0 (ji16)).f0), .slice A185_1 ((rd_T52 l0 (ji16)).f1.f0).length c185_1, .int .i64 0, .bool false]) ?_ 2 _ rfl; (with_reducible repeat (first | refine blk_drewN ?_ _ | refine blk_drew ?_ | refine blk_alloc ?_ _)); refine blk_put (cs := #[.int .i64 ((rd_T52 l0 (ji16)).f0), .slice none 0 0, .int .i64 0, .bool false]) ?_ 1 _ rfl; (with_reducible repeat (first | refine blk_drewN ?_ _ | refine blk_drew ?_ | refine blk_alloc ?_ _)); refine blk_put (cs := #[.int .i64 0, .slice none 0 0, .int .i64 0, .bool false]) ?_ 0 _ rfl; (with_reducible repeat (first | refine blk_drewN ?_ _ | refine blk_drew ?_ | refine blk_alloc ?_ _)); exact BK186.out⟩
                        have n2_ : Aside0 (Below w.heap.size w ((((w25.setCell ⟨gb186, 0, none⟩ (.int .i64 ((rd_T52 l0 (ji16)).f0))).setCell ⟨gb186, 1, none⟩ (.slice A185_1 ((rd_T52 l0 (ji16)).f1.f0).length c185_1)).setCell ⟨gb186, 2, none⟩ (.int .i64 ((rd_T52 l0 (ji16)).f2))).setCell ⟨gb186, 3, none⟩ (.bool ((rd_T52 l0 (ji16)).f3)))) := ⟨b_ HB⟩
                        (try clear BK183)
                        (try clear BK186)
                        (try clear HB)
                        generalize ((((w25.setCell ⟨gb186, 0, none⟩ (.int .i64 ((rd_T52 l0 (ji16)).f0))).setCell ⟨gb186, 1, none⟩ (.slice A185_1 ((rd_T52 l0 (ji16)).f1.f0).length c185_1)).setCell ⟨gb186, 2, none⟩ (.int .i64 ((rd_T52 l0 (ji16)).f2))).setCell ⟨gb186, 3, none⟩ (.bool ((rd_T52 l0 (ji16)).f3))) = w28 at n0_ n1_ n2_ ⊢
                        have BK183 := n0_
                        have BK186 := n1_
                        have HB := n2_
                        clear n0_ n1_ n2_
                        have n0_ := Aside0.mk (blk_drew BK183.out)
                        have n1_ := Aside0.mk (blk_drew BK186.out)
                        have n2_ := Aside0.mk (below_drew1 HB.out)
                        clear BK183
                        clear BK186
                        clear HB
                        have BK183 := n0_
                        have BK186 := n1_
                        have HB := n2_
                        clear n0_ n1_ n2_
                        have p187 : 0 ≤ ((ji20) : Int) := of_decide_eq_true (by first | (with_reducible assumption) | assumption)
                        have q187 : (ji20) < (l0.length : Int) := of_decide_eq_true (by first | (with_reducible assumption) | assumption)
                        obtain ⟨ad187, A187_1, c187_1, e187, hx187_0, hx187_1, hx187_2, hx187_3, hl187_1, hi187_1⟩ := at_T52 HR0.out (ji20) p187 q187
                        have hw187_3 := hx187_3
                        have hw187_2 := hx187_2
                        have hw187_1 := hx187_1
                        have hw187_0 := hx187_0
                        obtain rfl : ad185 = ad187 := (by injection e187)
                        replace hx187_0 := (HB.out.cell (World.block_lt_of_cell? w _ hx187_0)).trans hx187_0
                        replace hx187_1 := (HB.out.cell (World.block_lt_of_cell? w _ hx187_1)).trans hx187_1
                        replace hx187_2 := (HB.out.cell (World.block_lt_of_cell? w _ hx187_2)).trans hx187_2
                        replace hx187_3 := (HB.out.cell (World.block_lt_of_cell? w _ hx187_3)).trans hx187_3
                        have HR187_1 := Aside0.mk hi187_1
                        have HC187_1 := Aside0.mk hl187_1
                        clear hi187_1 hl187_1
                        replace p187 := eq_true p187
                        replace q187 := eq_true q187
                        refine start_ (n := 17) (S := fun w' => w'.cell? ⟨gb186, 0, none⟩ = some (.int .i64 ((rd_T52 l0 (ji16)).f0)) ∧ w'.cell? ⟨gb186, 1, none⟩ = some (.slice A185_1 ((rd_T52 l0 (ji16)).f1.f0).length c185_1) ∧ w'.cell? ⟨gb186, 2, none⟩ = some (.int .i64 ((rd_T52 l0 (ji16)).f2)) ∧ w'.cell? ⟨gb186, 3, none⟩ = some (.bool ((rd_T52 l0 (ji16)).f3)) ∧ w'.cell? (ad185.add (((ji20)).toNat * 4)) = some (.int .i64 ((rd_T52 l0 (ji20)).f0)) ∧ w'.cell? ⟨(ad185.add (((ji20)).toNat * 4)).block, (ad185.add (((ji20)).toNat * 4)).off + 1, none⟩ = some (.slice A187_1 ((rd_T52 l0 (ji20)).f1.f0).length c187_1) ∧ w'.cell? ⟨(ad185.add (((ji20)).toNat * 4)).block, (ad185.add (((ji20)).toNat * 4)).off + 2, none⟩ = some (.int .i64 ((rd_T52 l0 (ji20)).f2)) ∧ w'.cell? ⟨(ad185.add (((ji20)).toNat * 4)).block, (ad185.add (((ji20)).toNat * 4)).off + 3, none⟩ = some (.bool ((rd_T52 l0 (ji20)).f3))) (ds := []) #[false, false, false, false, false, false, false, false, false, false, false, false, false, false, false, false, false] (by kernel_rfl) rfl rfl ⟨(blk_cell BK186.out 0).trans rfl, (blk_cell BK186.out 1).trans rfl, (blk_cell BK186.out 2).trans rfl, (blk_cell BK186.out 3).trans rfl, ((HB.out.cell (World.block_lt_of_cell? w _ hw187_0)).trans hw187_0), ((HB.out.cell (World.block_lt_of_cell? w _ hw187_1)).trans hw187_1), ((HB.out.cell (World.block_lt_of_cell? w _ hw187_2)).trans hw187_2), ((HB.out.cell (World.block_lt_of_cell? w _ hw187_3)).trans hw187_3)⟩ (fun hHeld => ?_); refine with_tabW chalklineref35_Reply.tab9 chalklineref35_Reply.bits9 (fun HT_ HW_ => ?_)
                        generalize w28.drew = w29 at BK183 BK186 HB HR187_1 hx187_0 hx187_1 hx187_2 hx187_3 hHeld ⊢
                        refine pure_ (i := 0) (N := some 44) (v := ?_) (a' := ?_) #[true, false, false, false, false, false, false, false, false, false, false, false, false, false, false, false, false] rfl rfl (any_of HT_.out (by kernel_rfl)) (fun _ _ _ h => h) (Or.inl ⟨by rfl, ?_⟩) ?_ ?_
                        rotate_left
                        · intro w'
                          go_simp
                          with_reducible rfl
                        rotate_left
                        · simp only [Act.put, List.setIfInBounds_toArray, List.set_cons_zero, List.set_cons_succ, i64_w, i32_w]
                          rfl
                        refine pure_ (i := 1) (N := some 45) (v := ?_) (a' := ?_) #[true, true, false, false, false, false, false, false, false, false, false, false, false, false, false, false, false] rfl rfl (any_of HT_.out (by kernel_rfl)) (fun _ _ _ h => h) (Or.inl ⟨by rfl, ?_⟩) ?_ ?_
                        rotate_left
                        · intro w'
                          go_simp
                          with_reducible rfl
                        rotate_left
                        · simp only [Act.put, List.setIfInBounds_toArray, List.set_cons_zero, List.set_cons_succ, i64_w, i32_w]
                          rfl
                        refine pure_ (i := 2) (N := some 46) (v := ?_) (a' := ?_) #[true, true, true, false, false, false, false, false, false, false, false, false, false, false, false, false, false] rfl rfl (any_of HT_.out (by kernel_rfl)) (fun _ _ _ h => h) (Or.inl ⟨by rfl, ?_⟩) ?_ ?_
                        rotate_left
                        · intro w'
                          go_simp
                          with_reducible rfl
                        rotate_left
                        · simp only [Act.put, List.setIfInBounds_toArray, List.set_cons_zero, List.set_cons_succ, i64_w, i32_w]
                          rfl
                        refine pure_ (i := 3) (N := some 47) (v := ?_) (a' := ?_) #[true, true, true, true, false, false, false, false, false, false, false, false, false, false, false, false, false] rfl rfl (any_of HT_.out (by kernel_rfl)) (fun _ _ _ h => h) (Or.inl ⟨by rfl, ?_⟩) ?_ ?_
                        rotate_left
                        · intro w'
                          go_simp
                          with_reducible rfl
                        rotate_left
                        · simp only [Act.put, List.setIfInBounds_toArray, List.set_cons_zero, List.set_cons_succ, i64_w, i32_w]
                          rfl
                        refine pure_ (i := 4) (N := some 48) (v := ?_) (a' := ?_) #[true, true, true, true, true, false, false, false, false, false, false, false, false, false, false, false, false] rfl rfl (any_of HT_.out (by kernel_rfl)) (fun _ _ _ h => h) (Or.inl ⟨by rfl, ?_⟩) ?_ ?_
                        rotate_left
                        · intro w'
                          go_simp
                          with_reducible rfl
                        rotate_left
                        · simp only [Act.put, List.setIfInBounds_toArray, List.set_cons_zero, List.set_cons_succ, i64_w, i32_w]
                          rfl
                        refine pure_ (i := 5) (N := some 49) (v := ?_) (a' := ?_) #[true, true, true, true, true, true, false, false, false, false, false, false, false, false, false, false, false] rfl rfl (any_of HT_.out (by kernel_rfl)) (fun _ _ _ h => h) (Or.inl ⟨by rfl, ?_⟩) ?_ ?_
                        rotate_left
                        · intro w'
                          go_simp
                          with_reducible rfl
                        rotate_left
                        · simp only [Act.put, List.setIfInBounds_toArray, List.set_cons_zero, List.set_cons_succ, i64_w, i32_w]
                          rfl
                        refine pure_ (i := 6) (N := some 50) (v := ?_) (a' := ?_) #[true, true, true, true, true, true, true, false, false, false, false, false, false, false, false, false, false] rfl rfl (any_of HT_.out (by kernel_rfl)) (fun _ _ _ h => h) (Or.inl ⟨by rfl, ?_⟩) ?_ ?_
                        rotate_left
                        · intro w'
                          go_simp
                          with_reducible rfl
                        rotate_left
                        · simp only [Act.put, List.setIfInBounds_toArray, List.set_cons_zero, List.set_cons_succ, i64_w, i32_w]
                          rfl
                        refine pure_ (i := 7) (N := some 51) (v := ?_) (a' := ?_) #[true, true, true, true, true, true, true, true, false, false, false, false, false, false, false, false, false] rfl rfl (any_of HT_.out (by kernel_rfl)) (fun _ _ _ h => h) (Or.inl ⟨by rfl, ?_⟩) ?_ ?_
                        rotate_left
                        · intro w'
                          go_simp
                          with_reducible rfl
                        rotate_left
                        · simp only [Act.put, List.setIfInBounds_toArray, List.set_cons_zero, List.set_cons_succ, i64_w, i32_w]
                          rfl
                        refine pure_ (i := 8) (N := some 52) (v := ?_) (a' := ?_) #[true, true, true, true, true, true, true, true, true, false, false, false, false, false, false, false, false] rfl rfl (any_of HT_.out (by kernel_rfl)) (fun _ _ _ h => h) (Or.inl ⟨by rfl, ?_⟩) ?_ ?_
                        rotate_left
                        · intro w'
                          go_simp
                          with_reducible rfl
                        rotate_left
                        · simp only [Act.put, List.setIfInBounds_toArray, List.set_cons_zero, List.set_cons_succ, i64_w, i32_w]
                          rfl
                        refine pure_ (i := 11) (N := some 55) (v := ?_) (a' := ?_) #[true, true, true, true, true, true, true, true, true, false, false, true, false, false, false, false, false] rfl rfl (any_of HT_.out (by kernel_rfl)) (fun _ _ _ h => h) (Or.inl ⟨by rfl, ?_⟩) ?_ ?_
                        rotate_left
                        · intro w'
                          go_simp
                          with_reducible rfl
                        rotate_left
                        · simp only [Act.put, List.setIfInBounds_toArray, List.set_cons_zero, List.set_cons_succ, i64_w, i32_w]
                          rfl
                        refine pure_ (i := 12) (N := some 56) (v := ?_) (a' := ?_) #[true, true, true, true, true, true, true, true, true, false, false, true, true, false, false, false, false] rfl rfl (any_of HT_.out (by kernel_rfl)) (fun _ _ _ h => h) (Or.inl ⟨by rfl, ?_⟩) ?_ ?_
                        rotate_left
                        · intro w'
                          go_simp
                          with_reducible rfl
                        rotate_left
                        · simp only [Act.put, List.setIfInBounds_toArray, List.set_cons_zero, List.set_cons_succ, i64_w, i32_w]
                          rfl
                        refine take_ (i := 9) (N := some 53) (v := ?_) (a' := ?_) #[true, true, true, true, true, true, true, true, true, true, false, true, true, false, false, false, false] rfl rfl (take_ofW HT_.out HW_.out (by kernel_rfl)) (fun _ _ _ h => h) (Or.inl ⟨by rfl, ?_⟩) hHeld ?_ ?_
                        rotate_left
                        · rintro w' ⟨s0, s1, s2, s3, s4, s5, s6, s7⟩
                          go_simp
                          with_reducible rfl
                        rotate_left
                        · simp only [Act.put, List.setIfInBounds_toArray, List.set_cons_zero, List.set_cons_succ, i64_w, i32_w]
                          rfl
                        refine pure_ (i := 10) (N := some 54) (v := ?_) (a' := ?_) #[true, true, true, true, true, true, true, true, true, true, true, true, true, false, false, false, false] rfl rfl (any_of HT_.out (by kernel_rfl)) (fun _ _ _ h => h) (Or.inl ⟨by rfl, ?_⟩) ?_ ?_
                        rotate_left
                        · intro w'
                          go_simp
                          with_reducible rfl
                        rotate_left
                        · simp only [Act.put, List.setIfInBounds_toArray, List.set_cons_zero, List.set_cons_succ, i64_w, i32_w]
                          rfl
                        refine take_ (i := 13) (N := some 57) (v := ?_) (a' := ?_) #[true, true, true, true, true, true, true, true, true, true, true, true, true, true, false, false, false] rfl rfl (take_ofW HT_.out HW_.out (by kernel_rfl)) (fun _ _ _ h => h) (Or.inl ⟨by rfl, ?_⟩) hHeld ?_ ?_
                        rotate_left
                        · rintro w' ⟨s0, s1, s2, s3, s4, s5, s6, s7⟩
                          go_simp
                          with_reducible rfl
                        rotate_left
                        · simp only [Act.put, List.setIfInBounds_toArray, List.set_cons_zero, List.set_cons_succ, i64_w, i32_w]
                          rfl
                        refine pure_ (i := 14) (N := some 58) (v := ?_) (a' := ?_) #[true, true, true, true, true, true, true, true, true, true, true, true, true, true, true, false, false] rfl rfl (any_of HT_.out (by kernel_rfl)) (fun _ _ _ h => h) (Or.inl ⟨by rfl, ?_⟩) ?_ ?_
                        rotate_left
                        · intro w'
                          go_simp
                          with_reducible rfl
                        rotate_left
                        · simp only [Act.put, List.setIfInBounds_toArray, List.set_cons_zero, List.set_cons_succ, i64_w, i32_w]
                          rfl
                        refine pure_ (i := 15) (N := some 59) (v := ?_) (a' := ?_) #[true, true, true, true, true, true, true, true, true, true, true, true, true, true, true, true, false] rfl rfl (any_of HT_.out (by kernel_rfl)) (fun _ _ _ h => h) (Or.inl ⟨by rfl, ?_⟩) ?_ ?_
                        rotate_left
                        · intro w'
                          go_simp
                          with_reducible rfl
                        rotate_left
                        · simp only [Act.put, List.setIfInBounds_toArray, List.set_cons_zero, List.set_cons_succ, i64_w, i32_w]
                          rfl
                        refine pure_ (i := 16) (N := some 60) (v := ?_) (a' := ?_) #[true, true, true, true, true, true, true, true, true, true, true, true, true, true, true, true, true] rfl rfl (any_of HT_.out (by kernel_rfl)) (fun _ _ _ h => h) (Or.inl ⟨by rfl, ?_⟩) ?_ ?_
                        rotate_left
                        · intro w'
                          go_simp
                          with_reducible rfl
                        rotate_left
                        · simp only [Act.put, List.setIfInBounds_toArray, List.set_cons_zero, List.set_cons_succ, i64_w, i32_w]
                          rfl
                        refine done_ (done_of HT_.out (by kernel_rfl)) ?_
                        try go_wp2
                        have n0_ := Aside0.mk (blk_drew BK183.out)
                        have n1_ := Aside0.mk (blk_drew BK186.out)
                        have n2_ := Aside0.mk (below_drew1 HB.out)
                        clear BK183
                        clear BK186
                        clear HB
                        have BK183 := n0_
                        have BK186 := n1_
                        have HB := n2_
                        clear n0_ n1_ n2_
                        have p188 : 0 ≤ ((ji20) : Int) := of_decide_eq_true (by first | (with_reducible assumption) | assumption)
                        have q188 : (ji20) < (l0.length : Int) := of_decide_eq_true (by first | (with_reducible assumption) | assumption)
                        obtain ⟨ad188, A188_1, c188_1, e188, hx188_0, hx188_1, hx188_2, hx188_3, hl188_1, hi188_1⟩ := at_T52 HR0.out (ji20) p188 q188
                        have hw188_3 := hx188_3
                        have hw188_2 := hx188_2
                        have hw188_1 := hx188_1
                        have hw188_0 := hx188_0
                        obtain rfl : ad185 = ad188 := (by injection e188)
                        replace hx188_0 := (HB.out.cell (World.block_lt_of_cell? w _ hx188_0)).trans hx188_0
                        replace hx188_1 := (HB.out.cell (World.block_lt_of_cell? w _ hx188_1)).trans hx188_1
                        replace hx188_2 := (HB.out.cell (World.block_lt_of_cell? w _ hx188_2)).trans hx188_2
                        replace hx188_3 := (HB.out.cell (World.block_lt_of_cell? w _ hx188_3)).trans hx188_3
                        have HR188_1 := Aside0.mk hi188_1
                        have HC188_1 := Aside0.mk hl188_1
                        clear hi188_1 hl188_1
                        replace p188 := eq_true p188
                        replace q188 := eq_true q188
                        refine start_ (n := 14) (S := fun w' => w'.cell? ⟨gb186, 0, none⟩ = some (.int .i64 ((rd_T52 l0 (ji16)).f0)) ∧ w'.cell? ⟨gb186, 1, none⟩ = some (.slice A185_1 ((rd_T52 l0 (ji16)).f1.f0).length c185_1) ∧ w'.cell? ⟨gb186, 2, none⟩ = some (.int .i64 ((rd_T52 l0 (ji16)).f2)) ∧ w'.cell? ⟨gb186, 3, none⟩ = some (.bool ((rd_T52 l0 (ji16)).f3)) ∧ w'.cell? (ad185.add (((ji20)).toNat * 4)) = some (.int .i64 ((rd_T52 l0 (ji20)).f0)) ∧ w'.cell? ⟨(ad185.add (((ji20)).toNat * 4)).block, (ad185.add (((ji20)).toNat * 4)).off + 1, none⟩ = some (.slice A188_1 ((rd_T52 l0 (ji20)).f1.f0).length c188_1) ∧ w'.cell? ⟨(ad185.add (((ji20)).toNat * 4)).block, (ad185.add (((ji20)).toNat * 4)).off + 2, none⟩ = some (.int .i64 ((rd_T52 l0 (ji20)).f2)) ∧ w'.cell? ⟨(ad185.add (((ji20)).toNat * 4)).block, (ad185.add (((ji20)).toNat * 4)).off + 3, none⟩ = some (.bool ((rd_T52 l0 (ji20)).f3))) (ds := []) #[false, false, false, false, false, false, false, false, false, false, false, false, false, false] (by kernel_rfl) rfl rfl ⟨(blk_cell BK186.out 0).trans rfl, (blk_cell BK186.out 1).trans rfl, (blk_cell BK186.out 2).trans rfl, (blk_cell BK186.out 3).trans rfl, ((HB.out.cell (World.block_lt_of_cell? w _ hw188_0)).trans hw188_0), ((HB.out.cell (World.block_lt_of_cell? w _ hw188_1)).trans hw188_1), ((HB.out.cell (World.block_lt_of_cell? w _ hw188_2)).trans hw188_2), ((HB.out.cell (World.block_lt_of_cell? w _ hw188_3)).trans hw188_3)⟩ (fun hHeld => ?_); refine with_tabW chalklineref35_Reply.tab10 chalklineref35_Reply.bits10 (fun HT_ HW_ => ?_)
                        generalize w29.drew = w30 at BK183 BK186 HB HR188_1 hx188_0 hx188_1 hx188_2 hx188_3 hHeld ⊢
                        refine pure_ (i := 0) (N := some 62) (v := ?_) (a' := ?_) #[true, false, false, false, false, false, false, false, false, false, false, false, false, false] rfl rfl (any_of HT_.out (by kernel_rfl)) (fun _ _ _ h => h) (Or.inl ⟨by rfl, ?_⟩) ?_ ?_
                        rotate_left
                        · intro w'
                          go_simp
                          with_reducible rfl
                        rotate_left
                        · simp only [Act.put, List.setIfInBounds_toArray, List.set_cons_zero, List.set_cons_succ, i64_w, i32_w]
                          rfl
                        refine pure_ (i := 1) (N := some 63) (v := ?_) (a' := ?_) #[true, true, false, false, false, false, false, false, false, false, false, false, false, false] rfl rfl (any_of HT_.out (by kernel_rfl)) (fun _ _ _ h => h) (Or.inl ⟨by rfl, ?_⟩) ?_ ?_
                        rotate_left
                        · intro w'
                          go_simp
                          with_reducible rfl
                        rotate_left
                        · simp only [Act.put, List.setIfInBounds_toArray, List.set_cons_zero, List.set_cons_succ, i64_w, i32_w]
                          rfl
                        refine pure_ (i := 2) (N := some 64) (v := ?_) (a' := ?_) #[true, true, true, false, false, false, false, false, false, false, false, false, false, false] rfl rfl (any_of HT_.out (by kernel_rfl)) (fun _ _ _ h => h) (Or.inl ⟨by rfl, ?_⟩) ?_ ?_
                        rotate_left
                        · intro w'
                          go_simp
                          with_reducible rfl
                        rotate_left
                        · simp only [Act.put, List.setIfInBounds_toArray, List.set_cons_zero, List.set_cons_succ, i64_w, i32_w]
                          rfl
                        refine pure_ (i := 3) (N := some 65) (v := ?_) (a' := ?_) #[true, true, true, true, false, false, false, false, false, false, false, false, false, false] rfl rfl (any_of HT_.out (by kernel_rfl)) (fun _ _ _ h => h) (Or.inl ⟨by rfl, ?_⟩) ?_ ?_
                        rotate_left
                        · intro w'
                          go_simp
                          with_reducible rfl
                        rotate_left
                        · simp only [Act.put, List.setIfInBounds_toArray, List.set_cons_zero, List.set_cons_succ, i64_w, i32_w]
                          rfl
                        refine pure_ (i := 4) (N := some 66) (v := ?_) (a' := ?_) #[true, true, true, true, true, false, false, false, false, false, false, false, false, false] rfl rfl (any_of HT_.out (by kernel_rfl)) (fun _ _ _ h => h) (Or.inl ⟨by rfl, ?_⟩) ?_ ?_
                        rotate_left
                        · intro w'
                          go_simp
                          with_reducible rfl
                        rotate_left
                        · simp only [Act.put, List.setIfInBounds_toArray, List.set_cons_zero, List.set_cons_succ, i64_w, i32_w]
                          rfl
                        refine pure_ (i := 6) (N := some 68) (v := ?_) (a' := ?_) #[true, true, true, true, true, false, true, false, false, false, false, false, false, false] rfl rfl (any_of HT_.out (by kernel_rfl)) (fun _ _ _ h => h) (Or.inl ⟨by rfl, ?_⟩) ?_ ?_
                        rotate_left
                        · intro w'
                          go_simp
                          with_reducible rfl
                        rotate_left
                        · simp only [Act.put, List.setIfInBounds_toArray, List.set_cons_zero, List.set_cons_succ, i64_w, i32_w]
                          rfl
                        refine take_ (i := 5) (N := some 67) (v := ?_) (a' := ?_) #[true, true, true, true, true, true, true, false, false, false, false, false, false, false] rfl rfl (take_ofW HT_.out HW_.out (by kernel_rfl)) (fun _ _ _ h => h) (Or.inl ⟨by rfl, ?_⟩) hHeld ?_ ?_
                        rotate_left
                        · rintro w' ⟨s0, s1, s2, s3, s4, s5, s6, s7⟩
                          go_simp
                          with_reducible rfl
                        rotate_left
                        · simp only [Act.put, List.setIfInBounds_toArray, List.set_cons_zero, List.set_cons_succ, i64_w, i32_w]
                          rfl
                        refine take_ (i := 7) (N := some 69) (v := ?_) (a' := ?_) #[true, true, true, true, true, true, true, true, false, false, false, false, false, false] rfl rfl (take_ofW HT_.out HW_.out (by kernel_rfl)) (fun _ _ _ h => h) (Or.inl ⟨by rfl, ?_⟩) hHeld ?_ ?_
                        rotate_left
                        · rintro w' ⟨s0, s1, s2, s3, s4, s5, s6, s7⟩
                          go_simp
                          with_reducible rfl
                        rotate_left
                        · simp only [Act.put, List.setIfInBounds_toArray, List.set_cons_zero, List.set_cons_succ, i64_w, i32_w]
                          rfl
                        refine one_ (i := 8) (N := some 70) #[true, true, true, true, true, true, true, true, true, false, false, false, false, false] rfl rfl (one_of HT_.out (by kernel_rfl)) (by decide) (fun K hK => ?_)
                        refine goes_ Try.func30 (by kernel_rfl) rfl #[.agg #[.slice A188_1 ((rd_T52 l0 (ji20)).f1.f0).length c188_1], .agg #[.slice A185_1 ((rd_T52 l0 (ji16)).f1.f0).length c185_1]] (by rfl) rfl rfl (by (try simp only [List.map_toArray, List.map_cons, List.map_nil]); first | done | (simp only [hji16, hji20]; rfl) | rfl | (simp only [List.length_drop, List.length_take]; rfl)) ?_
                        with_reducible refine (chalklineref04_Diff.calls kj5 _ _ ((rd_T52 l0 (ji20)).f1.f0) _ _ ((rd_T52 l0 (ji16)).f1.f0) t189 t192 _ ?side1 ?side2 ?side3 ?side4 A24.out).mono ?_
                        (case side1 => repeat (first | exact (Kd.C_below HR188_1.out HB.out) | (with_reducible refine Kd.C_alloc ?_ _) | (with_reducible refine Kd.C_drewN ?_ _) | (with_reducible refine Kd.C_drew ?_)))
                        (case side2 => exact HC188_1.out)
                        (case side3 => repeat (first | exact (Kd.C_below HR185_1.out HB.out) | (with_reducible refine Kd.C_alloc ?_ _) | (with_reducible refine Kd.C_drewN ?_ _) | (with_reducible refine Kd.C_drew ?_)))
                        (case side4 => exact HC185_1.out)
                        rintro e w31 ⟨v190, rfl, ho0, hb⟩
                        refine ⟨_, rfl, ?_⟩
                        have n0_ := Aside0.mk (Kd.R_lower ho0 (below_size (b_ HB)))
                        have n1_ := Aside0.mk (blk_below (k_ BK183) hb)
                        have n2_ := Aside0.mk (blk_below (k_ BK186) hb)
                        have n3_ := Aside0.mk (below_step (b_ HB) hb)
                        clear BK183
                        clear BK186
                        clear HB
                        have HO191 := n0_
                        have BK183 := n1_
                        have BK186 := n2_
                        have HB := n3_
                        clear n0_ n1_ n2_ n3_
                        (try clear hb)
                        (try clear hb2)
                        (try clear hk)
                        (try clear hi)
                        (try clear ho0)
                        refine hK.out _ _ ⟨(blk_cell BK186.out 0).trans rfl, (blk_cell BK186.out 1).trans rfl, (blk_cell BK186.out 2).trans rfl, (blk_cell BK186.out 3).trans rfl, ((HB.out.cell (World.block_lt_of_cell? w _ hw188_0)).trans hw188_0), ((HB.out.cell (World.block_lt_of_cell? w _ hw188_1)).trans hw188_1), ((HB.out.cell (World.block_lt_of_cell? w _ hw188_2)).trans hw188_2), ((HB.out.cell (World.block_lt_of_cell? w _ hw188_3)).trans hw188_3)⟩ (fun hHeld => ?_)
                        clear hK K
                        refine norm_ (a' := ?_) ?_ ?_
                        rotate_left
                        · show Act.put _ (some 70) _ = _
                          simp only [Act.put, List.setIfInBounds_toArray, List.set_cons_zero, List.set_cons_succ, i64_w, i32_w]
                          rfl
                        refine pure_ (i := 9) (N := some 61) (v := ?_) (a' := ?_) #[true, true, true, true, true, true, true, true, true, true, false, false, false, false] rfl rfl (any_of HT_.out (by kernel_rfl)) (fun _ _ _ h => h) (Or.inl ⟨by rfl, ?_⟩) ?_ ?_
                        rotate_left
                        · intro w'
                          go_simp
                          with_reducible rfl
                        rotate_left
                        · simp only [Act.put, List.setIfInBounds_toArray, List.set_cons_zero, List.set_cons_succ, i64_w, i32_w]
                          rfl
                        refine pure_ (i := 10) (N := some 71) (v := ?_) (a' := ?_) #[true, true, true, true, true, true, true, true, true, true, true, false, false, false] rfl rfl (any_of HT_.out (by kernel_rfl)) (fun _ _ _ h => h) (Or.inl ⟨by rfl, ?_⟩) ?_ ?_
                        rotate_left
                        · intro w'
                          go_simp
                          with_reducible rfl
                        rotate_left
                        · simp only [Act.put, List.setIfInBounds_toArray, List.set_cons_zero, List.set_cons_succ, i64_w, i32_w]
                          rfl
                        refine pure_ (i := 11) (N := some 72) (v := ?_) (a' := ?_) #[true, true, true, true, true, true, true, true, true, true, true, true, false, false] rfl rfl (any_of HT_.out (by kernel_rfl)) (fun _ _ _ h => h) (Or.inl ⟨by rfl, ?_⟩) ?_ ?_
                        rotate_left
                        · intro w'
                          go_simp
                          with_reducible rfl
                        rotate_left
                        · simp only [Act.put, List.setIfInBounds_toArray, List.set_cons_zero, List.set_cons_succ, i64_w, i32_w]
                          rfl
                        refine pure_ (i := 12) (N := some 10) (v := ?_) (a' := ?_) #[true, true, true, true, true, true, true, true, true, true, true, true, true, false] rfl rfl (any_of HT_.out (by kernel_rfl)) (fun _ _ _ h => h) (Or.inl ⟨by rfl, ?_⟩) ?_ ?_
                        rotate_left
                        · intro w'
                          go_simp
                          with_reducible rfl
                        rotate_left
                        · simp only [Act.put, List.setIfInBounds_toArray, List.set_cons_zero, List.set_cons_succ, i64_w, i32_w]
                          rfl
                        refine pure_ (i := 13) (N := some 11) (v := ?_) (a' := ?_) #[true, true, true, true, true, true, true, true, true, true, true, true, true, true] rfl rfl (any_of HT_.out (by kernel_rfl)) (fun _ _ _ h => h) (Or.inl ⟨by rfl, ?_⟩) ?_ ?_
                        rotate_left
                        · intro w'
                          go_simp
                          with_reducible rfl
                        rotate_left
                        · simp only [Act.put, List.setIfInBounds_toArray, List.set_cons_zero, List.set_cons_succ, i64_w, i32_w]
                          rfl
                        refine done_ (done_of HT_.out (by kernel_rfl)) ?_
                        have hcz32_0 : w31.cell? ⟨gb186, 0, none⟩ = some (.int .i64 ((rd_T52 l0 (ji16)).f0)) := (blk_cell BK186.out 0).trans rfl
                        have hcz32_1 : w31.cell? ⟨gb186, 1, none⟩ = some (.slice A185_1 ((rd_T52 l0 (ji16)).f1.f0).length c185_1) := (blk_cell BK186.out 1).trans rfl
                        have hcz32_2 : w31.cell? ⟨gb186, 2, none⟩ = some (.int .i64 ((rd_T52 l0 (ji16)).f2)) := (blk_cell BK186.out 2).trans rfl
                        have hcz32_3 : w31.cell? ⟨gb186, 3, none⟩ = some (.bool ((rd_T52 l0 (ji16)).f3)) := (blk_cell BK186.out 3).trans rfl
                        have hfz32_0 := blk_frozen BK186.out 0
                        have hfz32_1 := blk_frozen BK186.out 1
                        have hfz32_2 := blk_frozen BK186.out 2
                        have hfz32_3 := blk_frozen BK186.out 3
                        obtain ⟨Ao33, co33, eo33⟩ := Kd.R_slice HO191.out
                        subst eo33
                        have hcz34_0 : w31.cell? ⟨gb183, 0, none⟩ = some (.int .i64 0) := (blk_cell BK183.out 0).trans rfl
                        have hcz34_1 : w31.cell? ⟨gb183, 1, none⟩ = some (.int .i64 0) := (blk_cell BK183.out 1).trans rfl
                        have hcz34_2 : w31.cell? ⟨gb183, 2, none⟩ = some (.int .i64 0) := (blk_cell BK183.out 2).trans rfl
                        have hcz34_3 : w31.cell? ⟨gb183, 3, none⟩ = some (.int .i64 0) := (blk_cell BK183.out 3).trans rfl
                        have hcz34_4 : w31.cell? ⟨gb183, 4, none⟩ = some (.slice none 0 0) := (blk_cell BK183.out 4).trans rfl
                        have hcz34_5 : w31.cell? ⟨gb183, 5, none⟩ = some (.slice none 0 0) := (blk_cell BK183.out 5).trans rfl
                        have hfz34_0 := blk_frozen BK183.out 0
                        have hfz34_1 := blk_frozen BK183.out 1
                        have hfz34_2 := blk_frozen BK183.out 2
                        have hfz34_3 := blk_frozen BK183.out 3
                        have hfz34_4 := blk_frozen BK183.out 4
                        have hfz34_5 := blk_frozen BK183.out 5
                        try go_wp2
                        refine bodyPost_ret (results_ct rfl _ _ gb183 32 #[.int .i64 2, .int .i64 a2, .int .i64 a1, .int .i64 ((rd_T52 l0 (ji16)).f0), .slice none 0 0, .slice Ao33 t189.length co33] (0, 0) _ rfl (by (with_reducible repeat (first | refine blk_drewN ?_ _ | refine blk_drew ?_ | refine blk_alloc ?_ _)); refine blk_put (cs := #[.int .i64 2, .int .i64 a2, .int .i64 a1, .int .i64 ((rd_T52 l0 (ji16)).f0), .slice none 0 0, .slice none 0 0]) ?_ 5 _ rfl; (with_reducible repeat (first | refine blk_drewN ?_ _ | refine blk_drew ?_ | refine blk_alloc ?_ _)); refine blk_put (cs := #[.int .i64 2, .int .i64 a2, .int .i64 a1, .int .i64 ((rd_T52 l0 (ji16)).f0), .slice none 0 0, .slice none 0 0]) ?_ 4 _ rfl; (with_reducible repeat (first | refine blk_drewN ?_ _ | refine blk_drew ?_ | refine blk_alloc ?_ _)); refine blk_put (cs := #[.int .i64 2, .int .i64 a2, .int .i64 a1, .int .i64 0, .slice none 0 0, .slice none 0 0]) ?_ 3 _ rfl; (with_reducible repeat (first | refine blk_drewN ?_ _ | refine blk_drew ?_ | refine blk_alloc ?_ _)); refine blk_put (cs := #[.int .i64 2, .int .i64 a2, .int .i64 0, .int .i64 0, .slice none 0 0, .slice none 0 0]) ?_ 2 _ rfl; (with_reducible repeat (first | refine blk_drewN ?_ _ | refine blk_drew ?_ | refine blk_alloc ?_ _)); refine blk_put (cs := #[.int .i64 2, .int .i64 0, .int .i64 0, .int .i64 0, .slice none 0 0, .slice none 0 0]) ?_ 1 _ rfl; (with_reducible repeat (first | refine blk_drewN ?_ _ | refine blk_drew ?_ | refine blk_alloc ?_ _)); refine blk_put (cs := #[.int .i64 0, .int .i64 0, .int .i64 0, .int .i64 0, .slice none 0 0, .slice none 0 0]) ?_ 0 _ rfl; (with_reducible repeat (first | refine blk_drewN ?_ _ | refine blk_drew ?_ | refine blk_alloc ?_ _)); exact BK183.out) Try.underlying32 rfl (by kernel_rfl)) rfl ?_
                        exact ⟨_, _, by first | rfl | (simp [errW_none, errW_some] <;> rfl) | (simp only [← hji16, ← hji20]; first | rfl | (simp [errW_none, errW_some] <;> rfl)) | (simp [*, errW_none, errW_some] <;> rfl), by first | exact Kd.R_nil _ _ _ _ _ | exact Kd.N_nil _ _ _ _ _ | exact Kd.V_nil _ _ _ _ _ | exact Kd.Q_nil _ _ _ _ _ | exact Kd.S_nil _ _ _ _ _, by (with_reducible repeat (first | apply Kd.R_alloc | apply Kd.R_drewN | apply Kd.R_drew)); exact Kd.R_mono (Kd.R_far (p := ⟨gb183, 5, none⟩) (Kd.R_far (p := ⟨gb183, 4, none⟩) (Kd.R_far (p := ⟨gb183, 3, none⟩) (Kd.R_far (p := ⟨gb183, 2, none⟩) (Kd.R_far (p := ⟨gb183, 1, none⟩) (Kd.R_far (p := ⟨gb183, 0, none⟩) (Kd.R_types HO191.out BK183.out (by decide)) (fun _ hk => hk.2) (.int .i64 2)) (fun _ hk => hk.2) (.int .i64 a2)) (fun _ hk => hk.2) (.int .i64 a1)) (fun _ hk => hk.2) (.int .i64 ((rd_T52 l0 (ji16)).f0))) (fun _ hk => hk.2) (.slice none 0 0)) (fun _ hk => hk.2) (.slice Ao33 t189.length co33)) (fun _ hk => trivial), b_ HB⟩
                      · rw [if_neg c23] at H
                        have c23b0 : ((((rd_T52 l0 (ji20)).f1.f0).length : Int) == (((rd_T52 l0 (ji16)).f1.f0).length : Int)) = false := beq_eq_false_iff_ne.mpr c23
                        have c23b1 : ((((rd_T52 l0 (ji20)).f1.f0).length : Int) != (((rd_T52 l0 (ji16)).f1.f0).length : Int)) = true := bne_iff_ne.mpr c23
                        have c23b2 : (((rd_T52 l0 (ji20)).f1.f0).length == ((rd_T52 l0 (ji16)).f1.f0).length) = false := by first | simpa using c23 | (simp at c23 ⊢; omega)
                        obtain ⟨y193, hy193⟩ : ∃ y_ : List (S60), y_ = (([] : List (S60))) := ⟨_, rfl⟩
                        replace H : (if y193.length + ((rd_T52 l0 (ji16)).f1.f0).length < 8796093022208 then (some (1, a2, 0, (rd_T52 l0 (ji16)).f0, (y193 ++ ((rd_T52 l0 (ji16)).f1.f0)), ([] : List (S64)), 0)) else (none)) = some (r1, r2, r3, r4, r5, r6, r7) := by first | (rw [hy193]; with_reducible exact H) | (have H2_ := (Option.bind_some _ _).symm.trans H; rw [hy193]; with_reducible exact H2_) | (have H2_ := (Option.bind_some _ _).symm.trans H; with_reducible exact H2_) | with_reducible exact H | (rw [hy193]; exact H) | exact H
                        have Ny193 := Aside0.mk hy193
                        clear hy193
                        by_cases c35 : y193.length + ((rd_T52 l0 (ji16)).f1.f0).length < 8796093022208
                        · rw [if_pos c35] at H
                          have LMc35 := Aside0.mk c35
                          clear c35
                          obtain ⟨y196, hy196⟩ : ∃ y_ : List (S60), y_ = (y193 ++ ((rd_T52 l0 (ji16)).f1.f0)) := ⟨_, rfl⟩
                          replace H : (some (1, a2, 0, (rd_T52 l0 (ji16)).f0, y196, ([] : List (S64)), 0)) = some (r1, r2, r3, r4, r5, r6, r7) := by first | (rw [hy196]; with_reducible exact H) | (have H2_ := (Option.bind_some _ _).symm.trans H; rw [hy196]; with_reducible exact H2_) | (have H2_ := (Option.bind_some _ _).symm.trans H; with_reducible exact H2_) | with_reducible exact H | (rw [hy196]; exact H) | exact H
                          have Ny196 := Aside0.mk hy196
                          clear hy196
                          simp only [Option.some.injEq, Prod.mk.injEq] at H
                          obtain ⟨rfl, rfl, rfl, rfl, rfl, rfl, rfl⟩ := H
                          have p185 : 0 ≤ ((ji16) : Int) := of_decide_eq_true (by first | (with_reducible assumption) | assumption)
                          have q185 : (ji16) < (l0.length : Int) := of_decide_eq_true (by first | (with_reducible assumption) | assumption)
                          obtain ⟨ad185, A185_1, c185_1, e185, hx185_0, hx185_1, hx185_2, hx185_3, hl185_1, hi185_1⟩ := at_T52 HR0.out (ji16) p185 q185
                          cases e185
                          replace hx185_0 := (HB.out.cell (World.block_lt_of_cell? w _ hx185_0)).trans hx185_0
                          replace hx185_1 := (HB.out.cell (World.block_lt_of_cell? w _ hx185_1)).trans hx185_1
                          replace hx185_2 := (HB.out.cell (World.block_lt_of_cell? w _ hx185_2)).trans hx185_2
                          replace hx185_3 := (HB.out.cell (World.block_lt_of_cell? w _ hx185_3)).trans hx185_3
                          have HR185_1 := Aside0.mk hi185_1
                          have HC185_1 := Aside0.mk hl185_1
                          clear hi185_1 hl185_1
                          replace p185 := eq_true p185
                          replace q185 := eq_true q185
                          try go_wp2_with (first | ((with_reducible refine gate_dst (N := 9) rfl ?_); (try (refine gate_guard (by rfl) ?_; dsimp only)); refine box_event ?hg (N := 9) ?hd (cs := #[.int .i64 0, .slice none 0 0, .int .i64 0, .bool false]) (t := 52) ?hr ?_; (case hd => rfl); (case hg => rfl); (case hr => first | (go_simp; done) | (go_simp; rfl)); intro gb186 hg w36 hbox hb; have n0_ := Aside0.mk (blk_below (k_ BK183) hb); have n1_ := Aside0.mk (below_step (b_ HB) hb); have n2_ := Aside0.mk (hbox); have n3_ := Aside0.mk ((by rw [hg]; exact (below_size (b_ HB)) : w.heap.size ≤ gb186)); have n4_ := n3_; have n5_ := Aside0.mk ((by rw [hg]; exact Nat.ne_of_lt (blk_lt (k_ BK183)) : gb183 ≠ gb186)); have n6_ := Aside0.mk ((by rw [hg]; exact Nat.ne_of_gt (blk_lt (k_ BK183)) : gb186 ≠ gb183)); clear BK183; clear HB; have BK183 := n0_; have HB := n1_; have BK186 := n2_; have GW186 := n3_; have GE186 := n4_; have NB183_186 := n5_; have NB186_183 := n6_; clear n0_ n1_ n2_ n3_ n4_ n5_ n6_; clear hb hbox hg; have hnb37 := NB186_183.out; have hnc37 := NB183_186.out; have hcz38_0 : w36.cell? ⟨gb186, 0, none⟩ = some (.int .i64 0) := (blk_cell BK186.out 0).trans rfl; have hcz38_1 : w36.cell? ⟨gb186, 1, none⟩ = some (.slice none 0 0) := (blk_cell BK186.out 1).trans rfl; have hcz38_2 : w36.cell? ⟨gb186, 2, none⟩ = some (.int .i64 0) := (blk_cell BK186.out 2).trans rfl; have hcz38_3 : w36.cell? ⟨gb186, 3, none⟩ = some (.bool false) := (blk_cell BK186.out 3).trans rfl; have hfz38_0 := blk_frozen BK186.out 0; have hfz38_1 := blk_frozen BK186.out 1; have hfz38_2 := blk_frozen BK186.out 2; have hfz38_3 := blk_frozen BK186.out 3))
                          have n0_ : Aside0 (((((w36.setCell ⟨gb186, 0, none⟩ (.int .i64 ((rd_T52 l0 (ji16)).f0))).setCell ⟨gb186, 1, none⟩ (.slice A185_1 ((rd_T52 l0 (ji16)).f1.f0).length c185_1)).setCell ⟨gb186, 2, none⟩ (.int .i64 ((rd_T52 l0 (ji16)).f2))).setCell ⟨gb186, 3, none⟩ (.bool ((rd_T52 l0 (ji16)).f3))).heap[gb183]? = some (.cells #[.int .i64 0, .int .i64 0, .int .i64 0, .int .i64 0, .slice none 0 0, .slice none 0 0] 32 (0, 0))) := ⟨by (with_reducible repeat (first | refine blk_drewN ?_ _ | refine blk_drew ?_ | refine blk_alloc ?_ _)); refine blk_far ?_ NB183_186.out _; (with_reducible repeat (first | refine blk_drewN ?_ _ | refine blk_drew ?_ | refine blk_alloc ?_ _)); refine blk_far ?_ NB183_186.out _; (with_reducible repeat (first | refine blk_drewN ?_ _ | refine blk_drew ?_ | refine blk_alloc ?_ _)); refine blk_far ?_ NB183_186.out _; (with_reducible repeat (first | refine blk_drewN ?_ _ | refine blk_drew ?_ | refine blk_alloc ?_ _)); refine blk_far ?_ NB183_186.out _; (with_reducible repeat (first | refine blk_drewN ?_ _ | refine blk_drew ?_ | refine blk_alloc ?_ _)); exact BK183.out⟩
                          have n1_ : Aside0 (((((w36.setCell ⟨gb186, 0, none⟩ (.int .i64 ((rd_T52 l0 (ji16)).f0))).setCell ⟨gb186, 1, none⟩ (.slice A185_1 ((rd_T52 l0 (ji16)).f1.f0).length c185_1)).setCell ⟨gb186, 2, none⟩ (.int .i64 ((rd_T52 l0 (ji16)).f2))).setCell ⟨gb186, 3, none⟩ (.bool ((rd_T52 l0 (ji16)).f3))).heap[gb186]? = some (.cells #[.int .i64 ((rd_T52 l0 (ji16)).f0), .slice A185_1 ((rd_T52 l0 (ji16)).f1.f0).length c185_1, .int .i64 ((rd_T52 l0 (ji16)).f2), .bool ((rd_T52 l0 (ji16)).f3)] 52 (0, 0))) := ⟨by (with_reducible repeat (first | refine blk_drewN ?_ _ | refine blk_drew ?_ | refine blk_alloc ?_ _)); refine blk_put (cs := #[.int .i64 ((rd_T52 l0 (ji16)).f0), .slice A185_1 ((rd_T52 l0 (ji16)).f1.f0).length c185_1, .int .i64 ((rd_T52 l0 (ji16)).f2), .bool false]) ?_ 3 _ rfl; (with_reducible repeat (first | refine blk_drewN ?_ _ | refine blk_drew ?_ | refine blk_alloc ?_ _)); refine blk_put (cs := #[.int .i64 ((rd_T52 l0 (ji16)).f0), .slice A185_1 ((rd_T52 l0 (ji16)).f1.f0).length c185_1, .int .i64 0, .bool false]) ?_ 2 _ rfl; (with_reducible repeat (first | refine blk_drewN ?_ _ | refine blk_drew ?_ | refine blk_alloc ?_ _)); refine blk_put (cs := #[.int .i64 ((rd_T52 l0 (ji16)).f0), .slice none 0 0, .int .i64 0, .bool false]) ?_ 1 _ rfl; (with_reducible repeat (first | refine blk_drewN ?_ _ | refine blk_drew ?_ | refine blk_alloc ?_ _)); refine blk_put (cs := #[.int .i64 0, .slice none 0 0, .int .i64 0, .bool false]) ?_ 0 _ rfl; (with_reducible repeat (first | refine blk_drewN ?_ _ | refine blk_drew ?_ | refine blk_alloc ?_ _)); exact BK186.out⟩
                          have n2_ : Aside0 (Below w.heap.size w ((((w36.setCell ⟨gb186, 0, none⟩ (.int .i64 ((rd_T52 l0 (ji16)).f0))).setCell ⟨gb186, 1, none⟩ (.slice A185_1 ((rd_T52 l0 (ji16)).f1.f0).length c185_1)).setCell ⟨gb186, 2, none⟩ (.int .i64 ((rd_T52 l0 (ji16)).f2))).setCell ⟨gb186, 3, none⟩ (.bool ((rd_T52 l0 (ji16)).f3)))) := ⟨b_ HB⟩
                          (try clear BK183)
                          (try clear BK186)
                          (try clear HB)
                          generalize ((((w36.setCell ⟨gb186, 0, none⟩ (.int .i64 ((rd_T52 l0 (ji16)).f0))).setCell ⟨gb186, 1, none⟩ (.slice A185_1 ((rd_T52 l0 (ji16)).f1.f0).length c185_1)).setCell ⟨gb186, 2, none⟩ (.int .i64 ((rd_T52 l0 (ji16)).f2))).setCell ⟨gb186, 3, none⟩ (.bool ((rd_T52 l0 (ji16)).f3))) = w39 at n0_ n1_ n2_ ⊢
                          have BK183 := n0_
                          have BK186 := n1_
                          have HB := n2_
                          clear n0_ n1_ n2_
                          have n0_ := Aside0.mk (blk_drew BK183.out)
                          have n1_ := Aside0.mk (blk_drew BK186.out)
                          have n2_ := Aside0.mk (below_drew1 HB.out)
                          clear BK183
                          clear BK186
                          clear HB
                          have BK183 := n0_
                          have BK186 := n1_
                          have HB := n2_
                          clear n0_ n1_ n2_
                          have p187 : 0 ≤ ((ji20) : Int) := of_decide_eq_true (by first | (with_reducible assumption) | assumption)
                          have q187 : (ji20) < (l0.length : Int) := of_decide_eq_true (by first | (with_reducible assumption) | assumption)
                          obtain ⟨ad187, A187_1, c187_1, e187, hx187_0, hx187_1, hx187_2, hx187_3, hl187_1, hi187_1⟩ := at_T52 HR0.out (ji20) p187 q187
                          have hw187_3 := hx187_3
                          have hw187_2 := hx187_2
                          have hw187_1 := hx187_1
                          have hw187_0 := hx187_0
                          obtain rfl : ad185 = ad187 := (by injection e187)
                          replace hx187_0 := (HB.out.cell (World.block_lt_of_cell? w _ hx187_0)).trans hx187_0
                          replace hx187_1 := (HB.out.cell (World.block_lt_of_cell? w _ hx187_1)).trans hx187_1
                          replace hx187_2 := (HB.out.cell (World.block_lt_of_cell? w _ hx187_2)).trans hx187_2
                          replace hx187_3 := (HB.out.cell (World.block_lt_of_cell? w _ hx187_3)).trans hx187_3
                          have HR187_1 := Aside0.mk hi187_1
                          have HC187_1 := Aside0.mk hl187_1
                          clear hi187_1 hl187_1
                          replace p187 := eq_true p187
                          replace q187 := eq_true q187
                          refine start_ (n := 17) (S := fun w' => w'.cell? ⟨gb186, 0, none⟩ = some (.int .i64 ((rd_T52 l0 (ji16)).f0)) ∧ w'.cell? ⟨gb186, 1, none⟩ = some (.slice A185_1 ((rd_T52 l0 (ji16)).f1.f0).length c185_1) ∧ w'.cell? ⟨gb186, 2, none⟩ = some (.int .i64 ((rd_T52 l0 (ji16)).f2)) ∧ w'.cell? ⟨gb186, 3, none⟩ = some (.bool ((rd_T52 l0 (ji16)).f3)) ∧ w'.cell? (ad185.add (((ji20)).toNat * 4)) = some (.int .i64 ((rd_T52 l0 (ji20)).f0)) ∧ w'.cell? ⟨(ad185.add (((ji20)).toNat * 4)).block, (ad185.add (((ji20)).toNat * 4)).off + 1, none⟩ = some (.slice A187_1 ((rd_T52 l0 (ji20)).f1.f0).length c187_1) ∧ w'.cell? ⟨(ad185.add (((ji20)).toNat * 4)).block, (ad185.add (((ji20)).toNat * 4)).off + 2, none⟩ = some (.int .i64 ((rd_T52 l0 (ji20)).f2)) ∧ w'.cell? ⟨(ad185.add (((ji20)).toNat * 4)).block, (ad185.add (((ji20)).toNat * 4)).off + 3, none⟩ = some (.bool ((rd_T52 l0 (ji20)).f3))) (ds := []) #[false, false, false, false, false, false, false, false, false, false, false, false, false, false, false, false, false] (by kernel_rfl) rfl rfl ⟨(blk_cell BK186.out 0).trans rfl, (blk_cell BK186.out 1).trans rfl, (blk_cell BK186.out 2).trans rfl, (blk_cell BK186.out 3).trans rfl, ((HB.out.cell (World.block_lt_of_cell? w _ hw187_0)).trans hw187_0), ((HB.out.cell (World.block_lt_of_cell? w _ hw187_1)).trans hw187_1), ((HB.out.cell (World.block_lt_of_cell? w _ hw187_2)).trans hw187_2), ((HB.out.cell (World.block_lt_of_cell? w _ hw187_3)).trans hw187_3)⟩ (fun hHeld => ?_); refine with_tabW chalklineref35_Reply.tab9 chalklineref35_Reply.bits9 (fun HT_ HW_ => ?_)
                          generalize w39.drew = w40 at BK183 BK186 HB HR187_1 hx187_0 hx187_1 hx187_2 hx187_3 hHeld ⊢
                          refine pure_ (i := 0) (N := some 44) (v := ?_) (a' := ?_) #[true, false, false, false, false, false, false, false, false, false, false, false, false, false, false, false, false] rfl rfl (any_of HT_.out (by kernel_rfl)) (fun _ _ _ h => h) (Or.inl ⟨by rfl, ?_⟩) ?_ ?_
                          rotate_left
                          · intro w'
                            go_simp
                            with_reducible rfl
                          rotate_left
                          · simp only [Act.put, List.setIfInBounds_toArray, List.set_cons_zero, List.set_cons_succ, i64_w, i32_w]
                            rfl
                          refine pure_ (i := 1) (N := some 45) (v := ?_) (a' := ?_) #[true, true, false, false, false, false, false, false, false, false, false, false, false, false, false, false, false] rfl rfl (any_of HT_.out (by kernel_rfl)) (fun _ _ _ h => h) (Or.inl ⟨by rfl, ?_⟩) ?_ ?_
                          rotate_left
                          · intro w'
                            go_simp
                            with_reducible rfl
                          rotate_left
                          · simp only [Act.put, List.setIfInBounds_toArray, List.set_cons_zero, List.set_cons_succ, i64_w, i32_w]
                            rfl
                          refine pure_ (i := 2) (N := some 46) (v := ?_) (a' := ?_) #[true, true, true, false, false, false, false, false, false, false, false, false, false, false, false, false, false] rfl rfl (any_of HT_.out (by kernel_rfl)) (fun _ _ _ h => h) (Or.inl ⟨by rfl, ?_⟩) ?_ ?_
                          rotate_left
                          · intro w'
                            go_simp
                            with_reducible rfl
                          rotate_left
                          · simp only [Act.put, List.setIfInBounds_toArray, List.set_cons_zero, List.set_cons_succ, i64_w, i32_w]
                            rfl
                          refine pure_ (i := 3) (N := some 47) (v := ?_) (a' := ?_) #[true, true, true, true, false, false, false, false, false, false, false, false, false, false, false, false, false] rfl rfl (any_of HT_.out (by kernel_rfl)) (fun _ _ _ h => h) (Or.inl ⟨by rfl, ?_⟩) ?_ ?_
                          rotate_left
                          · intro w'
                            go_simp
                            with_reducible rfl
                          rotate_left
                          · simp only [Act.put, List.setIfInBounds_toArray, List.set_cons_zero, List.set_cons_succ, i64_w, i32_w]
                            rfl
                          refine pure_ (i := 4) (N := some 48) (v := ?_) (a' := ?_) #[true, true, true, true, true, false, false, false, false, false, false, false, false, false, false, false, false] rfl rfl (any_of HT_.out (by kernel_rfl)) (fun _ _ _ h => h) (Or.inl ⟨by rfl, ?_⟩) ?_ ?_
                          rotate_left
                          · intro w'
                            go_simp
                            with_reducible rfl
                          rotate_left
                          · simp only [Act.put, List.setIfInBounds_toArray, List.set_cons_zero, List.set_cons_succ, i64_w, i32_w]
                            rfl
                          refine pure_ (i := 5) (N := some 49) (v := ?_) (a' := ?_) #[true, true, true, true, true, true, false, false, false, false, false, false, false, false, false, false, false] rfl rfl (any_of HT_.out (by kernel_rfl)) (fun _ _ _ h => h) (Or.inl ⟨by rfl, ?_⟩) ?_ ?_
                          rotate_left
                          · intro w'
                            go_simp
                            with_reducible rfl
                          rotate_left
                          · simp only [Act.put, List.setIfInBounds_toArray, List.set_cons_zero, List.set_cons_succ, i64_w, i32_w]
                            rfl
                          refine pure_ (i := 6) (N := some 50) (v := ?_) (a' := ?_) #[true, true, true, true, true, true, true, false, false, false, false, false, false, false, false, false, false] rfl rfl (any_of HT_.out (by kernel_rfl)) (fun _ _ _ h => h) (Or.inl ⟨by rfl, ?_⟩) ?_ ?_
                          rotate_left
                          · intro w'
                            go_simp
                            with_reducible rfl
                          rotate_left
                          · simp only [Act.put, List.setIfInBounds_toArray, List.set_cons_zero, List.set_cons_succ, i64_w, i32_w]
                            rfl
                          refine pure_ (i := 7) (N := some 51) (v := ?_) (a' := ?_) #[true, true, true, true, true, true, true, true, false, false, false, false, false, false, false, false, false] rfl rfl (any_of HT_.out (by kernel_rfl)) (fun _ _ _ h => h) (Or.inl ⟨by rfl, ?_⟩) ?_ ?_
                          rotate_left
                          · intro w'
                            go_simp
                            with_reducible rfl
                          rotate_left
                          · simp only [Act.put, List.setIfInBounds_toArray, List.set_cons_zero, List.set_cons_succ, i64_w, i32_w]
                            rfl
                          refine pure_ (i := 8) (N := some 52) (v := ?_) (a' := ?_) #[true, true, true, true, true, true, true, true, true, false, false, false, false, false, false, false, false] rfl rfl (any_of HT_.out (by kernel_rfl)) (fun _ _ _ h => h) (Or.inl ⟨by rfl, ?_⟩) ?_ ?_
                          rotate_left
                          · intro w'
                            go_simp
                            with_reducible rfl
                          rotate_left
                          · simp only [Act.put, List.setIfInBounds_toArray, List.set_cons_zero, List.set_cons_succ, i64_w, i32_w]
                            rfl
                          refine pure_ (i := 11) (N := some 55) (v := ?_) (a' := ?_) #[true, true, true, true, true, true, true, true, true, false, false, true, false, false, false, false, false] rfl rfl (any_of HT_.out (by kernel_rfl)) (fun _ _ _ h => h) (Or.inl ⟨by rfl, ?_⟩) ?_ ?_
                          rotate_left
                          · intro w'
                            go_simp
                            with_reducible rfl
                          rotate_left
                          · simp only [Act.put, List.setIfInBounds_toArray, List.set_cons_zero, List.set_cons_succ, i64_w, i32_w]
                            rfl
                          refine pure_ (i := 12) (N := some 56) (v := ?_) (a' := ?_) #[true, true, true, true, true, true, true, true, true, false, false, true, true, false, false, false, false] rfl rfl (any_of HT_.out (by kernel_rfl)) (fun _ _ _ h => h) (Or.inl ⟨by rfl, ?_⟩) ?_ ?_
                          rotate_left
                          · intro w'
                            go_simp
                            with_reducible rfl
                          rotate_left
                          · simp only [Act.put, List.setIfInBounds_toArray, List.set_cons_zero, List.set_cons_succ, i64_w, i32_w]
                            rfl
                          refine take_ (i := 9) (N := some 53) (v := ?_) (a' := ?_) #[true, true, true, true, true, true, true, true, true, true, false, true, true, false, false, false, false] rfl rfl (take_ofW HT_.out HW_.out (by kernel_rfl)) (fun _ _ _ h => h) (Or.inl ⟨by rfl, ?_⟩) hHeld ?_ ?_
                          rotate_left
                          · rintro w' ⟨s0, s1, s2, s3, s4, s5, s6, s7⟩
                            go_simp
                            with_reducible rfl
                          rotate_left
                          · simp only [Act.put, List.setIfInBounds_toArray, List.set_cons_zero, List.set_cons_succ, i64_w, i32_w]
                            rfl
                          refine pure_ (i := 10) (N := some 54) (v := ?_) (a' := ?_) #[true, true, true, true, true, true, true, true, true, true, true, true, true, false, false, false, false] rfl rfl (any_of HT_.out (by kernel_rfl)) (fun _ _ _ h => h) (Or.inl ⟨by rfl, ?_⟩) ?_ ?_
                          rotate_left
                          · intro w'
                            go_simp
                            with_reducible rfl
                          rotate_left
                          · simp only [Act.put, List.setIfInBounds_toArray, List.set_cons_zero, List.set_cons_succ, i64_w, i32_w]
                            rfl
                          refine take_ (i := 13) (N := some 57) (v := ?_) (a' := ?_) #[true, true, true, true, true, true, true, true, true, true, true, true, true, true, false, false, false] rfl rfl (take_ofW HT_.out HW_.out (by kernel_rfl)) (fun _ _ _ h => h) (Or.inl ⟨by rfl, ?_⟩) hHeld ?_ ?_
                          rotate_left
                          · rintro w' ⟨s0, s1, s2, s3, s4, s5, s6, s7⟩
                            go_simp
                            with_reducible rfl
                          rotate_left
                          · simp only [Act.put, List.setIfInBounds_toArray, List.set_cons_zero, List.set_cons_succ, i64_w, i32_w]
                            rfl
                          refine pure_ (i := 14) (N := some 58) (v := ?_) (a' := ?_) #[true, true, true, true, true, true, true, true, true, true, true, true, true, true, true, false, false] rfl rfl (any_of HT_.out (by kernel_rfl)) (fun _ _ _ h => h) (Or.inl ⟨by rfl, ?_⟩) ?_ ?_
                          rotate_left
                          · intro w'
                            go_simp
                            with_reducible rfl
                          rotate_left
                          · simp only [Act.put, List.setIfInBounds_toArray, List.set_cons_zero, List.set_cons_succ, i64_w, i32_w]
                            rfl
                          refine pure_ (i := 15) (N := some 59) (v := ?_) (a' := ?_) #[true, true, true, true, true, true, true, true, true, true, true, true, true, true, true, true, false] rfl rfl (any_of HT_.out (by kernel_rfl)) (fun _ _ _ h => h) (Or.inl ⟨by rfl, ?_⟩) ?_ ?_
                          rotate_left
                          · intro w'
                            go_simp
                            with_reducible rfl
                          rotate_left
                          · simp only [Act.put, List.setIfInBounds_toArray, List.set_cons_zero, List.set_cons_succ, i64_w, i32_w]
                            rfl
                          refine pure_ (i := 16) (N := some 60) (v := ?_) (a' := ?_) #[true, true, true, true, true, true, true, true, true, true, true, true, true, true, true, true, true] rfl rfl (any_of HT_.out (by kernel_rfl)) (fun _ _ _ h => h) (Or.inl ⟨by rfl, ?_⟩) ?_ ?_
                          rotate_left
                          · intro w'
                            go_simp
                            with_reducible rfl
                          rotate_left
                          · simp only [Act.put, List.setIfInBounds_toArray, List.set_cons_zero, List.set_cons_succ, i64_w, i32_w]
                            rfl
                          refine done_ (done_of HT_.out (by kernel_rfl)) ?_
                          try go_wp2
                          have n0_ := Aside0.mk (blk_drew BK183.out)
                          have n1_ := Aside0.mk (blk_drew BK186.out)
                          have n2_ := Aside0.mk (below_drew1 HB.out)
                          clear BK183
                          clear BK186
                          clear HB
                          have BK183 := n0_
                          have BK186 := n1_
                          have HB := n2_
                          clear n0_ n1_ n2_
                          refine start_ (n := 12) (S := fun w' => w'.cell? ⟨gb186, 0, none⟩ = some (.int .i64 ((rd_T52 l0 (ji16)).f0)) ∧ w'.cell? ⟨gb186, 1, none⟩ = some (.slice A185_1 ((rd_T52 l0 (ji16)).f1.f0).length c185_1) ∧ w'.cell? ⟨gb186, 2, none⟩ = some (.int .i64 ((rd_T52 l0 (ji16)).f2)) ∧ w'.cell? ⟨gb186, 3, none⟩ = some (.bool ((rd_T52 l0 (ji16)).f3))) (ds := []) #[false, false, false, false, false, false, false, false, false, false, false, false] (by kernel_rfl) rfl rfl ⟨(blk_cell BK186.out 0).trans rfl, (blk_cell BK186.out 1).trans rfl, (blk_cell BK186.out 2).trans rfl, (blk_cell BK186.out 3).trans rfl⟩ (fun hHeld => ?_); refine with_tabW chalklineref35_Reply.tab12 chalklineref35_Reply.bits12 (fun HT_ HW_ => ?_)
                          generalize w40.drew = w41 at BK183 BK186 HB hHeld ⊢
                          refine pure_ (i := 0) (N := some 79) (v := ?_) (a' := ?_) #[true, false, false, false, false, false, false, false, false, false, false, false] rfl rfl (any_of HT_.out (by kernel_rfl)) (fun _ _ _ h => h) (Or.inl ⟨by rfl, ?_⟩) ?_ ?_
                          rotate_left
                          · intro w'
                            go_simp
                            with_reducible rfl
                          rotate_left
                          · simp only [Act.put, List.setIfInBounds_toArray, List.set_cons_zero, List.set_cons_succ, i64_w, i32_w]
                            rfl
                          refine pure_ (i := 1) (N := some 80) (v := ?_) (a' := ?_) #[true, true, false, false, false, false, false, false, false, false, false, false] rfl rfl (any_of HT_.out (by kernel_rfl)) (fun _ _ _ h => h) (Or.inl ⟨by rfl, ?_⟩) ?_ ?_
                          rotate_left
                          · intro w'
                            go_simp
                            with_reducible rfl
                          rotate_left
                          · simp only [Act.put, List.setIfInBounds_toArray, List.set_cons_zero, List.set_cons_succ, i64_w, i32_w]
                            rfl
                          refine pure_ (i := 4) (N := some 83) (v := ?_) (a' := ?_) #[true, true, false, false, true, false, false, false, false, false, false, false] rfl rfl (any_of HT_.out (by kernel_rfl)) (fun _ _ _ h => h) (Or.inl ⟨by rfl, ?_⟩) ?_ ?_
                          rotate_left
                          · intro w'
                            go_simp
                            with_reducible rfl
                          rotate_left
                          · simp only [Act.put, List.setIfInBounds_toArray, List.set_cons_zero, List.set_cons_succ, i64_w, i32_w]
                            rfl
                          refine pure_ (i := 5) (N := some 84) (v := ?_) (a' := ?_) #[true, true, false, false, true, true, false, false, false, false, false, false] rfl rfl (any_of HT_.out (by kernel_rfl)) (fun _ _ _ h => h) (Or.inl ⟨by rfl, ?_⟩) ?_ ?_
                          rotate_left
                          · intro w'
                            go_simp
                            with_reducible rfl
                          rotate_left
                          · simp only [Act.put, List.setIfInBounds_toArray, List.set_cons_zero, List.set_cons_succ, i64_w, i32_w]
                            rfl
                          refine take_ (i := 2) (N := some 81) (v := ?_) (a' := ?_) #[true, true, true, false, true, true, false, false, false, false, false, false] rfl rfl (take_ofW HT_.out HW_.out (by kernel_rfl)) (fun _ _ _ h => h) (Or.inl ⟨by rfl, ?_⟩) hHeld ?_ ?_
                          rotate_left
                          · rintro w' ⟨s0, s1, s2, s3⟩
                            go_simp
                            with_reducible rfl
                          rotate_left
                          · simp only [Act.put, List.setIfInBounds_toArray, List.set_cons_zero, List.set_cons_succ, i64_w, i32_w]
                            rfl
                          refine take_ (i := 6) (N := some 85) (v := ?_) (a' := ?_) #[true, true, true, false, true, true, true, false, false, false, false, false] rfl rfl (take_ofW HT_.out HW_.out (by kernel_rfl)) (fun _ _ _ h => h) (Or.inl ⟨by rfl, ?_⟩) hHeld ?_ ?_
                          rotate_left
                          · rintro w' ⟨s0, s1, s2, s3⟩
                            go_simp
                            with_reducible rfl
                          rotate_left
                          · simp only [Act.put, List.setIfInBounds_toArray, List.set_cons_zero, List.set_cons_succ, i64_w, i32_w]
                            rfl
                          refine one_ (i := 3) (N := some 82) #[true, true, true, true, true, true, true, false, false, false, false, false] rfl rfl (one_of HT_.out (by kernel_rfl)) (by decide) (fun K hK => ?_)
                          refine Kd.R_lit_step k60 _ 60 ?hg (N := 82) ?hd (xs := ([] : List (S60))) (inner := []) (ok := fun _ => True) (okp := fun _ => True) ?hr ?hp (fun _ hk => hk) trivial (Below.refl _ _) (Nat.le_refl _) (by simp) ?_; (case hd => rfl); (case hg => rfl); (case hr => first | (go_simp; done) | (go_simp; rfl)); (case hp => exact (Reps.none _ _))
                          intro v194 w42 ho43 hb hg_ hnew_
                          clear hg_ hnew_
                          (first | rw [← Ny193.out] at ho43 | (simp only [Int.reduceToNat] at ho43; rw [← Ny193.out] at ho43))
                          have n0_ := Aside0.mk (Kd.R_lower ho43 (below_size (b_ HB)))
                          have n1_ := Aside0.mk (blk_below (k_ BK183) hb)
                          have n2_ := Aside0.mk (blk_below (k_ BK186) hb)
                          have n3_ := Aside0.mk (below_step (b_ HB) hb)
                          clear BK183
                          clear BK186
                          clear HB
                          have HO195 := n0_
                          have BK183 := n1_
                          have BK186 := n2_
                          have HB := n3_
                          clear n0_ n1_ n2_ n3_
                          clear hb ho43
                          refine hK.out _ _ ⟨(blk_cell BK186.out 0).trans rfl, (blk_cell BK186.out 1).trans rfl, (blk_cell BK186.out 2).trans rfl, (blk_cell BK186.out 3).trans rfl⟩ (fun hHeld => ?_)
                          clear hK K
                          refine norm_ (a' := ?_) ?_ ?_
                          rotate_left
                          · show Act.put _ (some 82) _ = _
                            simp only [Act.put, List.setIfInBounds_toArray, List.set_cons_zero, List.set_cons_succ, i64_w, i32_w]
                            rfl
                          refine one_ (i := 7) (N := some 86) #[true, true, true, true, true, true, true, true, false, false, false, false] rfl rfl (one_of HT_.out (by kernel_rfl)) (by decide) (fun K hK => ?_)
                          refine Kd.R_append_rows_step k60 (w0 := w) w.heap.size (by rfl) (.tmp 82) (.tmp 85) 23 60 (.agg #[(.int .i64 0), (.int .i64 0)]) 16 rfl Try.underlying23 info60 rfl (by decide) (by omega) v194 y193 ((rd_T52 l0 (ji16)).f1.f0) _ _ _ (fun _ => True) (fun _ => False) rfl rfl ?aO ?aR (fun _ _ h => h) (fun _ h => h.elim) ?aF ?aB ?aS ?aL ?_
                          (case aR => repeat (first | exact (Kd.C_below HR185_1.out HB.out) | (with_reducible refine Kd.C_alloc ?_ _) | (with_reducible refine Kd.C_drewN ?_ _) | (with_reducible refine Kd.C_drew ?_)))
                          (case aB => exact (b_ HB))
                          (case aF => exact (fun _ _ => trivial))
                          (case aO => exact (by (with_reducible repeat (first | apply Kd.R_alloc | apply Kd.R_drewN | apply Kd.R_drew)); exact HO195.out))
                          (case aS => exact (below_size (b_ HB)))
                          (case aL => have := LMc35.out; omega)
                          intro v197 w44 ho hb hg hat
                          rw [← Ny196.out] at ho
                          have n0_ := Aside0.mk (blk_grown (g := gb183) (o := .cells #[.int .i64 0, .int .i64 0, .int .i64 0, .int .i64 0, .slice none 0 0, .slice none 0 0] 32 (0, 0)) (k_ BK183) hg (Kd.R_ne HO195.out BK183.out (by decide)))
                          have n1_ := Aside0.mk (blk_grown (g := gb186) (o := .cells #[.int .i64 ((rd_T52 l0 (ji16)).f0), .slice A185_1 ((rd_T52 l0 (ji16)).f1.f0).length c185_1, .int .i64 ((rd_T52 l0 (ji16)).f2), .bool ((rd_T52 l0 (ji16)).f3)] 52 (0, 0)) (k_ BK186) hg (Kd.R_ne HO195.out BK186.out (by decide)))
                          have n2_ := Aside0.mk (hb)
                          have n3_ := Aside0.mk (ho)
                          clear BK183
                          clear BK186
                          clear HB
                          clear HO195
                          have BK183 := n0_
                          have BK186 := n1_
                          have HB := n2_
                          have HO198 := n3_
                          clear n0_ n1_ n2_ n3_
                          clear ho hb hg hat
                          obtain ⟨Ao45, co45, eo45⟩ := Kd.R_slice HO198.out
                          (first | subst eo45 | (injection eo45 with f1_ f2_ f3_; have f4_ := f1_.symm; have f5_ := f3_.symm; clear f1_ f2_ f3_; subst f4_; subst f5_))
                          refine hK.out _ _ ⟨(blk_cell BK186.out 0).trans rfl, (blk_cell BK186.out 1).trans rfl, (blk_cell BK186.out 2).trans rfl, (blk_cell BK186.out 3).trans rfl⟩ (fun hHeld => ?_)
                          clear hK K
                          refine norm_ (a' := ?_) ?_ ?_
                          rotate_left
                          · show Act.put _ (some 86) _ = _
                            simp only [Act.put, List.setIfInBounds_toArray, List.set_cons_zero, List.set_cons_succ, i64_w, i32_w]
                            rfl
                          refine pure_ (i := 8) (N := some 87) (v := ?_) (a' := ?_) #[true, true, true, true, true, true, true, true, true, false, false, false] rfl rfl (any_of HT_.out (by kernel_rfl)) (fun _ _ _ h => h) (Or.inl ⟨by rfl, ?_⟩) ?_ ?_
                          rotate_left
                          · intro w'
                            go_simp
                            with_reducible rfl
                          rotate_left
                          · simp only [Act.put, List.setIfInBounds_toArray, List.set_cons_zero, List.set_cons_succ, i64_w, i32_w]
                            rfl
                          refine pure_ (i := 9) (N := some 88) (v := ?_) (a' := ?_) #[true, true, true, true, true, true, true, true, true, true, false, false] rfl rfl (any_of HT_.out (by kernel_rfl)) (fun _ _ _ h => h) (Or.inl ⟨by rfl, ?_⟩) ?_ ?_
                          rotate_left
                          · intro w'
                            go_simp
                            with_reducible rfl
                          rotate_left
                          · simp only [Act.put, List.setIfInBounds_toArray, List.set_cons_zero, List.set_cons_succ, i64_w, i32_w]
                            rfl
                          refine one_ (i := 10) (N := none) #[true, true, true, true, true, true, true, true, true, true, true, false] rfl rfl (one_of HT_.out (by kernel_rfl)) (by decide) (fun K hK => ?_)
                          have hs46 : w44.cell? ⟨gb183, 0, none⟩ = some (.int .i64 0) := (blk_cell BK183.out 0).trans rfl
                          have hfs46 := blk_frozen BK183.out 0
                          have hns46_1 := NB186_183.out
                          have hms46_1 := NB183_186.out
                          have hs47 : w44.cell? ⟨gb183, 1, none⟩ = some (.int .i64 0) := (blk_cell BK183.out 1).trans rfl
                          have hfs47 := blk_frozen BK183.out 1
                          have hns47_1 := NB186_183.out
                          have hms47_1 := NB183_186.out
                          have hs48 : w44.cell? ⟨gb183, 2, none⟩ = some (.int .i64 0) := (blk_cell BK183.out 2).trans rfl
                          have hfs48 := blk_frozen BK183.out 2
                          have hns48_1 := NB186_183.out
                          have hms48_1 := NB183_186.out
                          have hs49 : w44.cell? ⟨gb183, 3, none⟩ = some (.int .i64 0) := (blk_cell BK183.out 3).trans rfl
                          have hfs49 := blk_frozen BK183.out 3
                          have hns49_1 := NB186_183.out
                          have hms49_1 := NB183_186.out
                          have hs50 : w44.cell? ⟨gb183, 4, none⟩ = some (.slice none 0 0) := (blk_cell BK183.out 4).trans rfl
                          have hfs50 := blk_frozen BK183.out 4
                          have hns50_1 := NB186_183.out
                          have hms50_1 := NB183_186.out
                          have hs51 : w44.cell? ⟨gb183, 5, none⟩ = some (.slice none 0 0) := (blk_cell BK183.out 5).trans rfl
                          have hfs51 := blk_frozen BK183.out 5
                          have hns51_1 := NB186_183.out
                          have hms51_1 := NB183_186.out
                          refine skip_ (w1 := ?_) (by rfl) rfl ?_ ?_
                          rotate_left
                          · go_simp
                            rfl
                          refine hK.out _ _ ⟨((cell_far (p := ⟨gb183, _, none⟩) NB186_183.out _).trans (((cell_far (p := ⟨gb183, _, none⟩) NB186_183.out _).trans (((cell_far (p := ⟨gb183, _, none⟩) NB186_183.out _).trans (((cell_far (p := ⟨gb183, _, none⟩) NB186_183.out _).trans (((cell_far (p := ⟨gb183, _, none⟩) NB186_183.out _).trans (((cell_far (p := ⟨gb183, _, none⟩) NB186_183.out _).trans (hHeld.1)))))))))))), ((cell_far (p := ⟨gb183, _, none⟩) NB186_183.out _).trans (((cell_far (p := ⟨gb183, _, none⟩) NB186_183.out _).trans (((cell_far (p := ⟨gb183, _, none⟩) NB186_183.out _).trans (((cell_far (p := ⟨gb183, _, none⟩) NB186_183.out _).trans (((cell_far (p := ⟨gb183, _, none⟩) NB186_183.out _).trans (((cell_far (p := ⟨gb183, _, none⟩) NB186_183.out _).trans (hHeld.2.1)))))))))))), ((cell_far (p := ⟨gb183, _, none⟩) NB186_183.out _).trans (((cell_far (p := ⟨gb183, _, none⟩) NB186_183.out _).trans (((cell_far (p := ⟨gb183, _, none⟩) NB186_183.out _).trans (((cell_far (p := ⟨gb183, _, none⟩) NB186_183.out _).trans (((cell_far (p := ⟨gb183, _, none⟩) NB186_183.out _).trans (((cell_far (p := ⟨gb183, _, none⟩) NB186_183.out _).trans (hHeld.2.2.1)))))))))))), ((cell_far (p := ⟨gb183, _, none⟩) NB186_183.out _).trans (((cell_far (p := ⟨gb183, _, none⟩) NB186_183.out _).trans (((cell_far (p := ⟨gb183, _, none⟩) NB186_183.out _).trans (((cell_far (p := ⟨gb183, _, none⟩) NB186_183.out _).trans (((cell_far (p := ⟨gb183, _, none⟩) NB186_183.out _).trans (((cell_far (p := ⟨gb183, _, none⟩) NB186_183.out _).trans (hHeld.2.2.2))))))))))))⟩ (fun hHeld => ?_)
                          clear hK K
                          refine pure_ (i := 11) (N := some 7) (v := ?_) (a' := ?_) #[true, true, true, true, true, true, true, true, true, true, true, true] rfl rfl (any_of HT_.out (by kernel_rfl)) (fun _ _ _ h => h) (Or.inl ⟨by rfl, ?_⟩) ?_ ?_
                          rotate_left
                          · intro w'
                            go_simp
                            with_reducible rfl
                          rotate_left
                          · simp only [Act.put, List.setIfInBounds_toArray, List.set_cons_zero, List.set_cons_succ, i64_w, i32_w]
                            rfl
                          refine done_ (done_of HT_.out (by kernel_rfl)) ?_
                          try go_wp2
                          refine bodyPost_ret (results_ct rfl _ _ gb183 32 #[.int .i64 1, .int .i64 a2, .int .i64 0, .int .i64 ((rd_T52 l0 (ji16)).f0), .slice Ao45 y196.length co45, .slice none 0 0] (0, 0) _ rfl (by (with_reducible repeat (first | refine blk_drewN ?_ _ | refine blk_drew ?_ | refine blk_alloc ?_ _)); refine blk_put (cs := #[.int .i64 1, .int .i64 a2, .int .i64 0, .int .i64 ((rd_T52 l0 (ji16)).f0), .slice Ao45 y196.length co45, .slice none 0 0]) ?_ 5 _ rfl; (with_reducible repeat (first | refine blk_drewN ?_ _ | refine blk_drew ?_ | refine blk_alloc ?_ _)); refine blk_put (cs := #[.int .i64 1, .int .i64 a2, .int .i64 0, .int .i64 ((rd_T52 l0 (ji16)).f0), .slice none 0 0, .slice none 0 0]) ?_ 4 _ rfl; (with_reducible repeat (first | refine blk_drewN ?_ _ | refine blk_drew ?_ | refine blk_alloc ?_ _)); refine blk_put (cs := #[.int .i64 1, .int .i64 a2, .int .i64 0, .int .i64 0, .slice none 0 0, .slice none 0 0]) ?_ 3 _ rfl; (with_reducible repeat (first | refine blk_drewN ?_ _ | refine blk_drew ?_ | refine blk_alloc ?_ _)); refine blk_put (cs := #[.int .i64 1, .int .i64 a2, .int .i64 0, .int .i64 0, .slice none 0 0, .slice none 0 0]) ?_ 2 _ rfl; (with_reducible repeat (first | refine blk_drewN ?_ _ | refine blk_drew ?_ | refine blk_alloc ?_ _)); refine blk_put (cs := #[.int .i64 1, .int .i64 0, .int .i64 0, .int .i64 0, .slice none 0 0, .slice none 0 0]) ?_ 1 _ rfl; (with_reducible repeat (first | refine blk_drewN ?_ _ | refine blk_drew ?_ | refine blk_alloc ?_ _)); refine blk_put (cs := #[.int .i64 0, .int .i64 0, .int .i64 0, .int .i64 0, .slice none 0 0, .slice none 0 0]) ?_ 0 _ rfl; (with_reducible repeat (first | refine blk_drewN ?_ _ | refine blk_drew ?_ | refine blk_alloc ?_ _)); exact BK183.out) Try.underlying32 rfl (by kernel_rfl)) rfl ?_
                          exact ⟨_, _, by first | rfl | (simp [errW_none, errW_some] <;> rfl) | (simp only [← hji16, ← hji20]; first | rfl | (simp [errW_none, errW_some] <;> rfl)) | (simp [*, errW_none, errW_some] <;> rfl), by (with_reducible repeat (first | apply Kd.R_alloc | apply Kd.R_drewN | apply Kd.R_drew)); exact Kd.R_mono (Kd.R_far (p := ⟨gb183, 5, none⟩) (Kd.R_far (p := ⟨gb183, 4, none⟩) (Kd.R_far (p := ⟨gb183, 3, none⟩) (Kd.R_far (p := ⟨gb183, 2, none⟩) (Kd.R_far (p := ⟨gb183, 1, none⟩) (Kd.R_far (p := ⟨gb183, 0, none⟩) (Kd.R_types HO198.out BK183.out (by decide)) (fun _ hk => hk.2) (.int .i64 1)) (fun _ hk => hk.2) (.int .i64 a2)) (fun _ hk => hk.2) (.int .i64 0)) (fun _ hk => hk.2) (.int .i64 ((rd_T52 l0 (ji16)).f0))) (fun _ hk => hk.2) (.slice Ao45 y196.length co45)) (fun _ hk => hk.2) (.slice none 0 0)) (fun _ hk => trivial), by first | exact Kd.R_nil _ _ _ _ _ | exact Kd.N_nil _ _ _ _ _ | exact Kd.V_nil _ _ _ _ _ | exact Kd.Q_nil _ _ _ _ _ | exact Kd.S_nil _ _ _ _ _, b_ HB⟩
                        · rw [if_neg c35] at H
                          exact absurd H (by simp)
                    · rw [if_neg c22] at H
                      exact absurd H (by simp)
                  · rw [if_neg c21] at H
                    exact absurd H (by simp)
                · rw [if_neg c19] at H
                  have c19b0 : decide (0 < a1) = false := decide_eq_false c19
                  clear c19
                  obtain ⟨y199, hy199⟩ : ∃ y_ : List (S60), y_ = (([] : List (S60))) := ⟨_, rfl⟩
                  replace H : (if y199.length + ((rd_T52 l0 (ji16)).f1.f0).length < 8796093022208 then (some (1, a2, 0, (rd_T52 l0 (ji16)).f0, (y199 ++ ((rd_T52 l0 (ji16)).f1.f0)), ([] : List (S64)), 0)) else (none)) = some (r1, r2, r3, r4, r5, r6, r7) := by first | (rw [hy199]; with_reducible exact H) | (have H2_ := (Option.bind_some _ _).symm.trans H; rw [hy199]; with_reducible exact H2_) | (have H2_ := (Option.bind_some _ _).symm.trans H; with_reducible exact H2_) | with_reducible exact H | (rw [hy199]; exact H) | exact H
                  have Ny199 := Aside0.mk hy199
                  clear hy199
                  by_cases c52 : y199.length + ((rd_T52 l0 (ji16)).f1.f0).length < 8796093022208
                  · rw [if_pos c52] at H
                    have LMc52 := Aside0.mk c52
                    clear c52
                    obtain ⟨y202, hy202⟩ : ∃ y_ : List (S60), y_ = (y199 ++ ((rd_T52 l0 (ji16)).f1.f0)) := ⟨_, rfl⟩
                    replace H : (some (1, a2, 0, (rd_T52 l0 (ji16)).f0, y202, ([] : List (S64)), 0)) = some (r1, r2, r3, r4, r5, r6, r7) := by first | (rw [hy202]; with_reducible exact H) | (have H2_ := (Option.bind_some _ _).symm.trans H; rw [hy202]; with_reducible exact H2_) | (have H2_ := (Option.bind_some _ _).symm.trans H; with_reducible exact H2_) | with_reducible exact H | (rw [hy202]; exact H) | exact H
                    have Ny202 := Aside0.mk hy202
                    clear hy202
                    simp only [Option.some.injEq, Prod.mk.injEq] at H
                    obtain ⟨rfl, rfl, rfl, rfl, rfl, rfl, rfl⟩ := H
                    have p185 : 0 ≤ ((ji16) : Int) := of_decide_eq_true (by first | (with_reducible assumption) | assumption)
                    have q185 : (ji16) < (l0.length : Int) := of_decide_eq_true (by first | (with_reducible assumption) | assumption)
                    obtain ⟨ad185, A185_1, c185_1, e185, hx185_0, hx185_1, hx185_2, hx185_3, hl185_1, hi185_1⟩ := at_T52 HR0.out (ji16) p185 q185
                    cases e185
                    replace hx185_0 := (HB.out.cell (World.block_lt_of_cell? w _ hx185_0)).trans hx185_0
                    replace hx185_1 := (HB.out.cell (World.block_lt_of_cell? w _ hx185_1)).trans hx185_1
                    replace hx185_2 := (HB.out.cell (World.block_lt_of_cell? w _ hx185_2)).trans hx185_2
                    replace hx185_3 := (HB.out.cell (World.block_lt_of_cell? w _ hx185_3)).trans hx185_3
                    have HR185_1 := Aside0.mk hi185_1
                    have HC185_1 := Aside0.mk hl185_1
                    clear hi185_1 hl185_1
                    replace p185 := eq_true p185
                    replace q185 := eq_true q185
                    try go_wp2_with (first | ((with_reducible refine gate_dst (N := 9) rfl ?_); (try (refine gate_guard (by rfl) ?_; dsimp only)); refine box_event ?hg (N := 9) ?hd (cs := #[.int .i64 0, .slice none 0 0, .int .i64 0, .bool false]) (t := 52) ?hr ?_; (case hd => rfl); (case hg => rfl); (case hr => first | (go_simp; done) | (go_simp; rfl)); intro gb186 hg w53 hbox hb; have n0_ := Aside0.mk (blk_below (k_ BK183) hb); have n1_ := Aside0.mk (below_step (b_ HB) hb); have n2_ := Aside0.mk (hbox); have n3_ := Aside0.mk ((by rw [hg]; exact (below_size (b_ HB)) : w.heap.size ≤ gb186)); have n4_ := n3_; have n5_ := Aside0.mk ((by rw [hg]; exact Nat.ne_of_lt (blk_lt (k_ BK183)) : gb183 ≠ gb186)); have n6_ := Aside0.mk ((by rw [hg]; exact Nat.ne_of_gt (blk_lt (k_ BK183)) : gb186 ≠ gb183)); clear BK183; clear HB; have BK183 := n0_; have HB := n1_; have BK186 := n2_; have GW186 := n3_; have GE186 := n4_; have NB183_186 := n5_; have NB186_183 := n6_; clear n0_ n1_ n2_ n3_ n4_ n5_ n6_; clear hb hbox hg; have hnb54 := NB186_183.out; have hnc54 := NB183_186.out; have hcz55_0 : w53.cell? ⟨gb186, 0, none⟩ = some (.int .i64 0) := (blk_cell BK186.out 0).trans rfl; have hcz55_1 : w53.cell? ⟨gb186, 1, none⟩ = some (.slice none 0 0) := (blk_cell BK186.out 1).trans rfl; have hcz55_2 : w53.cell? ⟨gb186, 2, none⟩ = some (.int .i64 0) := (blk_cell BK186.out 2).trans rfl; have hcz55_3 : w53.cell? ⟨gb186, 3, none⟩ = some (.bool false) := (blk_cell BK186.out 3).trans rfl; have hfz55_0 := blk_frozen BK186.out 0; have hfz55_1 := blk_frozen BK186.out 1; have hfz55_2 := blk_frozen BK186.out 2; have hfz55_3 := blk_frozen BK186.out 3))
                    have n0_ : Aside0 (((((w53.setCell ⟨gb186, 0, none⟩ (.int .i64 ((rd_T52 l0 (ji16)).f0))).setCell ⟨gb186, 1, none⟩ (.slice A185_1 ((rd_T52 l0 (ji16)).f1.f0).length c185_1)).setCell ⟨gb186, 2, none⟩ (.int .i64 ((rd_T52 l0 (ji16)).f2))).setCell ⟨gb186, 3, none⟩ (.bool ((rd_T52 l0 (ji16)).f3))).heap[gb183]? = some (.cells #[.int .i64 0, .int .i64 0, .int .i64 0, .int .i64 0, .slice none 0 0, .slice none 0 0] 32 (0, 0))) := ⟨by (with_reducible repeat (first | refine blk_drewN ?_ _ | refine blk_drew ?_ | refine blk_alloc ?_ _)); refine blk_far ?_ NB183_186.out _; (with_reducible repeat (first | refine blk_drewN ?_ _ | refine blk_drew ?_ | refine blk_alloc ?_ _)); refine blk_far ?_ NB183_186.out _; (with_reducible repeat (first | refine blk_drewN ?_ _ | refine blk_drew ?_ | refine blk_alloc ?_ _)); refine blk_far ?_ NB183_186.out _; (with_reducible repeat (first | refine blk_drewN ?_ _ | refine blk_drew ?_ | refine blk_alloc ?_ _)); refine blk_far ?_ NB183_186.out _; (with_reducible repeat (first | refine blk_drewN ?_ _ | refine blk_drew ?_ | refine blk_alloc ?_ _)); exact BK183.out⟩
                    have n1_ : Aside0 (((((w53.setCell ⟨gb186, 0, none⟩ (.int .i64 ((rd_T52 l0 (ji16)).f0))).setCell ⟨gb186, 1, none⟩ (.slice A185_1 ((rd_T52 l0 (ji16)).f1.f0).length c185_1)).setCell ⟨gb186, 2, none⟩ (.int .i64 ((rd_T52 l0 (ji16)).f2))).setCell ⟨gb186, 3, none⟩ (.bool ((rd_T52 l0 (ji16)).f3))).heap[gb186]? = some (.cells #[.int .i64 ((rd_T52 l0 (ji16)).f0), .slice A185_1 ((rd_T52 l0 (ji16)).f1.f0).length c185_1, .int .i64 ((rd_T52 l0 (ji16)).f2), .bool ((rd_T52 l0 (ji16)).f3)] 52 (0, 0))) := ⟨by (with_reducible repeat (first | refine blk_drewN ?_ _ | refine blk_drew ?_ | refine blk_alloc ?_ _)); refine blk_put (cs := #[.int .i64 ((rd_T52 l0 (ji16)).f0), .slice A185_1 ((rd_T52 l0 (ji16)).f1.f0).length c185_1, .int .i64 ((rd_T52 l0 (ji16)).f2), .bool false]) ?_ 3 _ rfl; (with_reducible repeat (first | refine blk_drewN ?_ _ | refine blk_drew ?_ | refine blk_alloc ?_ _)); refine blk_put (cs := #[.int .i64 ((rd_T52 l0 (ji16)).f0), .slice A185_1 ((rd_T52 l0 (ji16)).f1.f0).length c185_1, .int .i64 0, .bool false]) ?_ 2 _ rfl; (with_reducible repeat (first | refine blk_drewN ?_ _ | refine blk_drew ?_ | refine blk_alloc ?_ _)); refine blk_put (cs := #[.int .i64 ((rd_T52 l0 (ji16)).f0), .slice none 0 0, .int .i64 0, .bool false]) ?_ 1 _ rfl; (with_reducible repeat (first | refine blk_drewN ?_ _ | refine blk_drew ?_ | refine blk_alloc ?_ _)); refine blk_put (cs := #[.int .i64 0, .slice none 0 0, .int .i64 0, .bool false]) ?_ 0 _ rfl; (with_reducible repeat (first | refine blk_drewN ?_ _ | refine blk_drew ?_ | refine blk_alloc ?_ _)); exact BK186.out⟩
                    have n2_ : Aside0 (Below w.heap.size w ((((w53.setCell ⟨gb186, 0, none⟩ (.int .i64 ((rd_T52 l0 (ji16)).f0))).setCell ⟨gb186, 1, none⟩ (.slice A185_1 ((rd_T52 l0 (ji16)).f1.f0).length c185_1)).setCell ⟨gb186, 2, none⟩ (.int .i64 ((rd_T52 l0 (ji16)).f2))).setCell ⟨gb186, 3, none⟩ (.bool ((rd_T52 l0 (ji16)).f3)))) := ⟨b_ HB⟩
                    (try clear BK183)
                    (try clear BK186)
                    (try clear HB)
                    generalize ((((w53.setCell ⟨gb186, 0, none⟩ (.int .i64 ((rd_T52 l0 (ji16)).f0))).setCell ⟨gb186, 1, none⟩ (.slice A185_1 ((rd_T52 l0 (ji16)).f1.f0).length c185_1)).setCell ⟨gb186, 2, none⟩ (.int .i64 ((rd_T52 l0 (ji16)).f2))).setCell ⟨gb186, 3, none⟩ (.bool ((rd_T52 l0 (ji16)).f3))) = w56 at n0_ n1_ n2_ ⊢
                    have BK183 := n0_
                    have BK186 := n1_
                    have HB := n2_
                    clear n0_ n1_ n2_
                    have n0_ := Aside0.mk (blk_drew BK183.out)
                    have n1_ := Aside0.mk (blk_drew BK186.out)
                    have n2_ := Aside0.mk (below_drew1 HB.out)
                    clear BK183
                    clear BK186
                    clear HB
                    have BK183 := n0_
                    have BK186 := n1_
                    have HB := n2_
                    clear n0_ n1_ n2_
                    refine start_ (n := 17) (S := fun w' => True) (ds := []) #[false, false, false, false, false, false, false, false, false, false, false, false, false, false, false, false, false] (by kernel_rfl) rfl rfl trivial (fun hHeld => ?_); refine with_tabW chalklineref35_Reply.tab9 chalklineref35_Reply.bits9 (fun HT_ HW_ => ?_)
                    generalize w56.drew = w57 at BK183 BK186 HB hHeld ⊢
                    refine pure_ (i := 0) (N := some 44) (v := ?_) (a' := ?_) #[true, false, false, false, false, false, false, false, false, false, false, false, false, false, false, false, false] rfl rfl (any_of HT_.out (by kernel_rfl)) (fun _ _ _ h => h) (Or.inl ⟨by rfl, ?_⟩) ?_ ?_
                    rotate_left
                    · intro w'
                      go_simp
                      with_reducible rfl
                    rotate_left
                    · simp only [Act.put, List.setIfInBounds_toArray, List.set_cons_zero, List.set_cons_succ, i64_w, i32_w]
                      rfl
                    refine pure_ (i := 1) (N := some 45) (v := ?_) (a' := ?_) #[true, true, false, false, false, false, false, false, false, false, false, false, false, false, false, false, false] rfl rfl (any_of HT_.out (by kernel_rfl)) (fun _ _ _ h => h) (Or.inl ⟨by rfl, ?_⟩) ?_ ?_
                    rotate_left
                    · intro w'
                      go_simp
                      with_reducible rfl
                    rotate_left
                    · simp only [Act.put, List.setIfInBounds_toArray, List.set_cons_zero, List.set_cons_succ, i64_w, i32_w]
                      rfl
                    refine pure_ (i := 2) (N := some 46) (v := ?_) (a' := ?_) #[true, true, true, false, false, false, false, false, false, false, false, false, false, false, false, false, false] rfl rfl (any_of HT_.out (by kernel_rfl)) (fun _ _ _ h => h) (Or.inl ⟨by rfl, ?_⟩) ?_ ?_
                    rotate_left
                    · intro w'
                      go_simp
                      with_reducible rfl
                    rotate_left
                    · simp only [Act.put, List.setIfInBounds_toArray, List.set_cons_zero, List.set_cons_succ, i64_w, i32_w]
                      rfl
                    refine pure_ (i := 3) (N := some 47) (v := undef) (a' := ?_) #[true, true, true, true, false, false, false, false, false, false, false, false, false, false, false, false, false] rfl rfl (any_of HT_.out (by kernel_rfl)) (fun _ _ _ h => h) (Or.inr ⟨by rfl, rfl⟩) ?_ ?_
                    rotate_left
                    · simp only [Act.put, List.setIfInBounds_toArray, List.set_cons_zero, List.set_cons_succ, i64_w, i32_w]
                      rfl
                    refine pure_ (i := 4) (N := some 48) (v := undef) (a' := ?_) #[true, true, true, true, true, false, false, false, false, false, false, false, false, false, false, false, false] rfl rfl (any_of HT_.out (by kernel_rfl)) (fun _ _ _ h => h) (Or.inr ⟨by rfl, rfl⟩) ?_ ?_
                    rotate_left
                    · simp only [Act.put, List.setIfInBounds_toArray, List.set_cons_zero, List.set_cons_succ, i64_w, i32_w]
                      rfl
                    refine pure_ (i := 5) (N := some 49) (v := undef) (a' := ?_) #[true, true, true, true, true, true, false, false, false, false, false, false, false, false, false, false, false] rfl rfl (any_of HT_.out (by kernel_rfl)) (fun _ _ _ h => h) (Or.inr ⟨by rfl, rfl⟩) ?_ ?_
                    rotate_left
                    · simp only [Act.put, List.setIfInBounds_toArray, List.set_cons_zero, List.set_cons_succ, i64_w, i32_w]
                      rfl
                    refine pure_ (i := 6) (N := some 50) (v := undef) (a' := ?_) #[true, true, true, true, true, true, true, false, false, false, false, false, false, false, false, false, false] rfl rfl (any_of HT_.out (by kernel_rfl)) (fun _ _ _ h => h) (Or.inr ⟨by rfl, rfl⟩) ?_ ?_
                    rotate_left
                    · simp only [Act.put, List.setIfInBounds_toArray, List.set_cons_zero, List.set_cons_succ, i64_w, i32_w]
                      rfl
                    refine pure_ (i := 7) (N := some 51) (v := undef) (a' := ?_) #[true, true, true, true, true, true, true, true, false, false, false, false, false, false, false, false, false] rfl rfl (any_of HT_.out (by kernel_rfl)) (fun _ _ _ h => h) (Or.inr ⟨by rfl, rfl⟩) ?_ ?_
                    rotate_left
                    · simp only [Act.put, List.setIfInBounds_toArray, List.set_cons_zero, List.set_cons_succ, i64_w, i32_w]
                      rfl
                    refine pure_ (i := 8) (N := some 52) (v := undef) (a' := ?_) #[true, true, true, true, true, true, true, true, true, false, false, false, false, false, false, false, false] rfl rfl (any_of HT_.out (by kernel_rfl)) (fun _ _ _ h => h) (Or.inr ⟨by rfl, rfl⟩) ?_ ?_
                    rotate_left
                    · simp only [Act.put, List.setIfInBounds_toArray, List.set_cons_zero, List.set_cons_succ, i64_w, i32_w]
                      rfl
                    refine pure_ (i := 9) (N := some 53) (v := undef) (a' := ?_) #[true, true, true, true, true, true, true, true, true, true, false, false, false, false, false, false, false] rfl rfl (any_of HT_.out (by kernel_rfl)) (fun _ _ _ h => h) (Or.inr ⟨by rfl, rfl⟩) ?_ ?_
                    rotate_left
                    · simp only [Act.put, List.setIfInBounds_toArray, List.set_cons_zero, List.set_cons_succ, i64_w, i32_w]
                      rfl
                    refine pure_ (i := 10) (N := some 54) (v := undef) (a' := ?_) #[true, true, true, true, true, true, true, true, true, true, true, false, false, false, false, false, false] rfl rfl (any_of HT_.out (by kernel_rfl)) (fun _ _ _ h => h) (Or.inr ⟨by rfl, rfl⟩) ?_ ?_
                    rotate_left
                    · simp only [Act.put, List.setIfInBounds_toArray, List.set_cons_zero, List.set_cons_succ, i64_w, i32_w]
                      rfl
                    refine pure_ (i := 11) (N := some 55) (v := undef) (a' := ?_) #[true, true, true, true, true, true, true, true, true, true, true, true, false, false, false, false, false] rfl rfl (any_of HT_.out (by kernel_rfl)) (fun _ _ _ h => h) (Or.inr ⟨by rfl, rfl⟩) ?_ ?_
                    rotate_left
                    · simp only [Act.put, List.setIfInBounds_toArray, List.set_cons_zero, List.set_cons_succ, i64_w, i32_w]
                      rfl
                    refine pure_ (i := 12) (N := some 56) (v := undef) (a' := ?_) #[true, true, true, true, true, true, true, true, true, true, true, true, true, false, false, false, false] rfl rfl (any_of HT_.out (by kernel_rfl)) (fun _ _ _ h => h) (Or.inr ⟨by rfl, rfl⟩) ?_ ?_
                    rotate_left
                    · simp only [Act.put, List.setIfInBounds_toArray, List.set_cons_zero, List.set_cons_succ, i64_w, i32_w]
                      rfl
                    refine pure_ (i := 13) (N := some 57) (v := undef) (a' := ?_) #[true, true, true, true, true, true, true, true, true, true, true, true, true, true, false, false, false] rfl rfl (any_of HT_.out (by kernel_rfl)) (fun _ _ _ h => h) (Or.inr ⟨by rfl, rfl⟩) ?_ ?_
                    rotate_left
                    · simp only [Act.put, List.setIfInBounds_toArray, List.set_cons_zero, List.set_cons_succ, i64_w, i32_w]
                      rfl
                    refine pure_ (i := 14) (N := some 58) (v := undef) (a' := ?_) #[true, true, true, true, true, true, true, true, true, true, true, true, true, true, true, false, false] rfl rfl (any_of HT_.out (by kernel_rfl)) (fun _ _ _ h => h) (Or.inr ⟨by rfl, rfl⟩) ?_ ?_
                    rotate_left
                    · simp only [Act.put, List.setIfInBounds_toArray, List.set_cons_zero, List.set_cons_succ, i64_w, i32_w]
                      rfl
                    refine pure_ (i := 15) (N := some 59) (v := undef) (a' := ?_) #[true, true, true, true, true, true, true, true, true, true, true, true, true, true, true, true, false] rfl rfl (any_of HT_.out (by kernel_rfl)) (fun _ _ _ h => h) (Or.inr ⟨by rfl, rfl⟩) ?_ ?_
                    rotate_left
                    · simp only [Act.put, List.setIfInBounds_toArray, List.set_cons_zero, List.set_cons_succ, i64_w, i32_w]
                      rfl
                    refine pure_ (i := 16) (N := some 60) (v := ?_) (a' := ?_) #[true, true, true, true, true, true, true, true, true, true, true, true, true, true, true, true, true] rfl rfl (any_of HT_.out (by kernel_rfl)) (fun _ _ _ h => h) (Or.inl ⟨by rfl, ?_⟩) ?_ ?_
                    rotate_left
                    · intro w'
                      go_simp
                      with_reducible rfl
                    rotate_left
                    · simp only [Act.put, List.setIfInBounds_toArray, List.set_cons_zero, List.set_cons_succ, i64_w, i32_w]
                      rfl
                    refine done_ (done_of HT_.out (by kernel_rfl)) ?_
                    try go_wp2
                    have n0_ := Aside0.mk (blk_drew BK183.out)
                    have n1_ := Aside0.mk (blk_drew BK186.out)
                    have n2_ := Aside0.mk (below_drew1 HB.out)
                    clear BK183
                    clear BK186
                    clear HB
                    have BK183 := n0_
                    have BK186 := n1_
                    have HB := n2_
                    clear n0_ n1_ n2_
                    refine start_ (n := 12) (S := fun w' => w'.cell? ⟨gb186, 0, none⟩ = some (.int .i64 ((rd_T52 l0 (ji16)).f0)) ∧ w'.cell? ⟨gb186, 1, none⟩ = some (.slice A185_1 ((rd_T52 l0 (ji16)).f1.f0).length c185_1) ∧ w'.cell? ⟨gb186, 2, none⟩ = some (.int .i64 ((rd_T52 l0 (ji16)).f2)) ∧ w'.cell? ⟨gb186, 3, none⟩ = some (.bool ((rd_T52 l0 (ji16)).f3))) (ds := []) #[false, false, false, false, false, false, false, false, false, false, false, false] (by kernel_rfl) rfl rfl ⟨(blk_cell BK186.out 0).trans rfl, (blk_cell BK186.out 1).trans rfl, (blk_cell BK186.out 2).trans rfl, (blk_cell BK186.out 3).trans rfl⟩ (fun hHeld => ?_); refine with_tabW chalklineref35_Reply.tab12 chalklineref35_Reply.bits12 (fun HT_ HW_ => ?_)
                    generalize w57.drew = w58 at BK183 BK186 HB hHeld ⊢
                    refine pure_ (i := 0) (N := some 79) (v := ?_) (a' := ?_) #[true, false, false, false, false, false, false, false, false, false, false, false] rfl rfl (any_of HT_.out (by kernel_rfl)) (fun _ _ _ h => h) (Or.inl ⟨by rfl, ?_⟩) ?_ ?_
                    rotate_left
                    · intro w'
                      go_simp
                      with_reducible rfl
                    rotate_left
                    · simp only [Act.put, List.setIfInBounds_toArray, List.set_cons_zero, List.set_cons_succ, i64_w, i32_w]
                      rfl
                    refine pure_ (i := 1) (N := some 80) (v := ?_) (a' := ?_) #[true, true, false, false, false, false, false, false, false, false, false, false] rfl rfl (any_of HT_.out (by kernel_rfl)) (fun _ _ _ h => h) (Or.inl ⟨by rfl, ?_⟩) ?_ ?_
                    rotate_left
                    · intro w'
                      go_simp
                      with_reducible rfl
                    rotate_left
                    · simp only [Act.put, List.setIfInBounds_toArray, List.set_cons_zero, List.set_cons_succ, i64_w, i32_w]
                      rfl
                    refine pure_ (i := 4) (N := some 83) (v := ?_) (a' := ?_) #[true, true, false, false, true, false, false, false, false, false, false, false] rfl rfl (any_of HT_.out (by kernel_rfl)) (fun _ _ _ h => h) (Or.inl ⟨by rfl, ?_⟩) ?_ ?_
                    rotate_left
                    · intro w'
                      go_simp
                      with_reducible rfl
                    rotate_left
                    · simp only [Act.put, List.setIfInBounds_toArray, List.set_cons_zero, List.set_cons_succ, i64_w, i32_w]
                      rfl
                    refine pure_ (i := 5) (N := some 84) (v := ?_) (a' := ?_) #[true, true, false, false, true, true, false, false, false, false, false, false] rfl rfl (any_of HT_.out (by kernel_rfl)) (fun _ _ _ h => h) (Or.inl ⟨by rfl, ?_⟩) ?_ ?_
                    rotate_left
                    · intro w'
                      go_simp
                      with_reducible rfl
                    rotate_left
                    · simp only [Act.put, List.setIfInBounds_toArray, List.set_cons_zero, List.set_cons_succ, i64_w, i32_w]
                      rfl
                    refine take_ (i := 2) (N := some 81) (v := ?_) (a' := ?_) #[true, true, true, false, true, true, false, false, false, false, false, false] rfl rfl (take_ofW HT_.out HW_.out (by kernel_rfl)) (fun _ _ _ h => h) (Or.inl ⟨by rfl, ?_⟩) hHeld ?_ ?_
                    rotate_left
                    · rintro w' ⟨s0, s1, s2, s3⟩
                      go_simp
                      with_reducible rfl
                    rotate_left
                    · simp only [Act.put, List.setIfInBounds_toArray, List.set_cons_zero, List.set_cons_succ, i64_w, i32_w]
                      rfl
                    refine take_ (i := 6) (N := some 85) (v := ?_) (a' := ?_) #[true, true, true, false, true, true, true, false, false, false, false, false] rfl rfl (take_ofW HT_.out HW_.out (by kernel_rfl)) (fun _ _ _ h => h) (Or.inl ⟨by rfl, ?_⟩) hHeld ?_ ?_
                    rotate_left
                    · rintro w' ⟨s0, s1, s2, s3⟩
                      go_simp
                      with_reducible rfl
                    rotate_left
                    · simp only [Act.put, List.setIfInBounds_toArray, List.set_cons_zero, List.set_cons_succ, i64_w, i32_w]
                      rfl
                    refine one_ (i := 3) (N := some 82) #[true, true, true, true, true, true, true, false, false, false, false, false] rfl rfl (one_of HT_.out (by kernel_rfl)) (by decide) (fun K hK => ?_)
                    refine Kd.R_lit_step k60 _ 60 ?hg (N := 82) ?hd (xs := ([] : List (S60))) (inner := []) (ok := fun _ => True) (okp := fun _ => True) ?hr ?hp (fun _ hk => hk) trivial (Below.refl _ _) (Nat.le_refl _) (by simp) ?_; (case hd => rfl); (case hg => rfl); (case hr => first | (go_simp; done) | (go_simp; rfl)); (case hp => exact (Reps.none _ _))
                    intro v200 w59 ho60 hb hg_ hnew_
                    clear hg_ hnew_
                    (first | rw [← Ny199.out] at ho60 | (simp only [Int.reduceToNat] at ho60; rw [← Ny199.out] at ho60))
                    have n0_ := Aside0.mk (Kd.R_lower ho60 (below_size (b_ HB)))
                    have n1_ := Aside0.mk (blk_below (k_ BK183) hb)
                    have n2_ := Aside0.mk (blk_below (k_ BK186) hb)
                    have n3_ := Aside0.mk (below_step (b_ HB) hb)
                    clear BK183
                    clear BK186
                    clear HB
                    have HO201 := n0_
                    have BK183 := n1_
                    have BK186 := n2_
                    have HB := n3_
                    clear n0_ n1_ n2_ n3_
                    clear hb ho60
                    refine hK.out _ _ ⟨(blk_cell BK186.out 0).trans rfl, (blk_cell BK186.out 1).trans rfl, (blk_cell BK186.out 2).trans rfl, (blk_cell BK186.out 3).trans rfl⟩ (fun hHeld => ?_)
                    clear hK K
                    refine norm_ (a' := ?_) ?_ ?_
                    rotate_left
                    · show Act.put _ (some 82) _ = _
                      simp only [Act.put, List.setIfInBounds_toArray, List.set_cons_zero, List.set_cons_succ, i64_w, i32_w]
                      rfl
                    refine one_ (i := 7) (N := some 86) #[true, true, true, true, true, true, true, true, false, false, false, false] rfl rfl (one_of HT_.out (by kernel_rfl)) (by decide) (fun K hK => ?_)
                    refine Kd.R_append_rows_step k60 (w0 := w) w.heap.size (by rfl) (.tmp 82) (.tmp 85) 23 60 (.agg #[(.int .i64 0), (.int .i64 0)]) 16 rfl Try.underlying23 info60 rfl (by decide) (by omega) v200 y199 ((rd_T52 l0 (ji16)).f1.f0) _ _ _ (fun _ => True) (fun _ => False) rfl rfl ?aO ?aR (fun _ _ h => h) (fun _ h => h.elim) ?aF ?aB ?aS ?aL ?_
                    (case aR => repeat (first | exact (Kd.C_below HR185_1.out HB.out) | (with_reducible refine Kd.C_alloc ?_ _) | (with_reducible refine Kd.C_drewN ?_ _) | (with_reducible refine Kd.C_drew ?_)))
                    (case aB => exact (b_ HB))
                    (case aF => exact (fun _ _ => trivial))
                    (case aO => exact (by (with_reducible repeat (first | apply Kd.R_alloc | apply Kd.R_drewN | apply Kd.R_drew)); exact HO201.out))
                    (case aS => exact (below_size (b_ HB)))
                    (case aL => have := LMc52.out; omega)
                    intro v203 w61 ho hb hg hat
                    rw [← Ny202.out] at ho
                    have n0_ := Aside0.mk (blk_grown (g := gb183) (o := .cells #[.int .i64 0, .int .i64 0, .int .i64 0, .int .i64 0, .slice none 0 0, .slice none 0 0] 32 (0, 0)) (k_ BK183) hg (Kd.R_ne HO201.out BK183.out (by decide)))
                    have n1_ := Aside0.mk (blk_grown (g := gb186) (o := .cells #[.int .i64 ((rd_T52 l0 (ji16)).f0), .slice A185_1 ((rd_T52 l0 (ji16)).f1.f0).length c185_1, .int .i64 ((rd_T52 l0 (ji16)).f2), .bool ((rd_T52 l0 (ji16)).f3)] 52 (0, 0)) (k_ BK186) hg (Kd.R_ne HO201.out BK186.out (by decide)))
                    have n2_ := Aside0.mk (hb)
                    have n3_ := Aside0.mk (ho)
                    clear BK183
                    clear BK186
                    clear HB
                    clear HO201
                    have BK183 := n0_
                    have BK186 := n1_
                    have HB := n2_
                    have HO204 := n3_
                    clear n0_ n1_ n2_ n3_
                    clear ho hb hg hat
                    obtain ⟨Ao62, co62, eo62⟩ := Kd.R_slice HO204.out
                    (first | subst eo62 | (injection eo62 with f1_ f2_ f3_; have f4_ := f1_.symm; have f5_ := f3_.symm; clear f1_ f2_ f3_; subst f4_; subst f5_))
                    refine hK.out _ _ ⟨(blk_cell BK186.out 0).trans rfl, (blk_cell BK186.out 1).trans rfl, (blk_cell BK186.out 2).trans rfl, (blk_cell BK186.out 3).trans rfl⟩ (fun hHeld => ?_)
                    clear hK K
                    refine norm_ (a' := ?_) ?_ ?_
                    rotate_left
                    · show Act.put _ (some 86) _ = _
                      simp only [Act.put, List.setIfInBounds_toArray, List.set_cons_zero, List.set_cons_succ, i64_w, i32_w]
                      rfl
                    refine pure_ (i := 8) (N := some 87) (v := ?_) (a' := ?_) #[true, true, true, true, true, true, true, true, true, false, false, false] rfl rfl (any_of HT_.out (by kernel_rfl)) (fun _ _ _ h => h) (Or.inl ⟨by rfl, ?_⟩) ?_ ?_
                    rotate_left
                    · intro w'
                      go_simp
                      with_reducible rfl
                    rotate_left
                    · simp only [Act.put, List.setIfInBounds_toArray, List.set_cons_zero, List.set_cons_succ, i64_w, i32_w]
                      rfl
                    refine pure_ (i := 9) (N := some 88) (v := ?_) (a' := ?_) #[true, true, true, true, true, true, true, true, true, true, false, false] rfl rfl (any_of HT_.out (by kernel_rfl)) (fun _ _ _ h => h) (Or.inl ⟨by rfl, ?_⟩) ?_ ?_
                    rotate_left
                    · intro w'
                      go_simp
                      with_reducible rfl
                    rotate_left
                    · simp only [Act.put, List.setIfInBounds_toArray, List.set_cons_zero, List.set_cons_succ, i64_w, i32_w]
                      rfl
                    refine one_ (i := 10) (N := none) #[true, true, true, true, true, true, true, true, true, true, true, false] rfl rfl (one_of HT_.out (by kernel_rfl)) (by decide) (fun K hK => ?_)
                    have hs63 : w61.cell? ⟨gb183, 0, none⟩ = some (.int .i64 0) := (blk_cell BK183.out 0).trans rfl
                    have hfs63 := blk_frozen BK183.out 0
                    have hns63_1 := NB186_183.out
                    have hms63_1 := NB183_186.out
                    have hs64 : w61.cell? ⟨gb183, 1, none⟩ = some (.int .i64 0) := (blk_cell BK183.out 1).trans rfl
                    have hfs64 := blk_frozen BK183.out 1
                    have hns64_1 := NB186_183.out
                    have hms64_1 := NB183_186.out
                    have hs65 : w61.cell? ⟨gb183, 2, none⟩ = some (.int .i64 0) := (blk_cell BK183.out 2).trans rfl
                    have hfs65 := blk_frozen BK183.out 2
                    have hns65_1 := NB186_183.out
                    have hms65_1 := NB183_186.out
                    have hs66 : w61.cell? ⟨gb183, 3, none⟩ = some (.int .i64 0) := (blk_cell BK183.out 3).trans rfl
                    have hfs66 := blk_frozen BK183.out 3
                    have hns66_1 := NB186_183.out
                    have hms66_1 := NB183_186.out
                    have hs67 : w61.cell? ⟨gb183, 4, none⟩ = some (.slice none 0 0) := (blk_cell BK183.out 4).trans rfl
                    have hfs67 := blk_frozen BK183.out 4
                    have hns67_1 := NB186_183.out
                    have hms67_1 := NB183_186.out
                    have hs68 : w61.cell? ⟨gb183, 5, none⟩ = some (.slice none 0 0) := (blk_cell BK183.out 5).trans rfl
                    have hfs68 := blk_frozen BK183.out 5
                    have hns68_1 := NB186_183.out
                    have hms68_1 := NB183_186.out
                    refine skip_ (w1 := ?_) (by rfl) rfl ?_ ?_
                    rotate_left
                    · go_simp
                      rfl
                    refine hK.out _ _ ⟨((cell_far (p := ⟨gb183, _, none⟩) NB186_183.out _).trans (((cell_far (p := ⟨gb183, _, none⟩) NB186_183.out _).trans (((cell_far (p := ⟨gb183, _, none⟩) NB186_183.out _).trans (((cell_far (p := ⟨gb183, _, none⟩) NB186_183.out _).trans (((cell_far (p := ⟨gb183, _, none⟩) NB186_183.out _).trans (((cell_far (p := ⟨gb183, _, none⟩) NB186_183.out _).trans (hHeld.1)))))))))))), ((cell_far (p := ⟨gb183, _, none⟩) NB186_183.out _).trans (((cell_far (p := ⟨gb183, _, none⟩) NB186_183.out _).trans (((cell_far (p := ⟨gb183, _, none⟩) NB186_183.out _).trans (((cell_far (p := ⟨gb183, _, none⟩) NB186_183.out _).trans (((cell_far (p := ⟨gb183, _, none⟩) NB186_183.out _).trans (((cell_far (p := ⟨gb183, _, none⟩) NB186_183.out _).trans (hHeld.2.1)))))))))))), ((cell_far (p := ⟨gb183, _, none⟩) NB186_183.out _).trans (((cell_far (p := ⟨gb183, _, none⟩) NB186_183.out _).trans (((cell_far (p := ⟨gb183, _, none⟩) NB186_183.out _).trans (((cell_far (p := ⟨gb183, _, none⟩) NB186_183.out _).trans (((cell_far (p := ⟨gb183, _, none⟩) NB186_183.out _).trans (((cell_far (p := ⟨gb183, _, none⟩) NB186_183.out _).trans (hHeld.2.2.1)))))))))))), ((cell_far (p := ⟨gb183, _, none⟩) NB186_183.out _).trans (((cell_far (p := ⟨gb183, _, none⟩) NB186_183.out _).trans (((cell_far (p := ⟨gb183, _, none⟩) NB186_183.out _).trans (((cell_far (p := ⟨gb183, _, none⟩) NB186_183.out _).trans (((cell_far (p := ⟨gb183, _, none⟩) NB186_183.out _).trans (((cell_far (p := ⟨gb183, _, none⟩) NB186_183.out _).trans (hHeld.2.2.2))))))))))))⟩ (fun hHeld => ?_)
                    clear hK K
                    refine pure_ (i := 11) (N := some 7) (v := ?_) (a' := ?_) #[true, true, true, true, true, true, true, true, true, true, true, true] rfl rfl (any_of HT_.out (by kernel_rfl)) (fun _ _ _ h => h) (Or.inl ⟨by rfl, ?_⟩) ?_ ?_
                    rotate_left
                    · intro w'
                      go_simp
                      with_reducible rfl
                    rotate_left
                    · simp only [Act.put, List.setIfInBounds_toArray, List.set_cons_zero, List.set_cons_succ, i64_w, i32_w]
                      rfl
                    refine done_ (done_of HT_.out (by kernel_rfl)) ?_
                    try go_wp2
                    refine bodyPost_ret (results_ct rfl _ _ gb183 32 #[.int .i64 1, .int .i64 a2, .int .i64 0, .int .i64 ((rd_T52 l0 (ji16)).f0), .slice Ao62 y202.length co62, .slice none 0 0] (0, 0) _ rfl (by (with_reducible repeat (first | refine blk_drewN ?_ _ | refine blk_drew ?_ | refine blk_alloc ?_ _)); refine blk_put (cs := #[.int .i64 1, .int .i64 a2, .int .i64 0, .int .i64 ((rd_T52 l0 (ji16)).f0), .slice Ao62 y202.length co62, .slice none 0 0]) ?_ 5 _ rfl; (with_reducible repeat (first | refine blk_drewN ?_ _ | refine blk_drew ?_ | refine blk_alloc ?_ _)); refine blk_put (cs := #[.int .i64 1, .int .i64 a2, .int .i64 0, .int .i64 ((rd_T52 l0 (ji16)).f0), .slice none 0 0, .slice none 0 0]) ?_ 4 _ rfl; (with_reducible repeat (first | refine blk_drewN ?_ _ | refine blk_drew ?_ | refine blk_alloc ?_ _)); refine blk_put (cs := #[.int .i64 1, .int .i64 a2, .int .i64 0, .int .i64 0, .slice none 0 0, .slice none 0 0]) ?_ 3 _ rfl; (with_reducible repeat (first | refine blk_drewN ?_ _ | refine blk_drew ?_ | refine blk_alloc ?_ _)); refine blk_put (cs := #[.int .i64 1, .int .i64 a2, .int .i64 0, .int .i64 0, .slice none 0 0, .slice none 0 0]) ?_ 2 _ rfl; (with_reducible repeat (first | refine blk_drewN ?_ _ | refine blk_drew ?_ | refine blk_alloc ?_ _)); refine blk_put (cs := #[.int .i64 1, .int .i64 0, .int .i64 0, .int .i64 0, .slice none 0 0, .slice none 0 0]) ?_ 1 _ rfl; (with_reducible repeat (first | refine blk_drewN ?_ _ | refine blk_drew ?_ | refine blk_alloc ?_ _)); refine blk_put (cs := #[.int .i64 0, .int .i64 0, .int .i64 0, .int .i64 0, .slice none 0 0, .slice none 0 0]) ?_ 0 _ rfl; (with_reducible repeat (first | refine blk_drewN ?_ _ | refine blk_drew ?_ | refine blk_alloc ?_ _)); exact BK183.out) Try.underlying32 rfl (by kernel_rfl)) rfl ?_
                    exact ⟨_, _, by first | rfl | (simp [errW_none, errW_some] <;> rfl) | (simp only [← hji16]; first | rfl | (simp [errW_none, errW_some] <;> rfl)) | (simp [*, errW_none, errW_some] <;> rfl), by (with_reducible repeat (first | apply Kd.R_alloc | apply Kd.R_drewN | apply Kd.R_drew)); exact Kd.R_mono (Kd.R_far (p := ⟨gb183, 5, none⟩) (Kd.R_far (p := ⟨gb183, 4, none⟩) (Kd.R_far (p := ⟨gb183, 3, none⟩) (Kd.R_far (p := ⟨gb183, 2, none⟩) (Kd.R_far (p := ⟨gb183, 1, none⟩) (Kd.R_far (p := ⟨gb183, 0, none⟩) (Kd.R_types HO204.out BK183.out (by decide)) (fun _ hk => hk.2) (.int .i64 1)) (fun _ hk => hk.2) (.int .i64 a2)) (fun _ hk => hk.2) (.int .i64 0)) (fun _ hk => hk.2) (.int .i64 ((rd_T52 l0 (ji16)).f0))) (fun _ hk => hk.2) (.slice Ao62 y202.length co62)) (fun _ hk => hk.2) (.slice none 0 0)) (fun _ hk => trivial), by first | exact Kd.R_nil _ _ _ _ _ | exact Kd.N_nil _ _ _ _ _ | exact Kd.V_nil _ _ _ _ _ | exact Kd.Q_nil _ _ _ _ _ | exact Kd.S_nil _ _ _ _ _, b_ HB⟩
                  · rw [if_neg c52] at H
                    exact absurd H (by simp)
              · rw [if_neg c18] at H
                exact absurd H (by simp)
            · rw [if_neg c17] at H
              exact absurd H (by simp)
  · rw [if_neg c5] at H
    have c5b0 : (t184 == 0) = false := beq_eq_false_iff_ne.mpr c5
    have c5b1 : (t184 != 0) = true := bne_iff_ne.mpr c5
    simp only [Option.some.injEq, Prod.mk.injEq] at H
    obtain ⟨rfl, rfl, rfl, rfl, rfl, rfl, rfl⟩ := H
    go_enter Try.func14, Try.ntmps14
    go_wp2_with (first | ((with_reducible refine gate_dst (N := 6) rfl ?_); (try (refine gate_guard (by rfl) ?_; dsimp only)); refine box_event ?hg (N := 6) ?hd (cs := #[.int .i64 0, .int .i64 0, .int .i64 0, .int .i64 0, .slice none 0 0, .slice none 0 0]) (t := 32) ?hr ?_; (case hd => rfl); (case hg => rfl); (case hr => first | (go_simp; done) | (go_simp; rfl)); intro gb183 hg w69 hbox hb; have n0_ := Aside0.mk (below_step (b_ HB) hb); have n1_ := Aside0.mk (hbox); have n2_ := Aside0.mk ((by rw [hg]; exact (below_size (b_ HB)) : w.heap.size ≤ gb183)); have n3_ := n2_; clear HB; have HB := n0_; have BK183 := n1_; have GW183 := n2_; have GE183 := n3_; clear n0_ n1_ n2_ n3_; clear hb hbox hg) | ((with_reducible refine gate_callee (f := 17) rfl ?_); refine goesL_ (some 13) rfl rfl Try.func17 (by kernel_rfl) rfl #[.slice A0 l0.length c0] rfl (by (try simp only [List.map_toArray, List.map_cons, List.map_nil]); first | done | rfl | (simp only [List.length_drop, List.length_take]; rfl)) ?_; (with_reducible refine (chalklineref35_Check.calls k _ _ l0 t184 _ ?side1 ?side2 A4.out).mono ?_); (case side1 => repeat (first | exact (Kd.C_below HR0.out HB.out) | (with_reducible refine Kd.C_alloc ?_ _) | (with_reducible refine Kd.C_drewN ?_ _) | (with_reducible refine Kd.C_drew ?_))); (case side2 => exact HC0.out); rintro e w70 ⟨rfl, hb⟩; refine ⟨_, rfl, ?_⟩; have n0_ := Aside0.mk (blk_below (k_ BK183) hb); have n1_ := Aside0.mk (below_step (b_ HB) hb); clear BK183; clear HB; have BK183 := n0_; have HB := n1_; clear n0_ n1_; (try clear hb); (try clear hb2); (try clear hk); (try clear hi); have hcz71_0 : w70.cell? ⟨gb183, 0, none⟩ = some (.int .i64 0) := (blk_cell BK183.out 0).trans rfl; have hcz71_1 : w70.cell? ⟨gb183, 1, none⟩ = some (.int .i64 0) := (blk_cell BK183.out 1).trans rfl; have hcz71_2 : w70.cell? ⟨gb183, 2, none⟩ = some (.int .i64 0) := (blk_cell BK183.out 2).trans rfl; have hcz71_3 : w70.cell? ⟨gb183, 3, none⟩ = some (.int .i64 0) := (blk_cell BK183.out 3).trans rfl; have hcz71_4 : w70.cell? ⟨gb183, 4, none⟩ = some (.slice none 0 0) := (blk_cell BK183.out 4).trans rfl; have hcz71_5 : w70.cell? ⟨gb183, 5, none⟩ = some (.slice none 0 0) := (blk_cell BK183.out 5).trans rfl; have hfz71_0 := blk_frozen BK183.out 0; have hfz71_1 := blk_frozen BK183.out 1; have hfz71_2 := blk_frozen BK183.out 2; have hfz71_3 := blk_frozen BK183.out 3; have hfz71_4 := blk_frozen BK183.out 4; have hfz71_5 := blk_frozen BK183.out 5))
    refine bodyPost_ret (results_ct rfl _ _ gb183 32 #[.int .i64 0, .int .i64 0, .int .i64 0, .int .i64 0, .slice none 0 0, .slice none 0 0] (0, 0) _ rfl (by (with_reducible repeat (first | refine blk_drewN ?_ _ | refine blk_drew ?_ | refine blk_alloc ?_ _)); refine blk_put (cs := #[.int .i64 0, .int .i64 0, .int .i64 0, .int .i64 0, .slice none 0 0, .slice none 0 0]) ?_ 5 _ rfl; (with_reducible repeat (first | refine blk_drewN ?_ _ | refine blk_drew ?_ | refine blk_alloc ?_ _)); refine blk_put (cs := #[.int .i64 0, .int .i64 0, .int .i64 0, .int .i64 0, .slice none 0 0, .slice none 0 0]) ?_ 4 _ rfl; (with_reducible repeat (first | refine blk_drewN ?_ _ | refine blk_drew ?_ | refine blk_alloc ?_ _)); refine blk_put (cs := #[.int .i64 0, .int .i64 0, .int .i64 0, .int .i64 0, .slice none 0 0, .slice none 0 0]) ?_ 3 _ rfl; (with_reducible repeat (first | refine blk_drewN ?_ _ | refine blk_drew ?_ | refine blk_alloc ?_ _)); refine blk_put (cs := #[.int .i64 0, .int .i64 0, .int .i64 0, .int .i64 0, .slice none 0 0, .slice none 0 0]) ?_ 2 _ rfl; (with_reducible repeat (first | refine blk_drewN ?_ _ | refine blk_drew ?_ | refine blk_alloc ?_ _)); refine blk_put (cs := #[.int .i64 0, .int .i64 0, .int .i64 0, .int .i64 0, .slice none 0 0, .slice none 0 0]) ?_ 1 _ rfl; (with_reducible repeat (first | refine blk_drewN ?_ _ | refine blk_drew ?_ | refine blk_alloc ?_ _)); refine blk_put (cs := #[.int .i64 0, .int .i64 0, .int .i64 0, .int .i64 0, .slice none 0 0, .slice none 0 0]) ?_ 0 _ rfl; (with_reducible repeat (first | refine blk_drewN ?_ _ | refine blk_drew ?_ | refine blk_alloc ?_ _)); exact BK183.out) Try.underlying32 rfl (by kernel_rfl)) rfl ?_
    exact ⟨_, _, by first | rfl | (simp [errW_none, errW_some] <;> rfl) | (simp [*, errW_none, errW_some] <;> rfl), by first | exact Kd.R_nil _ _ _ _ _ | exact Kd.N_nil _ _ _ _ _ | exact Kd.V_nil _ _ _ _ _ | exact Kd.Q_nil _ _ _ _ _ | exact Kd.S_nil _ _ _ _ _, by first | exact Kd.R_nil _ _ _ _ _ | exact Kd.N_nil _ _ _ _ _ | exact Kd.V_nil _ _ _ _ _ | exact Kd.Q_nil _ _ _ _ _ | exact Kd.S_nil _ _ _ _ _, b_ HB⟩
end Go.Proofs.Ytfdhnmijaobbdaa.S
end
section
namespace Go.Proofs.Ytfdhnmijaobbdaa.S
open Go.RowKit Go.Proofs.YtfdhnmijaobbdaaW.PrintWords Go.Proofs.YtfdhnmijaobbdaaW.PrintLast Go.Proofs.YtfdhnmijaobbdaaW.PrintMore
attribute [local go_sem] max2_int min2_int max_two min_two max_three min_three max_four min_four   -- for this text's walks alone
set_option linter.unusedVariables false
set_option linter.unusedSimpArgs false
def chalklineref35_Wish.f (a0_0 : Int) (l0_1 : List (S60)) (a1 : Int) : Option (Int × Int × Int × Int × (List (S60)) × (List (S64))) := some (3, a1, 0, a0_0, ([] : List (S60)), ([] : List (S64)))
set_option maxHeartbeats 8000000 in
set_option maxRecDepth 100000 in
theorem chalklineref35_Wish.calls (a0_0 : Int) (A0_1 : Option Addr) (c0_1 : Nat) (l0_1 : List (S60)) (a1 : Int) (r1 : Int) (r2 : Int) (r3 : Int) (r4 : Int) (r5 : List (S60)) (r6 : List (S64)) (w : World) (hr0_1 : Kd.C k60 w A0_1 l0_1.length l0_1) (hc0_1 : l0_1.length ≤ c0_1) (h : chalklineref35_Wish.f a0_0 l0_1 a1 = some (r1, r2, r3, r4, r5, r6)) :
    Calls Try.prog 19 #[.agg #[.int .i64 a0_0, .slice A0_1 l0_1.length c0_1], .int .i64 a1] w fun e w' => ∃ v4_ v5_ : Value, e = .returned (.agg #[.int .i64 r1, .int .i64 r2, .int .i64 r3, .int .i64 r4, v4_, v5_]) ∧ Kd.R k60 60 w' w.heap.size (fun _ => True) v4_ r5 ∧ Kd.R k64 64 w' w.heap.size (fun _ => True) v5_ r6 ∧ Below w.heap.size w w' := by
  have hu27 := Try.underlying27
  have hu32 := Try.underlying32
  have HR0_1 := Aside0.mk hr0_1
  have HC0_1 := Aside0.mk hc0_1
  clear hr0_1 hc0_1
  have HB := Aside0.mk (Below.refl w.heap.size w)
  have H : (some (3, a1, 0, a0_0, ([] : List (S60)), ([] : List (S64)))) = some (r1, r2, r3, r4, r5, r6) := h
  clear h
  simp only [Option.some.injEq, Prod.mk.injEq] at H
  obtain ⟨rfl, rfl, rfl, rfl, rfl, rfl⟩ := H
  go_enter Try.func19, Try.ntmps19
  go_wp2_with (first | ((with_reducible refine gate_dst (N := 2) rfl ?_); refine box_event ?hg (N := 2) ?hd (cs := #[.int .i64 a0_0, .slice A0_1 l0_1.length c0_1]) (t := 27) ?hr ?_; (case hd => rfl); (case hg => rfl); (case hr => first | (go_simp; done) | (go_simp; rfl)); intro gb205 hg w3 hbox hb; have n0_ := Aside0.mk (below_step (b_ HB) hb); have n1_ := Aside0.mk (hbox); have n2_ := Aside0.mk ((by rw [hg]; exact (below_size (b_ HB)) : w.heap.size ≤ gb205)); have n3_ := n2_; clear HB; have HB := n0_; have BK205 := n1_; have GW205 := n2_; have GE205 := n3_; clear n0_ n1_ n2_ n3_; clear hb hbox hg) | ((with_reducible refine gate_dst (N := 4) rfl ?_); refine box_event ?hg (N := 4) ?hd (cs := #[.int .i64 0, .int .i64 0, .int .i64 0, .int .i64 0, .slice none 0 0, .slice none 0 0]) (t := 32) ?hr ?_; (case hd => rfl); (case hg => rfl); (case hr => first | (go_simp; done) | (go_simp; rfl)); intro gb206 hg w4 hbox hb; have n0_ := Aside0.mk (blk_below (k_ BK205) hb); have n1_ := Aside0.mk (below_step (b_ HB) hb); have n2_ := Aside0.mk (hbox); have n3_ := Aside0.mk ((by rw [hg]; exact (below_size (b_ HB)) : w.heap.size ≤ gb206)); have n4_ := n3_; have n5_ := Aside0.mk ((by rw [hg]; exact Nat.ne_of_lt (blk_lt (k_ BK205)) : gb205 ≠ gb206)); have n6_ := Aside0.mk ((by rw [hg]; exact Nat.ne_of_gt (blk_lt (k_ BK205)) : gb206 ≠ gb205)); clear BK205; clear HB; have BK205 := n0_; have HB := n1_; have BK206 := n2_; have GW206 := n3_; have GE206 := n4_; have NB205_206 := n5_; have NB206_205 := n6_; clear n0_ n1_ n2_ n3_ n4_ n5_ n6_; clear hb hbox hg; have hnb5 := NB205_206.out; have hnc5 := NB206_205.out; have hcz6_0 : w4.cell? ⟨gb205, 0, none⟩ = some (.int .i64 a0_0) := (blk_cell BK205.out 0).trans rfl; have hcz6_1 : w4.cell? ⟨gb205, 1, none⟩ = some (.slice A0_1 l0_1.length c0_1) := (blk_cell BK205.out 1).trans rfl; have hfz6_0 := blk_frozen BK205.out 0; have hfz6_1 := blk_frozen BK205.out 1; have hcz7_0 : w4.cell? ⟨gb206, 0, none⟩ = some (.int .i64 0) := (blk_cell BK206.out 0).trans rfl; have hcz7_1 : w4.cell? ⟨gb206, 1, none⟩ = some (.int .i64 0) := (blk_cell BK206.out 1).trans rfl; have hcz7_2 : w4.cell? ⟨gb206, 2, none⟩ = some (.int .i64 0) := (blk_cell BK206.out 2).trans rfl; have hcz7_3 : w4.cell? ⟨gb206, 3, none⟩ = some (.int .i64 0) := (blk_cell BK206.out 3).trans rfl; have hcz7_4 : w4.cell? ⟨gb206, 4, none⟩ = some (.slice none 0 0) := (blk_cell BK206.out 4).trans rfl; have hcz7_5 : w4.cell? ⟨gb206, 5, none⟩ = some (.slice none 0 0) := (blk_cell BK206.out 5).trans rfl; have hfz7_0 := blk_frozen BK206.out 0; have hfz7_1 := blk_frozen BK206.out 1; have hfz7_2 := blk_frozen BK206.out 2; have hfz7_3 := blk_frozen BK206.out 3; have hfz7_4 := blk_frozen BK206.out 4; have hfz7_5 := blk_frozen BK206.out 5))
  refine bodyPost_ret (results_cell_row rfl _ _ gb206 32 #[.int .i64 3, .int .i64 a1, .int .i64 0, .int .i64 a0_0, .slice none 0 0, .slice none 0 0] (0, 0) _ rfl (by (with_reducible repeat (first | refine blk_drewN ?_ _ | refine blk_drew ?_ | refine blk_alloc ?_ _)); refine blk_put (cs := #[.int .i64 3, .int .i64 a1, .int .i64 0, .int .i64 a0_0, .slice none 0 0, .slice none 0 0]) ?_ 5 _ rfl; (with_reducible repeat (first | refine blk_drewN ?_ _ | refine blk_drew ?_ | refine blk_alloc ?_ _)); refine blk_put (cs := #[.int .i64 3, .int .i64 a1, .int .i64 0, .int .i64 a0_0, .slice none 0 0, .slice none 0 0]) ?_ 4 _ rfl; (with_reducible repeat (first | refine blk_drewN ?_ _ | refine blk_drew ?_ | refine blk_alloc ?_ _)); refine blk_put (cs := #[.int .i64 3, .int .i64 a1, .int .i64 0, .int .i64 0, .slice none 0 0, .slice none 0 0]) ?_ 3 _ rfl; (with_reducible repeat (first | refine blk_drewN ?_ _ | refine blk_drew ?_ | refine blk_alloc ?_ _)); refine blk_put (cs := #[.int .i64 3, .int .i64 a1, .int .i64 0, .int .i64 0, .slice none 0 0, .slice none 0 0]) ?_ 2 _ rfl; (with_reducible repeat (first | refine blk_drewN ?_ _ | refine blk_drew ?_ | refine blk_alloc ?_ _)); refine blk_put (cs := #[.int .i64 3, .int .i64 0, .int .i64 0, .int .i64 0, .slice none 0 0, .slice none 0 0]) ?_ 1 _ rfl; (with_reducible repeat (first | refine blk_drewN ?_ _ | refine blk_drew ?_ | refine blk_alloc ?_ _)); refine blk_put (cs := #[.int .i64 0, .int .i64 0, .int .i64 0, .int .i64 0, .slice none 0 0, .slice none 0 0]) ?_ 0 _ rfl; (with_reducible repeat (first | refine blk_drewN ?_ _ | refine blk_drew ?_ | refine blk_alloc ?_ _)); exact BK206.out) Try.underlying32 rfl (by kernel_rfl)) rfl ?_
  exact ⟨_, _, by first | rfl | (simp [errW_none, errW_some] <;> rfl) | (simp [*, errW_none, errW_some] <;> rfl), by first | exact Kd.R_nil _ _ _ _ _ | exact Kd.N_nil _ _ _ _ _ | exact Kd.V_nil _ _ _ _ _ | exact Kd.Q_nil _ _ _ _ _ | exact Kd.S_nil _ _ _ _ _, by first | exact Kd.R_nil _ _ _ _ _ | exact Kd.N_nil _ _ _ _ _ | exact Kd.V_nil _ _ _ _ _ | exact Kd.Q_nil _ _ _ _ _ | exact Kd.S_nil _ _ _ _ _, b_ HB⟩
end Go.Proofs.Ytfdhnmijaobbdaa.S
end
