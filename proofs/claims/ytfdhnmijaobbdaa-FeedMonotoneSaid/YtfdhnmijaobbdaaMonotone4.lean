/- feedMonotone_holds: part 4 of the proof: the plain functions, the walks of the program's functions and the laws about them. Conditions: those that each theorem states. -/
import Derived.Test.YtfdhnmijaobbdaaMonotone1
import Derived.Test.YtfdhnmijaobbdaaMonotone2
import Derived.Test.YtfdhnmijaobbdaaMonotone3
section
namespace Go.Proofs.Ytfdhnmijaobbdaa.S
open Go.RowKit Go.Proofs.YtfdhnmijaobbdaaW.PrintWords Go.Proofs.YtfdhnmijaobbdaaW.PrintLast Go.Proofs.YtfdhnmijaobbdaaW.PrintMore
attribute [local go_sem] max2_int min2_int max_two min_two max_three min_three max_four min_four   -- for this text's walks alone
set_option linter.unusedVariables false
set_option linter.unusedSimpArgs false
attribute [local go_sem high] eqA60
def chalklineref04_Same.l0 : Nat → Int → List (S60) → List (S60) → Option (Bool)
  | 0, _, _, _ => none
  | k + 1, x5, x142000, x143000 => if x5 < (x142000.length : Int) then (if 0 ≤ x5 then (if x5 < (x143000.length : Int) then (if (!(((rd_T60 x142000 x5).f0) == ((rd_T60 x143000 x5).f0)) || (!(((rd_T60 x142000 x5).f1) == ((rd_T60 x143000 x5).f1)))) = true then (some false) else (chalklineref04_Same.l0 k (wrap64 (x5 + 1)) x142000 x143000)) else (none)) else (none)) else (some true)
def chalklineref04_Same.f (k : Nat) (l0_0 : List (S60)) (l1_0 : List (S60)) : Option (Bool) := if (l0_0.length : Int) = (l1_0.length : Int) then (chalklineref04_Same.l0 k 0 l0_0 l1_0) else (some false)
set_option maxHeartbeats 8000000 in
set_option maxRecDepth 100000 in
theorem chalklineref04_Same.calls (k : Nat) (A0_0 : Option Addr) (c0_0 : Nat) (l0_0 : List (S60)) (A1_0 : Option Addr) (c1_0 : Nat) (l1_0 : List (S60)) (r : Bool) (w : World) (hr0_0 : Kd.C k60 w A0_0 l0_0.length l0_0) (hc0_0 : l0_0.length ≤ c0_0) (hr1_0 : Kd.C k60 w A1_0 l1_0.length l1_0) (hc1_0 : l1_0.length ≤ c1_0) (h : chalklineref04_Same.f k l0_0 l1_0 = some r) :
    Calls Try.prog 27 #[.agg #[.slice A0_0 l0_0.length c0_0], .agg #[.slice A1_0 l1_0.length c1_0]] w fun e w' => e = .returned (.bool r) ∧ Below w.heap.size w w' := by
  have hu25 := Try.underlying25
  have hu60 := Try.underlying60
  have HR0_0 := Aside0.mk hr0_0
  have HC0_0 := Aside0.mk hc0_0
  clear hr0_0 hc0_0
  have HR1_0 := Aside0.mk hr1_0
  have HC1_0 := Aside0.mk hc1_0
  clear hr1_0 hc1_0
  have HB := Aside0.mk (Below.refl w.heap.size w)
  have H : (if (l0_0.length : Int) = (l1_0.length : Int) then (chalklineref04_Same.l0 k 0 l0_0 l1_0) else (some false)) = some r := h
  clear h
  by_cases c3 : (l0_0.length : Int) = (l1_0.length : Int)
  · rw [if_pos c3] at H
    have c3b0 : ((l0_0.length : Int) == (l1_0.length : Int)) = true := beq_iff_eq.mpr c3
    have c3b1 : ((l0_0.length : Int) != (l1_0.length : Int)) = false := bne_eq_false_iff_eq.mpr c3
    have c3b2 : (l0_0.length == l1_0.length) = true := by first | simpa using c3 | (simp at c3 ⊢; omega)
    clear c3
    have H' := Aside0.mk H
    clear H
    go_enter Try.func27, Try.ntmps27
    go_wp2_with (first | ((with_reducible refine gate_dst (N := 2) rfl ?_); refine box_event ?hg (N := 2) ?hd (cs := #[.slice A0_0 l0_0.length c0_0]) (t := 25) ?hr ?_; (case hd => rfl); (case hg => rfl); (case hr => first | (go_simp; done) | (go_simp; rfl)); intro gb141 hg w4 hbox hb; have n0_ := Aside0.mk (below_step (by repeat (first | (with_reducible first | exact HB.out | apply below_alloc | apply pw_below_drewN | apply below_drew1) | exact HB.out)) hb); have n1_ := Aside0.mk (hbox); have n2_ := Aside0.mk ((by rw [hg]; exact (below_size (by repeat (first | (with_reducible first | exact HB.out | apply below_alloc | apply pw_below_drewN | apply below_drew1) | exact HB.out))) : w.heap.size ≤ gb141)); have n3_ := Aside0.mk ((by rw [hg]; exact (below_size (by repeat (first | (with_reducible first | exact HB.out | apply below_alloc | apply pw_below_drewN | apply below_drew1) | exact HB.out))) : w.heap.size ≤ gb141)); clear HB; have HB := n0_; have BK141 := n1_; have GW141 := n2_; have GE141 := n3_; clear n0_ n1_ n2_ n3_; clear hb hbox hg) | ((with_reducible refine gate_dst (N := 3) rfl ?_); refine box_event ?hg (N := 3) ?hd (cs := #[.slice A1_0 l1_0.length c1_0]) (t := 25) ?hr ?_; (case hd => rfl); (case hg => rfl); (case hr => first | (go_simp; done) | (go_simp; rfl)); intro gb142 hg w5 hbox hb; have n0_ := Aside0.mk (blk_below (g := gb141) (o := .cells #[.slice A0_0 l0_0.length c0_0] 25 (0, 0)) (by (with_reducible repeat (first | refine blk_drewN ?_ _ | refine blk_drew ?_ | refine blk_alloc ?_ _)); exact BK141.out) hb); have n1_ := Aside0.mk (below_step (by repeat (first | (with_reducible first | exact HB.out | apply below_alloc | apply pw_below_drewN | apply below_drew1 | refine below_set ?_ GE141.out) | exact HB.out)) hb); have n2_ := Aside0.mk (hbox); have n3_ := Aside0.mk ((by rw [hg]; exact (below_size (by repeat (first | (with_reducible first | exact HB.out | apply below_alloc | apply pw_below_drewN | apply below_drew1 | refine below_set ?_ GE141.out) | exact HB.out))) : w.heap.size ≤ gb142)); have n4_ := Aside0.mk ((by rw [hg]; exact (below_size (by repeat (first | (with_reducible first | exact HB.out | apply below_alloc | apply pw_below_drewN | apply below_drew1 | refine below_set ?_ GE141.out) | exact HB.out))) : w.heap.size ≤ gb142)); have n5_ := Aside0.mk ((by rw [hg]; exact Nat.ne_of_lt (blk_lt (g := gb141) (o := .cells #[.slice A0_0 l0_0.length c0_0] 25 (0, 0)) (by (with_reducible repeat (first | refine blk_drewN ?_ _ | refine blk_drew ?_ | refine blk_alloc ?_ _)); exact BK141.out)) : gb141 ≠ gb142)); have n6_ := Aside0.mk ((by rw [hg]; exact Nat.ne_of_gt (blk_lt (g := gb141) (o := .cells #[.slice A0_0 l0_0.length c0_0] 25 (0, 0)) (by (with_reducible repeat (first | refine blk_drewN ?_ _ | refine blk_drew ?_ | refine blk_alloc ?_ _)); exact BK141.out)) : gb142 ≠ gb141)); clear BK141; clear HB; have BK141 := n0_; have HB := n1_; have BK142 := n2_; have GW142 := n3_; have GE142 := n4_; have NB141_142 := n5_; have NB142_141 := n6_; clear n0_ n1_ n2_ n3_ n4_ n5_ n6_; clear hb hbox hg; have hnb6 := NB141_142.out; have hnc6 := NB142_141.out; have hcz7_0 : w5.cell? ⟨gb141, 0, none⟩ = some (.slice A0_0 l0_0.length c0_0) := (blk_cell BK141.out 0).trans rfl; have hfz7_0 := blk_frozen BK141.out 0; have hcz8_0 : w5.cell? ⟨gb142, 0, none⟩ = some (.slice A1_0 l1_0.length c1_0) := (blk_cell BK142.out 0).trans rfl; have hfz8_0 := blk_frozen BK142.out 0))
    repeat (go_quiet (first | ((with_reducible refine gate_dst (N := 2) rfl ?_); refine box_event ?hg (N := 2) ?hd (cs := #[.slice A0_0 l0_0.length c0_0]) (t := 25) ?hr ?_; (case hd => rfl); (case hg => rfl); (case hr => first | (go_simp; done) | (go_simp; rfl)); intro gb141 hg w4 hbox hb; have n0_ := Aside0.mk (below_step (by repeat (first | (with_reducible first | exact HB.out | apply below_alloc | apply pw_below_drewN | apply below_drew1) | exact HB.out)) hb); have n1_ := Aside0.mk (hbox); have n2_ := Aside0.mk ((by rw [hg]; exact (below_size (by repeat (first | (with_reducible first | exact HB.out | apply below_alloc | apply pw_below_drewN | apply below_drew1) | exact HB.out))) : w.heap.size ≤ gb141)); have n3_ := Aside0.mk ((by rw [hg]; exact (below_size (by repeat (first | (with_reducible first | exact HB.out | apply below_alloc | apply pw_below_drewN | apply below_drew1) | exact HB.out))) : w.heap.size ≤ gb141)); clear HB; have HB := n0_; have BK141 := n1_; have GW141 := n2_; have GE141 := n3_; clear n0_ n1_ n2_ n3_; clear hb hbox hg) | ((with_reducible refine gate_dst (N := 3) rfl ?_); refine box_event ?hg (N := 3) ?hd (cs := #[.slice A1_0 l1_0.length c1_0]) (t := 25) ?hr ?_; (case hd => rfl); (case hg => rfl); (case hr => first | (go_simp; done) | (go_simp; rfl)); intro gb142 hg w5 hbox hb; have n0_ := Aside0.mk (blk_below (g := gb141) (o := .cells #[.slice A0_0 l0_0.length c0_0] 25 (0, 0)) (by (with_reducible repeat (first | refine blk_drewN ?_ _ | refine blk_drew ?_ | refine blk_alloc ?_ _)); exact BK141.out) hb); have n1_ := Aside0.mk (below_step (by repeat (first | (with_reducible first | exact HB.out | apply below_alloc | apply pw_below_drewN | apply below_drew1 | refine below_set ?_ GE141.out) | exact HB.out)) hb); have n2_ := Aside0.mk (hbox); have n3_ := Aside0.mk ((by rw [hg]; exact (below_size (by repeat (first | (with_reducible first | exact HB.out | apply below_alloc | apply pw_below_drewN | apply below_drew1 | refine below_set ?_ GE141.out) | exact HB.out))) : w.heap.size ≤ gb142)); have n4_ := Aside0.mk ((by rw [hg]; exact (below_size (by repeat (first | (with_reducible first | exact HB.out | apply below_alloc | apply pw_below_drewN | apply below_drew1 | refine below_set ?_ GE141.out) | exact HB.out))) : w.heap.size ≤ gb142)); have n5_ := Aside0.mk ((by rw [hg]; exact Nat.ne_of_lt (blk_lt (g := gb141) (o := .cells #[.slice A0_0 l0_0.length c0_0] 25 (0, 0)) (by (with_reducible repeat (first | refine blk_drewN ?_ _ | refine blk_drew ?_ | refine blk_alloc ?_ _)); exact BK141.out)) : gb141 ≠ gb142)); have n6_ := Aside0.mk ((by rw [hg]; exact Nat.ne_of_gt (blk_lt (g := gb141) (o := .cells #[.slice A0_0 l0_0.length c0_0] 25 (0, 0)) (by (with_reducible repeat (first | refine blk_drewN ?_ _ | refine blk_drew ?_ | refine blk_alloc ?_ _)); exact BK141.out)) : gb142 ≠ gb141)); clear BK141; clear HB; have BK141 := n0_; have HB := n1_; have BK142 := n2_; have GW142 := n3_; have GE142 := n4_; have NB141_142 := n5_; have NB142_141 := n6_; clear n0_ n1_ n2_ n3_ n4_ n5_ n6_; clear hb hbox hg; have hnb6 := NB141_142.out; have hnc6 := NB142_141.out; have hcz7_0 : w5.cell? ⟨gb141, 0, none⟩ = some (.slice A0_0 l0_0.length c0_0) := (blk_cell BK141.out 0).trans rfl; have hfz7_0 := blk_frozen BK141.out 0; have hcz8_0 : w5.cell? ⟨gb142, 0, none⟩ = some (.slice A1_0 l1_0.length c1_0) := (blk_cell BK142.out 0).trans rfl; have hfz8_0 := blk_frozen BK142.out 0)); try go_wp2_with (first | ((with_reducible refine gate_dst (N := 2) rfl ?_); refine box_event ?hg (N := 2) ?hd (cs := #[.slice A0_0 l0_0.length c0_0]) (t := 25) ?hr ?_; (case hd => rfl); (case hg => rfl); (case hr => first | (go_simp; done) | (go_simp; rfl)); intro gb141 hg w4 hbox hb; have n0_ := Aside0.mk (below_step (by repeat (first | (with_reducible first | exact HB.out | apply below_alloc | apply pw_below_drewN | apply below_drew1) | exact HB.out)) hb); have n1_ := Aside0.mk (hbox); have n2_ := Aside0.mk ((by rw [hg]; exact (below_size (by repeat (first | (with_reducible first | exact HB.out | apply below_alloc | apply pw_below_drewN | apply below_drew1) | exact HB.out))) : w.heap.size ≤ gb141)); have n3_ := Aside0.mk ((by rw [hg]; exact (below_size (by repeat (first | (with_reducible first | exact HB.out | apply below_alloc | apply pw_below_drewN | apply below_drew1) | exact HB.out))) : w.heap.size ≤ gb141)); clear HB; have HB := n0_; have BK141 := n1_; have GW141 := n2_; have GE141 := n3_; clear n0_ n1_ n2_ n3_; clear hb hbox hg) | ((with_reducible refine gate_dst (N := 3) rfl ?_); refine box_event ?hg (N := 3) ?hd (cs := #[.slice A1_0 l1_0.length c1_0]) (t := 25) ?hr ?_; (case hd => rfl); (case hg => rfl); (case hr => first | (go_simp; done) | (go_simp; rfl)); intro gb142 hg w5 hbox hb; have n0_ := Aside0.mk (blk_below (g := gb141) (o := .cells #[.slice A0_0 l0_0.length c0_0] 25 (0, 0)) (by (with_reducible repeat (first | refine blk_drewN ?_ _ | refine blk_drew ?_ | refine blk_alloc ?_ _)); exact BK141.out) hb); have n1_ := Aside0.mk (below_step (by repeat (first | (with_reducible first | exact HB.out | apply below_alloc | apply pw_below_drewN | apply below_drew1 | refine below_set ?_ GE141.out) | exact HB.out)) hb); have n2_ := Aside0.mk (hbox); have n3_ := Aside0.mk ((by rw [hg]; exact (below_size (by repeat (first | (with_reducible first | exact HB.out | apply below_alloc | apply pw_below_drewN | apply below_drew1 | refine below_set ?_ GE141.out) | exact HB.out))) : w.heap.size ≤ gb142)); have n4_ := Aside0.mk ((by rw [hg]; exact (below_size (by repeat (first | (with_reducible first | exact HB.out | apply below_alloc | apply pw_below_drewN | apply below_drew1 | refine below_set ?_ GE141.out) | exact HB.out))) : w.heap.size ≤ gb142)); have n5_ := Aside0.mk ((by rw [hg]; exact Nat.ne_of_lt (blk_lt (g := gb141) (o := .cells #[.slice A0_0 l0_0.length c0_0] 25 (0, 0)) (by (with_reducible repeat (first | refine blk_drewN ?_ _ | refine blk_drew ?_ | refine blk_alloc ?_ _)); exact BK141.out)) : gb141 ≠ gb142)); have n6_ := Aside0.mk ((by rw [hg]; exact Nat.ne_of_gt (blk_lt (g := gb141) (o := .cells #[.slice A0_0 l0_0.length c0_0] 25 (0, 0)) (by (with_reducible repeat (first | refine blk_drewN ?_ _ | refine blk_drew ?_ | refine blk_alloc ?_ _)); exact BK141.out)) : gb142 ≠ gb141)); clear BK141; clear HB; have BK141 := n0_; have HB := n1_; have BK142 := n2_; have GW142 := n3_; have GE142 := n4_; have NB141_142 := n5_; have NB142_141 := n6_; clear n0_ n1_ n2_ n3_ n4_ n5_ n6_; clear hb hbox hg; have hnb6 := NB141_142.out; have hnc6 := NB142_141.out; have hcz7_0 : w5.cell? ⟨gb141, 0, none⟩ = some (.slice A0_0 l0_0.length c0_0) := (blk_cell BK141.out 0).trans rfl; have hfz7_0 := blk_frozen BK141.out 0; have hcz8_0 : w5.cell? ⟨gb142, 0, none⟩ = some (.slice A1_0 l1_0.length c1_0) := (blk_cell BK142.out 0).trans rfl; have hfz8_0 := blk_frozen BK142.out 0)))
    go_loopg [5] k (fun kq v5 w' => ∃ (x5_1 : Int), v5 = .int .i64 x5_1 ∧ Aside0 (chalklineref04_Same.l0 kq x5_1 l0_0 l1_0 = some r) ∧ Aside0 (kq ≤ k) ∧ Aside0 (w'.heap[gb141]? = some (.cells #[(.slice A0_0 l0_0.length c0_0)] 25 (0, 0))) ∧ Aside0 (w'.heap[gb142]? = some (.cells #[(.slice A1_0 l1_0.length c1_0)] 25 (0, 0))) ∧ Aside0 (Below w.heap.size w w'))
    case atStart => exact ⟨(0), (by first | rfl | (simp; done) | (simp [*]; done)), H', ⟨Nat.le_refl _⟩, ⟨by (with_reducible repeat (first | refine blk_drewN ?_ _ | refine blk_drew ?_ | refine blk_alloc ?_ _)); exact BK141.out⟩, ⟨by (with_reducible repeat (first | refine blk_drewN ?_ _ | refine blk_drew ?_ | refine blk_alloc ?_ _)); exact BK142.out⟩, ⟨by repeat (first | (with_reducible first | exact HB.out | apply below_alloc | apply pw_below_drewN | apply below_drew1 | refine below_set ?_ GE141.out | refine below_set ?_ GE142.out) | exact HB.out)⟩⟩
    case round =>
      clear H'
      try clear c1
      try clear c2
      try clear p2
      try clear c3
      try clear c3b0
      try clear c3b1
      try clear c3b2
      try clear c6
      try clear hcz7_0
      try clear hcz8_0
      try clear hfz7_0
      try clear hfz8_0
      obtain ⟨x5_1, rfl, HA, HK1, BK141, BK142, HB⟩ := hrel
      cases gk with
      | zero => exact absurd HA.out (by simp [chalklineref04_Same.l0])
      | succ k1 =>
        have H := HA.out
        clear HA
        simp only [chalklineref04_Same.l0] at H
        by_cases c9 : x5_1 < (l0_0.length : Int)
        · rw [if_pos c9] at H
          have c9b0 : decide (x5_1 < (l0_0.length : Int)) = true := decide_eq_true c9
          clear c9
          by_cases c10 : 0 ≤ x5_1
          · rw [if_pos c10] at H
            have c10b0 : decide (0 ≤ x5_1) = true := decide_eq_true c10
            clear c10
            by_cases c11 : x5_1 < (l1_0.length : Int)
            · rw [if_pos c11] at H
              have c11b0 : decide (x5_1 < (l1_0.length : Int)) = true := decide_eq_true c11
              clear c11
              by_cases c12 : (!(((rd_T60 l0_0 x5_1).f0) == ((rd_T60 l1_0 x5_1).f0)) || (!(((rd_T60 l0_0 x5_1).f1) == ((rd_T60 l1_0 x5_1).f1)))) = true
              · rw [if_pos c12] at H
                have c12b0 : (!(((rd_T60 l0_0 x5_1).f0) == ((rd_T60 l1_0 x5_1).f0)) || (!(((rd_T60 l0_0 x5_1).f1) == ((rd_T60 l1_0 x5_1).f1)))) = true := c12
                clear c12
                obtain rfl := Option.some.inj H
                have hnb13 := NB141_142.out
                have hnc13 := NB142_141.out
                have hcz14_0 : wr.cell? ⟨gb141, 0, none⟩ = some (.slice A0_0 l0_0.length c0_0) := (blk_cell BK141.out 0).trans rfl
                have hfz14_0 := blk_frozen BK141.out 0
                have p143 : 0 ≤ (x5_1 : Int) := of_decide_eq_true (by first | (with_reducible assumption) | assumption)
                have q143 : x5_1 < (l0_0.length : Int) := of_decide_eq_true (by first | (with_reducible assumption) | assumption)
                obtain ⟨ad143, e143, hx143_0, hx143_1⟩ := at_T60 HR0_0.out x5_1 p143 q143
                cases e143
                replace hx143_0 := (HB.out.cell (World.block_lt_of_cell? w _ hx143_0)).trans hx143_0
                replace hx143_1 := (HB.out.cell (World.block_lt_of_cell? w _ hx143_1)).trans hx143_1
                replace p143 := eq_true p143
                replace q143 := eq_true q143
                have hcz15_0 : wr.cell? ⟨gb142, 0, none⟩ = some (.slice A1_0 l1_0.length c1_0) := (blk_cell BK142.out 0).trans rfl
                have hfz15_0 := blk_frozen BK142.out 0
                have p144 : 0 ≤ (x5_1 : Int) := of_decide_eq_true (by first | (with_reducible assumption) | assumption)
                have q144 : x5_1 < (l1_0.length : Int) := of_decide_eq_true (by first | (with_reducible assumption) | assumption)
                obtain ⟨ad144, e144, hx144_0, hx144_1⟩ := at_T60 HR1_0.out x5_1 p144 q144
                cases e144
                replace hx144_0 := (HB.out.cell (World.block_lt_of_cell? w _ hx144_0)).trans hx144_0
                replace hx144_1 := (HB.out.cell (World.block_lt_of_cell? w _ hx144_1)).trans hx144_1
                replace p144 := eq_true p144
                replace q144 := eq_true q144
                go_wp2
                repeat (go_quiet (fail); try go_wp2)
                go_ret
                exact ⟨by first | rfl | (simp [errW_none, errW_some] <;> rfl) | (simp [*, errW_none, errW_some] <;> rfl), by repeat (first | (with_reducible first | exact HB.out | apply below_alloc | apply pw_below_drewN | apply below_drew1 | refine below_set ?_ GE141.out | refine below_set ?_ GE142.out) | exact HB.out)⟩
              · rw [if_neg c12] at H
                have c12b0 : (!(((rd_T60 l0_0 x5_1).f0) == ((rd_T60 l1_0 x5_1).f0)) || (!(((rd_T60 l0_0 x5_1).f1) == ((rd_T60 l1_0 x5_1).f1)))) = false := by simpa using c12
                clear c12
                have H' := Aside0.mk H
                clear H
                have hnb16 := NB141_142.out
                have hnc16 := NB142_141.out
                have hcz17_0 : wr.cell? ⟨gb141, 0, none⟩ = some (.slice A0_0 l0_0.length c0_0) := (blk_cell BK141.out 0).trans rfl
                have hfz17_0 := blk_frozen BK141.out 0
                have p143 : 0 ≤ (x5_1 : Int) := of_decide_eq_true (by first | (with_reducible assumption) | assumption)
                have q143 : x5_1 < (l0_0.length : Int) := of_decide_eq_true (by first | (with_reducible assumption) | assumption)
                obtain ⟨ad143, e143, hx143_0, hx143_1⟩ := at_T60 HR0_0.out x5_1 p143 q143
                cases e143
                replace hx143_0 := (HB.out.cell (World.block_lt_of_cell? w _ hx143_0)).trans hx143_0
                replace hx143_1 := (HB.out.cell (World.block_lt_of_cell? w _ hx143_1)).trans hx143_1
                replace p143 := eq_true p143
                replace q143 := eq_true q143
                have hcz18_0 : wr.cell? ⟨gb142, 0, none⟩ = some (.slice A1_0 l1_0.length c1_0) := (blk_cell BK142.out 0).trans rfl
                have hfz18_0 := blk_frozen BK142.out 0
                have p144 : 0 ≤ (x5_1 : Int) := of_decide_eq_true (by first | (with_reducible assumption) | assumption)
                have q144 : x5_1 < (l1_0.length : Int) := of_decide_eq_true (by first | (with_reducible assumption) | assumption)
                obtain ⟨ad144, e144, hx144_0, hx144_1⟩ := at_T60 HR1_0.out x5_1 p144 q144
                cases e144
                replace hx144_0 := (HB.out.cell (World.block_lt_of_cell? w _ hx144_0)).trans hx144_0
                replace hx144_1 := (HB.out.cell (World.block_lt_of_cell? w _ hx144_1)).trans hx144_1
                replace p144 := eq_true p144
                replace q144 := eq_true q144
                go_wp2
                repeat (go_quiet (fail); try go_wp2)
                go_roundg k1
                case measure => have := HK1.out; omega
                case rel => exact ⟨(wrap64 (x5_1 + 1)), (by first | rfl | (simp; done) | (simp [*]; done)), H', ⟨by have := HK1.out; omega⟩, ⟨by (with_reducible repeat (first | refine blk_drewN ?_ _ | refine blk_drew ?_ | refine blk_alloc ?_ _)); exact BK141.out⟩, ⟨by (with_reducible repeat (first | refine blk_drewN ?_ _ | refine blk_drew ?_ | refine blk_alloc ?_ _)); exact BK142.out⟩, ⟨by repeat (first | (with_reducible first | exact HB.out | apply below_alloc | apply pw_below_drewN | apply below_drew1 | refine below_set ?_ GE141.out | refine below_set ?_ GE142.out) | exact HB.out)⟩⟩
            · rw [if_neg c11] at H
              exact absurd H (by simp)
          · rw [if_neg c10] at H
            exact absurd H (by simp)
        · rw [if_neg c9] at H
          have c9b0 : decide (x5_1 < (l0_0.length : Int)) = false := decide_eq_false c9
          clear c9
          obtain rfl := Option.some.inj H
          have hnb19 := NB141_142.out
          have hnc19 := NB142_141.out
          have hcz20_0 : wr.cell? ⟨gb141, 0, none⟩ = some (.slice A0_0 l0_0.length c0_0) := (blk_cell BK141.out 0).trans rfl
          have hfz20_0 := blk_frozen BK141.out 0
          go_wp2
          repeat (go_quiet (fail); try go_wp2)
          go_ret
          exact ⟨by first | rfl | (simp [errW_none, errW_some] <;> rfl) | (simp [*, errW_none, errW_some] <;> rfl), by repeat (first | (with_reducible first | exact HB.out | apply below_alloc | apply pw_below_drewN | apply below_drew1 | refine below_set ?_ GE141.out | refine below_set ?_ GE142.out) | exact HB.out)⟩
  · rw [if_neg c3] at H
    have c3b0 : ((l0_0.length : Int) == (l1_0.length : Int)) = false := beq_eq_false_iff_ne.mpr c3
    have c3b1 : ((l0_0.length : Int) != (l1_0.length : Int)) = true := bne_iff_ne.mpr c3
    have c3b2 : (l0_0.length == l1_0.length) = false := by first | simpa using c3 | (simp at c3 ⊢; omega)
    obtain rfl := Option.some.inj H
    go_enter Try.func27, Try.ntmps27
    go_wp2_with (first | ((with_reducible refine gate_dst (N := 2) rfl ?_); refine box_event ?hg (N := 2) ?hd (cs := #[.slice A0_0 l0_0.length c0_0]) (t := 25) ?hr ?_; (case hd => rfl); (case hg => rfl); (case hr => first | (go_simp; done) | (go_simp; rfl)); intro gb141 hg w21 hbox hb; have n0_ := Aside0.mk (below_step (by repeat (first | (with_reducible first | exact HB.out | apply below_alloc | apply pw_below_drewN | apply below_drew1) | exact HB.out)) hb); have n1_ := Aside0.mk (hbox); have n2_ := Aside0.mk ((by rw [hg]; exact (below_size (by repeat (first | (with_reducible first | exact HB.out | apply below_alloc | apply pw_below_drewN | apply below_drew1) | exact HB.out))) : w.heap.size ≤ gb141)); have n3_ := Aside0.mk ((by rw [hg]; exact (below_size (by repeat (first | (with_reducible first | exact HB.out | apply below_alloc | apply pw_below_drewN | apply below_drew1) | exact HB.out))) : w.heap.size ≤ gb141)); clear HB; have HB := n0_; have BK141 := n1_; have GW141 := n2_; have GE141 := n3_; clear n0_ n1_ n2_ n3_; clear hb hbox hg) | ((with_reducible refine gate_dst (N := 3) rfl ?_); refine box_event ?hg (N := 3) ?hd (cs := #[.slice A1_0 l1_0.length c1_0]) (t := 25) ?hr ?_; (case hd => rfl); (case hg => rfl); (case hr => first | (go_simp; done) | (go_simp; rfl)); intro gb142 hg w22 hbox hb; have n0_ := Aside0.mk (blk_below (g := gb141) (o := .cells #[.slice A0_0 l0_0.length c0_0] 25 (0, 0)) (by (with_reducible repeat (first | refine blk_drewN ?_ _ | refine blk_drew ?_ | refine blk_alloc ?_ _)); exact BK141.out) hb); have n1_ := Aside0.mk (below_step (by repeat (first | (with_reducible first | exact HB.out | apply below_alloc | apply pw_below_drewN | apply below_drew1 | refine below_set ?_ GE141.out) | exact HB.out)) hb); have n2_ := Aside0.mk (hbox); have n3_ := Aside0.mk ((by rw [hg]; exact (below_size (by repeat (first | (with_reducible first | exact HB.out | apply below_alloc | apply pw_below_drewN | apply below_drew1 | refine below_set ?_ GE141.out) | exact HB.out))) : w.heap.size ≤ gb142)); have n4_ := Aside0.mk ((by rw [hg]; exact (below_size (by repeat (first | (with_reducible first | exact HB.out | apply below_alloc | apply pw_below_drewN | apply below_drew1 | refine below_set ?_ GE141.out) | exact HB.out))) : w.heap.size ≤ gb142)); have n5_ := Aside0.mk ((by rw [hg]; exact Nat.ne_of_lt (blk_lt (g := gb141) (o := .cells #[.slice A0_0 l0_0.length c0_0] 25 (0, 0)) (by (with_reducible repeat (first | refine blk_drewN ?_ _ | refine blk_drew ?_ | refine blk_alloc ?_ _)); exact BK141.out)) : gb141 ≠ gb142)); have n6_ := Aside0.mk ((by rw [hg]; exact Nat.ne_of_gt (blk_lt (g := gb141) (o := .cells #[.slice A0_0 l0_0.length c0_0] 25 (0, 0)) (by (with_reducible repeat (first | refine blk_drewN ?_ _ | refine blk_drew ?_ | refine blk_alloc ?_ _)); exact BK141.out)) : gb142 ≠ gb141)); clear BK141; clear HB; have BK141 := n0_; have HB := n1_; have BK142 := n2_; have GW142 := n3_; have GE142 := n4_; have NB141_142 := n5_; have NB142_141 := n6_; clear n0_ n1_ n2_ n3_ n4_ n5_ n6_; clear hb hbox hg; have hnb23 := NB141_142.out; have hnc23 := NB142_141.out; have hcz24_0 : w22.cell? ⟨gb141, 0, none⟩ = some (.slice A0_0 l0_0.length c0_0) := (blk_cell BK141.out 0).trans rfl; have hfz24_0 := blk_frozen BK141.out 0; have hcz25_0 : w22.cell? ⟨gb142, 0, none⟩ = some (.slice A1_0 l1_0.length c1_0) := (blk_cell BK142.out 0).trans rfl; have hfz25_0 := blk_frozen BK142.out 0))
    repeat (go_quiet (first | ((with_reducible refine gate_dst (N := 2) rfl ?_); refine box_event ?hg (N := 2) ?hd (cs := #[.slice A0_0 l0_0.length c0_0]) (t := 25) ?hr ?_; (case hd => rfl); (case hg => rfl); (case hr => first | (go_simp; done) | (go_simp; rfl)); intro gb141 hg w21 hbox hb; have n0_ := Aside0.mk (below_step (by repeat (first | (with_reducible first | exact HB.out | apply below_alloc | apply pw_below_drewN | apply below_drew1) | exact HB.out)) hb); have n1_ := Aside0.mk (hbox); have n2_ := Aside0.mk ((by rw [hg]; exact (below_size (by repeat (first | (with_reducible first | exact HB.out | apply below_alloc | apply pw_below_drewN | apply below_drew1) | exact HB.out))) : w.heap.size ≤ gb141)); have n3_ := Aside0.mk ((by rw [hg]; exact (below_size (by repeat (first | (with_reducible first | exact HB.out | apply below_alloc | apply pw_below_drewN | apply below_drew1) | exact HB.out))) : w.heap.size ≤ gb141)); clear HB; have HB := n0_; have BK141 := n1_; have GW141 := n2_; have GE141 := n3_; clear n0_ n1_ n2_ n3_; clear hb hbox hg) | ((with_reducible refine gate_dst (N := 3) rfl ?_); refine box_event ?hg (N := 3) ?hd (cs := #[.slice A1_0 l1_0.length c1_0]) (t := 25) ?hr ?_; (case hd => rfl); (case hg => rfl); (case hr => first | (go_simp; done) | (go_simp; rfl)); intro gb142 hg w22 hbox hb; have n0_ := Aside0.mk (blk_below (g := gb141) (o := .cells #[.slice A0_0 l0_0.length c0_0] 25 (0, 0)) (by (with_reducible repeat (first | refine blk_drewN ?_ _ | refine blk_drew ?_ | refine blk_alloc ?_ _)); exact BK141.out) hb); have n1_ := Aside0.mk (below_step (by repeat (first | (with_reducible first | exact HB.out | apply below_alloc | apply pw_below_drewN | apply below_drew1 | refine below_set ?_ GE141.out) | exact HB.out)) hb); have n2_ := Aside0.mk (hbox); have n3_ := Aside0.mk ((by rw [hg]; exact (below_size (by repeat (first | (with_reducible first | exact HB.out | apply below_alloc | apply pw_below_drewN | apply below_drew1 | refine below_set ?_ GE141.out) | exact HB.out))) : w.heap.size ≤ gb142)); have n4_ := Aside0.mk ((by rw [hg]; exact (below_size (by repeat (first | (with_reducible first | exact HB.out | apply below_alloc | apply pw_below_drewN | apply below_drew1 | refine below_set ?_ GE141.out) | exact HB.out))) : w.heap.size ≤ gb142)); have n5_ := Aside0.mk ((by rw [hg]; exact Nat.ne_of_lt (blk_lt (g := gb141) (o := .cells #[.slice A0_0 l0_0.length c0_0] 25 (0, 0)) (by (with_reducible repeat (first | refine blk_drewN ?_ _ | refine blk_drew ?_ | refine blk_alloc ?_ _)); exact BK141.out)) : gb141 ≠ gb142)); have n6_ := Aside0.mk ((by rw [hg]; exact Nat.ne_of_gt (blk_lt (g := gb141) (o := .cells #[.slice A0_0 l0_0.length c0_0] 25 (0, 0)) (by (with_reducible repeat (first | refine blk_drewN ?_ _ | refine blk_drew ?_ | refine blk_alloc ?_ _)); exact BK141.out)) : gb142 ≠ gb141)); clear BK141; clear HB; have BK141 := n0_; have HB := n1_; have BK142 := n2_; have GW142 := n3_; have GE142 := n4_; have NB141_142 := n5_; have NB142_141 := n6_; clear n0_ n1_ n2_ n3_ n4_ n5_ n6_; clear hb hbox hg; have hnb23 := NB141_142.out; have hnc23 := NB142_141.out; have hcz24_0 : w22.cell? ⟨gb141, 0, none⟩ = some (.slice A0_0 l0_0.length c0_0) := (blk_cell BK141.out 0).trans rfl; have hfz24_0 := blk_frozen BK141.out 0; have hcz25_0 : w22.cell? ⟨gb142, 0, none⟩ = some (.slice A1_0 l1_0.length c1_0) := (blk_cell BK142.out 0).trans rfl; have hfz25_0 := blk_frozen BK142.out 0)); try go_wp2_with (first | ((with_reducible refine gate_dst (N := 2) rfl ?_); refine box_event ?hg (N := 2) ?hd (cs := #[.slice A0_0 l0_0.length c0_0]) (t := 25) ?hr ?_; (case hd => rfl); (case hg => rfl); (case hr => first | (go_simp; done) | (go_simp; rfl)); intro gb141 hg w21 hbox hb; have n0_ := Aside0.mk (below_step (by repeat (first | (with_reducible first | exact HB.out | apply below_alloc | apply pw_below_drewN | apply below_drew1) | exact HB.out)) hb); have n1_ := Aside0.mk (hbox); have n2_ := Aside0.mk ((by rw [hg]; exact (below_size (by repeat (first | (with_reducible first | exact HB.out | apply below_alloc | apply pw_below_drewN | apply below_drew1) | exact HB.out))) : w.heap.size ≤ gb141)); have n3_ := Aside0.mk ((by rw [hg]; exact (below_size (by repeat (first | (with_reducible first | exact HB.out | apply below_alloc | apply pw_below_drewN | apply below_drew1) | exact HB.out))) : w.heap.size ≤ gb141)); clear HB; have HB := n0_; have BK141 := n1_; have GW141 := n2_; have GE141 := n3_; clear n0_ n1_ n2_ n3_; clear hb hbox hg) | ((with_reducible refine gate_dst (N := 3) rfl ?_); refine box_event ?hg (N := 3) ?hd (cs := #[.slice A1_0 l1_0.length c1_0]) (t := 25) ?hr ?_; (case hd => rfl); (case hg => rfl); (case hr => first | (go_simp; done) | (go_simp; rfl)); intro gb142 hg w22 hbox hb; have n0_ := Aside0.mk (blk_below (g := gb141) (o := .cells #[.slice A0_0 l0_0.length c0_0] 25 (0, 0)) (by (with_reducible repeat (first | refine blk_drewN ?_ _ | refine blk_drew ?_ | refine blk_alloc ?_ _)); exact BK141.out) hb); have n1_ := Aside0.mk (below_step (by repeat (first | (with_reducible first | exact HB.out | apply below_alloc | apply pw_below_drewN | apply below_drew1 | refine below_set ?_ GE141.out) | exact HB.out)) hb); have n2_ := Aside0.mk (hbox); have n3_ := Aside0.mk ((by rw [hg]; exact (below_size (by repeat (first | (with_reducible first | exact HB.out | apply below_alloc | apply pw_below_drewN | apply below_drew1 | refine below_set ?_ GE141.out) | exact HB.out))) : w.heap.size ≤ gb142)); have n4_ := Aside0.mk ((by rw [hg]; exact (below_size (by repeat (first | (with_reducible first | exact HB.out | apply below_alloc | apply pw_below_drewN | apply below_drew1 | refine below_set ?_ GE141.out) | exact HB.out))) : w.heap.size ≤ gb142)); have n5_ := Aside0.mk ((by rw [hg]; exact Nat.ne_of_lt (blk_lt (g := gb141) (o := .cells #[.slice A0_0 l0_0.length c0_0] 25 (0, 0)) (by (with_reducible repeat (first | refine blk_drewN ?_ _ | refine blk_drew ?_ | refine blk_alloc ?_ _)); exact BK141.out)) : gb141 ≠ gb142)); have n6_ := Aside0.mk ((by rw [hg]; exact Nat.ne_of_gt (blk_lt (g := gb141) (o := .cells #[.slice A0_0 l0_0.length c0_0] 25 (0, 0)) (by (with_reducible repeat (first | refine blk_drewN ?_ _ | refine blk_drew ?_ | refine blk_alloc ?_ _)); exact BK141.out)) : gb142 ≠ gb141)); clear BK141; clear HB; have BK141 := n0_; have HB := n1_; have BK142 := n2_; have GW142 := n3_; have GE142 := n4_; have NB141_142 := n5_; have NB142_141 := n6_; clear n0_ n1_ n2_ n3_ n4_ n5_ n6_; clear hb hbox hg; have hnb23 := NB141_142.out; have hnc23 := NB142_141.out; have hcz24_0 : w22.cell? ⟨gb141, 0, none⟩ = some (.slice A0_0 l0_0.length c0_0) := (blk_cell BK141.out 0).trans rfl; have hfz24_0 := blk_frozen BK141.out 0; have hcz25_0 : w22.cell? ⟨gb142, 0, none⟩ = some (.slice A1_0 l1_0.length c1_0) := (blk_cell BK142.out 0).trans rfl; have hfz25_0 := blk_frozen BK142.out 0)))
    go_ret
    exact ⟨by first | rfl | (simp [errW_none, errW_some] <;> rfl) | (simp [*, errW_none, errW_some] <;> rfl), by repeat (first | (with_reducible first | exact HB.out | apply below_alloc | apply pw_below_drewN | apply below_drew1 | refine below_set ?_ GE141.out | refine below_set ?_ GE142.out) | exact HB.out)⟩
end Go.Proofs.Ytfdhnmijaobbdaa.S
end
section
namespace Go.Proofs.Ytfdhnmijaobbdaa.S
open Go.RowKit Go.Proofs.YtfdhnmijaobbdaaW.PrintWords Go.Proofs.YtfdhnmijaobbdaaW.PrintLast Go.Proofs.YtfdhnmijaobbdaaW.PrintMore
attribute [local go_sem] max2_int min2_int max_two min_two max_three min_three max_four min_four   -- for this text's walks alone
set_option linter.unusedVariables false
set_option linter.unusedSimpArgs false
def chalklineref35_Clients.f (k : Nat) (a0_0 : Int) (l0_1 : List (S60)) (a1_0 : Int) (l1_1 : List (S60)) : Option (Bool) := if a0_0 = a1_0 then ((chalklineref04_Same.f k l0_1 l1_1).bind fun t162 => (some t162)) else (some false)
set_option maxHeartbeats 8000000 in
set_option maxRecDepth 100000 in
theorem chalklineref35_Clients.calls (k : Nat) (a0_0 : Int) (A0_1 : Option Addr) (c0_1 : Nat) (l0_1 : List (S60)) (a1_0 : Int) (A1_1 : Option Addr) (c1_1 : Nat) (l1_1 : List (S60)) (r : Bool) (w : World) (hr0_1 : Kd.C k60 w A0_1 l0_1.length l0_1) (hc0_1 : l0_1.length ≤ c0_1) (hr1_1 : Kd.C k60 w A1_1 l1_1.length l1_1) (hc1_1 : l1_1.length ≤ c1_1) (h : chalklineref35_Clients.f k a0_0 l0_1 a1_0 l1_1 = some r) :
    Calls Try.prog 23 #[.agg #[.int .i64 a0_0, .slice A0_1 l0_1.length c0_1], .agg #[.int .i64 a1_0, .slice A1_1 l1_1.length c1_1]] w fun e w' => e = .returned (.bool r) ∧ Below w.heap.size w w' := by
  have hu27 := Try.underlying27
  have hu25 := Try.underlying25
  have HR0_1 := Aside0.mk hr0_1
  have HC0_1 := Aside0.mk hc0_1
  clear hr0_1 hc0_1
  have HR1_1 := Aside0.mk hr1_1
  have HC1_1 := Aside0.mk hc1_1
  clear hr1_1 hc1_1
  have HB := Aside0.mk (Below.refl w.heap.size w)
  have H : (if a0_0 = a1_0 then ((chalklineref04_Same.f k l0_1 l1_1).bind fun t162 => (some t162)) else (some false)) = some r := h
  clear h
  by_cases c3 : a0_0 = a1_0
  · rw [if_pos c3] at H
    have c3b0 : (a0_0 == a1_0) = true := beq_iff_eq.mpr c3
    have c3b1 : (a0_0 != a1_0) = false := bne_eq_false_iff_eq.mpr c3
    clear c3
    replace H := Option.bind_eq_some_iff.mp H
    obtain ⟨t162, A40, H⟩ := H
    replace H : (some t162) = some r := H
    have A4 := Aside0.mk A40
    clear A40
    obtain rfl := Option.some.inj H
    go_enter Try.func23, Try.ntmps23
    go_wp2_with (first | ((with_reducible refine gate_dst (N := 2) rfl ?_); refine box_event ?hg (N := 2) ?hd (cs := #[.int .i64 a0_0, .slice A0_1 l0_1.length c0_1]) (t := 27) ?hr ?_; (case hd => rfl); (case hg => rfl); (case hr => first | (go_simp; done) | (go_simp; rfl)); intro gb160 hg w5 hbox hb; have n0_ := Aside0.mk (below_step (by repeat (first | (with_reducible first | exact HB.out | apply below_alloc | apply pw_below_drewN | apply below_drew1) | exact HB.out)) hb); have n1_ := Aside0.mk (hbox); have n2_ := Aside0.mk ((by rw [hg]; exact (below_size (by repeat (first | (with_reducible first | exact HB.out | apply below_alloc | apply pw_below_drewN | apply below_drew1) | exact HB.out))) : w.heap.size ≤ gb160)); have n3_ := Aside0.mk ((by rw [hg]; exact (below_size (by repeat (first | (with_reducible first | exact HB.out | apply below_alloc | apply pw_below_drewN | apply below_drew1) | exact HB.out))) : w.heap.size ≤ gb160)); clear HB; have HB := n0_; have BK160 := n1_; have GW160 := n2_; have GE160 := n3_; clear n0_ n1_ n2_ n3_; clear hb hbox hg) | ((with_reducible refine gate_dst (N := 3) rfl ?_); refine box_event ?hg (N := 3) ?hd (cs := #[.int .i64 a1_0, .slice A1_1 l1_1.length c1_1]) (t := 27) ?hr ?_; (case hd => rfl); (case hg => rfl); (case hr => first | (go_simp; done) | (go_simp; rfl)); intro gb161 hg w6 hbox hb; have n0_ := Aside0.mk (blk_below (g := gb160) (o := .cells #[.int .i64 a0_0, .slice A0_1 l0_1.length c0_1] 27 (0, 0)) (by (with_reducible repeat (first | refine blk_drewN ?_ _ | refine blk_drew ?_ | refine blk_alloc ?_ _)); exact BK160.out) hb); have n1_ := Aside0.mk (below_step (by repeat (first | (with_reducible first | exact HB.out | apply below_alloc | apply pw_below_drewN | apply below_drew1 | refine below_set ?_ GE160.out) | exact HB.out)) hb); have n2_ := Aside0.mk (hbox); have n3_ := Aside0.mk ((by rw [hg]; exact (below_size (by repeat (first | (with_reducible first | exact HB.out | apply below_alloc | apply pw_below_drewN | apply below_drew1 | refine below_set ?_ GE160.out) | exact HB.out))) : w.heap.size ≤ gb161)); have n4_ := Aside0.mk ((by rw [hg]; exact (below_size (by repeat (first | (with_reducible first | exact HB.out | apply below_alloc | apply pw_below_drewN | apply below_drew1 | refine below_set ?_ GE160.out) | exact HB.out))) : w.heap.size ≤ gb161)); have n5_ := Aside0.mk ((by rw [hg]; exact Nat.ne_of_lt (blk_lt (g := gb160) (o := .cells #[.int .i64 a0_0, .slice A0_1 l0_1.length c0_1] 27 (0, 0)) (by (with_reducible repeat (first | refine blk_drewN ?_ _ | refine blk_drew ?_ | refine blk_alloc ?_ _)); exact BK160.out)) : gb160 ≠ gb161)); have n6_ := Aside0.mk ((by rw [hg]; exact Nat.ne_of_gt (blk_lt (g := gb160) (o := .cells #[.int .i64 a0_0, .slice A0_1 l0_1.length c0_1] 27 (0, 0)) (by (with_reducible repeat (first | refine blk_drewN ?_ _ | refine blk_drew ?_ | refine blk_alloc ?_ _)); exact BK160.out)) : gb161 ≠ gb160)); clear BK160; clear HB; have BK160 := n0_; have HB := n1_; have BK161 := n2_; have GW161 := n3_; have GE161 := n4_; have NB160_161 := n5_; have NB161_160 := n6_; clear n0_ n1_ n2_ n3_ n4_ n5_ n6_; clear hb hbox hg; have hnb7 := NB160_161.out; have hnc7 := NB161_160.out; have hcz8_0 : w6.cell? ⟨gb160, 0, none⟩ = some (.int .i64 a0_0) := (blk_cell BK160.out 0).trans rfl; have hcz8_1 : w6.cell? ⟨gb160, 1, none⟩ = some (.slice A0_1 l0_1.length c0_1) := (blk_cell BK160.out 1).trans rfl; have hfz8_0 := blk_frozen BK160.out 0; have hfz8_1 := blk_frozen BK160.out 1; have hcz9_0 : w6.cell? ⟨gb161, 0, none⟩ = some (.int .i64 a1_0) := (blk_cell BK161.out 0).trans rfl; have hcz9_1 : w6.cell? ⟨gb161, 1, none⟩ = some (.slice A1_1 l1_1.length c1_1) := (blk_cell BK161.out 1).trans rfl; have hfz9_0 := blk_frozen BK161.out 0; have hfz9_1 := blk_frozen BK161.out 1) | (go_at_call 27; (with_reducible refine (chalklineref04_Same.calls k _ _ l0_1 _ _ l1_1 t162 _ ?side1 ?side2 ?side3 ?side4 A4.out).mono ?_); (case side1 => repeat (first | exact (Kd.C_below HR0_1.out HB.out) | (with_reducible refine Kd.C_alloc ?_ _) | (with_reducible refine Kd.C_drewN ?_ _) | (with_reducible refine Kd.C_drew ?_))); (case side2 => exact HC0_1.out); (case side3 => repeat (first | exact (Kd.C_below HR1_1.out HB.out) | (with_reducible refine Kd.C_alloc ?_ _) | (with_reducible refine Kd.C_drewN ?_ _) | (with_reducible refine Kd.C_drew ?_))); (case side4 => exact HC1_1.out); rintro e w10 ⟨rfl, hb⟩; have n0_ := Aside0.mk (blk_below (g := gb160) (o := .cells #[.int .i64 a0_0, .slice A0_1 l0_1.length c0_1] 27 (0, 0)) (by (with_reducible repeat (first | refine blk_drewN ?_ _ | refine blk_drew ?_ | refine blk_alloc ?_ _)); exact BK160.out) hb); have n1_ := Aside0.mk (blk_below (g := gb161) (o := .cells #[.int .i64 a1_0, .slice A1_1 l1_1.length c1_1] 27 (0, 0)) (by (with_reducible repeat (first | refine blk_drewN ?_ _ | refine blk_drew ?_ | refine blk_alloc ?_ _)); exact BK161.out) hb); have n2_ := Aside0.mk (below_step (by repeat (first | (with_reducible first | exact HB.out | apply below_alloc | apply pw_below_drewN | apply below_drew1 | refine below_set ?_ GE160.out | refine below_set ?_ GE161.out) | exact HB.out)) hb); clear BK160; clear BK161; clear HB; have BK160 := n0_; have BK161 := n1_; have HB := n2_; clear n0_ n1_ n2_; (try clear hb); (try clear hb2); (try clear hk); (try clear hi)))
    go_ret
    exact ⟨by first | rfl | (simp [errW_none, errW_some] <;> rfl) | (simp [*, errW_none, errW_some] <;> rfl), by repeat (first | (with_reducible first | exact HB.out | apply below_alloc | apply pw_below_drewN | apply below_drew1 | refine below_set ?_ GE160.out | refine below_set ?_ GE161.out) | exact HB.out)⟩
  · rw [if_neg c3] at H
    have c3b0 : (a0_0 == a1_0) = false := beq_eq_false_iff_ne.mpr c3
    have c3b1 : (a0_0 != a1_0) = true := bne_iff_ne.mpr c3
    obtain rfl := Option.some.inj H
    go_enter Try.func23, Try.ntmps23
    go_wp2_with (first | ((with_reducible refine gate_dst (N := 2) rfl ?_); refine box_event ?hg (N := 2) ?hd (cs := #[.int .i64 a0_0, .slice A0_1 l0_1.length c0_1]) (t := 27) ?hr ?_; (case hd => rfl); (case hg => rfl); (case hr => first | (go_simp; done) | (go_simp; rfl)); intro gb160 hg w11 hbox hb; have n0_ := Aside0.mk (below_step (by repeat (first | (with_reducible first | exact HB.out | apply below_alloc | apply pw_below_drewN | apply below_drew1) | exact HB.out)) hb); have n1_ := Aside0.mk (hbox); have n2_ := Aside0.mk ((by rw [hg]; exact (below_size (by repeat (first | (with_reducible first | exact HB.out | apply below_alloc | apply pw_below_drewN | apply below_drew1) | exact HB.out))) : w.heap.size ≤ gb160)); have n3_ := Aside0.mk ((by rw [hg]; exact (below_size (by repeat (first | (with_reducible first | exact HB.out | apply below_alloc | apply pw_below_drewN | apply below_drew1) | exact HB.out))) : w.heap.size ≤ gb160)); clear HB; have HB := n0_; have BK160 := n1_; have GW160 := n2_; have GE160 := n3_; clear n0_ n1_ n2_ n3_; clear hb hbox hg) | ((with_reducible refine gate_dst (N := 3) rfl ?_); refine box_event ?hg (N := 3) ?hd (cs := #[.int .i64 a1_0, .slice A1_1 l1_1.length c1_1]) (t := 27) ?hr ?_; (case hd => rfl); (case hg => rfl); (case hr => first | (go_simp; done) | (go_simp; rfl)); intro gb161 hg w12 hbox hb; have n0_ := Aside0.mk (blk_below (g := gb160) (o := .cells #[.int .i64 a0_0, .slice A0_1 l0_1.length c0_1] 27 (0, 0)) (by (with_reducible repeat (first | refine blk_drewN ?_ _ | refine blk_drew ?_ | refine blk_alloc ?_ _)); exact BK160.out) hb); have n1_ := Aside0.mk (below_step (by repeat (first | (with_reducible first | exact HB.out | apply below_alloc | apply pw_below_drewN | apply below_drew1 | refine below_set ?_ GE160.out) | exact HB.out)) hb); have n2_ := Aside0.mk (hbox); have n3_ := Aside0.mk ((by rw [hg]; exact (below_size (by repeat (first | (with_reducible first | exact HB.out | apply below_alloc | apply pw_below_drewN | apply below_drew1 | refine below_set ?_ GE160.out) | exact HB.out))) : w.heap.size ≤ gb161)); have n4_ := Aside0.mk ((by rw [hg]; exact (below_size (by repeat (first | (with_reducible first | exact HB.out | apply below_alloc | apply pw_below_drewN | apply below_drew1 | refine below_set ?_ GE160.out) | exact HB.out))) : w.heap.size ≤ gb161)); have n5_ := Aside0.mk ((by rw [hg]; exact Nat.ne_of_lt (blk_lt (g := gb160) (o := .cells #[.int .i64 a0_0, .slice A0_1 l0_1.length c0_1] 27 (0, 0)) (by (with_reducible repeat (first | refine blk_drewN ?_ _ | refine blk_drew ?_ | refine blk_alloc ?_ _)); exact BK160.out)) : gb160 ≠ gb161)); have n6_ := Aside0.mk ((by rw [hg]; exact Nat.ne_of_gt (blk_lt (g := gb160) (o := .cells #[.int .i64 a0_0, .slice A0_1 l0_1.length c0_1] 27 (0, 0)) (by (with_reducible repeat (first | refine blk_drewN ?_ _ | refine blk_drew ?_ | refine blk_alloc ?_ _)); exact BK160.out)) : gb161 ≠ gb160)); clear BK160; clear HB; have BK160 := n0_; have HB := n1_; have BK161 := n2_; have GW161 := n3_; have GE161 := n4_; have NB160_161 := n5_; have NB161_160 := n6_; clear n0_ n1_ n2_ n3_ n4_ n5_ n6_; clear hb hbox hg; have hnb13 := NB160_161.out; have hnc13 := NB161_160.out; have hcz14_0 : w12.cell? ⟨gb160, 0, none⟩ = some (.int .i64 a0_0) := (blk_cell BK160.out 0).trans rfl; have hcz14_1 : w12.cell? ⟨gb160, 1, none⟩ = some (.slice A0_1 l0_1.length c0_1) := (blk_cell BK160.out 1).trans rfl; have hfz14_0 := blk_frozen BK160.out 0; have hfz14_1 := blk_frozen BK160.out 1; have hcz15_0 : w12.cell? ⟨gb161, 0, none⟩ = some (.int .i64 a1_0) := (blk_cell BK161.out 0).trans rfl; have hcz15_1 : w12.cell? ⟨gb161, 1, none⟩ = some (.slice A1_1 l1_1.length c1_1) := (blk_cell BK161.out 1).trans rfl; have hfz15_0 := blk_frozen BK161.out 0; have hfz15_1 := blk_frozen BK161.out 1))
    go_ret
    exact ⟨by first | rfl | (simp [errW_none, errW_some] <;> rfl) | (simp [*, errW_none, errW_some] <;> rfl), by repeat (first | (with_reducible first | exact HB.out | apply below_alloc | apply pw_below_drewN | apply below_drew1 | refine below_set ?_ GE160.out | refine below_set ?_ GE161.out) | exact HB.out)⟩
end Go.Proofs.Ytfdhnmijaobbdaa.S
end
section
namespace Go.Proofs.Ytfdhnmijaobbdaa.S
open Go.RowKit Go.Proofs.YtfdhnmijaobbdaaW.PrintWords Go.Proofs.YtfdhnmijaobbdaaW.PrintLast Go.Proofs.YtfdhnmijaobbdaaW.PrintMore
attribute [local go_sem] max2_int min2_int max_two min_two max_three min_three max_four min_four   -- for this text's walks alone
set_option linter.unusedVariables false
set_option linter.unusedSimpArgs false
theorem eqA64 (d : Nat) (w : World) (x0 y0 : Int) (x1 y1 : Int) (x2 y2 : Int) :
    (Op.equalIn (d + 3) 64 (.agg #[.int .i64 x0, .int .i64 x1, .int .i64 x2]) (.agg #[.int .i64 y0, .int .i64 y1, .int .i64 y2])).run Try.prog w = .ok (x0 == y0 && ((x1 == y1 && (x2 == y2)))) w := by
  refine eqA_of Try.underlying64 (by kernel_rfl) ?_
  refine eqf_cons (by rfl) (by go_simp; rfl) (by go_simp; rfl) (by go_simp) ?_
  exact eqf_last (by rfl) (by go_simp) (by go_simp) (eqA60 (d + 0) w _ _ _ _)
end Go.Proofs.Ytfdhnmijaobbdaa.S
end
section
namespace Go.Proofs.Ytfdhnmijaobbdaa.S
open Go.RowKit Go.Proofs.YtfdhnmijaobbdaaW.PrintWords Go.Proofs.YtfdhnmijaobbdaaW.PrintLast Go.Proofs.YtfdhnmijaobbdaaW.PrintMore
attribute [local go_sem] max2_int min2_int max_two min_two max_three min_three max_four min_four   -- for this text's walks alone
set_option linter.unusedVariables false
set_option linter.unusedSimpArgs false
attribute [local go_sem high] eqA64
def chalklineref04_Moves.l0 : Nat → List (S64) → List (S64) → Int → Option (Bool)
  | 0, _, _, _ => none
  | k + 1, x0, x1, x5 => if x5 < (x0.length : Int) then (if 0 ≤ x5 then (if x5 < (x1.length : Int) then (if (!(((rd_T64 x0 x5).f0) == ((rd_T64 x1 x5).f0)) || ((!(((rd_T64 x0 x5).f1.f0) == ((rd_T64 x1 x5).f1.f0)) || (!(((rd_T64 x0 x5).f1.f1) == ((rd_T64 x1 x5).f1.f1)))))) = true then (some false) else (chalklineref04_Moves.l0 k x0 x1 (wrap64 (x5 + 1)))) else (none)) else (none)) else (some true)
def chalklineref04_Moves.f (k : Nat) (l0 : List (S64)) (l1 : List (S64)) : Option (Bool) := if (l0.length : Int) = (l1.length : Int) then (chalklineref04_Moves.l0 k l0 l1 0) else (some false)
set_option maxHeartbeats 8000000 in
set_option maxRecDepth 100000 in
theorem chalklineref04_Moves.calls (k : Nat) (A0 : Option Addr) (c0 : Nat) (l0 : List (S64)) (A1 : Option Addr) (c1 : Nat) (l1 : List (S64)) (r : Bool) (w : World) (hr0 : Kd.C k64 w A0 l0.length l0) (hc0 : l0.length ≤ c0) (hr1 : Kd.C k64 w A1 l1.length l1) (hc1 : l1.length ≤ c1) (h : chalklineref04_Moves.f k l0 l1 = some r) :
    Calls Try.prog 26 #[.slice A0 l0.length c0, .slice A1 l1.length c1] w fun e w' => e = .returned (.bool r) ∧ Drawn0 w w' := by
  have hu64 := Try.underlying64
  have HR0 := Aside0.mk hr0
  have HC0 := Aside0.mk hc0
  clear hr0 hc0
  have HR1 := Aside0.mk hr1
  have HC1 := Aside0.mk hc1
  clear hr1 hc1
  have H : (if (l0.length : Int) = (l1.length : Int) then (chalklineref04_Moves.l0 k l0 l1 0) else (some false)) = some r := h
  clear h
  by_cases c3 : (l0.length : Int) = (l1.length : Int)
  · rw [if_pos c3] at H
    have c3b0 : ((l0.length : Int) == (l1.length : Int)) = true := beq_iff_eq.mpr c3
    have c3b1 : ((l0.length : Int) != (l1.length : Int)) = false := bne_eq_false_iff_eq.mpr c3
    have c3b2 : (l0.length == l1.length) = true := by first | simpa using c3 | (simp at c3 ⊢; omega)
    clear c3
    have H' := Aside0.mk H
    clear H
    go_enter Try.func26, Try.ntmps26
    go_wp2
    repeat (go_quiet (fail); try go_wp2)
    go_loopg [5] k (fun kq v5 w' => ∃ (x5_1 : Int), v5 = .int .i64 x5_1 ∧ Aside0 (chalklineref04_Moves.l0 kq l0 l1 x5_1 = some r) ∧ Aside0 (kq ≤ k) ∧ Drawn0 w w')
    case atStart => exact ⟨(0), (by first | rfl | (simp; done) | (simp [*]; done)), H', ⟨Nat.le_refl _⟩, by repeat (first | exact Drawn0.refl _ | apply Drawn0.step)⟩
    case round =>
      clear H'
      try clear c1
      try clear c2
      try clear p2
      try clear c3
      try clear c3b0
      try clear c3b1
      try clear c3b2
      obtain ⟨x5_1, rfl, HA, HK1, ⟨m1, rfl⟩⟩ := hrel
      cases gk with
      | zero => exact absurd HA.out (by simp [chalklineref04_Moves.l0])
      | succ k1 =>
        have H := HA.out
        clear HA
        simp only [chalklineref04_Moves.l0] at H
        by_cases c4 : x5_1 < (l0.length : Int)
        · rw [if_pos c4] at H
          have c4b0 : decide (x5_1 < (l0.length : Int)) = true := decide_eq_true c4
          clear c4
          by_cases c5 : 0 ≤ x5_1
          · rw [if_pos c5] at H
            have c5b0 : decide (0 ≤ x5_1) = true := decide_eq_true c5
            clear c5
            by_cases c6 : x5_1 < (l1.length : Int)
            · rw [if_pos c6] at H
              have c6b0 : decide (x5_1 < (l1.length : Int)) = true := decide_eq_true c6
              clear c6
              by_cases c7 : (!(((rd_T64 l0 x5_1).f0) == ((rd_T64 l1 x5_1).f0)) || ((!(((rd_T64 l0 x5_1).f1.f0) == ((rd_T64 l1 x5_1).f1.f0)) || (!(((rd_T64 l0 x5_1).f1.f1) == ((rd_T64 l1 x5_1).f1.f1)))))) = true
              · rw [if_pos c7] at H
                have c7b0 : (!(((rd_T64 l0 x5_1).f0) == ((rd_T64 l1 x5_1).f0)) || ((!(((rd_T64 l0 x5_1).f1.f0) == ((rd_T64 l1 x5_1).f1.f0)) || (!(((rd_T64 l0 x5_1).f1.f1) == ((rd_T64 l1 x5_1).f1.f1)))))) = true := c7
                clear c7
                obtain rfl := Option.some.inj H
                have p139 : 0 ≤ (x5_1 : Int) := of_decide_eq_true (by first | (with_reducible assumption) | assumption)
                have q139 : x5_1 < (l0.length : Int) := of_decide_eq_true (by first | (with_reducible assumption) | assumption)
                obtain ⟨ad139, e139, hx139_0, hx139_1, hx139_2⟩ := at_T64 HR0.out x5_1 p139 q139
                cases e139
                replace p139 := eq_true p139
                replace q139 := eq_true q139
                have p140 : 0 ≤ (x5_1 : Int) := of_decide_eq_true (by first | (with_reducible assumption) | assumption)
                have q140 : x5_1 < (l1.length : Int) := of_decide_eq_true (by first | (with_reducible assumption) | assumption)
                obtain ⟨ad140, e140, hx140_0, hx140_1, hx140_2⟩ := at_T64 HR1.out x5_1 p140 q140
                cases e140
                replace p140 := eq_true p140
                replace q140 := eq_true q140
                go_wp2
                repeat (go_quiet (fail); try go_wp2)
                go_ret
                exact ⟨by first | rfl | (simp; done) | (simp [*]; done), by repeat (first | exact Drawn0.refl _ | apply Drawn0.step)⟩
              · rw [if_neg c7] at H
                have c7b0 : (!(((rd_T64 l0 x5_1).f0) == ((rd_T64 l1 x5_1).f0)) || ((!(((rd_T64 l0 x5_1).f1.f0) == ((rd_T64 l1 x5_1).f1.f0)) || (!(((rd_T64 l0 x5_1).f1.f1) == ((rd_T64 l1 x5_1).f1.f1)))))) = false := by simpa using c7
                clear c7
                have H' := Aside0.mk H
                clear H
                have p139 : 0 ≤ (x5_1 : Int) := of_decide_eq_true (by first | (with_reducible assumption) | assumption)
                have q139 : x5_1 < (l0.length : Int) := of_decide_eq_true (by first | (with_reducible assumption) | assumption)
                obtain ⟨ad139, e139, hx139_0, hx139_1, hx139_2⟩ := at_T64 HR0.out x5_1 p139 q139
                cases e139
                replace p139 := eq_true p139
                replace q139 := eq_true q139
                have p140 : 0 ≤ (x5_1 : Int) := of_decide_eq_true (by first | (with_reducible assumption) | assumption)
                have q140 : x5_1 < (l1.length : Int) := of_decide_eq_true (by first | (with_reducible assumption) | assumption)
                obtain ⟨ad140, e140, hx140_0, hx140_1, hx140_2⟩ := at_T64 HR1.out x5_1 p140 q140
                cases e140
                replace p140 := eq_true p140
                replace q140 := eq_true q140
                go_wp2
                repeat (go_quiet (fail); try go_wp2)
                go_roundg k1
                case measure => have := HK1.out; omega
                case rel => exact ⟨(wrap64 (x5_1 + 1)), (by first | rfl | (simp; done) | (simp [*]; done)), H', ⟨by have := HK1.out; omega⟩, by repeat (first | exact Drawn0.refl _ | apply Drawn0.step)⟩
            · rw [if_neg c6] at H
              exact absurd H (by simp)
          · rw [if_neg c5] at H
            exact absurd H (by simp)
        · rw [if_neg c4] at H
          have c4b0 : decide (x5_1 < (l0.length : Int)) = false := decide_eq_false c4
          clear c4
          obtain rfl := Option.some.inj H
          go_wp2
          repeat (go_quiet (fail); try go_wp2)
          go_ret
          exact ⟨by first | rfl | (simp; done) | (simp [*]; done), by repeat (first | exact Drawn0.refl _ | apply Drawn0.step)⟩
  · rw [if_neg c3] at H
    have c3b0 : ((l0.length : Int) == (l1.length : Int)) = false := beq_eq_false_iff_ne.mpr c3
    have c3b1 : ((l0.length : Int) != (l1.length : Int)) = true := bne_iff_ne.mpr c3
    have c3b2 : (l0.length == l1.length) = false := by first | simpa using c3 | (simp at c3 ⊢; omega)
    obtain rfl := Option.some.inj H
    go_enter Try.func26, Try.ntmps26
    go_wp2
    repeat (go_quiet (fail); try go_wp2)
    go_ret
    exact ⟨by first | rfl | (simp; done) | (simp [*]; done), by repeat (first | exact Drawn0.refl _ | apply Drawn0.step)⟩
end Go.Proofs.Ytfdhnmijaobbdaa.S
end
section
namespace Go.Proofs.Ytfdhnmijaobbdaa.S
open Go.RowKit Go.Proofs.YtfdhnmijaobbdaaW.PrintWords Go.Proofs.YtfdhnmijaobbdaaW.PrintLast Go.Proofs.YtfdhnmijaobbdaaW.PrintMore
attribute [local go_sem] max2_int min2_int max_two min_two max_three min_three max_four min_four   -- for this text's walks alone
set_option linter.unusedVariables false
set_option linter.unusedSimpArgs false
def chalklineref35_Msgs.f (k : Nat) (a0_0 : Int) (a0_1 : Int) (a0_2 : Int) (a0_3 : Int) (l0_4 : List (S60)) (l0_5 : List (S64)) (a1_0 : Int) (a1_1 : Int) (a1_2 : Int) (a1_3 : Int) (l1_4 : List (S60)) (l1_5 : List (S64)) : Option (Bool) := if a0_0 = a1_0 then (if a0_1 = a1_1 then (if a0_2 = a1_2 then (if a0_3 = a1_3 then ((chalklineref04_Same.f k l0_4 l1_4).bind fun t147 => (if t147 = true then ((chalklineref04_Moves.f k l0_5 l1_5).bind fun t148 => (some t148)) else (some false))) else (some false)) else (some false)) else (some false)) else (some false)
set_option maxHeartbeats 8000000 in
set_option maxRecDepth 100000 in
theorem chalklineref35_Msgs.calls (k : Nat) (a0_0 : Int) (a0_1 : Int) (a0_2 : Int) (a0_3 : Int) (A0_4 : Option Addr) (c0_4 : Nat) (l0_4 : List (S60)) (A0_5 : Option Addr) (c0_5 : Nat) (l0_5 : List (S64)) (a1_0 : Int) (a1_1 : Int) (a1_2 : Int) (a1_3 : Int) (A1_4 : Option Addr) (c1_4 : Nat) (l1_4 : List (S60)) (A1_5 : Option Addr) (c1_5 : Nat) (l1_5 : List (S64)) (r : Bool) (w : World) (hr0_4 : Kd.C k60 w A0_4 l0_4.length l0_4) (hc0_4 : l0_4.length ≤ c0_4) (hr0_5 : Kd.C k64 w A0_5 l0_5.length l0_5) (hc0_5 : l0_5.length ≤ c0_5) (hr1_4 : Kd.C k60 w A1_4 l1_4.length l1_4) (hc1_4 : l1_4.length ≤ c1_4) (hr1_5 : Kd.C k64 w A1_5 l1_5.length l1_5) (hc1_5 : l1_5.length ≤ c1_5) (h : chalklineref35_Msgs.f k a0_0 a0_1 a0_2 a0_3 l0_4 l0_5 a1_0 a1_1 a1_2 a1_3 l1_4 l1_5 = some r) :
    Calls Try.prog 15 #[.agg #[.int .i64 a0_0, .int .i64 a0_1, .int .i64 a0_2, .int .i64 a0_3, .slice A0_4 l0_4.length c0_4, .slice A0_5 l0_5.length c0_5], .agg #[.int .i64 a1_0, .int .i64 a1_1, .int .i64 a1_2, .int .i64 a1_3, .slice A1_4 l1_4.length c1_4, .slice A1_5 l1_5.length c1_5]] w fun e w' => e = .returned (.bool r) ∧ Below w.heap.size w w' := by
  have hu32 := Try.underlying32
  have hu25 := Try.underlying25
  have HR0_4 := Aside0.mk hr0_4
  have HC0_4 := Aside0.mk hc0_4
  clear hr0_4 hc0_4
  have HR0_5 := Aside0.mk hr0_5
  have HC0_5 := Aside0.mk hc0_5
  clear hr0_5 hc0_5
  have HR1_4 := Aside0.mk hr1_4
  have HC1_4 := Aside0.mk hc1_4
  clear hr1_4 hc1_4
  have HR1_5 := Aside0.mk hr1_5
  have HC1_5 := Aside0.mk hc1_5
  clear hr1_5 hc1_5
  have HB := Aside0.mk (Below.refl w.heap.size w)
  have H : (if a0_0 = a1_0 then (if a0_1 = a1_1 then (if a0_2 = a1_2 then (if a0_3 = a1_3 then ((chalklineref04_Same.f k l0_4 l1_4).bind fun t147 => (if t147 = true then ((chalklineref04_Moves.f k l0_5 l1_5).bind fun t148 => (some t148)) else (some false))) else (some false)) else (some false)) else (some false)) else (some false)) = some r := h
  clear h
  by_cases c3 : a0_0 = a1_0
  · rw [if_pos c3] at H
    have c3b0 : (a0_0 == a1_0) = true := beq_iff_eq.mpr c3
    have c3b1 : (a0_0 != a1_0) = false := bne_eq_false_iff_eq.mpr c3
    clear c3
    by_cases c4 : a0_1 = a1_1
    · rw [if_pos c4] at H
      have c4b0 : (a0_1 == a1_1) = true := beq_iff_eq.mpr c4
      have c4b1 : (a0_1 != a1_1) = false := bne_eq_false_iff_eq.mpr c4
      clear c4
      by_cases c5 : a0_2 = a1_2
      · rw [if_pos c5] at H
        have c5b0 : (a0_2 == a1_2) = true := beq_iff_eq.mpr c5
        have c5b1 : (a0_2 != a1_2) = false := bne_eq_false_iff_eq.mpr c5
        clear c5
        by_cases c6 : a0_3 = a1_3
        · rw [if_pos c6] at H
          have c6b0 : (a0_3 == a1_3) = true := beq_iff_eq.mpr c6
          have c6b1 : (a0_3 != a1_3) = false := bne_eq_false_iff_eq.mpr c6
          clear c6
          replace H := Option.bind_eq_some_iff.mp H
          obtain ⟨t147, A70, H⟩ := H
          replace H : (if t147 = true then ((chalklineref04_Moves.f k l0_5 l1_5).bind fun t148 => (some t148)) else (some false)) = some r := H
          have A7 := Aside0.mk A70
          clear A70
          by_cases c8 : t147 = true
          · subst c8
            have H1 : ((chalklineref04_Moves.f k l0_5 l1_5).bind fun t148 => (some t148)) = some r := by rw [if_pos rfl] at H; exact H
            clear H
            have H := H1
            clear H1
            replace H := Option.bind_eq_some_iff.mp H
            obtain ⟨t148, A90, H⟩ := H
            replace H : (some t148) = some r := H
            have A9 := Aside0.mk A90
            clear A90
            obtain rfl := Option.some.inj H
            go_enter Try.func15, Try.ntmps15
            go_wp2_with (first | ((with_reducible refine gate_dst (N := 2) rfl ?_); refine box_event ?hg (N := 2) ?hd (cs := #[.int .i64 a0_0, .int .i64 a0_1, .int .i64 a0_2, .int .i64 a0_3, .slice A0_4 l0_4.length c0_4, .slice A0_5 l0_5.length c0_5]) (t := 32) ?hr ?_; (case hd => rfl); (case hg => rfl); (case hr => first | (go_simp; done) | (go_simp; rfl)); intro gb145 hg w10 hbox hb; have n0_ := Aside0.mk (below_step (by repeat (first | (with_reducible first | exact HB.out | apply below_alloc | apply pw_below_drewN | apply below_drew1) | exact HB.out)) hb); have n1_ := Aside0.mk (hbox); have n2_ := Aside0.mk ((by rw [hg]; exact (below_size (by repeat (first | (with_reducible first | exact HB.out | apply below_alloc | apply pw_below_drewN | apply below_drew1) | exact HB.out))) : w.heap.size ≤ gb145)); have n3_ := Aside0.mk ((by rw [hg]; exact (below_size (by repeat (first | (with_reducible first | exact HB.out | apply below_alloc | apply pw_below_drewN | apply below_drew1) | exact HB.out))) : w.heap.size ≤ gb145)); clear HB; have HB := n0_; have BK145 := n1_; have GW145 := n2_; have GE145 := n3_; clear n0_ n1_ n2_ n3_; clear hb hbox hg) | ((with_reducible refine gate_dst (N := 3) rfl ?_); refine box_event ?hg (N := 3) ?hd (cs := #[.int .i64 a1_0, .int .i64 a1_1, .int .i64 a1_2, .int .i64 a1_3, .slice A1_4 l1_4.length c1_4, .slice A1_5 l1_5.length c1_5]) (t := 32) ?hr ?_; (case hd => rfl); (case hg => rfl); (case hr => first | (go_simp; done) | (go_simp; rfl)); intro gb146 hg w11 hbox hb; have n0_ := Aside0.mk (blk_below (g := gb145) (o := .cells #[.int .i64 a0_0, .int .i64 a0_1, .int .i64 a0_2, .int .i64 a0_3, .slice A0_4 l0_4.length c0_4, .slice A0_5 l0_5.length c0_5] 32 (0, 0)) (by (with_reducible repeat (first | refine blk_drewN ?_ _ | refine blk_drew ?_ | refine blk_alloc ?_ _)); exact BK145.out) hb); have n1_ := Aside0.mk (below_step (by repeat (first | (with_reducible first | exact HB.out | apply below_alloc | apply pw_below_drewN | apply below_drew1 | refine below_set ?_ GE145.out) | exact HB.out)) hb); have n2_ := Aside0.mk (hbox); have n3_ := Aside0.mk ((by rw [hg]; exact (below_size (by repeat (first | (with_reducible first | exact HB.out | apply below_alloc | apply pw_below_drewN | apply below_drew1 | refine below_set ?_ GE145.out) | exact HB.out))) : w.heap.size ≤ gb146)); have n4_ := Aside0.mk ((by rw [hg]; exact (below_size (by repeat (first | (with_reducible first | exact HB.out | apply below_alloc | apply pw_below_drewN | apply below_drew1 | refine below_set ?_ GE145.out) | exact HB.out))) : w.heap.size ≤ gb146)); have n5_ := Aside0.mk ((by rw [hg]; exact Nat.ne_of_lt (blk_lt (g := gb145) (o := .cells #[.int .i64 a0_0, .int .i64 a0_1, .int .i64 a0_2, .int .i64 a0_3, .slice A0_4 l0_4.length c0_4, .slice A0_5 l0_5.length c0_5] 32 (0, 0)) (by (with_reducible repeat (first | refine blk_drewN ?_ _ | refine blk_drew ?_ | refine blk_alloc ?_ _)); exact BK145.out)) : gb145 ≠ gb146)); have n6_ := Aside0.mk ((by rw [hg]; exact Nat.ne_of_gt (blk_lt (g := gb145) (o := .cells #[.int .i64 a0_0, .int .i64 a0_1, .int .i64 a0_2, .int .i64 a0_3, .slice A0_4 l0_4.length c0_4, .slice A0_5 l0_5.length c0_5] 32 (0, 0)) (by (with_reducible repeat (first | refine blk_drewN ?_ _ | refine blk_drew ?_ | refine blk_alloc ?_ _)); exact BK145.out)) : gb146 ≠ gb145)); clear BK145; clear HB; have BK145 := n0_; have HB := n1_; have BK146 := n2_; have GW146 := n3_; have GE146 := n4_; have NB145_146 := n5_; have NB146_145 := n6_; clear n0_ n1_ n2_ n3_ n4_ n5_ n6_; clear hb hbox hg; have hnb12 := NB145_146.out; have hnc12 := NB146_145.out; have hcz13_0 : w11.cell? ⟨gb145, 0, none⟩ = some (.int .i64 a0_0) := (blk_cell BK145.out 0).trans rfl; have hcz13_1 : w11.cell? ⟨gb145, 1, none⟩ = some (.int .i64 a0_1) := (blk_cell BK145.out 1).trans rfl; have hcz13_2 : w11.cell? ⟨gb145, 2, none⟩ = some (.int .i64 a0_2) := (blk_cell BK145.out 2).trans rfl; have hcz13_3 : w11.cell? ⟨gb145, 3, none⟩ = some (.int .i64 a0_3) := (blk_cell BK145.out 3).trans rfl; have hcz13_4 : w11.cell? ⟨gb145, 4, none⟩ = some (.slice A0_4 l0_4.length c0_4) := (blk_cell BK145.out 4).trans rfl; have hcz13_5 : w11.cell? ⟨gb145, 5, none⟩ = some (.slice A0_5 l0_5.length c0_5) := (blk_cell BK145.out 5).trans rfl; have hfz13_0 := blk_frozen BK145.out 0; have hfz13_1 := blk_frozen BK145.out 1; have hfz13_2 := blk_frozen BK145.out 2; have hfz13_3 := blk_frozen BK145.out 3; have hfz13_4 := blk_frozen BK145.out 4; have hfz13_5 := blk_frozen BK145.out 5; have hcz14_0 : w11.cell? ⟨gb146, 0, none⟩ = some (.int .i64 a1_0) := (blk_cell BK146.out 0).trans rfl; have hcz14_1 : w11.cell? ⟨gb146, 1, none⟩ = some (.int .i64 a1_1) := (blk_cell BK146.out 1).trans rfl; have hcz14_2 : w11.cell? ⟨gb146, 2, none⟩ = some (.int .i64 a1_2) := (blk_cell BK146.out 2).trans rfl; have hcz14_3 : w11.cell? ⟨gb146, 3, none⟩ = some (.int .i64 a1_3) := (blk_cell BK146.out 3).trans rfl; have hcz14_4 : w11.cell? ⟨gb146, 4, none⟩ = some (.slice A1_4 l1_4.length c1_4) := (blk_cell BK146.out 4).trans rfl; have hcz14_5 : w11.cell? ⟨gb146, 5, none⟩ = some (.slice A1_5 l1_5.length c1_5) := (blk_cell BK146.out 5).trans rfl; have hfz14_0 := blk_frozen BK146.out 0; have hfz14_1 := blk_frozen BK146.out 1; have hfz14_2 := blk_frozen BK146.out 2; have hfz14_3 := blk_frozen BK146.out 3; have hfz14_4 := blk_frozen BK146.out 4; have hfz14_5 := blk_frozen BK146.out 5) | (go_at_call 27; (with_reducible refine (chalklineref04_Same.calls k _ _ l0_4 _ _ l1_4 true _ ?side1 ?side2 ?side3 ?side4 A7.out).mono ?_); (case side1 => repeat (first | exact (Kd.C_below HR0_4.out HB.out) | (with_reducible refine Kd.C_alloc ?_ _) | (with_reducible refine Kd.C_drewN ?_ _) | (with_reducible refine Kd.C_drew ?_))); (case side2 => exact HC0_4.out); (case side3 => repeat (first | exact (Kd.C_below HR1_4.out HB.out) | (with_reducible refine Kd.C_alloc ?_ _) | (with_reducible refine Kd.C_drewN ?_ _) | (with_reducible refine Kd.C_drew ?_))); (case side4 => exact HC1_4.out); rintro e w15 ⟨rfl, hb⟩; have n0_ := Aside0.mk (blk_below (g := gb145) (o := .cells #[.int .i64 a0_0, .int .i64 a0_1, .int .i64 a0_2, .int .i64 a0_3, .slice A0_4 l0_4.length c0_4, .slice A0_5 l0_5.length c0_5] 32 (0, 0)) (by (with_reducible repeat (first | refine blk_drewN ?_ _ | refine blk_drew ?_ | refine blk_alloc ?_ _)); exact BK145.out) hb); have n1_ := Aside0.mk (blk_below (g := gb146) (o := .cells #[.int .i64 a1_0, .int .i64 a1_1, .int .i64 a1_2, .int .i64 a1_3, .slice A1_4 l1_4.length c1_4, .slice A1_5 l1_5.length c1_5] 32 (0, 0)) (by (with_reducible repeat (first | refine blk_drewN ?_ _ | refine blk_drew ?_ | refine blk_alloc ?_ _)); exact BK146.out) hb); have n2_ := Aside0.mk (below_step (by repeat (first | (with_reducible first | exact HB.out | apply below_alloc | apply pw_below_drewN | apply below_drew1 | refine below_set ?_ GE145.out | refine below_set ?_ GE146.out) | exact HB.out)) hb); clear BK145; clear BK146; clear HB; have BK145 := n0_; have BK146 := n1_; have HB := n2_; clear n0_ n1_ n2_; (try clear hb); (try clear hb2); (try clear hk); (try clear hi); have hcz16_0 : w15.cell? ⟨gb145, 0, none⟩ = some (.int .i64 a0_0) := (blk_cell BK145.out 0).trans rfl; have hcz16_1 : w15.cell? ⟨gb145, 1, none⟩ = some (.int .i64 a0_1) := (blk_cell BK145.out 1).trans rfl; have hcz16_2 : w15.cell? ⟨gb145, 2, none⟩ = some (.int .i64 a0_2) := (blk_cell BK145.out 2).trans rfl; have hcz16_3 : w15.cell? ⟨gb145, 3, none⟩ = some (.int .i64 a0_3) := (blk_cell BK145.out 3).trans rfl; have hcz16_4 : w15.cell? ⟨gb145, 4, none⟩ = some (.slice A0_4 l0_4.length c0_4) := (blk_cell BK145.out 4).trans rfl; have hcz16_5 : w15.cell? ⟨gb145, 5, none⟩ = some (.slice A0_5 l0_5.length c0_5) := (blk_cell BK145.out 5).trans rfl; have hfz16_0 := blk_frozen BK145.out 0; have hfz16_1 := blk_frozen BK145.out 1; have hfz16_2 := blk_frozen BK145.out 2; have hfz16_3 := blk_frozen BK145.out 3; have hfz16_4 := blk_frozen BK145.out 4; have hfz16_5 := blk_frozen BK145.out 5; have hcz17_0 : w15.cell? ⟨gb146, 0, none⟩ = some (.int .i64 a1_0) := (blk_cell BK146.out 0).trans rfl; have hcz17_1 : w15.cell? ⟨gb146, 1, none⟩ = some (.int .i64 a1_1) := (blk_cell BK146.out 1).trans rfl; have hcz17_2 : w15.cell? ⟨gb146, 2, none⟩ = some (.int .i64 a1_2) := (blk_cell BK146.out 2).trans rfl; have hcz17_3 : w15.cell? ⟨gb146, 3, none⟩ = some (.int .i64 a1_3) := (blk_cell BK146.out 3).trans rfl; have hcz17_4 : w15.cell? ⟨gb146, 4, none⟩ = some (.slice A1_4 l1_4.length c1_4) := (blk_cell BK146.out 4).trans rfl; have hcz17_5 : w15.cell? ⟨gb146, 5, none⟩ = some (.slice A1_5 l1_5.length c1_5) := (blk_cell BK146.out 5).trans rfl; have hfz17_0 := blk_frozen BK146.out 0; have hfz17_1 := blk_frozen BK146.out 1; have hfz17_2 := blk_frozen BK146.out 2; have hfz17_3 := blk_frozen BK146.out 3; have hfz17_4 := blk_frozen BK146.out 4; have hfz17_5 := blk_frozen BK146.out 5) | (go_at_call 26; (with_reducible refine (chalklineref04_Moves.calls k _ _ l0_5 _ _ l1_5 t148 _ ?side1 ?side2 ?side3 ?side4 A9.out).mono ?_); (case side1 => repeat (first | exact (Kd.C_below HR0_5.out HB.out) | (with_reducible refine Kd.C_alloc ?_ _) | (with_reducible refine Kd.C_drewN ?_ _) | (with_reducible refine Kd.C_drew ?_))); (case side2 => exact HC0_5.out); (case side3 => repeat (first | exact (Kd.C_below HR1_5.out HB.out) | (with_reducible refine Kd.C_alloc ?_ _) | (with_reducible refine Kd.C_drewN ?_ _) | (with_reducible refine Kd.C_drew ?_))); (case side4 => exact HC1_5.out); rintro e w' ⟨rfl, ⟨nd, rfl⟩⟩))
            go_ret
            exact ⟨by first | rfl | (simp [errW_none, errW_some] <;> rfl) | (simp [*, errW_none, errW_some] <;> rfl), by repeat (first | (with_reducible first | exact HB.out | apply below_alloc | apply pw_below_drewN | apply below_drew1 | refine below_set ?_ GE145.out | refine below_set ?_ GE146.out) | exact HB.out)⟩
          · replace c8 := Bool.eq_false_iff.mpr c8
            subst c8
            have H1 : (some false) = some r := by rw [if_neg (show ¬ (false = true) by decide)] at H; exact H
            clear H
            have H := H1
            clear H1
            obtain rfl := Option.some.inj H
            go_enter Try.func15, Try.ntmps15
            go_wp2_with (first | ((with_reducible refine gate_dst (N := 2) rfl ?_); refine box_event ?hg (N := 2) ?hd (cs := #[.int .i64 a0_0, .int .i64 a0_1, .int .i64 a0_2, .int .i64 a0_3, .slice A0_4 l0_4.length c0_4, .slice A0_5 l0_5.length c0_5]) (t := 32) ?hr ?_; (case hd => rfl); (case hg => rfl); (case hr => first | (go_simp; done) | (go_simp; rfl)); intro gb145 hg w18 hbox hb; have n0_ := Aside0.mk (below_step (by repeat (first | (with_reducible first | exact HB.out | apply below_alloc | apply pw_below_drewN | apply below_drew1) | exact HB.out)) hb); have n1_ := Aside0.mk (hbox); have n2_ := Aside0.mk ((by rw [hg]; exact (below_size (by repeat (first | (with_reducible first | exact HB.out | apply below_alloc | apply pw_below_drewN | apply below_drew1) | exact HB.out))) : w.heap.size ≤ gb145)); have n3_ := Aside0.mk ((by rw [hg]; exact (below_size (by repeat (first | (with_reducible first | exact HB.out | apply below_alloc | apply pw_below_drewN | apply below_drew1) | exact HB.out))) : w.heap.size ≤ gb145)); clear HB; have HB := n0_; have BK145 := n1_; have GW145 := n2_; have GE145 := n3_; clear n0_ n1_ n2_ n3_; clear hb hbox hg) | ((with_reducible refine gate_dst (N := 3) rfl ?_); refine box_event ?hg (N := 3) ?hd (cs := #[.int .i64 a1_0, .int .i64 a1_1, .int .i64 a1_2, .int .i64 a1_3, .slice A1_4 l1_4.length c1_4, .slice A1_5 l1_5.length c1_5]) (t := 32) ?hr ?_; (case hd => rfl); (case hg => rfl); (case hr => first | (go_simp; done) | (go_simp; rfl)); intro gb146 hg w19 hbox hb; have n0_ := Aside0.mk (blk_below (g := gb145) (o := .cells #[.int .i64 a0_0, .int .i64 a0_1, .int .i64 a0_2, .int .i64 a0_3, .slice A0_4 l0_4.length c0_4, .slice A0_5 l0_5.length c0_5] 32 (0, 0)) (by (with_reducible repeat (first | refine blk_drewN ?_ _ | refine blk_drew ?_ | refine blk_alloc ?_ _)); exact BK145.out) hb); have n1_ := Aside0.mk (below_step (by repeat (first | (with_reducible first | exact HB.out | apply below_alloc | apply pw_below_drewN | apply below_drew1 | refine below_set ?_ GE145.out) | exact HB.out)) hb); have n2_ := Aside0.mk (hbox); have n3_ := Aside0.mk ((by rw [hg]; exact (below_size (by repeat (first | (with_reducible first | exact HB.out | apply below_alloc | apply pw_below_drewN | apply below_drew1 | refine below_set ?_ GE145.out) | exact HB.out))) : w.heap.size ≤ gb146)); have n4_ := Aside0.mk ((by rw [hg]; exact (below_size (by repeat (first | (with_reducible first | exact HB.out | apply below_alloc | apply pw_below_drewN | apply below_drew1 | refine below_set ?_ GE145.out) | exact HB.out))) : w.heap.size ≤ gb146)); have n5_ := Aside0.mk ((by rw [hg]; exact Nat.ne_of_lt (blk_lt (g := gb145) (o := .cells #[.int .i64 a0_0, .int .i64 a0_1, .int .i64 a0_2, .int .i64 a0_3, .slice A0_4 l0_4.length c0_4, .slice A0_5 l0_5.length c0_5] 32 (0, 0)) (by (with_reducible repeat (first | refine blk_drewN ?_ _ | refine blk_drew ?_ | refine blk_alloc ?_ _)); exact BK145.out)) : gb145 ≠ gb146)); have n6_ := Aside0.mk ((by rw [hg]; exact Nat.ne_of_gt (blk_lt (g := gb145) (o := .cells #[.int .i64 a0_0, .int .i64 a0_1, .int .i64 a0_2, .int .i64 a0_3, .slice A0_4 l0_4.length c0_4, .slice A0_5 l0_5.length c0_5] 32 (0, 0)) (by (with_reducible repeat (first | refine blk_drewN ?_ _ | refine blk_drew ?_ | refine blk_alloc ?_ _)); exact BK145.out)) : gb146 ≠ gb145)); clear BK145; clear HB; have BK145 := n0_; have HB := n1_; have BK146 := n2_; have GW146 := n3_; have GE146 := n4_; have NB145_146 := n5_; have NB146_145 := n6_; clear n0_ n1_ n2_ n3_ n4_ n5_ n6_; clear hb hbox hg; have hnb20 := NB145_146.out; have hnc20 := NB146_145.out; have hcz21_0 : w19.cell? ⟨gb145, 0, none⟩ = some (.int .i64 a0_0) := (blk_cell BK145.out 0).trans rfl; have hcz21_1 : w19.cell? ⟨gb145, 1, none⟩ = some (.int .i64 a0_1) := (blk_cell BK145.out 1).trans rfl; have hcz21_2 : w19.cell? ⟨gb145, 2, none⟩ = some (.int .i64 a0_2) := (blk_cell BK145.out 2).trans rfl; have hcz21_3 : w19.cell? ⟨gb145, 3, none⟩ = some (.int .i64 a0_3) := (blk_cell BK145.out 3).trans rfl; have hcz21_4 : w19.cell? ⟨gb145, 4, none⟩ = some (.slice A0_4 l0_4.length c0_4) := (blk_cell BK145.out 4).trans rfl; have hcz21_5 : w19.cell? ⟨gb145, 5, none⟩ = some (.slice A0_5 l0_5.length c0_5) := (blk_cell BK145.out 5).trans rfl; have hfz21_0 := blk_frozen BK145.out 0; have hfz21_1 := blk_frozen BK145.out 1; have hfz21_2 := blk_frozen BK145.out 2; have hfz21_3 := blk_frozen BK145.out 3; have hfz21_4 := blk_frozen BK145.out 4; have hfz21_5 := blk_frozen BK145.out 5; have hcz22_0 : w19.cell? ⟨gb146, 0, none⟩ = some (.int .i64 a1_0) := (blk_cell BK146.out 0).trans rfl; have hcz22_1 : w19.cell? ⟨gb146, 1, none⟩ = some (.int .i64 a1_1) := (blk_cell BK146.out 1).trans rfl; have hcz22_2 : w19.cell? ⟨gb146, 2, none⟩ = some (.int .i64 a1_2) := (blk_cell BK146.out 2).trans rfl; have hcz22_3 : w19.cell? ⟨gb146, 3, none⟩ = some (.int .i64 a1_3) := (blk_cell BK146.out 3).trans rfl; have hcz22_4 : w19.cell? ⟨gb146, 4, none⟩ = some (.slice A1_4 l1_4.length c1_4) := (blk_cell BK146.out 4).trans rfl; have hcz22_5 : w19.cell? ⟨gb146, 5, none⟩ = some (.slice A1_5 l1_5.length c1_5) := (blk_cell BK146.out 5).trans rfl; have hfz22_0 := blk_frozen BK146.out 0; have hfz22_1 := blk_frozen BK146.out 1; have hfz22_2 := blk_frozen BK146.out 2; have hfz22_3 := blk_frozen BK146.out 3; have hfz22_4 := blk_frozen BK146.out 4; have hfz22_5 := blk_frozen BK146.out 5) | (go_at_call 27; (with_reducible refine (chalklineref04_Same.calls k _ _ l0_4 _ _ l1_4 false _ ?side1 ?side2 ?side3 ?side4 A7.out).mono ?_); (case side1 => repeat (first | exact (Kd.C_below HR0_4.out HB.out) | (with_reducible refine Kd.C_alloc ?_ _) | (with_reducible refine Kd.C_drewN ?_ _) | (with_reducible refine Kd.C_drew ?_))); (case side2 => exact HC0_4.out); (case side3 => repeat (first | exact (Kd.C_below HR1_4.out HB.out) | (with_reducible refine Kd.C_alloc ?_ _) | (with_reducible refine Kd.C_drewN ?_ _) | (with_reducible refine Kd.C_drew ?_))); (case side4 => exact HC1_4.out); rintro e w23 ⟨rfl, hb⟩; have n0_ := Aside0.mk (blk_below (g := gb145) (o := .cells #[.int .i64 a0_0, .int .i64 a0_1, .int .i64 a0_2, .int .i64 a0_3, .slice A0_4 l0_4.length c0_4, .slice A0_5 l0_5.length c0_5] 32 (0, 0)) (by (with_reducible repeat (first | refine blk_drewN ?_ _ | refine blk_drew ?_ | refine blk_alloc ?_ _)); exact BK145.out) hb); have n1_ := Aside0.mk (blk_below (g := gb146) (o := .cells #[.int .i64 a1_0, .int .i64 a1_1, .int .i64 a1_2, .int .i64 a1_3, .slice A1_4 l1_4.length c1_4, .slice A1_5 l1_5.length c1_5] 32 (0, 0)) (by (with_reducible repeat (first | refine blk_drewN ?_ _ | refine blk_drew ?_ | refine blk_alloc ?_ _)); exact BK146.out) hb); have n2_ := Aside0.mk (below_step (by repeat (first | (with_reducible first | exact HB.out | apply below_alloc | apply pw_below_drewN | apply below_drew1 | refine below_set ?_ GE145.out | refine below_set ?_ GE146.out) | exact HB.out)) hb); clear BK145; clear BK146; clear HB; have BK145 := n0_; have BK146 := n1_; have HB := n2_; clear n0_ n1_ n2_; (try clear hb); (try clear hb2); (try clear hk); (try clear hi)))
            go_ret
            exact ⟨by first | rfl | (simp [errW_none, errW_some] <;> rfl) | (simp [*, errW_none, errW_some] <;> rfl), by repeat (first | (with_reducible first | exact HB.out | apply below_alloc | apply pw_below_drewN | apply below_drew1 | refine below_set ?_ GE145.out | refine below_set ?_ GE146.out) | exact HB.out)⟩
        · rw [if_neg c6] at H
          have c6b0 : (a0_3 == a1_3) = false := beq_eq_false_iff_ne.mpr c6
          have c6b1 : (a0_3 != a1_3) = true := bne_iff_ne.mpr c6
          obtain rfl := Option.some.inj H
          go_enter Try.func15, Try.ntmps15
          go_wp2_with (first | ((with_reducible refine gate_dst (N := 2) rfl ?_); refine box_event ?hg (N := 2) ?hd (cs := #[.int .i64 a0_0, .int .i64 a0_1, .int .i64 a0_2, .int .i64 a0_3, .slice A0_4 l0_4.length c0_4, .slice A0_5 l0_5.length c0_5]) (t := 32) ?hr ?_; (case hd => rfl); (case hg => rfl); (case hr => first | (go_simp; done) | (go_simp; rfl)); intro gb145 hg w24 hbox hb; have n0_ := Aside0.mk (below_step (by repeat (first | (with_reducible first | exact HB.out | apply below_alloc | apply pw_below_drewN | apply below_drew1) | exact HB.out)) hb); have n1_ := Aside0.mk (hbox); have n2_ := Aside0.mk ((by rw [hg]; exact (below_size (by repeat (first | (with_reducible first | exact HB.out | apply below_alloc | apply pw_below_drewN | apply below_drew1) | exact HB.out))) : w.heap.size ≤ gb145)); have n3_ := Aside0.mk ((by rw [hg]; exact (below_size (by repeat (first | (with_reducible first | exact HB.out | apply below_alloc | apply pw_below_drewN | apply below_drew1) | exact HB.out))) : w.heap.size ≤ gb145)); clear HB; have HB := n0_; have BK145 := n1_; have GW145 := n2_; have GE145 := n3_; clear n0_ n1_ n2_ n3_; clear hb hbox hg) | ((with_reducible refine gate_dst (N := 3) rfl ?_); refine box_event ?hg (N := 3) ?hd (cs := #[.int .i64 a1_0, .int .i64 a1_1, .int .i64 a1_2, .int .i64 a1_3, .slice A1_4 l1_4.length c1_4, .slice A1_5 l1_5.length c1_5]) (t := 32) ?hr ?_; (case hd => rfl); (case hg => rfl); (case hr => first | (go_simp; done) | (go_simp; rfl)); intro gb146 hg w25 hbox hb; have n0_ := Aside0.mk (blk_below (g := gb145) (o := .cells #[.int .i64 a0_0, .int .i64 a0_1, .int .i64 a0_2, .int .i64 a0_3, .slice A0_4 l0_4.length c0_4, .slice A0_5 l0_5.length c0_5] 32 (0, 0)) (by (with_reducible repeat (first | refine blk_drewN ?_ _ | refine blk_drew ?_ | refine blk_alloc ?_ _)); exact BK145.out) hb); have n1_ := Aside0.mk (below_step (by repeat (first | (with_reducible first | exact HB.out | apply below_alloc | apply pw_below_drewN | apply below_drew1 | refine below_set ?_ GE145.out) | exact HB.out)) hb); have n2_ := Aside0.mk (hbox); have n3_ := Aside0.mk ((by rw [hg]; exact (below_size (by repeat (first | (with_reducible first | exact HB.out | apply below_alloc | apply pw_below_drewN | apply below_drew1 | refine below_set ?_ GE145.out) | exact HB.out))) : w.heap.size ≤ gb146)); have n4_ := Aside0.mk ((by rw [hg]; exact (below_size (by repeat (first | (with_reducible first | exact HB.out | apply below_alloc | apply pw_below_drewN | apply below_drew1 | refine below_set ?_ GE145.out) | exact HB.out))) : w.heap.size ≤ gb146)); have n5_ := Aside0.mk ((by rw [hg]; exact Nat.ne_of_lt (blk_lt (g := gb145) (o := .cells #[.int .i64 a0_0, .int .i64 a0_1, .int .i64 a0_2, .int .i64 a0_3, .slice A0_4 l0_4.length c0_4, .slice A0_5 l0_5.length c0_5] 32 (0, 0)) (by (with_reducible repeat (first | refine blk_drewN ?_ _ | refine blk_drew ?_ | refine blk_alloc ?_ _)); exact BK145.out)) : gb145 ≠ gb146)); have n6_ := Aside0.mk ((by rw [hg]; exact Nat.ne_of_gt (blk_lt (g := gb145) (o := .cells #[.int .i64 a0_0, .int .i64 a0_1, .int .i64 a0_2, .int .i64 a0_3, .slice A0_4 l0_4.length c0_4, .slice A0_5 l0_5.length c0_5] 32 (0, 0)) (by (with_reducible repeat (first | refine blk_drewN ?_ _ | refine blk_drew ?_ | refine blk_alloc ?_ _)); exact BK145.out)) : gb146 ≠ gb145)); clear BK145; clear HB; have BK145 := n0_; have HB := n1_; have BK146 := n2_; have GW146 := n3_; have GE146 := n4_; have NB145_146 := n5_; have NB146_145 := n6_; clear n0_ n1_ n2_ n3_ n4_ n5_ n6_; clear hb hbox hg; have hnb26 := NB145_146.out; have hnc26 := NB146_145.out; have hcz27_0 : w25.cell? ⟨gb145, 0, none⟩ = some (.int .i64 a0_0) := (blk_cell BK145.out 0).trans rfl; have hcz27_1 : w25.cell? ⟨gb145, 1, none⟩ = some (.int .i64 a0_1) := (blk_cell BK145.out 1).trans rfl; have hcz27_2 : w25.cell? ⟨gb145, 2, none⟩ = some (.int .i64 a0_2) := (blk_cell BK145.out 2).trans rfl; have hcz27_3 : w25.cell? ⟨gb145, 3, none⟩ = some (.int .i64 a0_3) := (blk_cell BK145.out 3).trans rfl; have hcz27_4 : w25.cell? ⟨gb145, 4, none⟩ = some (.slice A0_4 l0_4.length c0_4) := (blk_cell BK145.out 4).trans rfl; have hcz27_5 : w25.cell? ⟨gb145, 5, none⟩ = some (.slice A0_5 l0_5.length c0_5) := (blk_cell BK145.out 5).trans rfl; have hfz27_0 := blk_frozen BK145.out 0; have hfz27_1 := blk_frozen BK145.out 1; have hfz27_2 := blk_frozen BK145.out 2; have hfz27_3 := blk_frozen BK145.out 3; have hfz27_4 := blk_frozen BK145.out 4; have hfz27_5 := blk_frozen BK145.out 5; have hcz28_0 : w25.cell? ⟨gb146, 0, none⟩ = some (.int .i64 a1_0) := (blk_cell BK146.out 0).trans rfl; have hcz28_1 : w25.cell? ⟨gb146, 1, none⟩ = some (.int .i64 a1_1) := (blk_cell BK146.out 1).trans rfl; have hcz28_2 : w25.cell? ⟨gb146, 2, none⟩ = some (.int .i64 a1_2) := (blk_cell BK146.out 2).trans rfl; have hcz28_3 : w25.cell? ⟨gb146, 3, none⟩ = some (.int .i64 a1_3) := (blk_cell BK146.out 3).trans rfl; have hcz28_4 : w25.cell? ⟨gb146, 4, none⟩ = some (.slice A1_4 l1_4.length c1_4) := (blk_cell BK146.out 4).trans rfl; have hcz28_5 : w25.cell? ⟨gb146, 5, none⟩ = some (.slice A1_5 l1_5.length c1_5) := (blk_cell BK146.out 5).trans rfl; have hfz28_0 := blk_frozen BK146.out 0; have hfz28_1 := blk_frozen BK146.out 1; have hfz28_2 := blk_frozen BK146.out 2; have hfz28_3 := blk_frozen BK146.out 3; have hfz28_4 := blk_frozen BK146.out 4; have hfz28_5 := blk_frozen BK146.out 5))
          go_ret
          exact ⟨by first | rfl | (simp [errW_none, errW_some] <;> rfl) | (simp [*, errW_none, errW_some] <;> rfl), by repeat (first | (with_reducible first | exact HB.out | apply below_alloc | apply pw_below_drewN | apply below_drew1 | refine below_set ?_ GE145.out | refine below_set ?_ GE146.out) | exact HB.out)⟩
      · rw [if_neg c5] at H
        have c5b0 : (a0_2 == a1_2) = false := beq_eq_false_iff_ne.mpr c5
        have c5b1 : (a0_2 != a1_2) = true := bne_iff_ne.mpr c5
        obtain rfl := Option.some.inj H
        go_enter Try.func15, Try.ntmps15
        go_wp2_with (first | ((with_reducible refine gate_dst (N := 2) rfl ?_); refine box_event ?hg (N := 2) ?hd (cs := #[.int .i64 a0_0, .int .i64 a0_1, .int .i64 a0_2, .int .i64 a0_3, .slice A0_4 l0_4.length c0_4, .slice A0_5 l0_5.length c0_5]) (t := 32) ?hr ?_; (case hd => rfl); (case hg => rfl); (case hr => first | (go_simp; done) | (go_simp; rfl)); intro gb145 hg w29 hbox hb; have n0_ := Aside0.mk (below_step (by repeat (first | (with_reducible first | exact HB.out | apply below_alloc | apply pw_below_drewN | apply below_drew1) | exact HB.out)) hb); have n1_ := Aside0.mk (hbox); have n2_ := Aside0.mk ((by rw [hg]; exact (below_size (by repeat (first | (with_reducible first | exact HB.out | apply below_alloc | apply pw_below_drewN | apply below_drew1) | exact HB.out))) : w.heap.size ≤ gb145)); have n3_ := Aside0.mk ((by rw [hg]; exact (below_size (by repeat (first | (with_reducible first | exact HB.out | apply below_alloc | apply pw_below_drewN | apply below_drew1) | exact HB.out))) : w.heap.size ≤ gb145)); clear HB; have HB := n0_; have BK145 := n1_; have GW145 := n2_; have GE145 := n3_; clear n0_ n1_ n2_ n3_; clear hb hbox hg) | ((with_reducible refine gate_dst (N := 3) rfl ?_); refine box_event ?hg (N := 3) ?hd (cs := #[.int .i64 a1_0, .int .i64 a1_1, .int .i64 a1_2, .int .i64 a1_3, .slice A1_4 l1_4.length c1_4, .slice A1_5 l1_5.length c1_5]) (t := 32) ?hr ?_; (case hd => rfl); (case hg => rfl); (case hr => first | (go_simp; done) | (go_simp; rfl)); intro gb146 hg w30 hbox hb; have n0_ := Aside0.mk (blk_below (g := gb145) (o := .cells #[.int .i64 a0_0, .int .i64 a0_1, .int .i64 a0_2, .int .i64 a0_3, .slice A0_4 l0_4.length c0_4, .slice A0_5 l0_5.length c0_5] 32 (0, 0)) (by (with_reducible repeat (first | refine blk_drewN ?_ _ | refine blk_drew ?_ | refine blk_alloc ?_ _)); exact BK145.out) hb); have n1_ := Aside0.mk (below_step (by repeat (first | (with_reducible first | exact HB.out | apply below_alloc | apply pw_below_drewN | apply below_drew1 | refine below_set ?_ GE145.out) | exact HB.out)) hb); have n2_ := Aside0.mk (hbox); have n3_ := Aside0.mk ((by rw [hg]; exact (below_size (by repeat (first | (with_reducible first | exact HB.out | apply below_alloc | apply pw_below_drewN | apply below_drew1 | refine below_set ?_ GE145.out) | exact HB.out))) : w.heap.size ≤ gb146)); have n4_ := Aside0.mk ((by rw [hg]; exact (below_size (by repeat (first | (with_reducible first | exact HB.out | apply below_alloc | apply pw_below_drewN | apply below_drew1 | refine below_set ?_ GE145.out) | exact HB.out))) : w.heap.size ≤ gb146)); have n5_ := Aside0.mk ((by rw [hg]; exact Nat.ne_of_lt (blk_lt (g := gb145) (o := .cells #[.int .i64 a0_0, .int .i64 a0_1, .int .i64 a0_2, .int .i64 a0_3, .slice A0_4 l0_4.length c0_4, .slice A0_5 l0_5.length c0_5] 32 (0, 0)) (by (with_reducible repeat (first | refine blk_drewN ?_ _ | refine blk_drew ?_ | refine blk_alloc ?_ _)); exact BK145.out)) : gb145 ≠ gb146)); have n6_ := Aside0.mk ((by rw [hg]; exact Nat.ne_of_gt (blk_lt (g := gb145) (o := .cells #[.int .i64 a0_0, .int .i64 a0_1, .int .i64 a0_2, .int .i64 a0_3, .slice A0_4 l0_4.length c0_4, .slice A0_5 l0_5.length c0_5] 32 (0, 0)) (by (with_reducible repeat (first | refine blk_drewN ?_ _ | refine blk_drew ?_ | refine blk_alloc ?_ _)); exact BK145.out)) : gb146 ≠ gb145)); clear BK145; clear HB; have BK145 := n0_; have HB := n1_; have BK146 := n2_; have GW146 := n3_; have GE146 := n4_; have NB145_146 := n5_; have NB146_145 := n6_; clear n0_ n1_ n2_ n3_ n4_ n5_ n6_; clear hb hbox hg; have hnb31 := NB145_146.out; have hnc31 := NB146_145.out; have hcz32_0 : w30.cell? ⟨gb145, 0, none⟩ = some (.int .i64 a0_0) := (blk_cell BK145.out 0).trans rfl; have hcz32_1 : w30.cell? ⟨gb145, 1, none⟩ = some (.int .i64 a0_1) := (blk_cell BK145.out 1).trans rfl; have hcz32_2 : w30.cell? ⟨gb145, 2, none⟩ = some (.int .i64 a0_2) := (blk_cell BK145.out 2).trans rfl; have hcz32_3 : w30.cell? ⟨gb145, 3, none⟩ = some (.int .i64 a0_3) := (blk_cell BK145.out 3).trans rfl; have hcz32_4 : w30.cell? ⟨gb145, 4, none⟩ = some (.slice A0_4 l0_4.length c0_4) := (blk_cell BK145.out 4).trans rfl; have hcz32_5 : w30.cell? ⟨gb145, 5, none⟩ = some (.slice A0_5 l0_5.length c0_5) := (blk_cell BK145.out 5).trans rfl; have hfz32_0 := blk_frozen BK145.out 0; have hfz32_1 := blk_frozen BK145.out 1; have hfz32_2 := blk_frozen BK145.out 2; have hfz32_3 := blk_frozen BK145.out 3; have hfz32_4 := blk_frozen BK145.out 4; have hfz32_5 := blk_frozen BK145.out 5; have hcz33_0 : w30.cell? ⟨gb146, 0, none⟩ = some (.int .i64 a1_0) := (blk_cell BK146.out 0).trans rfl; have hcz33_1 : w30.cell? ⟨gb146, 1, none⟩ = some (.int .i64 a1_1) := (blk_cell BK146.out 1).trans rfl; have hcz33_2 : w30.cell? ⟨gb146, 2, none⟩ = some (.int .i64 a1_2) := (blk_cell BK146.out 2).trans rfl; have hcz33_3 : w30.cell? ⟨gb146, 3, none⟩ = some (.int .i64 a1_3) := (blk_cell BK146.out 3).trans rfl; have hcz33_4 : w30.cell? ⟨gb146, 4, none⟩ = some (.slice A1_4 l1_4.length c1_4) := (blk_cell BK146.out 4).trans rfl; have hcz33_5 : w30.cell? ⟨gb146, 5, none⟩ = some (.slice A1_5 l1_5.length c1_5) := (blk_cell BK146.out 5).trans rfl; have hfz33_0 := blk_frozen BK146.out 0; have hfz33_1 := blk_frozen BK146.out 1; have hfz33_2 := blk_frozen BK146.out 2; have hfz33_3 := blk_frozen BK146.out 3; have hfz33_4 := blk_frozen BK146.out 4; have hfz33_5 := blk_frozen BK146.out 5))
        go_ret
        exact ⟨by first | rfl | (simp [errW_none, errW_some] <;> rfl) | (simp [*, errW_none, errW_some] <;> rfl), by repeat (first | (with_reducible first | exact HB.out | apply below_alloc | apply pw_below_drewN | apply below_drew1 | refine below_set ?_ GE145.out | refine below_set ?_ GE146.out) | exact HB.out)⟩
    · rw [if_neg c4] at H
      have c4b0 : (a0_1 == a1_1) = false := beq_eq_false_iff_ne.mpr c4
      have c4b1 : (a0_1 != a1_1) = true := bne_iff_ne.mpr c4
      obtain rfl := Option.some.inj H
      go_enter Try.func15, Try.ntmps15
      go_wp2_with (first | ((with_reducible refine gate_dst (N := 2) rfl ?_); refine box_event ?hg (N := 2) ?hd (cs := #[.int .i64 a0_0, .int .i64 a0_1, .int .i64 a0_2, .int .i64 a0_3, .slice A0_4 l0_4.length c0_4, .slice A0_5 l0_5.length c0_5]) (t := 32) ?hr ?_; (case hd => rfl); (case hg => rfl); (case hr => first | (go_simp; done) | (go_simp; rfl)); intro gb145 hg w34 hbox hb; have n0_ := Aside0.mk (below_step (by repeat (first | (with_reducible first | exact HB.out | apply below_alloc | apply pw_below_drewN | apply below_drew1) | exact HB.out)) hb); have n1_ := Aside0.mk (hbox); have n2_ := Aside0.mk ((by rw [hg]; exact (below_size (by repeat (first | (with_reducible first | exact HB.out | apply below_alloc | apply pw_below_drewN | apply below_drew1) | exact HB.out))) : w.heap.size ≤ gb145)); have n3_ := Aside0.mk ((by rw [hg]; exact (below_size (by repeat (first | (with_reducible first | exact HB.out | apply below_alloc | apply pw_below_drewN | apply below_drew1) | exact HB.out))) : w.heap.size ≤ gb145)); clear HB; have HB := n0_; have BK145 := n1_; have GW145 := n2_; have GE145 := n3_; clear n0_ n1_ n2_ n3_; clear hb hbox hg) | ((with_reducible refine gate_dst (N := 3) rfl ?_); refine box_event ?hg (N := 3) ?hd (cs := #[.int .i64 a1_0, .int .i64 a1_1, .int .i64 a1_2, .int .i64 a1_3, .slice A1_4 l1_4.length c1_4, .slice A1_5 l1_5.length c1_5]) (t := 32) ?hr ?_; (case hd => rfl); (case hg => rfl); (case hr => first | (go_simp; done) | (go_simp; rfl)); intro gb146 hg w35 hbox hb; have n0_ := Aside0.mk (blk_below (g := gb145) (o := .cells #[.int .i64 a0_0, .int .i64 a0_1, .int .i64 a0_2, .int .i64 a0_3, .slice A0_4 l0_4.length c0_4, .slice A0_5 l0_5.length c0_5] 32 (0, 0)) (by (with_reducible repeat (first | refine blk_drewN ?_ _ | refine blk_drew ?_ | refine blk_alloc ?_ _)); exact BK145.out) hb); have n1_ := Aside0.mk (below_step (by repeat (first | (with_reducible first | exact HB.out | apply below_alloc | apply pw_below_drewN | apply below_drew1 | refine below_set ?_ GE145.out) | exact HB.out)) hb); have n2_ := Aside0.mk (hbox); have n3_ := Aside0.mk ((by rw [hg]; exact (below_size (by repeat (first | (with_reducible first | exact HB.out | apply below_alloc | apply pw_below_drewN | apply below_drew1 | refine below_set ?_ GE145.out) | exact HB.out))) : w.heap.size ≤ gb146)); have n4_ := Aside0.mk ((by rw [hg]; exact (below_size (by repeat (first | (with_reducible first | exact HB.out | apply below_alloc | apply pw_below_drewN | apply below_drew1 | refine below_set ?_ GE145.out) | exact HB.out))) : w.heap.size ≤ gb146)); have n5_ := Aside0.mk ((by rw [hg]; exact Nat.ne_of_lt (blk_lt (g := gb145) (o := .cells #[.int .i64 a0_0, .int .i64 a0_1, .int .i64 a0_2, .int .i64 a0_3, .slice A0_4 l0_4.length c0_4, .slice A0_5 l0_5.length c0_5] 32 (0, 0)) (by (with_reducible repeat (first | refine blk_drewN ?_ _ | refine blk_drew ?_ | refine blk_alloc ?_ _)); exact BK145.out)) : gb145 ≠ gb146)); have n6_ := Aside0.mk ((by rw [hg]; exact Nat.ne_of_gt (blk_lt (g := gb145) (o := .cells #[.int .i64 a0_0, .int .i64 a0_1, .int .i64 a0_2, .int .i64 a0_3, .slice A0_4 l0_4.length c0_4, .slice A0_5 l0_5.length c0_5] 32 (0, 0)) (by (with_reducible repeat (first | refine blk_drewN ?_ _ | refine blk_drew ?_ | refine blk_alloc ?_ _)); exact BK145.out)) : gb146 ≠ gb145)); clear BK145; clear HB; have BK145 := n0_; have HB := n1_; have BK146 := n2_; have GW146 := n3_; have GE146 := n4_; have NB145_146 := n5_; have NB146_145 := n6_; clear n0_ n1_ n2_ n3_ n4_ n5_ n6_; clear hb hbox hg; have hnb36 := NB145_146.out; have hnc36 := NB146_145.out; have hcz37_0 : w35.cell? ⟨gb145, 0, none⟩ = some (.int .i64 a0_0) := (blk_cell BK145.out 0).trans rfl; have hcz37_1 : w35.cell? ⟨gb145, 1, none⟩ = some (.int .i64 a0_1) := (blk_cell BK145.out 1).trans rfl; have hcz37_2 : w35.cell? ⟨gb145, 2, none⟩ = some (.int .i64 a0_2) := (blk_cell BK145.out 2).trans rfl; have hcz37_3 : w35.cell? ⟨gb145, 3, none⟩ = some (.int .i64 a0_3) := (blk_cell BK145.out 3).trans rfl; have hcz37_4 : w35.cell? ⟨gb145, 4, none⟩ = some (.slice A0_4 l0_4.length c0_4) := (blk_cell BK145.out 4).trans rfl; have hcz37_5 : w35.cell? ⟨gb145, 5, none⟩ = some (.slice A0_5 l0_5.length c0_5) := (blk_cell BK145.out 5).trans rfl; have hfz37_0 := blk_frozen BK145.out 0; have hfz37_1 := blk_frozen BK145.out 1; have hfz37_2 := blk_frozen BK145.out 2; have hfz37_3 := blk_frozen BK145.out 3; have hfz37_4 := blk_frozen BK145.out 4; have hfz37_5 := blk_frozen BK145.out 5; have hcz38_0 : w35.cell? ⟨gb146, 0, none⟩ = some (.int .i64 a1_0) := (blk_cell BK146.out 0).trans rfl; have hcz38_1 : w35.cell? ⟨gb146, 1, none⟩ = some (.int .i64 a1_1) := (blk_cell BK146.out 1).trans rfl; have hcz38_2 : w35.cell? ⟨gb146, 2, none⟩ = some (.int .i64 a1_2) := (blk_cell BK146.out 2).trans rfl; have hcz38_3 : w35.cell? ⟨gb146, 3, none⟩ = some (.int .i64 a1_3) := (blk_cell BK146.out 3).trans rfl; have hcz38_4 : w35.cell? ⟨gb146, 4, none⟩ = some (.slice A1_4 l1_4.length c1_4) := (blk_cell BK146.out 4).trans rfl; have hcz38_5 : w35.cell? ⟨gb146, 5, none⟩ = some (.slice A1_5 l1_5.length c1_5) := (blk_cell BK146.out 5).trans rfl; have hfz38_0 := blk_frozen BK146.out 0; have hfz38_1 := blk_frozen BK146.out 1; have hfz38_2 := blk_frozen BK146.out 2; have hfz38_3 := blk_frozen BK146.out 3; have hfz38_4 := blk_frozen BK146.out 4; have hfz38_5 := blk_frozen BK146.out 5))
      go_ret
      exact ⟨by first | rfl | (simp [errW_none, errW_some] <;> rfl) | (simp [*, errW_none, errW_some] <;> rfl), by repeat (first | (with_reducible first | exact HB.out | apply below_alloc | apply pw_below_drewN | apply below_drew1 | refine below_set ?_ GE145.out | refine below_set ?_ GE146.out) | exact HB.out)⟩
  · rw [if_neg c3] at H
    have c3b0 : (a0_0 == a1_0) = false := beq_eq_false_iff_ne.mpr c3
    have c3b1 : (a0_0 != a1_0) = true := bne_iff_ne.mpr c3
    obtain rfl := Option.some.inj H
    go_enter Try.func15, Try.ntmps15
    go_wp2_with (first | ((with_reducible refine gate_dst (N := 2) rfl ?_); refine box_event ?hg (N := 2) ?hd (cs := #[.int .i64 a0_0, .int .i64 a0_1, .int .i64 a0_2, .int .i64 a0_3, .slice A0_4 l0_4.length c0_4, .slice A0_5 l0_5.length c0_5]) (t := 32) ?hr ?_; (case hd => rfl); (case hg => rfl); (case hr => first | (go_simp; done) | (go_simp; rfl)); intro gb145 hg w39 hbox hb; have n0_ := Aside0.mk (below_step (by repeat (first | (with_reducible first | exact HB.out | apply below_alloc | apply pw_below_drewN | apply below_drew1) | exact HB.out)) hb); have n1_ := Aside0.mk (hbox); have n2_ := Aside0.mk ((by rw [hg]; exact (below_size (by repeat (first | (with_reducible first | exact HB.out | apply below_alloc | apply pw_below_drewN | apply below_drew1) | exact HB.out))) : w.heap.size ≤ gb145)); have n3_ := Aside0.mk ((by rw [hg]; exact (below_size (by repeat (first | (with_reducible first | exact HB.out | apply below_alloc | apply pw_below_drewN | apply below_drew1) | exact HB.out))) : w.heap.size ≤ gb145)); clear HB; have HB := n0_; have BK145 := n1_; have GW145 := n2_; have GE145 := n3_; clear n0_ n1_ n2_ n3_; clear hb hbox hg) | ((with_reducible refine gate_dst (N := 3) rfl ?_); refine box_event ?hg (N := 3) ?hd (cs := #[.int .i64 a1_0, .int .i64 a1_1, .int .i64 a1_2, .int .i64 a1_3, .slice A1_4 l1_4.length c1_4, .slice A1_5 l1_5.length c1_5]) (t := 32) ?hr ?_; (case hd => rfl); (case hg => rfl); (case hr => first | (go_simp; done) | (go_simp; rfl)); intro gb146 hg w40 hbox hb; have n0_ := Aside0.mk (blk_below (g := gb145) (o := .cells #[.int .i64 a0_0, .int .i64 a0_1, .int .i64 a0_2, .int .i64 a0_3, .slice A0_4 l0_4.length c0_4, .slice A0_5 l0_5.length c0_5] 32 (0, 0)) (by (with_reducible repeat (first | refine blk_drewN ?_ _ | refine blk_drew ?_ | refine blk_alloc ?_ _)); exact BK145.out) hb); have n1_ := Aside0.mk (below_step (by repeat (first | (with_reducible first | exact HB.out | apply below_alloc | apply pw_below_drewN | apply below_drew1 | refine below_set ?_ GE145.out) | exact HB.out)) hb); have n2_ := Aside0.mk (hbox); have n3_ := Aside0.mk ((by rw [hg]; exact (below_size (by repeat (first | (with_reducible first | exact HB.out | apply below_alloc | apply pw_below_drewN | apply below_drew1 | refine below_set ?_ GE145.out) | exact HB.out))) : w.heap.size ≤ gb146)); have n4_ := Aside0.mk ((by rw [hg]; exact (below_size (by repeat (first | (with_reducible first | exact HB.out | apply below_alloc | apply pw_below_drewN | apply below_drew1 | refine below_set ?_ GE145.out) | exact HB.out))) : w.heap.size ≤ gb146)); have n5_ := Aside0.mk ((by rw [hg]; exact Nat.ne_of_lt (blk_lt (g := gb145) (o := .cells #[.int .i64 a0_0, .int .i64 a0_1, .int .i64 a0_2, .int .i64 a0_3, .slice A0_4 l0_4.length c0_4, .slice A0_5 l0_5.length c0_5] 32 (0, 0)) (by (with_reducible repeat (first | refine blk_drewN ?_ _ | refine blk_drew ?_ | refine blk_alloc ?_ _)); exact BK145.out)) : gb145 ≠ gb146)); have n6_ := Aside0.mk ((by rw [hg]; exact Nat.ne_of_gt (blk_lt (g := gb145) (o := .cells #[.int .i64 a0_0, .int .i64 a0_1, .int .i64 a0_2, .int .i64 a0_3, .slice A0_4 l0_4.length c0_4, .slice A0_5 l0_5.length c0_5] 32 (0, 0)) (by (with_reducible repeat (first | refine blk_drewN ?_ _ | refine blk_drew ?_ | refine blk_alloc ?_ _)); exact BK145.out)) : gb146 ≠ gb145)); clear BK145; clear HB; have BK145 := n0_; have HB := n1_; have BK146 := n2_; have GW146 := n3_; have GE146 := n4_; have NB145_146 := n5_; have NB146_145 := n6_; clear n0_ n1_ n2_ n3_ n4_ n5_ n6_; clear hb hbox hg; have hnb41 := NB145_146.out; have hnc41 := NB146_145.out; have hcz42_0 : w40.cell? ⟨gb145, 0, none⟩ = some (.int .i64 a0_0) := (blk_cell BK145.out 0).trans rfl; have hcz42_1 : w40.cell? ⟨gb145, 1, none⟩ = some (.int .i64 a0_1) := (blk_cell BK145.out 1).trans rfl; have hcz42_2 : w40.cell? ⟨gb145, 2, none⟩ = some (.int .i64 a0_2) := (blk_cell BK145.out 2).trans rfl; have hcz42_3 : w40.cell? ⟨gb145, 3, none⟩ = some (.int .i64 a0_3) := (blk_cell BK145.out 3).trans rfl; have hcz42_4 : w40.cell? ⟨gb145, 4, none⟩ = some (.slice A0_4 l0_4.length c0_4) := (blk_cell BK145.out 4).trans rfl; have hcz42_5 : w40.cell? ⟨gb145, 5, none⟩ = some (.slice A0_5 l0_5.length c0_5) := (blk_cell BK145.out 5).trans rfl; have hfz42_0 := blk_frozen BK145.out 0; have hfz42_1 := blk_frozen BK145.out 1; have hfz42_2 := blk_frozen BK145.out 2; have hfz42_3 := blk_frozen BK145.out 3; have hfz42_4 := blk_frozen BK145.out 4; have hfz42_5 := blk_frozen BK145.out 5; have hcz43_0 : w40.cell? ⟨gb146, 0, none⟩ = some (.int .i64 a1_0) := (blk_cell BK146.out 0).trans rfl; have hcz43_1 : w40.cell? ⟨gb146, 1, none⟩ = some (.int .i64 a1_1) := (blk_cell BK146.out 1).trans rfl; have hcz43_2 : w40.cell? ⟨gb146, 2, none⟩ = some (.int .i64 a1_2) := (blk_cell BK146.out 2).trans rfl; have hcz43_3 : w40.cell? ⟨gb146, 3, none⟩ = some (.int .i64 a1_3) := (blk_cell BK146.out 3).trans rfl; have hcz43_4 : w40.cell? ⟨gb146, 4, none⟩ = some (.slice A1_4 l1_4.length c1_4) := (blk_cell BK146.out 4).trans rfl; have hcz43_5 : w40.cell? ⟨gb146, 5, none⟩ = some (.slice A1_5 l1_5.length c1_5) := (blk_cell BK146.out 5).trans rfl; have hfz43_0 := blk_frozen BK146.out 0; have hfz43_1 := blk_frozen BK146.out 1; have hfz43_2 := blk_frozen BK146.out 2; have hfz43_3 := blk_frozen BK146.out 3; have hfz43_4 := blk_frozen BK146.out 4; have hfz43_5 := blk_frozen BK146.out 5))
    go_ret
    exact ⟨by first | rfl | (simp [errW_none, errW_some] <;> rfl) | (simp [*, errW_none, errW_some] <;> rfl), by repeat (first | (with_reducible first | exact HB.out | apply below_alloc | apply pw_below_drewN | apply below_drew1 | refine below_set ?_ GE145.out | refine below_set ?_ GE146.out) | exact HB.out)⟩
end Go.Proofs.Ytfdhnmijaobbdaa.S
end
section
namespace Go.Proofs.Ytfdhnmijaobbdaa.S
open Go.RowKit Go.Proofs.YtfdhnmijaobbdaaW.PrintWords Go.Proofs.YtfdhnmijaobbdaaW.PrintLast Go.Proofs.YtfdhnmijaobbdaaW.PrintMore
attribute [local go_sem] max2_int min2_int max_two min_two max_three min_three max_four min_four   -- for this text's walks alone
set_option linter.unusedVariables false
set_option linter.unusedSimpArgs false
def chalklinelaw35_live.f : Option Bool := some true
set_option maxHeartbeats 8000000 in
set_option maxRecDepth 100000 in
theorem chalklinelaw35_live.calls (r : Bool) (w : World) (h : chalklinelaw35_live.f = some r) : Calls Try.prog 11 #[] w fun e w' => e = .returned (.bool r) ∧ Below w.heap.size w w' := by
  obtain rfl := Option.some.inj h
  clear h
  have P1 := Aside0.mk (show feed_Reply.f 9 [(⟨1, ⟨[(⟨0, 0⟩ : S60)]⟩, 0, false⟩ : S52), (⟨2, ⟨[(⟨1, 0⟩ : S60)]⟩, 3, true⟩ : S52)] 1 4 = some (2, 4, 1, 2, [], [(⟨0, ⟨1, 0⟩⟩ : S64)], 0) by kernel_rfl)
  have P2 := Aside0.mk (show feed_Reply.f 9 [(⟨1, ⟨[(⟨0, 0⟩ : S60)]⟩, 0, false⟩ : S52), (⟨2, ⟨[(⟨1, 0⟩ : S60)]⟩, 3, true⟩ : S52)] 0 4 = some (1, 4, 0, 2, [(⟨1, 0⟩ : S60)], [], 0) by kernel_rfl)
  have P3 := Aside0.mk (show feed_Reply.f 9 [(⟨1, ⟨[(⟨0, 0⟩ : S60)]⟩, 0, false⟩ : S52), (⟨2, ⟨[(⟨1, 0⟩ : S60)]⟩, 3, true⟩ : S52)] 2 4 = some (0, 0, 0, 0, [], [], 341) by kernel_rfl)
  have P4 := Aside0.mk (show feed_Take.f 9 1 [(⟨0, 0⟩ : S60)] 2 4 1 2 [] [(⟨0, ⟨1, 0⟩⟩ : S64)] = some (2, [(⟨1, 0⟩ : S60)], 0) by kernel_rfl)
  have P5 := Aside0.mk (show feed_Take.f 9 2 [(⟨1, 0⟩ : S60)] 2 4 1 2 [] [(⟨0, ⟨1, 0⟩⟩ : S64)] = some (0, [], 341) by kernel_rfl)
  have P6 := Aside0.mk (show feed_Take.f 9 0 [] 2 4 1 2 [] [(⟨0, ⟨1, 0⟩⟩ : S64)] = some (0, [], 350) by kernel_rfl)
  have P7 := Aside0.mk (show feed_Take.f 9 0 [] 1 4 0 2 [(⟨1, 0⟩ : S60)] [] = some (2, [(⟨1, 0⟩ : S60)], 0) by kernel_rfl)
  have P8 := Aside0.mk (show chalklineref35_Msgs.f 9 2 4 1 2 [] [(⟨0, ⟨1, 0⟩⟩ : S64)] 2 4 1 2 [] [(⟨0, ⟨1, 0⟩⟩ : S64)] = some true by kernel_rfl)
  have P9 := Aside0.mk (show chalklineref35_Msgs.f 9 1 4 0 2 [(⟨1, 0⟩ : S60)] [] 1 4 0 2 [(⟨1, 0⟩ : S60)] [] = some true by kernel_rfl)
  have P10 := Aside0.mk (show chalklineref35_Clients.f 9 2 [(⟨1, 0⟩ : S60)] 2 [(⟨1, 0⟩ : S60)] = some true by kernel_rfl)
  have P11 := Aside0.mk (show feed_Wish.f 2 [(⟨1, 0⟩ : S60)] 4 = some (3, 4, 0, 2, [], []) by kernel_rfl)
  have P12 := Aside0.mk (show feed_Check.f 9 [(⟨1, ⟨[(⟨0, 0⟩ : S60)]⟩, 0, false⟩ : S52), (⟨2, ⟨[(⟨1, 0⟩ : S60)]⟩, 3, true⟩ : S52)] = some 0 by kernel_rfl)
  have P13 := Aside0.mk (show feed_Check.f 9 [(⟨2, ⟨[(⟨1, 0⟩ : S60)]⟩, 3, true⟩ : S52)] = some 1 by kernel_rfl)
  have hu25 := Try.underlying25
  have hu27 := Try.underlying27
  have hu32 := Try.underlying32
  have hu52 := Try.underlying52
  have hu60 := Try.underlying60
  have hu64 := Try.underlying64
  have hu22 := Try.underlying22
  have hu23 := Try.underlying23
  have hu30 := Try.underlying30
  have hfd : ∀ (w : World) (x0 x1 x2 x3 x4 x5 : Value), (Instr.field 32 (.agg #[x0, x1, x2, x3, x4, x5]) 3).run Try.prog w = .ok x3 w := fun _ _ _ _ _ _ _ => by kernel_rfl
  have S := Aside0.mk (Below.refl w.heap.size w)
  go_enter Try.func11, Try.ntmps11
  go_wp2_with (first | ((with_reducible refine gate_dst (N := 21) rfl ?_); refine lit_event ?hg (N := 21) ?hd (cs := #[.int .i64 0, .int .i64 0]) (T := 60) (n := 1) ?hr ?_; (case hg => rfl); (case hd => rfl); (case hr => first | (go_simp; done) | (go_simp; rfl)); intro ra hg w1 hbox hb; clear hg; replace S := Aside0.mk (stab_step (P := (fun x_ => Below w.heap.size w x_)) (w := w) S.out (by repeat (first | exact Below.refl _ _ | apply pw_below_drewN | apply below_drew1 | apply below_alloc)) hb (by repeat' (with_reducible first | exact stab_blk _ _ | exact stab_C _ _ _ _ | exact stab_base _ | exact stab_R _ _ _ _ _ _ | refine stab_and ?_ ?_))); clear hb; replace S := Aside0.mk (And.intro S.out (show Kd.C k60 w1 (some ⟨ra, 0, none⟩) 1 [(⟨0, 0⟩ : S60)] from C_lit k60 (xs := [(⟨0, 0⟩ : S60)]) (inner := [.int .i64 0, .int .i64 0]) hbox (Reps.c2 (k60_mk _ _) (Reps.none _ _)) (by decide))); clear hbox) | ((with_reducible refine gate_dst (N := 1) rfl ?_); refine var_event ?hg (N := 1) ?hd ?hg2 ?hn2 (z := #[.slice none 0 0]) (cs := #[.slice (some ⟨ra, 0, none⟩) 1 1]) (T := 25) ?hr ?hs ?_; (case hg => rfl); (case hd => rfl); (case hg2 => rfl); (case hn2 => rfl); (case hr => first | (go_simp; done) | (go_simp; rfl)); (case hs => first | (go_simp; done) | (go_simp; rfl)); intro ga hg w2 hbox hb; clear hg; replace S := Aside0.mk (stab_step (P := (fun x_ => (Below w.heap.size w x_) ∧ Kd.C k60 x_ (some ⟨ra, 0, none⟩) 1 [(⟨0, 0⟩ : S60)])) (w := w1) S.out (by repeat (first | exact Below.refl _ _ | apply pw_below_drewN | apply below_drew1 | apply below_alloc)) hb (by repeat' (with_reducible first | exact stab_blk _ _ | exact stab_C _ _ _ _ | exact stab_base _ | exact stab_R _ _ _ _ _ _ | refine stab_and ?_ ?_))); clear hb; replace S := Aside0.mk (And.intro S.out (show w2.heap[ga]? = some (Obj.cells #[.slice (some ⟨ra, 0, none⟩) 1 1] 25 (0, 0)) from hbox)); clear hbox) | ((with_reducible refine gate_dst (N := 24) rfl ?_); refine lit_event ?hg (N := 24) ?hd (cs := #[.int .i64 1, .int .i64 0]) (T := 60) (n := 1) ?hr ?_; (case hg => rfl); (case hd => rfl); (case hr => first | (go_simp; done) | (go_simp; rfl)); intro rb hg w3 hbox hb; clear hg; replace S := Aside0.mk (stab_step (P := (fun x_ => ((Below w.heap.size w x_) ∧ Kd.C k60 x_ (some ⟨ra, 0, none⟩) 1 [(⟨0, 0⟩ : S60)]) ∧ x_.heap[ga]? = some (Obj.cells #[.slice (some ⟨ra, 0, none⟩) 1 1] 25 (0, 0)))) (w := w2) S.out (by repeat (first | exact Below.refl _ _ | apply pw_below_drewN | apply below_drew1 | apply below_alloc)) hb (by repeat' (with_reducible first | exact stab_blk _ _ | exact stab_C _ _ _ _ | exact stab_base _ | exact stab_R _ _ _ _ _ _ | refine stab_and ?_ ?_))); clear hb; replace S := Aside0.mk (And.intro S.out (show Kd.C k60 w3 (some ⟨rb, 0, none⟩) 1 [(⟨1, 0⟩ : S60)] from C_lit k60 (xs := [(⟨1, 0⟩ : S60)]) (inner := [.int .i64 1, .int .i64 0]) hbox (Reps.c2 (k60_mk _ _) (Reps.none _ _)) (by decide))); clear hbox) | ((with_reducible refine gate_dst (N := 2) rfl ?_); refine var_event ?hg (N := 2) ?hd ?hg2 ?hn2 (z := #[.slice none 0 0]) (cs := #[.slice (some ⟨rb, 0, none⟩) 1 1]) (T := 25) ?hr ?hs ?_; (case hg => rfl); (case hd => rfl); (case hg2 => rfl); (case hn2 => rfl); (case hr => first | (go_simp; done) | (go_simp; rfl)); (case hs => first | (go_simp; done) | (go_simp; rfl)); intro gb hg w4 hbox hb; clear hg; replace S := Aside0.mk (stab_step (P := (fun x_ => (((Below w.heap.size w x_) ∧ Kd.C k60 x_ (some ⟨ra, 0, none⟩) 1 [(⟨0, 0⟩ : S60)]) ∧ x_.heap[ga]? = some (Obj.cells #[.slice (some ⟨ra, 0, none⟩) 1 1] 25 (0, 0))) ∧ Kd.C k60 x_ (some ⟨rb, 0, none⟩) 1 [(⟨1, 0⟩ : S60)])) (w := w3) S.out (by repeat (first | exact Below.refl _ _ | apply pw_below_drewN | apply below_drew1 | apply below_alloc)) hb (by repeat' (with_reducible first | exact stab_blk _ _ | exact stab_C _ _ _ _ | exact stab_base _ | exact stab_R _ _ _ _ _ _ | refine stab_and ?_ ?_))); clear hb; replace S := Aside0.mk (And.intro S.out (show w4.heap[gb]? = some (Obj.cells #[.slice (some ⟨rb, 0, none⟩) 1 1] 25 (0, 0)) from hbox)); clear hbox; have hcz_ga_0 : World.cell? w4 ⟨ga, 0, none⟩ = some (.slice (some ⟨ra, 0, none⟩) 1 1) := (blk_cell S.out.1.1.2 0).trans rfl; have hcz_gb_0 : World.cell? w4 ⟨gb, 0, none⟩ = some (.slice (some ⟨rb, 0, none⟩) 1 1) := (blk_cell S.out.2 0).trans rfl) | ((with_reducible refine gate_dst (N := 30) rfl ?_); refine lit_event ?hg (N := 30) ?hd (cs := #[.int .i64 1, .slice (some ⟨ra, 0, none⟩) 1 1, .int .i64 0, .bool false, .int .i64 2, .slice (some ⟨rb, 0, none⟩) 1 1, .int .i64 3, .bool true]) (T := 52) (n := 2) ?hr ?_; (case hg => rfl); (case hd => rfl); (case hr => first | (go_simp; done) | (go_simp; rfl)); intro rl hg w5 hbox hb; clear hg; replace S := Aside0.mk (stab_step (P := (fun x_ => ((((Below w.heap.size w x_) ∧ Kd.C k60 x_ (some ⟨ra, 0, none⟩) 1 [(⟨0, 0⟩ : S60)]) ∧ x_.heap[ga]? = some (Obj.cells #[.slice (some ⟨ra, 0, none⟩) 1 1] 25 (0, 0))) ∧ Kd.C k60 x_ (some ⟨rb, 0, none⟩) 1 [(⟨1, 0⟩ : S60)]) ∧ x_.heap[gb]? = some (Obj.cells #[.slice (some ⟨rb, 0, none⟩) 1 1] 25 (0, 0)))) (w := w4) S.out (by repeat (first | exact Below.refl _ _ | apply pw_below_drewN | apply below_drew1 | apply below_alloc)) hb (by repeat' (with_reducible first | exact stab_blk _ _ | exact stab_C _ _ _ _ | exact stab_base _ | exact stab_R _ _ _ _ _ _ | refine stab_and ?_ ?_))); clear hb; (try clear hcz_ga_0); (try clear hcz_gb_0); replace S := Aside0.mk (And.intro S.out (show Kd.C k52 w5 (some ⟨rl, 0, none⟩) 2 [(⟨1, ⟨[(⟨0, 0⟩ : S60)]⟩, 0, false⟩ : S52), (⟨2, ⟨[(⟨1, 0⟩ : S60)]⟩, 3, true⟩ : S52)] from C_lit k52 (xs := [(⟨1, ⟨[(⟨0, 0⟩ : S60)]⟩, 0, false⟩ : S52), (⟨2, ⟨[(⟨1, 0⟩ : S60)]⟩, 3, true⟩ : S52)]) (inner := [.int .i64 1, .slice (some ⟨ra, 0, none⟩) 1 1, .int .i64 0, .bool false, .int .i64 2, .slice (some ⟨rb, 0, none⟩) 1 1, .int .i64 3, .bool true]) hbox (Reps.c4 (k52_mk _ (⟨1, ⟨[(⟨0, 0⟩ : S60)]⟩, 0, false⟩ : S52) (A1 := some ⟨ra, 0, none⟩) (c1 := 1) (by decide) S.out.1.1.1.2) (Reps.c4 (k52_mk _ (⟨2, ⟨[(⟨1, 0⟩ : S60)]⟩, 3, true⟩ : S52) (A1 := some ⟨rb, 0, none⟩) (c1 := 1) (by decide) S.out.1.2) (Reps.none _ _))) (by decide))); clear hbox) | ((with_reducible refine gate_dst (N := 33) rfl ?_); refine goesL_ (some 33) rfl rfl Try.func13 (by kernel_rfl) rfl #[.slice (some ⟨rl, 0, none⟩) 2 2, .int .i64 1, .int .i64 4] rfl (by (try simp only [List.map_toArray, List.map_cons, List.map_nil]); first | done | rfl) ?_; refine (feed_Reply.calls 9 _ _ [(⟨1, ⟨[(⟨0, 0⟩ : S60)]⟩, 0, false⟩ : S52), (⟨2, ⟨[(⟨1, 0⟩ : S60)]⟩, 3, true⟩ : S52)] 1 4 _ _ _ _ _ _ _ _ ?side1 ?side2 P1.out).mono ?_; (case side1 => exact stab_now (P := (fun x_ => Kd.C k52 x_ (some ⟨rl, 0, none⟩) 2 [(⟨1, ⟨[(⟨0, 0⟩ : S60)]⟩, 0, false⟩ : S52), (⟨2, ⟨[(⟨1, 0⟩ : S60)]⟩, 3, true⟩ : S52)])) (w := w5) S.out.2 (by repeat (first | exact Below.refl _ _ | apply pw_below_drewN | apply below_drew1 | apply below_alloc)) (stab_C _ _ _ _)); (case side2 => decide); rintro e w6 ⟨vd4, vd5, rfl, ho0, ho1, hb⟩; refine ⟨_, rfl, ?_⟩; obtain ⟨Ad4, cd4, e0, hlcd4, hC0⟩ := Kd.R_reads ho0; subst e0; have HLcd4 := Aside0.mk hlcd4; clear hlcd4 ho0; obtain ⟨Ad5, cd5, e1, hlcd5, hC1⟩ := Kd.R_reads ho1; subst e1; have HLcd5 := Aside0.mk hlcd5; clear hlcd5 ho1; replace S := Aside0.mk (stab_step (P := (fun x_ => (((((Below w.heap.size w x_) ∧ Kd.C k60 x_ (some ⟨ra, 0, none⟩) 1 [(⟨0, 0⟩ : S60)]) ∧ x_.heap[ga]? = some (Obj.cells #[.slice (some ⟨ra, 0, none⟩) 1 1] 25 (0, 0))) ∧ Kd.C k60 x_ (some ⟨rb, 0, none⟩) 1 [(⟨1, 0⟩ : S60)]) ∧ x_.heap[gb]? = some (Obj.cells #[.slice (some ⟨rb, 0, none⟩) 1 1] 25 (0, 0))) ∧ Kd.C k52 x_ (some ⟨rl, 0, none⟩) 2 [(⟨1, ⟨[(⟨0, 0⟩ : S60)]⟩, 0, false⟩ : S52), (⟨2, ⟨[(⟨1, 0⟩ : S60)]⟩, 3, true⟩ : S52)])) (w := w5) S.out (by repeat (first | exact Below.refl _ _ | apply pw_below_drewN | apply below_drew1 | apply below_alloc)) hb (by repeat' (with_reducible first | exact stab_blk _ _ | exact stab_C _ _ _ _ | exact stab_base _ | exact stab_R _ _ _ _ _ _ | refine stab_and ?_ ?_))); clear hb; replace S := Aside0.mk (And.intro S.out (show Kd.C k60 w6 Ad4 ([] : List _).length [] from hC0)); clear hC0; replace S := Aside0.mk (And.intro S.out (show Kd.C k64 w6 Ad5 ([(⟨0, ⟨1, 0⟩⟩ : S64)] : List _).length [(⟨0, ⟨1, 0⟩⟩ : S64)] from hC1)); clear hC1) | ((with_reducible refine gate_dst (N := 4) rfl ?_); refine var_event ?hg (N := 4) ?hd ?hg2 ?hn2 (z := #[.int .i64 0, .int .i64 0, .int .i64 0, .int .i64 0, .slice none 0 0, .slice none 0 0]) (cs := #[.int .i64 2, .int .i64 4, .int .i64 1, .int .i64 2, .slice Ad4 0 cd4, .slice Ad5 1 cd5]) (T := 32) ?hr ?hs ?_; (case hg => rfl); (case hd => rfl); (case hg2 => rfl); (case hn2 => rfl); (case hr => first | (go_simp; done) | (go_simp; rfl)); (case hs => first | (go_simp; done) | (go_simp; rfl)); intro gd hg w7 hbox hb; clear hg; replace S := Aside0.mk (stab_step (P := (fun x_ => (((((((Below w.heap.size w x_) ∧ Kd.C k60 x_ (some ⟨ra, 0, none⟩) 1 [(⟨0, 0⟩ : S60)]) ∧ x_.heap[ga]? = some (Obj.cells #[.slice (some ⟨ra, 0, none⟩) 1 1] 25 (0, 0))) ∧ Kd.C k60 x_ (some ⟨rb, 0, none⟩) 1 [(⟨1, 0⟩ : S60)]) ∧ x_.heap[gb]? = some (Obj.cells #[.slice (some ⟨rb, 0, none⟩) 1 1] 25 (0, 0))) ∧ Kd.C k52 x_ (some ⟨rl, 0, none⟩) 2 [(⟨1, ⟨[(⟨0, 0⟩ : S60)]⟩, 0, false⟩ : S52), (⟨2, ⟨[(⟨1, 0⟩ : S60)]⟩, 3, true⟩ : S52)]) ∧ Kd.C k60 x_ Ad4 ([] : List _).length []) ∧ Kd.C k64 x_ Ad5 ([(⟨0, ⟨1, 0⟩⟩ : S64)] : List _).length [(⟨0, ⟨1, 0⟩⟩ : S64)])) (w := w6) S.out (by repeat (first | exact Below.refl _ _ | apply pw_below_drewN | apply below_drew1 | apply below_alloc)) hb (by repeat' (with_reducible first | exact stab_blk _ _ | exact stab_C _ _ _ _ | exact stab_base _ | exact stab_R _ _ _ _ _ _ | refine stab_and ?_ ?_))); clear hb; replace S := Aside0.mk (And.intro S.out (show w7.heap[gd]? = some (Obj.cells #[.int .i64 2, .int .i64 4, .int .i64 1, .int .i64 2, .slice Ad4 0 cd4, .slice Ad5 1 cd5] 32 (0, 0)) from hbox)); clear hbox) | ((with_reducible refine gate_dst (N := 38) rfl ?_); refine goesL_ (some 38) rfl rfl Try.func13 (by kernel_rfl) rfl #[.slice (some ⟨rl, 0, none⟩) 2 2, .int .i64 0, .int .i64 4] rfl (by (try simp only [List.map_toArray, List.map_cons, List.map_nil]); first | done | rfl) ?_; refine (feed_Reply.calls 9 _ _ [(⟨1, ⟨[(⟨0, 0⟩ : S60)]⟩, 0, false⟩ : S52), (⟨2, ⟨[(⟨1, 0⟩ : S60)]⟩, 3, true⟩ : S52)] 0 4 _ _ _ _ _ _ _ _ ?side1 ?side2 P2.out).mono ?_; (case side1 => exact stab_now (P := (fun x_ => Kd.C k52 x_ (some ⟨rl, 0, none⟩) 2 [(⟨1, ⟨[(⟨0, 0⟩ : S60)]⟩, 0, false⟩ : S52), (⟨2, ⟨[(⟨1, 0⟩ : S60)]⟩, 3, true⟩ : S52)])) (w := w7) S.out.1.1.1.2 (by repeat (first | exact Below.refl _ _ | apply pw_below_drewN | apply below_drew1 | apply below_alloc)) (stab_C _ _ _ _)); (case side2 => decide); rintro e w8 ⟨vw4, vw5, rfl, ho0, ho1, hb⟩; refine ⟨_, rfl, ?_⟩; obtain ⟨Aw4, cw4, e0, hlcw4, hC0⟩ := Kd.R_reads ho0; subst e0; have HLcw4 := Aside0.mk hlcw4; clear hlcw4 ho0; obtain ⟨Aw5, cw5, e1, hlcw5, hC1⟩ := Kd.R_reads ho1; subst e1; have HLcw5 := Aside0.mk hlcw5; clear hlcw5 ho1; replace S := Aside0.mk (stab_step (P := (fun x_ => ((((((((Below w.heap.size w x_) ∧ Kd.C k60 x_ (some ⟨ra, 0, none⟩) 1 [(⟨0, 0⟩ : S60)]) ∧ x_.heap[ga]? = some (Obj.cells #[.slice (some ⟨ra, 0, none⟩) 1 1] 25 (0, 0))) ∧ Kd.C k60 x_ (some ⟨rb, 0, none⟩) 1 [(⟨1, 0⟩ : S60)]) ∧ x_.heap[gb]? = some (Obj.cells #[.slice (some ⟨rb, 0, none⟩) 1 1] 25 (0, 0))) ∧ Kd.C k52 x_ (some ⟨rl, 0, none⟩) 2 [(⟨1, ⟨[(⟨0, 0⟩ : S60)]⟩, 0, false⟩ : S52), (⟨2, ⟨[(⟨1, 0⟩ : S60)]⟩, 3, true⟩ : S52)]) ∧ Kd.C k60 x_ Ad4 ([] : List _).length []) ∧ Kd.C k64 x_ Ad5 ([(⟨0, ⟨1, 0⟩⟩ : S64)] : List _).length [(⟨0, ⟨1, 0⟩⟩ : S64)]) ∧ x_.heap[gd]? = some (Obj.cells #[.int .i64 2, .int .i64 4, .int .i64 1, .int .i64 2, .slice Ad4 0 cd4, .slice Ad5 1 cd5] 32 (0, 0)))) (w := w7) S.out (by repeat (first | exact Below.refl _ _ | apply pw_below_drewN | apply below_drew1 | apply below_alloc)) hb (by repeat' (with_reducible first | exact stab_blk _ _ | exact stab_C _ _ _ _ | exact stab_base _ | exact stab_R _ _ _ _ _ _ | refine stab_and ?_ ?_))); clear hb; replace S := Aside0.mk (And.intro S.out (show Kd.C k60 w8 Aw4 ([(⟨1, 0⟩ : S60)] : List _).length [(⟨1, 0⟩ : S60)] from hC0)); clear hC0; replace S := Aside0.mk (And.intro S.out (show Kd.C k64 w8 Aw5 ([] : List _).length [] from hC1)); clear hC1) | ((with_reducible refine gate_dst (N := 6) rfl ?_); refine var_event ?hg (N := 6) ?hd ?hg2 ?hn2 (z := #[.int .i64 0, .int .i64 0, .int .i64 0, .int .i64 0, .slice none 0 0, .slice none 0 0]) (cs := #[.int .i64 1, .int .i64 4, .int .i64 0, .int .i64 2, .slice Aw4 1 cw4, .slice Aw5 0 cw5]) (T := 32) ?hr ?hs ?_; (case hg => rfl); (case hd => rfl); (case hg2 => rfl); (case hn2 => rfl); (case hr => first | (go_simp; done) | (go_simp; rfl)); (case hs => first | (go_simp; done) | (go_simp; rfl)); intro gw hg w9 hbox hb; clear hg; replace S := Aside0.mk (stab_step (P := (fun x_ => ((((((((((Below w.heap.size w x_) ∧ Kd.C k60 x_ (some ⟨ra, 0, none⟩) 1 [(⟨0, 0⟩ : S60)]) ∧ x_.heap[ga]? = some (Obj.cells #[.slice (some ⟨ra, 0, none⟩) 1 1] 25 (0, 0))) ∧ Kd.C k60 x_ (some ⟨rb, 0, none⟩) 1 [(⟨1, 0⟩ : S60)]) ∧ x_.heap[gb]? = some (Obj.cells #[.slice (some ⟨rb, 0, none⟩) 1 1] 25 (0, 0))) ∧ Kd.C k52 x_ (some ⟨rl, 0, none⟩) 2 [(⟨1, ⟨[(⟨0, 0⟩ : S60)]⟩, 0, false⟩ : S52), (⟨2, ⟨[(⟨1, 0⟩ : S60)]⟩, 3, true⟩ : S52)]) ∧ Kd.C k60 x_ Ad4 ([] : List _).length []) ∧ Kd.C k64 x_ Ad5 ([(⟨0, ⟨1, 0⟩⟩ : S64)] : List _).length [(⟨0, ⟨1, 0⟩⟩ : S64)]) ∧ x_.heap[gd]? = some (Obj.cells #[.int .i64 2, .int .i64 4, .int .i64 1, .int .i64 2, .slice Ad4 0 cd4, .slice Ad5 1 cd5] 32 (0, 0))) ∧ Kd.C k60 x_ Aw4 ([(⟨1, 0⟩ : S60)] : List _).length [(⟨1, 0⟩ : S60)]) ∧ Kd.C k64 x_ Aw5 ([] : List _).length [])) (w := w8) S.out (by repeat (first | exact Below.refl _ _ | apply pw_below_drewN | apply below_drew1 | apply below_alloc)) hb (by repeat' (with_reducible first | exact stab_blk _ _ | exact stab_C _ _ _ _ | exact stab_base _ | exact stab_R _ _ _ _ _ _ | refine stab_and ?_ ?_))); clear hb; replace S := Aside0.mk (And.intro S.out (show w9.heap[gw]? = some (Obj.cells #[.int .i64 1, .int .i64 4, .int .i64 0, .int .i64 2, .slice Aw4 1 cw4, .slice Aw5 0 cw5] 32 (0, 0)) from hbox)); clear hbox) | ((with_reducible refine gate_dst (N := 43) rfl ?_); refine goesL_ (some 43) rfl rfl Try.func13 (by kernel_rfl) rfl #[.slice (some ⟨rl, 0, none⟩) 2 2, .int .i64 2, .int .i64 4] rfl (by (try simp only [List.map_toArray, List.map_cons, List.map_nil]); first | done | rfl) ?_; refine (feed_Reply.calls 9 _ _ [(⟨1, ⟨[(⟨0, 0⟩ : S60)]⟩, 0, false⟩ : S52), (⟨2, ⟨[(⟨1, 0⟩ : S60)]⟩, 3, true⟩ : S52)] 2 4 _ _ _ _ _ _ _ _ ?side1 ?side2 P3.out).mono ?_; (case side1 => exact stab_now (P := (fun x_ => Kd.C k52 x_ (some ⟨rl, 0, none⟩) 2 [(⟨1, ⟨[(⟨0, 0⟩ : S60)]⟩, 0, false⟩ : S52), (⟨2, ⟨[(⟨1, 0⟩ : S60)]⟩, 3, true⟩ : S52)])) (w := w9) S.out.1.1.1.1.1.1.2 (by repeat (first | exact Below.refl _ _ | apply pw_below_drewN | apply below_drew1 | apply below_alloc)) (stab_C _ _ _ _)); (case side2 => decide); rintro e w10 ⟨vz4, vz5, rfl, ho0, ho1, hb⟩; refine ⟨_, rfl, ?_⟩; obtain ⟨Az4, cz4, e0, hlcz4, hC0⟩ := Kd.R_reads ho0; subst e0; have HLcz4 := Aside0.mk hlcz4; clear hlcz4 ho0; obtain ⟨Az5, cz5, e1, hlcz5, hC1⟩ := Kd.R_reads ho1; subst e1; have HLcz5 := Aside0.mk hlcz5; clear hlcz5 ho1; replace S := Aside0.mk (stab_step (P := (fun x_ => (((((((((((Below w.heap.size w x_) ∧ Kd.C k60 x_ (some ⟨ra, 0, none⟩) 1 [(⟨0, 0⟩ : S60)]) ∧ x_.heap[ga]? = some (Obj.cells #[.slice (some ⟨ra, 0, none⟩) 1 1] 25 (0, 0))) ∧ Kd.C k60 x_ (some ⟨rb, 0, none⟩) 1 [(⟨1, 0⟩ : S60)]) ∧ x_.heap[gb]? = some (Obj.cells #[.slice (some ⟨rb, 0, none⟩) 1 1] 25 (0, 0))) ∧ Kd.C k52 x_ (some ⟨rl, 0, none⟩) 2 [(⟨1, ⟨[(⟨0, 0⟩ : S60)]⟩, 0, false⟩ : S52), (⟨2, ⟨[(⟨1, 0⟩ : S60)]⟩, 3, true⟩ : S52)]) ∧ Kd.C k60 x_ Ad4 ([] : List _).length []) ∧ Kd.C k64 x_ Ad5 ([(⟨0, ⟨1, 0⟩⟩ : S64)] : List _).length [(⟨0, ⟨1, 0⟩⟩ : S64)]) ∧ x_.heap[gd]? = some (Obj.cells #[.int .i64 2, .int .i64 4, .int .i64 1, .int .i64 2, .slice Ad4 0 cd4, .slice Ad5 1 cd5] 32 (0, 0))) ∧ Kd.C k60 x_ Aw4 ([(⟨1, 0⟩ : S60)] : List _).length [(⟨1, 0⟩ : S60)]) ∧ Kd.C k64 x_ Aw5 ([] : List _).length []) ∧ x_.heap[gw]? = some (Obj.cells #[.int .i64 1, .int .i64 4, .int .i64 0, .int .i64 2, .slice Aw4 1 cw4, .slice Aw5 0 cw5] 32 (0, 0)))) (w := w9) S.out (by repeat (first | exact Below.refl _ _ | apply pw_below_drewN | apply below_drew1 | apply below_alloc)) hb (by repeat' (with_reducible first | exact stab_blk _ _ | exact stab_C _ _ _ _ | exact stab_base _ | exact stab_R _ _ _ _ _ _ | refine stab_and ?_ ?_))); clear hb; replace S := Aside0.mk (And.intro S.out (show Kd.C k60 w10 Az4 ([] : List _).length [] from hC0)); clear hC0; replace S := Aside0.mk (And.intro S.out (show Kd.C k64 w10 Az5 ([] : List _).length [] from hC1)); clear hC1) | ((with_reducible refine gate_dst (N := 8) rfl ?_); refine var_event ?hg (N := 8) ?hd ?hg2 ?hn2 (z := #[.int .i64 0, .int .i64 0, .int .i64 0, .int .i64 0, .slice none 0 0, .slice none 0 0]) (cs := #[.int .i64 0, .int .i64 0, .int .i64 0, .int .i64 0, .slice Az4 0 cz4, .slice Az5 0 cz5]) (T := 32) ?hr ?hs ?_; (case hg => rfl); (case hd => rfl); (case hg2 => rfl); (case hn2 => rfl); (case hr => first | (go_simp; done) | (go_simp; rfl)); (case hs => first | (go_simp; done) | (go_simp; rfl)); intro gz hg w11 hbox hb; clear hg; replace S := Aside0.mk (stab_step (P := (fun x_ => (((((((((((((Below w.heap.size w x_) ∧ Kd.C k60 x_ (some ⟨ra, 0, none⟩) 1 [(⟨0, 0⟩ : S60)]) ∧ x_.heap[ga]? = some (Obj.cells #[.slice (some ⟨ra, 0, none⟩) 1 1] 25 (0, 0))) ∧ Kd.C k60 x_ (some ⟨rb, 0, none⟩) 1 [(⟨1, 0⟩ : S60)]) ∧ x_.heap[gb]? = some (Obj.cells #[.slice (some ⟨rb, 0, none⟩) 1 1] 25 (0, 0))) ∧ Kd.C k52 x_ (some ⟨rl, 0, none⟩) 2 [(⟨1, ⟨[(⟨0, 0⟩ : S60)]⟩, 0, false⟩ : S52), (⟨2, ⟨[(⟨1, 0⟩ : S60)]⟩, 3, true⟩ : S52)]) ∧ Kd.C k60 x_ Ad4 ([] : List _).length []) ∧ Kd.C k64 x_ Ad5 ([(⟨0, ⟨1, 0⟩⟩ : S64)] : List _).length [(⟨0, ⟨1, 0⟩⟩ : S64)]) ∧ x_.heap[gd]? = some (Obj.cells #[.int .i64 2, .int .i64 4, .int .i64 1, .int .i64 2, .slice Ad4 0 cd4, .slice Ad5 1 cd5] 32 (0, 0))) ∧ Kd.C k60 x_ Aw4 ([(⟨1, 0⟩ : S60)] : List _).length [(⟨1, 0⟩ : S60)]) ∧ Kd.C k64 x_ Aw5 ([] : List _).length []) ∧ x_.heap[gw]? = some (Obj.cells #[.int .i64 1, .int .i64 4, .int .i64 0, .int .i64 2, .slice Aw4 1 cw4, .slice Aw5 0 cw5] 32 (0, 0))) ∧ Kd.C k60 x_ Az4 ([] : List _).length []) ∧ Kd.C k64 x_ Az5 ([] : List _).length [])) (w := w10) S.out (by repeat (first | exact Below.refl _ _ | apply pw_below_drewN | apply below_drew1 | apply below_alloc)) hb (by repeat' (with_reducible first | exact stab_blk _ _ | exact stab_C _ _ _ _ | exact stab_base _ | exact stab_R _ _ _ _ _ _ | refine stab_and ?_ ?_))); clear hb; replace S := Aside0.mk (And.intro S.out (show w11.heap[gz]? = some (Obj.cells #[.int .i64 0, .int .i64 0, .int .i64 0, .int .i64 0, .slice Az4 0 cz4, .slice Az5 0 cz5] 32 (0, 0)) from hbox)); clear hbox; have hcz_ga_0 : World.cell? w11 ⟨ga, 0, none⟩ = some (.slice (some ⟨ra, 0, none⟩) 1 1) := (blk_cell S.out.1.1.1.1.1.1.1.1.1.1.1.1.2 0).trans rfl; have hcz_gd_0 : World.cell? w11 ⟨gd, 0, none⟩ = some (.int .i64 2) := (blk_cell S.out.1.1.1.1.1.1.2 0).trans rfl; have hcz_gd_1 : World.cell? w11 ⟨gd, 1, none⟩ = some (.int .i64 4) := (blk_cell S.out.1.1.1.1.1.1.2 1).trans rfl; have hcz_gd_2 : World.cell? w11 ⟨gd, 2, none⟩ = some (.int .i64 1) := (blk_cell S.out.1.1.1.1.1.1.2 2).trans rfl; have hcz_gd_3 : World.cell? w11 ⟨gd, 3, none⟩ = some (.int .i64 2) := (blk_cell S.out.1.1.1.1.1.1.2 3).trans rfl; have hcz_gd_4 : World.cell? w11 ⟨gd, 4, none⟩ = some (.slice Ad4 0 cd4) := (blk_cell S.out.1.1.1.1.1.1.2 4).trans rfl; have hcz_gd_5 : World.cell? w11 ⟨gd, 5, none⟩ = some (.slice Ad5 1 cd5) := (blk_cell S.out.1.1.1.1.1.1.2 5).trans rfl) | ((with_reducible refine gate_dst (N := 50) rfl ?_); refine goesL_ (some 50) rfl rfl Try.func21 (by kernel_rfl) rfl #[.agg #[.int .i64 1, .slice (some ⟨ra, 0, none⟩) 1 1], .agg #[.int .i64 2, .int .i64 4, .int .i64 1, .int .i64 2, .slice Ad4 0 cd4, .slice Ad5 1 cd5]] rfl (by (try simp only [List.map_toArray, List.map_cons, List.map_nil]); first | done | rfl) ?_; refine (feed_Take.calls 9 _ _ _ [(⟨0, 0⟩ : S60)] _ _ _ _ _ _ [] _ _ [(⟨0, ⟨1, 0⟩⟩ : S64)] _ _ _ _ ?side1 ?side2 ?side3 ?side4 ?side5 ?side6 P4.out).mono ?_; (case side1 => exact stab_now (P := (fun x_ => Kd.C k60 x_ (some ⟨ra, 0, none⟩) 1 [(⟨0, 0⟩ : S60)])) (w := w11) S.out.1.1.1.1.1.1.1.1.1.1.1.1.1.2 (by repeat (first | exact Below.refl _ _ | apply pw_below_drewN | apply below_drew1 | apply below_alloc)) (stab_C _ _ _ _)); (case side2 => decide); (case side3 => exact stab_now (P := (fun x_ => Kd.C k60 x_ Ad4 ([] : List _).length [])) (w := w11) S.out.1.1.1.1.1.1.1.1.2 (by repeat (first | exact Below.refl _ _ | apply pw_below_drewN | apply below_drew1 | apply below_alloc)) (stab_C _ _ _ _)); (case side4 => exact HLcd4.out); (case side5 => exact stab_now (P := (fun x_ => Kd.C k64 x_ Ad5 ([(⟨0, ⟨1, 0⟩⟩ : S64)] : List _).length [(⟨0, ⟨1, 0⟩⟩ : S64)])) (w := w11) S.out.1.1.1.1.1.1.1.2 (by repeat (first | exact Below.refl _ _ | apply pw_below_drewN | apply below_drew1 | apply below_alloc)) (stab_C _ _ _ _)); (case side6 => exact HLcd5.out); rintro e w12 ⟨vc, rfl, ho0, hb⟩; refine ⟨_, rfl, ?_⟩; obtain ⟨Ac, cc, e0, hlcc, hC0⟩ := Kd.R_reads ho0; subst e0; have HLcc := Aside0.mk hlcc; clear hlcc ho0; replace S := Aside0.mk (stab_step (P := (fun x_ => ((((((((((((((Below w.heap.size w x_) ∧ Kd.C k60 x_ (some ⟨ra, 0, none⟩) 1 [(⟨0, 0⟩ : S60)]) ∧ x_.heap[ga]? = some (Obj.cells #[.slice (some ⟨ra, 0, none⟩) 1 1] 25 (0, 0))) ∧ Kd.C k60 x_ (some ⟨rb, 0, none⟩) 1 [(⟨1, 0⟩ : S60)]) ∧ x_.heap[gb]? = some (Obj.cells #[.slice (some ⟨rb, 0, none⟩) 1 1] 25 (0, 0))) ∧ Kd.C k52 x_ (some ⟨rl, 0, none⟩) 2 [(⟨1, ⟨[(⟨0, 0⟩ : S60)]⟩, 0, false⟩ : S52), (⟨2, ⟨[(⟨1, 0⟩ : S60)]⟩, 3, true⟩ : S52)]) ∧ Kd.C k60 x_ Ad4 ([] : List _).length []) ∧ Kd.C k64 x_ Ad5 ([(⟨0, ⟨1, 0⟩⟩ : S64)] : List _).length [(⟨0, ⟨1, 0⟩⟩ : S64)]) ∧ x_.heap[gd]? = some (Obj.cells #[.int .i64 2, .int .i64 4, .int .i64 1, .int .i64 2, .slice Ad4 0 cd4, .slice Ad5 1 cd5] 32 (0, 0))) ∧ Kd.C k60 x_ Aw4 ([(⟨1, 0⟩ : S60)] : List _).length [(⟨1, 0⟩ : S60)]) ∧ Kd.C k64 x_ Aw5 ([] : List _).length []) ∧ x_.heap[gw]? = some (Obj.cells #[.int .i64 1, .int .i64 4, .int .i64 0, .int .i64 2, .slice Aw4 1 cw4, .slice Aw5 0 cw5] 32 (0, 0))) ∧ Kd.C k60 x_ Az4 ([] : List _).length []) ∧ Kd.C k64 x_ Az5 ([] : List _).length []) ∧ x_.heap[gz]? = some (Obj.cells #[.int .i64 0, .int .i64 0, .int .i64 0, .int .i64 0, .slice Az4 0 cz4, .slice Az5 0 cz5] 32 (0, 0)))) (w := w11) S.out (by repeat (first | exact Below.refl _ _ | apply pw_below_drewN | apply below_drew1 | apply below_alloc)) hb (by repeat' (with_reducible first | exact stab_blk _ _ | exact stab_C _ _ _ _ | exact stab_base _ | exact stab_R _ _ _ _ _ _ | refine stab_and ?_ ?_))); clear hb; (try clear hcz_ga_0); (try clear hcz_gd_0); (try clear hcz_gd_1); (try clear hcz_gd_2); (try clear hcz_gd_3); (try clear hcz_gd_4); (try clear hcz_gd_5); replace S := Aside0.mk (And.intro S.out (show Kd.C k60 w12 Ac ([(⟨1, 0⟩ : S60)] : List _).length [(⟨1, 0⟩ : S60)] from hC0)); clear hC0) | ((with_reducible refine gate_dst (N := 10) rfl ?_); refine var_event ?hg (N := 10) ?hd ?hg2 ?hn2 (z := #[.int .i64 0, .slice none 0 0]) (cs := #[.int .i64 2, .slice Ac 1 cc]) (T := 27) ?hr ?hs ?_; (case hg => rfl); (case hd => rfl); (case hg2 => rfl); (case hn2 => rfl); (case hr => first | (go_simp; done) | (go_simp; rfl)); (case hs => first | (go_simp; done) | (go_simp; rfl)); intro gc hg w13 hbox hb; clear hg; replace S := Aside0.mk (stab_step (P := (fun x_ => (((((((((((((((Below w.heap.size w x_) ∧ Kd.C k60 x_ (some ⟨ra, 0, none⟩) 1 [(⟨0, 0⟩ : S60)]) ∧ x_.heap[ga]? = some (Obj.cells #[.slice (some ⟨ra, 0, none⟩) 1 1] 25 (0, 0))) ∧ Kd.C k60 x_ (some ⟨rb, 0, none⟩) 1 [(⟨1, 0⟩ : S60)]) ∧ x_.heap[gb]? = some (Obj.cells #[.slice (some ⟨rb, 0, none⟩) 1 1] 25 (0, 0))) ∧ Kd.C k52 x_ (some ⟨rl, 0, none⟩) 2 [(⟨1, ⟨[(⟨0, 0⟩ : S60)]⟩, 0, false⟩ : S52), (⟨2, ⟨[(⟨1, 0⟩ : S60)]⟩, 3, true⟩ : S52)]) ∧ Kd.C k60 x_ Ad4 ([] : List _).length []) ∧ Kd.C k64 x_ Ad5 ([(⟨0, ⟨1, 0⟩⟩ : S64)] : List _).length [(⟨0, ⟨1, 0⟩⟩ : S64)]) ∧ x_.heap[gd]? = some (Obj.cells #[.int .i64 2, .int .i64 4, .int .i64 1, .int .i64 2, .slice Ad4 0 cd4, .slice Ad5 1 cd5] 32 (0, 0))) ∧ Kd.C k60 x_ Aw4 ([(⟨1, 0⟩ : S60)] : List _).length [(⟨1, 0⟩ : S60)]) ∧ Kd.C k64 x_ Aw5 ([] : List _).length []) ∧ x_.heap[gw]? = some (Obj.cells #[.int .i64 1, .int .i64 4, .int .i64 0, .int .i64 2, .slice Aw4 1 cw4, .slice Aw5 0 cw5] 32 (0, 0))) ∧ Kd.C k60 x_ Az4 ([] : List _).length []) ∧ Kd.C k64 x_ Az5 ([] : List _).length []) ∧ x_.heap[gz]? = some (Obj.cells #[.int .i64 0, .int .i64 0, .int .i64 0, .int .i64 0, .slice Az4 0 cz4, .slice Az5 0 cz5] 32 (0, 0))) ∧ Kd.C k60 x_ Ac ([(⟨1, 0⟩ : S60)] : List _).length [(⟨1, 0⟩ : S60)])) (w := w12) S.out (by repeat (first | exact Below.refl _ _ | apply pw_below_drewN | apply below_drew1 | apply below_alloc)) hb (by repeat' (with_reducible first | exact stab_blk _ _ | exact stab_C _ _ _ _ | exact stab_base _ | exact stab_R _ _ _ _ _ _ | refine stab_and ?_ ?_))); clear hb; replace S := Aside0.mk (And.intro S.out (show w13.heap[gc]? = some (Obj.cells #[.int .i64 2, .slice Ac 1 cc] 27 (0, 0)) from hbox)); clear hbox; have hcz_gc_0 : World.cell? w13 ⟨gc, 0, none⟩ = some (.int .i64 2) := (blk_cell S.out.2 0).trans rfl; have hcz_gc_1 : World.cell? w13 ⟨gc, 1, none⟩ = some (.slice Ac 1 cc) := (blk_cell S.out.2 1).trans rfl; have hcz_gd_0 : World.cell? w13 ⟨gd, 0, none⟩ = some (.int .i64 2) := (blk_cell S.out.1.1.1.1.1.1.1.1.2 0).trans rfl; have hcz_gd_1 : World.cell? w13 ⟨gd, 1, none⟩ = some (.int .i64 4) := (blk_cell S.out.1.1.1.1.1.1.1.1.2 1).trans rfl; have hcz_gd_2 : World.cell? w13 ⟨gd, 2, none⟩ = some (.int .i64 1) := (blk_cell S.out.1.1.1.1.1.1.1.1.2 2).trans rfl; have hcz_gd_3 : World.cell? w13 ⟨gd, 3, none⟩ = some (.int .i64 2) := (blk_cell S.out.1.1.1.1.1.1.1.1.2 3).trans rfl; have hcz_gd_4 : World.cell? w13 ⟨gd, 4, none⟩ = some (.slice Ad4 0 cd4) := (blk_cell S.out.1.1.1.1.1.1.1.1.2 4).trans rfl; have hcz_gd_5 : World.cell? w13 ⟨gd, 5, none⟩ = some (.slice Ad5 1 cd5) := (blk_cell S.out.1.1.1.1.1.1.1.1.2 5).trans rfl) | ((with_reducible refine gate_dst (N := 56) rfl ?_); refine goesL_ (some 56) rfl rfl Try.func21 (by kernel_rfl) rfl #[.agg #[.int .i64 2, .slice Ac 1 cc], .agg #[.int .i64 2, .int .i64 4, .int .i64 1, .int .i64 2, .slice Ad4 0 cd4, .slice Ad5 1 cd5]] rfl (by (try simp only [List.map_toArray, List.map_cons, List.map_nil]); first | done | rfl) ?_; refine (feed_Take.calls 9 _ _ _ [(⟨1, 0⟩ : S60)] _ _ _ _ _ _ [] _ _ [(⟨0, ⟨1, 0⟩⟩ : S64)] _ _ _ _ ?side1 ?side2 ?side3 ?side4 ?side5 ?side6 P5.out).mono ?_; (case side1 => exact stab_now (P := (fun x_ => Kd.C k60 x_ Ac ([(⟨1, 0⟩ : S60)] : List _).length [(⟨1, 0⟩ : S60)])) (w := w13) S.out.1.2 (by repeat (first | exact Below.refl _ _ | apply pw_below_drewN | apply below_drew1 | apply below_alloc)) (stab_C _ _ _ _)); (case side2 => exact HLcc.out); (case side3 => exact stab_now (P := (fun x_ => Kd.C k60 x_ Ad4 ([] : List _).length [])) (w := w13) S.out.1.1.1.1.1.1.1.1.1.1.2 (by repeat (first | exact Below.refl _ _ | apply pw_below_drewN | apply below_drew1 | apply below_alloc)) (stab_C _ _ _ _)); (case side4 => exact HLcd4.out); (case side5 => exact stab_now (P := (fun x_ => Kd.C k64 x_ Ad5 ([(⟨0, ⟨1, 0⟩⟩ : S64)] : List _).length [(⟨0, ⟨1, 0⟩⟩ : S64)])) (w := w13) S.out.1.1.1.1.1.1.1.1.1.2 (by repeat (first | exact Below.refl _ _ | apply pw_below_drewN | apply below_drew1 | apply below_alloc)) (stab_C _ _ _ _)); (case side6 => exact HLcd5.out); rintro e w14 ⟨vy, rfl, ho0, hb⟩; refine ⟨_, rfl, ?_⟩; obtain ⟨Ay, cy, e0, hlcy, hC0⟩ := Kd.R_reads ho0; subst e0; have HLcy := Aside0.mk hlcy; clear hlcy ho0; replace S := Aside0.mk (stab_step (P := (fun x_ => ((((((((((((((((Below w.heap.size w x_) ∧ Kd.C k60 x_ (some ⟨ra, 0, none⟩) 1 [(⟨0, 0⟩ : S60)]) ∧ x_.heap[ga]? = some (Obj.cells #[.slice (some ⟨ra, 0, none⟩) 1 1] 25 (0, 0))) ∧ Kd.C k60 x_ (some ⟨rb, 0, none⟩) 1 [(⟨1, 0⟩ : S60)]) ∧ x_.heap[gb]? = some (Obj.cells #[.slice (some ⟨rb, 0, none⟩) 1 1] 25 (0, 0))) ∧ Kd.C k52 x_ (some ⟨rl, 0, none⟩) 2 [(⟨1, ⟨[(⟨0, 0⟩ : S60)]⟩, 0, false⟩ : S52), (⟨2, ⟨[(⟨1, 0⟩ : S60)]⟩, 3, true⟩ : S52)]) ∧ Kd.C k60 x_ Ad4 ([] : List _).length []) ∧ Kd.C k64 x_ Ad5 ([(⟨0, ⟨1, 0⟩⟩ : S64)] : List _).length [(⟨0, ⟨1, 0⟩⟩ : S64)]) ∧ x_.heap[gd]? = some (Obj.cells #[.int .i64 2, .int .i64 4, .int .i64 1, .int .i64 2, .slice Ad4 0 cd4, .slice Ad5 1 cd5] 32 (0, 0))) ∧ Kd.C k60 x_ Aw4 ([(⟨1, 0⟩ : S60)] : List _).length [(⟨1, 0⟩ : S60)]) ∧ Kd.C k64 x_ Aw5 ([] : List _).length []) ∧ x_.heap[gw]? = some (Obj.cells #[.int .i64 1, .int .i64 4, .int .i64 0, .int .i64 2, .slice Aw4 1 cw4, .slice Aw5 0 cw5] 32 (0, 0))) ∧ Kd.C k60 x_ Az4 ([] : List _).length []) ∧ Kd.C k64 x_ Az5 ([] : List _).length []) ∧ x_.heap[gz]? = some (Obj.cells #[.int .i64 0, .int .i64 0, .int .i64 0, .int .i64 0, .slice Az4 0 cz4, .slice Az5 0 cz5] 32 (0, 0))) ∧ Kd.C k60 x_ Ac ([(⟨1, 0⟩ : S60)] : List _).length [(⟨1, 0⟩ : S60)]) ∧ x_.heap[gc]? = some (Obj.cells #[.int .i64 2, .slice Ac 1 cc] 27 (0, 0)))) (w := w13) S.out (by repeat (first | exact Below.refl _ _ | apply pw_below_drewN | apply below_drew1 | apply below_alloc)) hb (by repeat' (with_reducible first | exact stab_blk _ _ | exact stab_C _ _ _ _ | exact stab_base _ | exact stab_R _ _ _ _ _ _ | refine stab_and ?_ ?_))); clear hb; (try clear hcz_gc_0); (try clear hcz_gc_1); (try clear hcz_gd_0); (try clear hcz_gd_1); (try clear hcz_gd_2); (try clear hcz_gd_3); (try clear hcz_gd_4); (try clear hcz_gd_5); replace S := Aside0.mk (And.intro S.out (show Kd.C k60 w14 Ay ([] : List _).length [] from hC0)); clear hC0) | ((with_reducible refine gate_dst (N := 12) rfl ?_); refine var_event ?hg (N := 12) ?hd ?hg2 ?hn2 (z := #[.int .i64 0, .slice none 0 0]) (cs := #[.int .i64 0, .slice Ay 0 cy]) (T := 27) ?hr ?hs ?_; (case hg => rfl); (case hd => rfl); (case hg2 => rfl); (case hn2 => rfl); (case hr => first | (go_simp; done) | (go_simp; rfl)); (case hs => first | (go_simp; done) | (go_simp; rfl)); intro gy hg w15 hbox hb; clear hg; replace S := Aside0.mk (stab_step (P := (fun x_ => (((((((((((((((((Below w.heap.size w x_) ∧ Kd.C k60 x_ (some ⟨ra, 0, none⟩) 1 [(⟨0, 0⟩ : S60)]) ∧ x_.heap[ga]? = some (Obj.cells #[.slice (some ⟨ra, 0, none⟩) 1 1] 25 (0, 0))) ∧ Kd.C k60 x_ (some ⟨rb, 0, none⟩) 1 [(⟨1, 0⟩ : S60)]) ∧ x_.heap[gb]? = some (Obj.cells #[.slice (some ⟨rb, 0, none⟩) 1 1] 25 (0, 0))) ∧ Kd.C k52 x_ (some ⟨rl, 0, none⟩) 2 [(⟨1, ⟨[(⟨0, 0⟩ : S60)]⟩, 0, false⟩ : S52), (⟨2, ⟨[(⟨1, 0⟩ : S60)]⟩, 3, true⟩ : S52)]) ∧ Kd.C k60 x_ Ad4 ([] : List _).length []) ∧ Kd.C k64 x_ Ad5 ([(⟨0, ⟨1, 0⟩⟩ : S64)] : List _).length [(⟨0, ⟨1, 0⟩⟩ : S64)]) ∧ x_.heap[gd]? = some (Obj.cells #[.int .i64 2, .int .i64 4, .int .i64 1, .int .i64 2, .slice Ad4 0 cd4, .slice Ad5 1 cd5] 32 (0, 0))) ∧ Kd.C k60 x_ Aw4 ([(⟨1, 0⟩ : S60)] : List _).length [(⟨1, 0⟩ : S60)]) ∧ Kd.C k64 x_ Aw5 ([] : List _).length []) ∧ x_.heap[gw]? = some (Obj.cells #[.int .i64 1, .int .i64 4, .int .i64 0, .int .i64 2, .slice Aw4 1 cw4, .slice Aw5 0 cw5] 32 (0, 0))) ∧ Kd.C k60 x_ Az4 ([] : List _).length []) ∧ Kd.C k64 x_ Az5 ([] : List _).length []) ∧ x_.heap[gz]? = some (Obj.cells #[.int .i64 0, .int .i64 0, .int .i64 0, .int .i64 0, .slice Az4 0 cz4, .slice Az5 0 cz5] 32 (0, 0))) ∧ Kd.C k60 x_ Ac ([(⟨1, 0⟩ : S60)] : List _).length [(⟨1, 0⟩ : S60)]) ∧ x_.heap[gc]? = some (Obj.cells #[.int .i64 2, .slice Ac 1 cc] 27 (0, 0))) ∧ Kd.C k60 x_ Ay ([] : List _).length [])) (w := w14) S.out (by repeat (first | exact Below.refl _ _ | apply pw_below_drewN | apply below_drew1 | apply below_alloc)) hb (by repeat' (with_reducible first | exact stab_blk _ _ | exact stab_C _ _ _ _ | exact stab_base _ | exact stab_R _ _ _ _ _ _ | refine stab_and ?_ ?_))); clear hb; replace S := Aside0.mk (And.intro S.out (show w15.heap[gy]? = some (Obj.cells #[.int .i64 0, .slice Ay 0 cy] 27 (0, 0)) from hbox)); clear hbox; have hcz_gd_0 : World.cell? w15 ⟨gd, 0, none⟩ = some (.int .i64 2) := (blk_cell S.out.1.1.1.1.1.1.1.1.1.1.2 0).trans rfl; have hcz_gd_1 : World.cell? w15 ⟨gd, 1, none⟩ = some (.int .i64 4) := (blk_cell S.out.1.1.1.1.1.1.1.1.1.1.2 1).trans rfl; have hcz_gd_2 : World.cell? w15 ⟨gd, 2, none⟩ = some (.int .i64 1) := (blk_cell S.out.1.1.1.1.1.1.1.1.1.1.2 2).trans rfl; have hcz_gd_3 : World.cell? w15 ⟨gd, 3, none⟩ = some (.int .i64 2) := (blk_cell S.out.1.1.1.1.1.1.1.1.1.1.2 3).trans rfl; have hcz_gd_4 : World.cell? w15 ⟨gd, 4, none⟩ = some (.slice Ad4 0 cd4) := (blk_cell S.out.1.1.1.1.1.1.1.1.1.1.2 4).trans rfl; have hcz_gd_5 : World.cell? w15 ⟨gd, 5, none⟩ = some (.slice Ad5 1 cd5) := (blk_cell S.out.1.1.1.1.1.1.1.1.1.1.2 5).trans rfl) | ((with_reducible refine gate_dst (N := 62) rfl ?_); refine goesL_ (some 62) rfl rfl Try.func21 (by kernel_rfl) rfl #[.agg #[.int .i64 0, .slice none 0 0], .agg #[.int .i64 2, .int .i64 4, .int .i64 1, .int .i64 2, .slice Ad4 0 cd4, .slice Ad5 1 cd5]] rfl (by (try simp only [List.map_toArray, List.map_cons, List.map_nil]); first | done | rfl) ?_; refine (feed_Take.calls 9 _ _ _ [] _ _ _ _ _ _ [] _ _ [(⟨0, ⟨1, 0⟩⟩ : S64)] _ _ _ _ ?side1 ?side2 ?side3 ?side4 ?side5 ?side6 P6.out).mono ?_; (case side1 => exact Kd.C_nil _ _); (case side2 => exact Nat.le_refl _); (case side3 => exact stab_now (P := (fun x_ => Kd.C k60 x_ Ad4 ([] : List _).length [])) (w := w15) S.out.1.1.1.1.1.1.1.1.1.1.1.1.2 (by repeat (first | exact Below.refl _ _ | apply pw_below_drewN | apply below_drew1 | apply below_alloc)) (stab_C _ _ _ _)); (case side4 => exact HLcd4.out); (case side5 => exact stab_now (P := (fun x_ => Kd.C k64 x_ Ad5 ([(⟨0, ⟨1, 0⟩⟩ : S64)] : List _).length [(⟨0, ⟨1, 0⟩⟩ : S64)])) (w := w15) S.out.1.1.1.1.1.1.1.1.1.1.1.2 (by repeat (first | exact Below.refl _ _ | apply pw_below_drewN | apply below_drew1 | apply below_alloc)) (stab_C _ _ _ _)); (case side6 => exact HLcd5.out); rintro e w16 ⟨vx, rfl, ho0, hb⟩; refine ⟨_, rfl, ?_⟩; obtain ⟨Ax, cx, e0, hlcx, hC0⟩ := Kd.R_reads ho0; subst e0; have HLcx := Aside0.mk hlcx; clear hlcx ho0; replace S := Aside0.mk (stab_step (P := (fun x_ => ((((((((((((((((((Below w.heap.size w x_) ∧ Kd.C k60 x_ (some ⟨ra, 0, none⟩) 1 [(⟨0, 0⟩ : S60)]) ∧ x_.heap[ga]? = some (Obj.cells #[.slice (some ⟨ra, 0, none⟩) 1 1] 25 (0, 0))) ∧ Kd.C k60 x_ (some ⟨rb, 0, none⟩) 1 [(⟨1, 0⟩ : S60)]) ∧ x_.heap[gb]? = some (Obj.cells #[.slice (some ⟨rb, 0, none⟩) 1 1] 25 (0, 0))) ∧ Kd.C k52 x_ (some ⟨rl, 0, none⟩) 2 [(⟨1, ⟨[(⟨0, 0⟩ : S60)]⟩, 0, false⟩ : S52), (⟨2, ⟨[(⟨1, 0⟩ : S60)]⟩, 3, true⟩ : S52)]) ∧ Kd.C k60 x_ Ad4 ([] : List _).length []) ∧ Kd.C k64 x_ Ad5 ([(⟨0, ⟨1, 0⟩⟩ : S64)] : List _).length [(⟨0, ⟨1, 0⟩⟩ : S64)]) ∧ x_.heap[gd]? = some (Obj.cells #[.int .i64 2, .int .i64 4, .int .i64 1, .int .i64 2, .slice Ad4 0 cd4, .slice Ad5 1 cd5] 32 (0, 0))) ∧ Kd.C k60 x_ Aw4 ([(⟨1, 0⟩ : S60)] : List _).length [(⟨1, 0⟩ : S60)]) ∧ Kd.C k64 x_ Aw5 ([] : List _).length []) ∧ x_.heap[gw]? = some (Obj.cells #[.int .i64 1, .int .i64 4, .int .i64 0, .int .i64 2, .slice Aw4 1 cw4, .slice Aw5 0 cw5] 32 (0, 0))) ∧ Kd.C k60 x_ Az4 ([] : List _).length []) ∧ Kd.C k64 x_ Az5 ([] : List _).length []) ∧ x_.heap[gz]? = some (Obj.cells #[.int .i64 0, .int .i64 0, .int .i64 0, .int .i64 0, .slice Az4 0 cz4, .slice Az5 0 cz5] 32 (0, 0))) ∧ Kd.C k60 x_ Ac ([(⟨1, 0⟩ : S60)] : List _).length [(⟨1, 0⟩ : S60)]) ∧ x_.heap[gc]? = some (Obj.cells #[.int .i64 2, .slice Ac 1 cc] 27 (0, 0))) ∧ Kd.C k60 x_ Ay ([] : List _).length []) ∧ x_.heap[gy]? = some (Obj.cells #[.int .i64 0, .slice Ay 0 cy] 27 (0, 0)))) (w := w15) S.out (by repeat (first | exact Below.refl _ _ | apply pw_below_drewN | apply below_drew1 | apply below_alloc)) hb (by repeat' (with_reducible first | exact stab_blk _ _ | exact stab_C _ _ _ _ | exact stab_base _ | exact stab_R _ _ _ _ _ _ | refine stab_and ?_ ?_))); clear hb; (try clear hcz_gd_0); (try clear hcz_gd_1); (try clear hcz_gd_2); (try clear hcz_gd_3); (try clear hcz_gd_4); (try clear hcz_gd_5); replace S := Aside0.mk (And.intro S.out (show Kd.C k60 w16 Ax ([] : List _).length [] from hC0)); clear hC0) | ((with_reducible refine gate_dst (N := 14) rfl ?_); refine var_event ?hg (N := 14) ?hd ?hg2 ?hn2 (z := #[.int .i64 0, .slice none 0 0]) (cs := #[.int .i64 0, .slice Ax 0 cx]) (T := 27) ?hr ?hs ?_; (case hg => rfl); (case hd => rfl); (case hg2 => rfl); (case hn2 => rfl); (case hr => first | (go_simp; done) | (go_simp; rfl)); (case hs => first | (go_simp; done) | (go_simp; rfl)); intro gx hg w17 hbox hb; clear hg; replace S := Aside0.mk (stab_step (P := (fun x_ => (((((((((((((((((((Below w.heap.size w x_) ∧ Kd.C k60 x_ (some ⟨ra, 0, none⟩) 1 [(⟨0, 0⟩ : S60)]) ∧ x_.heap[ga]? = some (Obj.cells #[.slice (some ⟨ra, 0, none⟩) 1 1] 25 (0, 0))) ∧ Kd.C k60 x_ (some ⟨rb, 0, none⟩) 1 [(⟨1, 0⟩ : S60)]) ∧ x_.heap[gb]? = some (Obj.cells #[.slice (some ⟨rb, 0, none⟩) 1 1] 25 (0, 0))) ∧ Kd.C k52 x_ (some ⟨rl, 0, none⟩) 2 [(⟨1, ⟨[(⟨0, 0⟩ : S60)]⟩, 0, false⟩ : S52), (⟨2, ⟨[(⟨1, 0⟩ : S60)]⟩, 3, true⟩ : S52)]) ∧ Kd.C k60 x_ Ad4 ([] : List _).length []) ∧ Kd.C k64 x_ Ad5 ([(⟨0, ⟨1, 0⟩⟩ : S64)] : List _).length [(⟨0, ⟨1, 0⟩⟩ : S64)]) ∧ x_.heap[gd]? = some (Obj.cells #[.int .i64 2, .int .i64 4, .int .i64 1, .int .i64 2, .slice Ad4 0 cd4, .slice Ad5 1 cd5] 32 (0, 0))) ∧ Kd.C k60 x_ Aw4 ([(⟨1, 0⟩ : S60)] : List _).length [(⟨1, 0⟩ : S60)]) ∧ Kd.C k64 x_ Aw5 ([] : List _).length []) ∧ x_.heap[gw]? = some (Obj.cells #[.int .i64 1, .int .i64 4, .int .i64 0, .int .i64 2, .slice Aw4 1 cw4, .slice Aw5 0 cw5] 32 (0, 0))) ∧ Kd.C k60 x_ Az4 ([] : List _).length []) ∧ Kd.C k64 x_ Az5 ([] : List _).length []) ∧ x_.heap[gz]? = some (Obj.cells #[.int .i64 0, .int .i64 0, .int .i64 0, .int .i64 0, .slice Az4 0 cz4, .slice Az5 0 cz5] 32 (0, 0))) ∧ Kd.C k60 x_ Ac ([(⟨1, 0⟩ : S60)] : List _).length [(⟨1, 0⟩ : S60)]) ∧ x_.heap[gc]? = some (Obj.cells #[.int .i64 2, .slice Ac 1 cc] 27 (0, 0))) ∧ Kd.C k60 x_ Ay ([] : List _).length []) ∧ x_.heap[gy]? = some (Obj.cells #[.int .i64 0, .slice Ay 0 cy] 27 (0, 0))) ∧ Kd.C k60 x_ Ax ([] : List _).length [])) (w := w16) S.out (by repeat (first | exact Below.refl _ _ | apply pw_below_drewN | apply below_drew1 | apply below_alloc)) hb (by repeat' (with_reducible first | exact stab_blk _ _ | exact stab_C _ _ _ _ | exact stab_base _ | exact stab_R _ _ _ _ _ _ | refine stab_and ?_ ?_))); clear hb; replace S := Aside0.mk (And.intro S.out (show w17.heap[gx]? = some (Obj.cells #[.int .i64 0, .slice Ax 0 cx] 27 (0, 0)) from hbox)); clear hbox; have hcz_gw_0 : World.cell? w17 ⟨gw, 0, none⟩ = some (.int .i64 1) := (blk_cell S.out.1.1.1.1.1.1.1.1.1.2 0).trans rfl; have hcz_gw_1 : World.cell? w17 ⟨gw, 1, none⟩ = some (.int .i64 4) := (blk_cell S.out.1.1.1.1.1.1.1.1.1.2 1).trans rfl; have hcz_gw_2 : World.cell? w17 ⟨gw, 2, none⟩ = some (.int .i64 0) := (blk_cell S.out.1.1.1.1.1.1.1.1.1.2 2).trans rfl; have hcz_gw_3 : World.cell? w17 ⟨gw, 3, none⟩ = some (.int .i64 2) := (blk_cell S.out.1.1.1.1.1.1.1.1.1.2 3).trans rfl; have hcz_gw_4 : World.cell? w17 ⟨gw, 4, none⟩ = some (.slice Aw4 1 cw4) := (blk_cell S.out.1.1.1.1.1.1.1.1.1.2 4).trans rfl; have hcz_gw_5 : World.cell? w17 ⟨gw, 5, none⟩ = some (.slice Aw5 0 cw5) := (blk_cell S.out.1.1.1.1.1.1.1.1.1.2 5).trans rfl) | ((with_reducible refine gate_dst (N := 68) rfl ?_); refine goesL_ (some 68) rfl rfl Try.func21 (by kernel_rfl) rfl #[.agg #[.int .i64 0, .slice none 0 0], .agg #[.int .i64 1, .int .i64 4, .int .i64 0, .int .i64 2, .slice Aw4 1 cw4, .slice Aw5 0 cw5]] rfl (by (try simp only [List.map_toArray, List.map_cons, List.map_nil]); first | done | rfl) ?_; refine (feed_Take.calls 9 _ _ _ [] _ _ _ _ _ _ [(⟨1, 0⟩ : S60)] _ _ [] _ _ _ _ ?side1 ?side2 ?side3 ?side4 ?side5 ?side6 P7.out).mono ?_; (case side1 => exact Kd.C_nil _ _); (case side2 => exact Nat.le_refl _); (case side3 => exact stab_now (P := (fun x_ => Kd.C k60 x_ Aw4 ([(⟨1, 0⟩ : S60)] : List _).length [(⟨1, 0⟩ : S60)])) (w := w17) S.out.1.1.1.1.1.1.1.1.1.1.1.2 (by repeat (first | exact Below.refl _ _ | apply pw_below_drewN | apply below_drew1 | apply below_alloc)) (stab_C _ _ _ _)); (case side4 => exact HLcw4.out); (case side5 => exact stab_now (P := (fun x_ => Kd.C k64 x_ Aw5 ([] : List _).length [])) (w := w17) S.out.1.1.1.1.1.1.1.1.1.1.2 (by repeat (first | exact Below.refl _ _ | apply pw_below_drewN | apply below_drew1 | apply below_alloc)) (stab_C _ _ _ _)); (case side6 => exact HLcw5.out); rintro e w18 ⟨ve, rfl, ho0, hb⟩; refine ⟨_, rfl, ?_⟩; obtain ⟨Ae, ce, e0, hlce, hC0⟩ := Kd.R_reads ho0; subst e0; have HLce := Aside0.mk hlce; clear hlce ho0; replace S := Aside0.mk (stab_step (P := (fun x_ => ((((((((((((((((((((Below w.heap.size w x_) ∧ Kd.C k60 x_ (some ⟨ra, 0, none⟩) 1 [(⟨0, 0⟩ : S60)]) ∧ x_.heap[ga]? = some (Obj.cells #[.slice (some ⟨ra, 0, none⟩) 1 1] 25 (0, 0))) ∧ Kd.C k60 x_ (some ⟨rb, 0, none⟩) 1 [(⟨1, 0⟩ : S60)]) ∧ x_.heap[gb]? = some (Obj.cells #[.slice (some ⟨rb, 0, none⟩) 1 1] 25 (0, 0))) ∧ Kd.C k52 x_ (some ⟨rl, 0, none⟩) 2 [(⟨1, ⟨[(⟨0, 0⟩ : S60)]⟩, 0, false⟩ : S52), (⟨2, ⟨[(⟨1, 0⟩ : S60)]⟩, 3, true⟩ : S52)]) ∧ Kd.C k60 x_ Ad4 ([] : List _).length []) ∧ Kd.C k64 x_ Ad5 ([(⟨0, ⟨1, 0⟩⟩ : S64)] : List _).length [(⟨0, ⟨1, 0⟩⟩ : S64)]) ∧ x_.heap[gd]? = some (Obj.cells #[.int .i64 2, .int .i64 4, .int .i64 1, .int .i64 2, .slice Ad4 0 cd4, .slice Ad5 1 cd5] 32 (0, 0))) ∧ Kd.C k60 x_ Aw4 ([(⟨1, 0⟩ : S60)] : List _).length [(⟨1, 0⟩ : S60)]) ∧ Kd.C k64 x_ Aw5 ([] : List _).length []) ∧ x_.heap[gw]? = some (Obj.cells #[.int .i64 1, .int .i64 4, .int .i64 0, .int .i64 2, .slice Aw4 1 cw4, .slice Aw5 0 cw5] 32 (0, 0))) ∧ Kd.C k60 x_ Az4 ([] : List _).length []) ∧ Kd.C k64 x_ Az5 ([] : List _).length []) ∧ x_.heap[gz]? = some (Obj.cells #[.int .i64 0, .int .i64 0, .int .i64 0, .int .i64 0, .slice Az4 0 cz4, .slice Az5 0 cz5] 32 (0, 0))) ∧ Kd.C k60 x_ Ac ([(⟨1, 0⟩ : S60)] : List _).length [(⟨1, 0⟩ : S60)]) ∧ x_.heap[gc]? = some (Obj.cells #[.int .i64 2, .slice Ac 1 cc] 27 (0, 0))) ∧ Kd.C k60 x_ Ay ([] : List _).length []) ∧ x_.heap[gy]? = some (Obj.cells #[.int .i64 0, .slice Ay 0 cy] 27 (0, 0))) ∧ Kd.C k60 x_ Ax ([] : List _).length []) ∧ x_.heap[gx]? = some (Obj.cells #[.int .i64 0, .slice Ax 0 cx] 27 (0, 0)))) (w := w17) S.out (by repeat (first | exact Below.refl _ _ | apply pw_below_drewN | apply below_drew1 | apply below_alloc)) hb (by repeat' (with_reducible first | exact stab_blk _ _ | exact stab_C _ _ _ _ | exact stab_base _ | exact stab_R _ _ _ _ _ _ | refine stab_and ?_ ?_))); clear hb; (try clear hcz_gw_0); (try clear hcz_gw_1); (try clear hcz_gw_2); (try clear hcz_gw_3); (try clear hcz_gw_4); (try clear hcz_gw_5); replace S := Aside0.mk (And.intro S.out (show Kd.C k60 w18 Ae ([(⟨1, 0⟩ : S60)] : List _).length [(⟨1, 0⟩ : S60)] from hC0)); clear hC0) | ((with_reducible refine gate_dst (N := 16) rfl ?_); refine var_event ?hg (N := 16) ?hd ?hg2 ?hn2 (z := #[.int .i64 0, .slice none 0 0]) (cs := #[.int .i64 2, .slice Ae 1 ce]) (T := 27) ?hr ?hs ?_; (case hg => rfl); (case hd => rfl); (case hg2 => rfl); (case hn2 => rfl); (case hr => first | (go_simp; done) | (go_simp; rfl)); (case hs => first | (go_simp; done) | (go_simp; rfl)); intro ge hg w19 hbox hb; clear hg; replace S := Aside0.mk (stab_step (P := (fun x_ => (((((((((((((((((((((Below w.heap.size w x_) ∧ Kd.C k60 x_ (some ⟨ra, 0, none⟩) 1 [(⟨0, 0⟩ : S60)]) ∧ x_.heap[ga]? = some (Obj.cells #[.slice (some ⟨ra, 0, none⟩) 1 1] 25 (0, 0))) ∧ Kd.C k60 x_ (some ⟨rb, 0, none⟩) 1 [(⟨1, 0⟩ : S60)]) ∧ x_.heap[gb]? = some (Obj.cells #[.slice (some ⟨rb, 0, none⟩) 1 1] 25 (0, 0))) ∧ Kd.C k52 x_ (some ⟨rl, 0, none⟩) 2 [(⟨1, ⟨[(⟨0, 0⟩ : S60)]⟩, 0, false⟩ : S52), (⟨2, ⟨[(⟨1, 0⟩ : S60)]⟩, 3, true⟩ : S52)]) ∧ Kd.C k60 x_ Ad4 ([] : List _).length []) ∧ Kd.C k64 x_ Ad5 ([(⟨0, ⟨1, 0⟩⟩ : S64)] : List _).length [(⟨0, ⟨1, 0⟩⟩ : S64)]) ∧ x_.heap[gd]? = some (Obj.cells #[.int .i64 2, .int .i64 4, .int .i64 1, .int .i64 2, .slice Ad4 0 cd4, .slice Ad5 1 cd5] 32 (0, 0))) ∧ Kd.C k60 x_ Aw4 ([(⟨1, 0⟩ : S60)] : List _).length [(⟨1, 0⟩ : S60)]) ∧ Kd.C k64 x_ Aw5 ([] : List _).length []) ∧ x_.heap[gw]? = some (Obj.cells #[.int .i64 1, .int .i64 4, .int .i64 0, .int .i64 2, .slice Aw4 1 cw4, .slice Aw5 0 cw5] 32 (0, 0))) ∧ Kd.C k60 x_ Az4 ([] : List _).length []) ∧ Kd.C k64 x_ Az5 ([] : List _).length []) ∧ x_.heap[gz]? = some (Obj.cells #[.int .i64 0, .int .i64 0, .int .i64 0, .int .i64 0, .slice Az4 0 cz4, .slice Az5 0 cz5] 32 (0, 0))) ∧ Kd.C k60 x_ Ac ([(⟨1, 0⟩ : S60)] : List _).length [(⟨1, 0⟩ : S60)]) ∧ x_.heap[gc]? = some (Obj.cells #[.int .i64 2, .slice Ac 1 cc] 27 (0, 0))) ∧ Kd.C k60 x_ Ay ([] : List _).length []) ∧ x_.heap[gy]? = some (Obj.cells #[.int .i64 0, .slice Ay 0 cy] 27 (0, 0))) ∧ Kd.C k60 x_ Ax ([] : List _).length []) ∧ x_.heap[gx]? = some (Obj.cells #[.int .i64 0, .slice Ax 0 cx] 27 (0, 0))) ∧ Kd.C k60 x_ Ae ([(⟨1, 0⟩ : S60)] : List _).length [(⟨1, 0⟩ : S60)])) (w := w18) S.out (by repeat (first | exact Below.refl _ _ | apply pw_below_drewN | apply below_drew1 | apply below_alloc)) hb (by repeat' (with_reducible first | exact stab_blk _ _ | exact stab_C _ _ _ _ | exact stab_base _ | exact stab_R _ _ _ _ _ _ | refine stab_and ?_ ?_))); clear hb; replace S := Aside0.mk (And.intro S.out (show w19.heap[ge]? = some (Obj.cells #[.int .i64 2, .slice Ae 1 ce] 27 (0, 0)) from hbox)); clear hbox; have hcz_gd_0 : World.cell? w19 ⟨gd, 0, none⟩ = some (.int .i64 2) := (blk_cell S.out.1.1.1.1.1.1.1.1.1.1.1.1.1.1.2 0).trans rfl; have hcz_gd_1 : World.cell? w19 ⟨gd, 1, none⟩ = some (.int .i64 4) := (blk_cell S.out.1.1.1.1.1.1.1.1.1.1.1.1.1.1.2 1).trans rfl; have hcz_gd_2 : World.cell? w19 ⟨gd, 2, none⟩ = some (.int .i64 1) := (blk_cell S.out.1.1.1.1.1.1.1.1.1.1.1.1.1.1.2 2).trans rfl; have hcz_gd_3 : World.cell? w19 ⟨gd, 3, none⟩ = some (.int .i64 2) := (blk_cell S.out.1.1.1.1.1.1.1.1.1.1.1.1.1.1.2 3).trans rfl; have hcz_gd_4 : World.cell? w19 ⟨gd, 4, none⟩ = some (.slice Ad4 0 cd4) := (blk_cell S.out.1.1.1.1.1.1.1.1.1.1.1.1.1.1.2 4).trans rfl; have hcz_gd_5 : World.cell? w19 ⟨gd, 5, none⟩ = some (.slice Ad5 1 cd5) := (blk_cell S.out.1.1.1.1.1.1.1.1.1.1.1.1.1.1.2 5).trans rfl) | ((with_reducible refine gate_dst (N := 74) rfl ?_); refine lit_event ?hg (N := 74) ?hd (cs := #[.int .i64 0, .int .i64 1, .int .i64 0]) (T := 64) (n := 1) ?hr ?_; (case hg => rfl); (case hd => rfl); (case hr => first | (go_simp; done) | (go_simp; rfl)); intro rm hg w20 hbox hb; clear hg; replace S := Aside0.mk (stab_step (P := (fun x_ => ((((((((((((((((((((((Below w.heap.size w x_) ∧ Kd.C k60 x_ (some ⟨ra, 0, none⟩) 1 [(⟨0, 0⟩ : S60)]) ∧ x_.heap[ga]? = some (Obj.cells #[.slice (some ⟨ra, 0, none⟩) 1 1] 25 (0, 0))) ∧ Kd.C k60 x_ (some ⟨rb, 0, none⟩) 1 [(⟨1, 0⟩ : S60)]) ∧ x_.heap[gb]? = some (Obj.cells #[.slice (some ⟨rb, 0, none⟩) 1 1] 25 (0, 0))) ∧ Kd.C k52 x_ (some ⟨rl, 0, none⟩) 2 [(⟨1, ⟨[(⟨0, 0⟩ : S60)]⟩, 0, false⟩ : S52), (⟨2, ⟨[(⟨1, 0⟩ : S60)]⟩, 3, true⟩ : S52)]) ∧ Kd.C k60 x_ Ad4 ([] : List _).length []) ∧ Kd.C k64 x_ Ad5 ([(⟨0, ⟨1, 0⟩⟩ : S64)] : List _).length [(⟨0, ⟨1, 0⟩⟩ : S64)]) ∧ x_.heap[gd]? = some (Obj.cells #[.int .i64 2, .int .i64 4, .int .i64 1, .int .i64 2, .slice Ad4 0 cd4, .slice Ad5 1 cd5] 32 (0, 0))) ∧ Kd.C k60 x_ Aw4 ([(⟨1, 0⟩ : S60)] : List _).length [(⟨1, 0⟩ : S60)]) ∧ Kd.C k64 x_ Aw5 ([] : List _).length []) ∧ x_.heap[gw]? = some (Obj.cells #[.int .i64 1, .int .i64 4, .int .i64 0, .int .i64 2, .slice Aw4 1 cw4, .slice Aw5 0 cw5] 32 (0, 0))) ∧ Kd.C k60 x_ Az4 ([] : List _).length []) ∧ Kd.C k64 x_ Az5 ([] : List _).length []) ∧ x_.heap[gz]? = some (Obj.cells #[.int .i64 0, .int .i64 0, .int .i64 0, .int .i64 0, .slice Az4 0 cz4, .slice Az5 0 cz5] 32 (0, 0))) ∧ Kd.C k60 x_ Ac ([(⟨1, 0⟩ : S60)] : List _).length [(⟨1, 0⟩ : S60)]) ∧ x_.heap[gc]? = some (Obj.cells #[.int .i64 2, .slice Ac 1 cc] 27 (0, 0))) ∧ Kd.C k60 x_ Ay ([] : List _).length []) ∧ x_.heap[gy]? = some (Obj.cells #[.int .i64 0, .slice Ay 0 cy] 27 (0, 0))) ∧ Kd.C k60 x_ Ax ([] : List _).length []) ∧ x_.heap[gx]? = some (Obj.cells #[.int .i64 0, .slice Ax 0 cx] 27 (0, 0))) ∧ Kd.C k60 x_ Ae ([(⟨1, 0⟩ : S60)] : List _).length [(⟨1, 0⟩ : S60)]) ∧ x_.heap[ge]? = some (Obj.cells #[.int .i64 2, .slice Ae 1 ce] 27 (0, 0)))) (w := w19) S.out (by repeat (first | exact Below.refl _ _ | apply pw_below_drewN | apply below_drew1 | apply below_alloc)) hb (by repeat' (with_reducible first | exact stab_blk _ _ | exact stab_C _ _ _ _ | exact stab_base _ | exact stab_R _ _ _ _ _ _ | refine stab_and ?_ ?_))); clear hb; (try clear hcz_gd_0); (try clear hcz_gd_1); (try clear hcz_gd_2); (try clear hcz_gd_3); (try clear hcz_gd_4); (try clear hcz_gd_5); replace S := Aside0.mk (And.intro S.out (show Kd.C k64 w20 (some ⟨rm, 0, none⟩) 1 [(⟨0, ⟨1, 0⟩⟩ : S64)] from C_lit k64 (xs := [(⟨0, ⟨1, 0⟩⟩ : S64)]) (inner := [.int .i64 0, .int .i64 1, .int .i64 0]) hbox (Reps.c3 (k64_mk _ _) (Reps.none _ _)) (by decide))); clear hbox; have hcz_gd_0 : World.cell? w20 ⟨gd, 0, none⟩ = some (.int .i64 2) := (blk_cell S.out.1.1.1.1.1.1.1.1.1.1.1.1.1.1.1.2 0).trans rfl; have hcz_gd_1 : World.cell? w20 ⟨gd, 1, none⟩ = some (.int .i64 4) := (blk_cell S.out.1.1.1.1.1.1.1.1.1.1.1.1.1.1.1.2 1).trans rfl; have hcz_gd_2 : World.cell? w20 ⟨gd, 2, none⟩ = some (.int .i64 1) := (blk_cell S.out.1.1.1.1.1.1.1.1.1.1.1.1.1.1.1.2 2).trans rfl; have hcz_gd_3 : World.cell? w20 ⟨gd, 3, none⟩ = some (.int .i64 2) := (blk_cell S.out.1.1.1.1.1.1.1.1.1.1.1.1.1.1.1.2 3).trans rfl; have hcz_gd_4 : World.cell? w20 ⟨gd, 4, none⟩ = some (.slice Ad4 0 cd4) := (blk_cell S.out.1.1.1.1.1.1.1.1.1.1.1.1.1.1.1.2 4).trans rfl; have hcz_gd_5 : World.cell? w20 ⟨gd, 5, none⟩ = some (.slice Ad5 1 cd5) := (blk_cell S.out.1.1.1.1.1.1.1.1.1.1.1.1.1.1.1.2 5).trans rfl) | ((with_reducible refine gate_dst (N := 76) rfl ?_); refine goesL_ (some 76) rfl rfl Try.func15 (by kernel_rfl) rfl #[.agg #[.int .i64 2, .int .i64 4, .int .i64 1, .int .i64 2, .slice Ad4 0 cd4, .slice Ad5 1 cd5], .agg #[.int .i64 2, .int .i64 4, .int .i64 1, .int .i64 2, .slice none 0 0, .slice (some ⟨rm, 0, none⟩) 1 1]] rfl (by (try simp only [List.map_toArray, List.map_cons, List.map_nil]); first | done | rfl) ?_; refine (chalklineref35_Msgs.calls 9 _ _ _ _ _ _ [] _ _ [(⟨0, ⟨1, 0⟩⟩ : S64)] _ _ _ _ _ _ [] _ _ [(⟨0, ⟨1, 0⟩⟩ : S64)] _ _ ?side1 ?side2 ?side3 ?side4 ?side5 ?side6 ?side7 ?side8 P8.out).mono ?_; (case side1 => exact stab_now (P := (fun x_ => Kd.C k60 x_ Ad4 ([] : List _).length [])) (w := w20) S.out.1.1.1.1.1.1.1.1.1.1.1.1.1.1.1.1.1.2 (by repeat (first | exact Below.refl _ _ | apply pw_below_drewN | apply below_drew1 | apply below_alloc)) (stab_C _ _ _ _)); (case side2 => exact HLcd4.out); (case side3 => exact stab_now (P := (fun x_ => Kd.C k64 x_ Ad5 ([(⟨0, ⟨1, 0⟩⟩ : S64)] : List _).length [(⟨0, ⟨1, 0⟩⟩ : S64)])) (w := w20) S.out.1.1.1.1.1.1.1.1.1.1.1.1.1.1.1.1.2 (by repeat (first | exact Below.refl _ _ | apply pw_below_drewN | apply below_drew1 | apply below_alloc)) (stab_C _ _ _ _)); (case side4 => exact HLcd5.out); (case side5 => exact Kd.C_nil _ _); (case side6 => exact Nat.le_refl _); (case side7 => exact stab_now (P := (fun x_ => Kd.C k64 x_ (some ⟨rm, 0, none⟩) 1 [(⟨0, ⟨1, 0⟩⟩ : S64)])) (w := w20) S.out.2 (by repeat (first | exact Below.refl _ _ | apply pw_below_drewN | apply below_drew1 | apply below_alloc)) (stab_C _ _ _ _)); (case side8 => decide); rintro e w21 ⟨rfl, hb⟩; refine ⟨_, rfl, ?_⟩; replace S := Aside0.mk (stab_step (P := (fun x_ => (((((((((((((((((((((((Below w.heap.size w x_) ∧ Kd.C k60 x_ (some ⟨ra, 0, none⟩) 1 [(⟨0, 0⟩ : S60)]) ∧ x_.heap[ga]? = some (Obj.cells #[.slice (some ⟨ra, 0, none⟩) 1 1] 25 (0, 0))) ∧ Kd.C k60 x_ (some ⟨rb, 0, none⟩) 1 [(⟨1, 0⟩ : S60)]) ∧ x_.heap[gb]? = some (Obj.cells #[.slice (some ⟨rb, 0, none⟩) 1 1] 25 (0, 0))) ∧ Kd.C k52 x_ (some ⟨rl, 0, none⟩) 2 [(⟨1, ⟨[(⟨0, 0⟩ : S60)]⟩, 0, false⟩ : S52), (⟨2, ⟨[(⟨1, 0⟩ : S60)]⟩, 3, true⟩ : S52)]) ∧ Kd.C k60 x_ Ad4 ([] : List _).length []) ∧ Kd.C k64 x_ Ad5 ([(⟨0, ⟨1, 0⟩⟩ : S64)] : List _).length [(⟨0, ⟨1, 0⟩⟩ : S64)]) ∧ x_.heap[gd]? = some (Obj.cells #[.int .i64 2, .int .i64 4, .int .i64 1, .int .i64 2, .slice Ad4 0 cd4, .slice Ad5 1 cd5] 32 (0, 0))) ∧ Kd.C k60 x_ Aw4 ([(⟨1, 0⟩ : S60)] : List _).length [(⟨1, 0⟩ : S60)]) ∧ Kd.C k64 x_ Aw5 ([] : List _).length []) ∧ x_.heap[gw]? = some (Obj.cells #[.int .i64 1, .int .i64 4, .int .i64 0, .int .i64 2, .slice Aw4 1 cw4, .slice Aw5 0 cw5] 32 (0, 0))) ∧ Kd.C k60 x_ Az4 ([] : List _).length []) ∧ Kd.C k64 x_ Az5 ([] : List _).length []) ∧ x_.heap[gz]? = some (Obj.cells #[.int .i64 0, .int .i64 0, .int .i64 0, .int .i64 0, .slice Az4 0 cz4, .slice Az5 0 cz5] 32 (0, 0))) ∧ Kd.C k60 x_ Ac ([(⟨1, 0⟩ : S60)] : List _).length [(⟨1, 0⟩ : S60)]) ∧ x_.heap[gc]? = some (Obj.cells #[.int .i64 2, .slice Ac 1 cc] 27 (0, 0))) ∧ Kd.C k60 x_ Ay ([] : List _).length []) ∧ x_.heap[gy]? = some (Obj.cells #[.int .i64 0, .slice Ay 0 cy] 27 (0, 0))) ∧ Kd.C k60 x_ Ax ([] : List _).length []) ∧ x_.heap[gx]? = some (Obj.cells #[.int .i64 0, .slice Ax 0 cx] 27 (0, 0))) ∧ Kd.C k60 x_ Ae ([(⟨1, 0⟩ : S60)] : List _).length [(⟨1, 0⟩ : S60)]) ∧ x_.heap[ge]? = some (Obj.cells #[.int .i64 2, .slice Ae 1 ce] 27 (0, 0))) ∧ Kd.C k64 x_ (some ⟨rm, 0, none⟩) 1 [(⟨0, ⟨1, 0⟩⟩ : S64)])) (w := w20) S.out (by repeat (first | exact Below.refl _ _ | apply pw_below_drewN | apply below_drew1 | apply below_alloc)) hb (by repeat' (with_reducible first | exact stab_blk _ _ | exact stab_C _ _ _ _ | exact stab_base _ | exact stab_R _ _ _ _ _ _ | refine stab_and ?_ ?_))); clear hb; (try clear hcz_gd_0); (try clear hcz_gd_1); (try clear hcz_gd_2); (try clear hcz_gd_3); (try clear hcz_gd_4); (try clear hcz_gd_5); have hcz_gw_0 : World.cell? w21 ⟨gw, 0, none⟩ = some (.int .i64 1) := (blk_cell S.out.1.1.1.1.1.1.1.1.1.1.1.1.2 0).trans rfl; have hcz_gw_1 : World.cell? w21 ⟨gw, 1, none⟩ = some (.int .i64 4) := (blk_cell S.out.1.1.1.1.1.1.1.1.1.1.1.1.2 1).trans rfl; have hcz_gw_2 : World.cell? w21 ⟨gw, 2, none⟩ = some (.int .i64 0) := (blk_cell S.out.1.1.1.1.1.1.1.1.1.1.1.1.2 2).trans rfl; have hcz_gw_3 : World.cell? w21 ⟨gw, 3, none⟩ = some (.int .i64 2) := (blk_cell S.out.1.1.1.1.1.1.1.1.1.1.1.1.2 3).trans rfl; have hcz_gw_4 : World.cell? w21 ⟨gw, 4, none⟩ = some (.slice Aw4 1 cw4) := (blk_cell S.out.1.1.1.1.1.1.1.1.1.1.1.1.2 4).trans rfl; have hcz_gw_5 : World.cell? w21 ⟨gw, 5, none⟩ = some (.slice Aw5 0 cw5) := (blk_cell S.out.1.1.1.1.1.1.1.1.1.1.1.1.2 5).trans rfl; have hcz_gb_0 : World.cell? w21 ⟨gb, 0, none⟩ = some (.slice (some ⟨rb, 0, none⟩) 1 1) := (blk_cell S.out.1.1.1.1.1.1.1.1.1.1.1.1.1.1.1.1.1.1.1.2 0).trans rfl) | ((with_reducible refine gate_dst (N := 81) rfl ?_); refine gate_guard (by rfl) ?_; dsimp only; refine goesL_ (some 81) rfl rfl Try.func15 (by kernel_rfl) rfl #[.agg #[.int .i64 1, .int .i64 4, .int .i64 0, .int .i64 2, .slice Aw4 1 cw4, .slice Aw5 0 cw5], .agg #[.int .i64 1, .int .i64 4, .int .i64 0, .int .i64 2, .slice (some ⟨rb, 0, none⟩) 1 1, .slice none 0 0]] rfl (by (try simp only [List.map_toArray, List.map_cons, List.map_nil]); first | done | rfl) ?_; refine (chalklineref35_Msgs.calls 9 _ _ _ _ _ _ [(⟨1, 0⟩ : S60)] _ _ [] _ _ _ _ _ _ [(⟨1, 0⟩ : S60)] _ _ [] _ _ ?side1 ?side2 ?side3 ?side4 ?side5 ?side6 ?side7 ?side8 P9.out).mono ?_; (case side1 => exact stab_now (P := (fun x_ => Kd.C k60 x_ Aw4 ([(⟨1, 0⟩ : S60)] : List _).length [(⟨1, 0⟩ : S60)])) (w := w21) S.out.1.1.1.1.1.1.1.1.1.1.1.1.1.1.2 (by repeat (first | exact Below.refl _ _ | apply pw_below_drewN | apply below_drew1 | apply below_alloc)) (stab_C _ _ _ _)); (case side2 => exact HLcw4.out); (case side3 => exact stab_now (P := (fun x_ => Kd.C k64 x_ Aw5 ([] : List _).length [])) (w := w21) S.out.1.1.1.1.1.1.1.1.1.1.1.1.1.2 (by repeat (first | exact Below.refl _ _ | apply pw_below_drewN | apply below_drew1 | apply below_alloc)) (stab_C _ _ _ _)); (case side4 => exact HLcw5.out); (case side5 => exact stab_now (P := (fun x_ => Kd.C k60 x_ (some ⟨rb, 0, none⟩) 1 [(⟨1, 0⟩ : S60)])) (w := w21) S.out.1.1.1.1.1.1.1.1.1.1.1.1.1.1.1.1.1.1.1.1.2 (by repeat (first | exact Below.refl _ _ | apply pw_below_drewN | apply below_drew1 | apply below_alloc)) (stab_C _ _ _ _)); (case side6 => decide); (case side7 => exact Kd.C_nil _ _); (case side8 => exact Nat.le_refl _); rintro e w22 ⟨rfl, hb⟩; refine ⟨_, rfl, ?_⟩; replace S := Aside0.mk (stab_step (P := (fun x_ => (((((((((((((((((((((((Below w.heap.size w x_) ∧ Kd.C k60 x_ (some ⟨ra, 0, none⟩) 1 [(⟨0, 0⟩ : S60)]) ∧ x_.heap[ga]? = some (Obj.cells #[.slice (some ⟨ra, 0, none⟩) 1 1] 25 (0, 0))) ∧ Kd.C k60 x_ (some ⟨rb, 0, none⟩) 1 [(⟨1, 0⟩ : S60)]) ∧ x_.heap[gb]? = some (Obj.cells #[.slice (some ⟨rb, 0, none⟩) 1 1] 25 (0, 0))) ∧ Kd.C k52 x_ (some ⟨rl, 0, none⟩) 2 [(⟨1, ⟨[(⟨0, 0⟩ : S60)]⟩, 0, false⟩ : S52), (⟨2, ⟨[(⟨1, 0⟩ : S60)]⟩, 3, true⟩ : S52)]) ∧ Kd.C k60 x_ Ad4 ([] : List _).length []) ∧ Kd.C k64 x_ Ad5 ([(⟨0, ⟨1, 0⟩⟩ : S64)] : List _).length [(⟨0, ⟨1, 0⟩⟩ : S64)]) ∧ x_.heap[gd]? = some (Obj.cells #[.int .i64 2, .int .i64 4, .int .i64 1, .int .i64 2, .slice Ad4 0 cd4, .slice Ad5 1 cd5] 32 (0, 0))) ∧ Kd.C k60 x_ Aw4 ([(⟨1, 0⟩ : S60)] : List _).length [(⟨1, 0⟩ : S60)]) ∧ Kd.C k64 x_ Aw5 ([] : List _).length []) ∧ x_.heap[gw]? = some (Obj.cells #[.int .i64 1, .int .i64 4, .int .i64 0, .int .i64 2, .slice Aw4 1 cw4, .slice Aw5 0 cw5] 32 (0, 0))) ∧ Kd.C k60 x_ Az4 ([] : List _).length []) ∧ Kd.C k64 x_ Az5 ([] : List _).length []) ∧ x_.heap[gz]? = some (Obj.cells #[.int .i64 0, .int .i64 0, .int .i64 0, .int .i64 0, .slice Az4 0 cz4, .slice Az5 0 cz5] 32 (0, 0))) ∧ Kd.C k60 x_ Ac ([(⟨1, 0⟩ : S60)] : List _).length [(⟨1, 0⟩ : S60)]) ∧ x_.heap[gc]? = some (Obj.cells #[.int .i64 2, .slice Ac 1 cc] 27 (0, 0))) ∧ Kd.C k60 x_ Ay ([] : List _).length []) ∧ x_.heap[gy]? = some (Obj.cells #[.int .i64 0, .slice Ay 0 cy] 27 (0, 0))) ∧ Kd.C k60 x_ Ax ([] : List _).length []) ∧ x_.heap[gx]? = some (Obj.cells #[.int .i64 0, .slice Ax 0 cx] 27 (0, 0))) ∧ Kd.C k60 x_ Ae ([(⟨1, 0⟩ : S60)] : List _).length [(⟨1, 0⟩ : S60)]) ∧ x_.heap[ge]? = some (Obj.cells #[.int .i64 2, .slice Ae 1 ce] 27 (0, 0))) ∧ Kd.C k64 x_ (some ⟨rm, 0, none⟩) 1 [(⟨0, ⟨1, 0⟩⟩ : S64)])) (w := w21) S.out (by repeat (first | exact Below.refl _ _ | apply pw_below_drewN | apply below_drew1 | apply below_alloc)) hb (by repeat' (with_reducible first | exact stab_blk _ _ | exact stab_C _ _ _ _ | exact stab_base _ | exact stab_R _ _ _ _ _ _ | refine stab_and ?_ ?_))); clear hb; (try clear hcz_gw_0); (try clear hcz_gw_1); (try clear hcz_gw_2); (try clear hcz_gw_3); (try clear hcz_gw_4); (try clear hcz_gw_5); (try clear hcz_gb_0); have hcz_gc_0 : World.cell? w22 ⟨gc, 0, none⟩ = some (.int .i64 2) := (blk_cell S.out.1.1.1.1.1.1.1.2 0).trans rfl; have hcz_gc_1 : World.cell? w22 ⟨gc, 1, none⟩ = some (.slice Ac 1 cc) := (blk_cell S.out.1.1.1.1.1.1.1.2 1).trans rfl; have hcz_gb_0 : World.cell? w22 ⟨gb, 0, none⟩ = some (.slice (some ⟨rb, 0, none⟩) 1 1) := (blk_cell S.out.1.1.1.1.1.1.1.1.1.1.1.1.1.1.1.1.1.1.1.2 0).trans rfl) | ((with_reducible refine gate_dst (N := 86) rfl ?_); refine goesL_ (some 86) rfl rfl Try.func23 (by kernel_rfl) rfl #[.agg #[.int .i64 2, .slice Ac 1 cc], .agg #[.int .i64 2, .slice (some ⟨rb, 0, none⟩) 1 1]] rfl (by (try simp only [List.map_toArray, List.map_cons, List.map_nil]); first | done | rfl) ?_; refine (chalklineref35_Clients.calls 9 _ _ _ [(⟨1, 0⟩ : S60)] _ _ _ [(⟨1, 0⟩ : S60)] _ _ ?side1 ?side2 ?side3 ?side4 P10.out).mono ?_; (case side1 => exact stab_now (P := (fun x_ => Kd.C k60 x_ Ac ([(⟨1, 0⟩ : S60)] : List _).length [(⟨1, 0⟩ : S60)])) (w := w22) S.out.1.1.1.1.1.1.1.1.2 (by repeat (first | exact Below.refl _ _ | apply pw_below_drewN | apply below_drew1 | apply below_alloc)) (stab_C _ _ _ _)); (case side2 => exact HLcc.out); (case side3 => exact stab_now (P := (fun x_ => Kd.C k60 x_ (some ⟨rb, 0, none⟩) 1 [(⟨1, 0⟩ : S60)])) (w := w22) S.out.1.1.1.1.1.1.1.1.1.1.1.1.1.1.1.1.1.1.1.1.2 (by repeat (first | exact Below.refl _ _ | apply pw_below_drewN | apply below_drew1 | apply below_alloc)) (stab_C _ _ _ _)); (case side4 => decide); rintro e w23 ⟨rfl, hb⟩; refine ⟨_, rfl, ?_⟩; replace S := Aside0.mk (stab_step (P := (fun x_ => (((((((((((((((((((((((Below w.heap.size w x_) ∧ Kd.C k60 x_ (some ⟨ra, 0, none⟩) 1 [(⟨0, 0⟩ : S60)]) ∧ x_.heap[ga]? = some (Obj.cells #[.slice (some ⟨ra, 0, none⟩) 1 1] 25 (0, 0))) ∧ Kd.C k60 x_ (some ⟨rb, 0, none⟩) 1 [(⟨1, 0⟩ : S60)]) ∧ x_.heap[gb]? = some (Obj.cells #[.slice (some ⟨rb, 0, none⟩) 1 1] 25 (0, 0))) ∧ Kd.C k52 x_ (some ⟨rl, 0, none⟩) 2 [(⟨1, ⟨[(⟨0, 0⟩ : S60)]⟩, 0, false⟩ : S52), (⟨2, ⟨[(⟨1, 0⟩ : S60)]⟩, 3, true⟩ : S52)]) ∧ Kd.C k60 x_ Ad4 ([] : List _).length []) ∧ Kd.C k64 x_ Ad5 ([(⟨0, ⟨1, 0⟩⟩ : S64)] : List _).length [(⟨0, ⟨1, 0⟩⟩ : S64)]) ∧ x_.heap[gd]? = some (Obj.cells #[.int .i64 2, .int .i64 4, .int .i64 1, .int .i64 2, .slice Ad4 0 cd4, .slice Ad5 1 cd5] 32 (0, 0))) ∧ Kd.C k60 x_ Aw4 ([(⟨1, 0⟩ : S60)] : List _).length [(⟨1, 0⟩ : S60)]) ∧ Kd.C k64 x_ Aw5 ([] : List _).length []) ∧ x_.heap[gw]? = some (Obj.cells #[.int .i64 1, .int .i64 4, .int .i64 0, .int .i64 2, .slice Aw4 1 cw4, .slice Aw5 0 cw5] 32 (0, 0))) ∧ Kd.C k60 x_ Az4 ([] : List _).length []) ∧ Kd.C k64 x_ Az5 ([] : List _).length []) ∧ x_.heap[gz]? = some (Obj.cells #[.int .i64 0, .int .i64 0, .int .i64 0, .int .i64 0, .slice Az4 0 cz4, .slice Az5 0 cz5] 32 (0, 0))) ∧ Kd.C k60 x_ Ac ([(⟨1, 0⟩ : S60)] : List _).length [(⟨1, 0⟩ : S60)]) ∧ x_.heap[gc]? = some (Obj.cells #[.int .i64 2, .slice Ac 1 cc] 27 (0, 0))) ∧ Kd.C k60 x_ Ay ([] : List _).length []) ∧ x_.heap[gy]? = some (Obj.cells #[.int .i64 0, .slice Ay 0 cy] 27 (0, 0))) ∧ Kd.C k60 x_ Ax ([] : List _).length []) ∧ x_.heap[gx]? = some (Obj.cells #[.int .i64 0, .slice Ax 0 cx] 27 (0, 0))) ∧ Kd.C k60 x_ Ae ([(⟨1, 0⟩ : S60)] : List _).length [(⟨1, 0⟩ : S60)]) ∧ x_.heap[ge]? = some (Obj.cells #[.int .i64 2, .slice Ae 1 ce] 27 (0, 0))) ∧ Kd.C k64 x_ (some ⟨rm, 0, none⟩) 1 [(⟨0, ⟨1, 0⟩⟩ : S64)])) (w := w22) S.out (by repeat (first | exact Below.refl _ _ | apply pw_below_drewN | apply below_drew1 | apply below_alloc)) hb (by repeat' (with_reducible first | exact stab_blk _ _ | exact stab_C _ _ _ _ | exact stab_base _ | exact stab_R _ _ _ _ _ _ | refine stab_and ?_ ?_))); clear hb; (try clear hcz_gc_0); (try clear hcz_gc_1); (try clear hcz_gb_0); have hcz_ge_0 : World.cell? w23 ⟨ge, 0, none⟩ = some (.int .i64 2) := (blk_cell S.out.1.2 0).trans rfl; have hcz_ge_1 : World.cell? w23 ⟨ge, 1, none⟩ = some (.slice Ae 1 ce) := (blk_cell S.out.1.2 1).trans rfl; have hcz_gc_0 : World.cell? w23 ⟨gc, 0, none⟩ = some (.int .i64 2) := (blk_cell S.out.1.1.1.1.1.1.1.2 0).trans rfl; have hcz_gc_1 : World.cell? w23 ⟨gc, 1, none⟩ = some (.slice Ac 1 cc) := (blk_cell S.out.1.1.1.1.1.1.1.2 1).trans rfl) | ((with_reducible refine gate_dst (N := 90) rfl ?_); refine gate_guard (by rfl) ?_; dsimp only; refine goesL_ (some 90) rfl rfl Try.func23 (by kernel_rfl) rfl #[.agg #[.int .i64 2, .slice Ae 1 ce], .agg #[.int .i64 2, .slice Ac 1 cc]] rfl (by (try simp only [List.map_toArray, List.map_cons, List.map_nil]); first | done | rfl) ?_; refine (chalklineref35_Clients.calls 9 _ _ _ [(⟨1, 0⟩ : S60)] _ _ _ [(⟨1, 0⟩ : S60)] _ _ ?side1 ?side2 ?side3 ?side4 P10.out).mono ?_; (case side1 => exact stab_now (P := (fun x_ => Kd.C k60 x_ Ae ([(⟨1, 0⟩ : S60)] : List _).length [(⟨1, 0⟩ : S60)])) (w := w23) S.out.1.1.2 (by repeat (first | exact Below.refl _ _ | apply pw_below_drewN | apply below_drew1 | apply below_alloc)) (stab_C _ _ _ _)); (case side2 => exact HLce.out); (case side3 => exact stab_now (P := (fun x_ => Kd.C k60 x_ Ac ([(⟨1, 0⟩ : S60)] : List _).length [(⟨1, 0⟩ : S60)])) (w := w23) S.out.1.1.1.1.1.1.1.1.2 (by repeat (first | exact Below.refl _ _ | apply pw_below_drewN | apply below_drew1 | apply below_alloc)) (stab_C _ _ _ _)); (case side4 => exact HLcc.out); rintro e w24 ⟨rfl, hb⟩; refine ⟨_, rfl, ?_⟩; replace S := Aside0.mk (stab_step (P := (fun x_ => (((((((((((((((((((((((Below w.heap.size w x_) ∧ Kd.C k60 x_ (some ⟨ra, 0, none⟩) 1 [(⟨0, 0⟩ : S60)]) ∧ x_.heap[ga]? = some (Obj.cells #[.slice (some ⟨ra, 0, none⟩) 1 1] 25 (0, 0))) ∧ Kd.C k60 x_ (some ⟨rb, 0, none⟩) 1 [(⟨1, 0⟩ : S60)]) ∧ x_.heap[gb]? = some (Obj.cells #[.slice (some ⟨rb, 0, none⟩) 1 1] 25 (0, 0))) ∧ Kd.C k52 x_ (some ⟨rl, 0, none⟩) 2 [(⟨1, ⟨[(⟨0, 0⟩ : S60)]⟩, 0, false⟩ : S52), (⟨2, ⟨[(⟨1, 0⟩ : S60)]⟩, 3, true⟩ : S52)]) ∧ Kd.C k60 x_ Ad4 ([] : List _).length []) ∧ Kd.C k64 x_ Ad5 ([(⟨0, ⟨1, 0⟩⟩ : S64)] : List _).length [(⟨0, ⟨1, 0⟩⟩ : S64)]) ∧ x_.heap[gd]? = some (Obj.cells #[.int .i64 2, .int .i64 4, .int .i64 1, .int .i64 2, .slice Ad4 0 cd4, .slice Ad5 1 cd5] 32 (0, 0))) ∧ Kd.C k60 x_ Aw4 ([(⟨1, 0⟩ : S60)] : List _).length [(⟨1, 0⟩ : S60)]) ∧ Kd.C k64 x_ Aw5 ([] : List _).length []) ∧ x_.heap[gw]? = some (Obj.cells #[.int .i64 1, .int .i64 4, .int .i64 0, .int .i64 2, .slice Aw4 1 cw4, .slice Aw5 0 cw5] 32 (0, 0))) ∧ Kd.C k60 x_ Az4 ([] : List _).length []) ∧ Kd.C k64 x_ Az5 ([] : List _).length []) ∧ x_.heap[gz]? = some (Obj.cells #[.int .i64 0, .int .i64 0, .int .i64 0, .int .i64 0, .slice Az4 0 cz4, .slice Az5 0 cz5] 32 (0, 0))) ∧ Kd.C k60 x_ Ac ([(⟨1, 0⟩ : S60)] : List _).length [(⟨1, 0⟩ : S60)]) ∧ x_.heap[gc]? = some (Obj.cells #[.int .i64 2, .slice Ac 1 cc] 27 (0, 0))) ∧ Kd.C k60 x_ Ay ([] : List _).length []) ∧ x_.heap[gy]? = some (Obj.cells #[.int .i64 0, .slice Ay 0 cy] 27 (0, 0))) ∧ Kd.C k60 x_ Ax ([] : List _).length []) ∧ x_.heap[gx]? = some (Obj.cells #[.int .i64 0, .slice Ax 0 cx] 27 (0, 0))) ∧ Kd.C k60 x_ Ae ([(⟨1, 0⟩ : S60)] : List _).length [(⟨1, 0⟩ : S60)]) ∧ x_.heap[ge]? = some (Obj.cells #[.int .i64 2, .slice Ae 1 ce] 27 (0, 0))) ∧ Kd.C k64 x_ (some ⟨rm, 0, none⟩) 1 [(⟨0, ⟨1, 0⟩⟩ : S64)])) (w := w23) S.out (by repeat (first | exact Below.refl _ _ | apply pw_below_drewN | apply below_drew1 | apply below_alloc)) hb (by repeat' (with_reducible first | exact stab_blk _ _ | exact stab_C _ _ _ _ | exact stab_base _ | exact stab_R _ _ _ _ _ _ | refine stab_and ?_ ?_))); clear hb; (try clear hcz_ge_0); (try clear hcz_ge_1); (try clear hcz_gc_0); (try clear hcz_gc_1); have hcz_gc_0 : World.cell? w24 ⟨gc, 0, none⟩ = some (.int .i64 2) := (blk_cell S.out.1.1.1.1.1.1.1.2 0).trans rfl; have hcz_gc_1 : World.cell? w24 ⟨gc, 1, none⟩ = some (.slice Ac 1 cc) := (blk_cell S.out.1.1.1.1.1.1.1.2 1).trans rfl) | ((with_reducible refine gate_dst (N := 126) rfl ?_); refine gate_guard (by rfl) ?_; dsimp only; refine goesL_ (some 126) rfl rfl Try.func18 (by kernel_rfl) rfl #[.agg #[.int .i64 2, .slice Ac 1 cc], .int .i64 4] rfl (by (try simp only [List.map_toArray, List.map_cons, List.map_nil]); first | done | rfl) ?_; refine (feed_Wish.calls _ _ _ [(⟨1, 0⟩ : S60)] _ _ _ _ _ _ _ _ ?side1 ?side2 P11.out).mono ?_; (case side1 => exact stab_now (P := (fun x_ => Kd.C k60 x_ Ac ([(⟨1, 0⟩ : S60)] : List _).length [(⟨1, 0⟩ : S60)])) (w := w24) S.out.1.1.1.1.1.1.1.1.2 (by repeat (first | exact Below.refl _ _ | apply pw_below_drewN | apply below_drew1 | apply below_alloc)) (stab_C _ _ _ _)); (case side2 => exact HLcc.out); rintro e w25 ⟨vf4, vf5, rfl, ho0, ho1, hb⟩; refine ⟨_, rfl, ?_⟩; obtain ⟨Af4, cf4, e0, hlcf4, hC0⟩ := Kd.R_reads ho0; subst e0; have HLcf4 := Aside0.mk hlcf4; clear hlcf4 ho0; obtain ⟨Af5, cf5, e1, hlcf5, hC1⟩ := Kd.R_reads ho1; subst e1; have HLcf5 := Aside0.mk hlcf5; clear hlcf5 ho1; replace S := Aside0.mk (stab_step (P := (fun x_ => (((((((((((((((((((((((Below w.heap.size w x_) ∧ Kd.C k60 x_ (some ⟨ra, 0, none⟩) 1 [(⟨0, 0⟩ : S60)]) ∧ x_.heap[ga]? = some (Obj.cells #[.slice (some ⟨ra, 0, none⟩) 1 1] 25 (0, 0))) ∧ Kd.C k60 x_ (some ⟨rb, 0, none⟩) 1 [(⟨1, 0⟩ : S60)]) ∧ x_.heap[gb]? = some (Obj.cells #[.slice (some ⟨rb, 0, none⟩) 1 1] 25 (0, 0))) ∧ Kd.C k52 x_ (some ⟨rl, 0, none⟩) 2 [(⟨1, ⟨[(⟨0, 0⟩ : S60)]⟩, 0, false⟩ : S52), (⟨2, ⟨[(⟨1, 0⟩ : S60)]⟩, 3, true⟩ : S52)]) ∧ Kd.C k60 x_ Ad4 ([] : List _).length []) ∧ Kd.C k64 x_ Ad5 ([(⟨0, ⟨1, 0⟩⟩ : S64)] : List _).length [(⟨0, ⟨1, 0⟩⟩ : S64)]) ∧ x_.heap[gd]? = some (Obj.cells #[.int .i64 2, .int .i64 4, .int .i64 1, .int .i64 2, .slice Ad4 0 cd4, .slice Ad5 1 cd5] 32 (0, 0))) ∧ Kd.C k60 x_ Aw4 ([(⟨1, 0⟩ : S60)] : List _).length [(⟨1, 0⟩ : S60)]) ∧ Kd.C k64 x_ Aw5 ([] : List _).length []) ∧ x_.heap[gw]? = some (Obj.cells #[.int .i64 1, .int .i64 4, .int .i64 0, .int .i64 2, .slice Aw4 1 cw4, .slice Aw5 0 cw5] 32 (0, 0))) ∧ Kd.C k60 x_ Az4 ([] : List _).length []) ∧ Kd.C k64 x_ Az5 ([] : List _).length []) ∧ x_.heap[gz]? = some (Obj.cells #[.int .i64 0, .int .i64 0, .int .i64 0, .int .i64 0, .slice Az4 0 cz4, .slice Az5 0 cz5] 32 (0, 0))) ∧ Kd.C k60 x_ Ac ([(⟨1, 0⟩ : S60)] : List _).length [(⟨1, 0⟩ : S60)]) ∧ x_.heap[gc]? = some (Obj.cells #[.int .i64 2, .slice Ac 1 cc] 27 (0, 0))) ∧ Kd.C k60 x_ Ay ([] : List _).length []) ∧ x_.heap[gy]? = some (Obj.cells #[.int .i64 0, .slice Ay 0 cy] 27 (0, 0))) ∧ Kd.C k60 x_ Ax ([] : List _).length []) ∧ x_.heap[gx]? = some (Obj.cells #[.int .i64 0, .slice Ax 0 cx] 27 (0, 0))) ∧ Kd.C k60 x_ Ae ([(⟨1, 0⟩ : S60)] : List _).length [(⟨1, 0⟩ : S60)]) ∧ x_.heap[ge]? = some (Obj.cells #[.int .i64 2, .slice Ae 1 ce] 27 (0, 0))) ∧ Kd.C k64 x_ (some ⟨rm, 0, none⟩) 1 [(⟨0, ⟨1, 0⟩⟩ : S64)])) (w := w24) S.out (by repeat (first | exact Below.refl _ _ | apply pw_below_drewN | apply below_drew1 | apply below_alloc)) hb (by repeat' (with_reducible first | exact stab_blk _ _ | exact stab_C _ _ _ _ | exact stab_base _ | exact stab_R _ _ _ _ _ _ | refine stab_and ?_ ?_))); clear hb; (try clear hcz_gc_0); (try clear hcz_gc_1); replace S := Aside0.mk (And.intro S.out (show Kd.C k60 w25 Af4 ([] : List _).length [] from hC0)); clear hC0; replace S := Aside0.mk (And.intro S.out (show Kd.C k64 w25 Af5 ([] : List _).length [] from hC1)); clear hC1) | ((with_reducible refine gate_dst (N := 132) rfl ?_); refine gate_guard (by rfl) ?_; dsimp only; refine goesL_ (some 132) rfl rfl Try.func16 (by kernel_rfl) rfl #[.slice (some ⟨rl, 0, none⟩) 2 2] rfl (by (try simp only [List.map_toArray, List.map_cons, List.map_nil]); first | done | rfl) ?_; refine (feed_Check.calls 9 _ _ [(⟨1, ⟨[(⟨0, 0⟩ : S60)]⟩, 0, false⟩ : S52), (⟨2, ⟨[(⟨1, 0⟩ : S60)]⟩, 3, true⟩ : S52)] _ _ ?side1 ?side2 P12.out).mono ?_; (case side1 => exact stab_now (P := (fun x_ => Kd.C k52 x_ (some ⟨rl, 0, none⟩) 2 [(⟨1, ⟨[(⟨0, 0⟩ : S60)]⟩, 0, false⟩ : S52), (⟨2, ⟨[(⟨1, 0⟩ : S60)]⟩, 3, true⟩ : S52)])) (w := w25) S.out.1.1.1.1.1.1.1.1.1.1.1.1.1.1.1.1.1.1.1.1.2 (by repeat (first | exact Below.refl _ _ | apply pw_below_drewN | apply below_drew1 | apply below_alloc)) (stab_C _ _ _ _)); (case side2 => decide); rintro e w26 ⟨rfl, hb⟩; refine ⟨_, rfl, ?_⟩; replace S := Aside0.mk (stab_step (P := (fun x_ => (((((((((((((((((((((((((Below w.heap.size w x_) ∧ Kd.C k60 x_ (some ⟨ra, 0, none⟩) 1 [(⟨0, 0⟩ : S60)]) ∧ x_.heap[ga]? = some (Obj.cells #[.slice (some ⟨ra, 0, none⟩) 1 1] 25 (0, 0))) ∧ Kd.C k60 x_ (some ⟨rb, 0, none⟩) 1 [(⟨1, 0⟩ : S60)]) ∧ x_.heap[gb]? = some (Obj.cells #[.slice (some ⟨rb, 0, none⟩) 1 1] 25 (0, 0))) ∧ Kd.C k52 x_ (some ⟨rl, 0, none⟩) 2 [(⟨1, ⟨[(⟨0, 0⟩ : S60)]⟩, 0, false⟩ : S52), (⟨2, ⟨[(⟨1, 0⟩ : S60)]⟩, 3, true⟩ : S52)]) ∧ Kd.C k60 x_ Ad4 ([] : List _).length []) ∧ Kd.C k64 x_ Ad5 ([(⟨0, ⟨1, 0⟩⟩ : S64)] : List _).length [(⟨0, ⟨1, 0⟩⟩ : S64)]) ∧ x_.heap[gd]? = some (Obj.cells #[.int .i64 2, .int .i64 4, .int .i64 1, .int .i64 2, .slice Ad4 0 cd4, .slice Ad5 1 cd5] 32 (0, 0))) ∧ Kd.C k60 x_ Aw4 ([(⟨1, 0⟩ : S60)] : List _).length [(⟨1, 0⟩ : S60)]) ∧ Kd.C k64 x_ Aw5 ([] : List _).length []) ∧ x_.heap[gw]? = some (Obj.cells #[.int .i64 1, .int .i64 4, .int .i64 0, .int .i64 2, .slice Aw4 1 cw4, .slice Aw5 0 cw5] 32 (0, 0))) ∧ Kd.C k60 x_ Az4 ([] : List _).length []) ∧ Kd.C k64 x_ Az5 ([] : List _).length []) ∧ x_.heap[gz]? = some (Obj.cells #[.int .i64 0, .int .i64 0, .int .i64 0, .int .i64 0, .slice Az4 0 cz4, .slice Az5 0 cz5] 32 (0, 0))) ∧ Kd.C k60 x_ Ac ([(⟨1, 0⟩ : S60)] : List _).length [(⟨1, 0⟩ : S60)]) ∧ x_.heap[gc]? = some (Obj.cells #[.int .i64 2, .slice Ac 1 cc] 27 (0, 0))) ∧ Kd.C k60 x_ Ay ([] : List _).length []) ∧ x_.heap[gy]? = some (Obj.cells #[.int .i64 0, .slice Ay 0 cy] 27 (0, 0))) ∧ Kd.C k60 x_ Ax ([] : List _).length []) ∧ x_.heap[gx]? = some (Obj.cells #[.int .i64 0, .slice Ax 0 cx] 27 (0, 0))) ∧ Kd.C k60 x_ Ae ([(⟨1, 0⟩ : S60)] : List _).length [(⟨1, 0⟩ : S60)]) ∧ x_.heap[ge]? = some (Obj.cells #[.int .i64 2, .slice Ae 1 ce] 27 (0, 0))) ∧ Kd.C k64 x_ (some ⟨rm, 0, none⟩) 1 [(⟨0, ⟨1, 0⟩⟩ : S64)]) ∧ Kd.C k60 x_ Af4 ([] : List _).length []) ∧ Kd.C k64 x_ Af5 ([] : List _).length [])) (w := w25) S.out (by repeat (first | exact Below.refl _ _ | apply pw_below_drewN | apply below_drew1 | apply below_alloc)) hb (by repeat' (with_reducible first | exact stab_blk _ _ | exact stab_C _ _ _ _ | exact stab_base _ | exact stab_R _ _ _ _ _ _ | refine stab_and ?_ ?_))); clear hb) | ((with_reducible refine gate_dst (N := 138) rfl ?_); refine gate_guard (by rfl) ?_; dsimp only; refine goesL_ (some 138) rfl rfl Try.func16 (by kernel_rfl) rfl #[.slice (some ⟨rl, 4, none⟩) 1 1] rfl (by (try simp only [List.map_toArray, List.map_cons, List.map_nil]); first | done | rfl) ?_; refine (feed_Check.calls 9 _ _ [(⟨2, ⟨[(⟨1, 0⟩ : S60)]⟩, 3, true⟩ : S52)] _ _ ?side1 ?side2 P13.out).mono ?_; (case side1 => exact Kd.C_drop (m := 1) (c := 2) (stab_now (P := (fun x_ => Kd.C k52 x_ (some ⟨rl, 0, none⟩) 2 [(⟨1, ⟨[(⟨0, 0⟩ : S60)]⟩, 0, false⟩ : S52), (⟨2, ⟨[(⟨1, 0⟩ : S60)]⟩, 3, true⟩ : S52)])) (w := w26) S.out.1.1.1.1.1.1.1.1.1.1.1.1.1.1.1.1.1.1.1.1.2 (by repeat (first | exact Below.refl _ _ | apply pw_below_drewN | apply below_drew1 | apply below_alloc)) (stab_C _ _ _ _)) (by decide) (by decide)); (case side2 => decide); rintro e w27 ⟨rfl, hb⟩; refine ⟨_, rfl, ?_⟩; replace S := Aside0.mk (stab_step (P := (fun x_ => (((((((((((((((((((((((((Below w.heap.size w x_) ∧ Kd.C k60 x_ (some ⟨ra, 0, none⟩) 1 [(⟨0, 0⟩ : S60)]) ∧ x_.heap[ga]? = some (Obj.cells #[.slice (some ⟨ra, 0, none⟩) 1 1] 25 (0, 0))) ∧ Kd.C k60 x_ (some ⟨rb, 0, none⟩) 1 [(⟨1, 0⟩ : S60)]) ∧ x_.heap[gb]? = some (Obj.cells #[.slice (some ⟨rb, 0, none⟩) 1 1] 25 (0, 0))) ∧ Kd.C k52 x_ (some ⟨rl, 0, none⟩) 2 [(⟨1, ⟨[(⟨0, 0⟩ : S60)]⟩, 0, false⟩ : S52), (⟨2, ⟨[(⟨1, 0⟩ : S60)]⟩, 3, true⟩ : S52)]) ∧ Kd.C k60 x_ Ad4 ([] : List _).length []) ∧ Kd.C k64 x_ Ad5 ([(⟨0, ⟨1, 0⟩⟩ : S64)] : List _).length [(⟨0, ⟨1, 0⟩⟩ : S64)]) ∧ x_.heap[gd]? = some (Obj.cells #[.int .i64 2, .int .i64 4, .int .i64 1, .int .i64 2, .slice Ad4 0 cd4, .slice Ad5 1 cd5] 32 (0, 0))) ∧ Kd.C k60 x_ Aw4 ([(⟨1, 0⟩ : S60)] : List _).length [(⟨1, 0⟩ : S60)]) ∧ Kd.C k64 x_ Aw5 ([] : List _).length []) ∧ x_.heap[gw]? = some (Obj.cells #[.int .i64 1, .int .i64 4, .int .i64 0, .int .i64 2, .slice Aw4 1 cw4, .slice Aw5 0 cw5] 32 (0, 0))) ∧ Kd.C k60 x_ Az4 ([] : List _).length []) ∧ Kd.C k64 x_ Az5 ([] : List _).length []) ∧ x_.heap[gz]? = some (Obj.cells #[.int .i64 0, .int .i64 0, .int .i64 0, .int .i64 0, .slice Az4 0 cz4, .slice Az5 0 cz5] 32 (0, 0))) ∧ Kd.C k60 x_ Ac ([(⟨1, 0⟩ : S60)] : List _).length [(⟨1, 0⟩ : S60)]) ∧ x_.heap[gc]? = some (Obj.cells #[.int .i64 2, .slice Ac 1 cc] 27 (0, 0))) ∧ Kd.C k60 x_ Ay ([] : List _).length []) ∧ x_.heap[gy]? = some (Obj.cells #[.int .i64 0, .slice Ay 0 cy] 27 (0, 0))) ∧ Kd.C k60 x_ Ax ([] : List _).length []) ∧ x_.heap[gx]? = some (Obj.cells #[.int .i64 0, .slice Ax 0 cx] 27 (0, 0))) ∧ Kd.C k60 x_ Ae ([(⟨1, 0⟩ : S60)] : List _).length [(⟨1, 0⟩ : S60)]) ∧ x_.heap[ge]? = some (Obj.cells #[.int .i64 2, .slice Ae 1 ce] 27 (0, 0))) ∧ Kd.C k64 x_ (some ⟨rm, 0, none⟩) 1 [(⟨0, ⟨1, 0⟩⟩ : S64)]) ∧ Kd.C k60 x_ Af4 ([] : List _).length []) ∧ Kd.C k64 x_ Af5 ([] : List _).length [])) (w := w26) S.out (by repeat (first | exact Below.refl _ _ | apply pw_below_drewN | apply below_drew1 | apply below_alloc)) hb (by repeat' (with_reducible first | exact stab_blk _ _ | exact stab_C _ _ _ _ | exact stab_base _ | exact stab_R _ _ _ _ _ _ | refine stab_and ?_ ?_))); clear hb))
  go_ret
  exact ⟨rfl, stab_now (P := (fun x_ => Below w.heap.size w x_)) (w := w27) S.out.1.1.1.1.1.1.1.1.1.1.1.1.1.1.1.1.1.1.1.1.1.1.1.1.1 (by repeat (first | exact Below.refl _ _ | apply pw_below_drewN | apply below_drew1 | apply below_alloc)) (stab_base _)⟩
end Go.Proofs.Ytfdhnmijaobbdaa.S
end
section
namespace Go.Proofs.Ytfdhnmijaobbdaa.S
open Go.RowKit Go.Proofs.YtfdhnmijaobbdaaW.PrintWords Go.Proofs.YtfdhnmijaobbdaaW.PrintLast Go.Proofs.YtfdhnmijaobbdaaW.PrintMore
attribute [local go_sem] max2_int min2_int max_two min_two max_three min_three max_four min_four   -- for this text's walks alone
set_option linter.unusedVariables false
set_option linter.unusedSimpArgs false
mutual
def chalklineref35_Few.l0 : Nat → List (S52) → Int → Option (Bool)
  | 0, _, _ => none
  | k + 1, x0, x3 => if x3 < (x0.length : Int) then (chalklineref35_Few.j1 k x0 x3 (decide (x3 < 30))) else (chalklineref35_Few.j1 k x0 x3 false)
def chalklineref35_Few.j1 : Nat → List (S52) → Int → Bool → Option (Bool)
  | 0, _, _, _ => none
  | k + 1, x0, x3, x11 => if x11 = true then (if 0 ≤ x3 then (if x3 < (x0.length : Int) then (if (((rd_T52 x0 x3).f1.f0).length : Int) > 70 then (some false) else (chalklineref35_Few.l0 k x0 (wrap64 (x3 + 1)))) else (none)) else (none)) else (some (decide ((x0.length : Int) ≤ 20)))
end
def chalklineref35_Few.f (k : Nat) (l0 : List (S52)) : Option (Bool) := chalklineref35_Few.l0 k l0 0
set_option maxHeartbeats 8000000 in
set_option maxRecDepth 100000 in
theorem chalklineref35_Few.calls (k : Nat) (A0 : Option Addr) (c0 : Nat) (l0 : List (S52)) (r : Bool) (w : World) (hr0 : Kd.C k52 w A0 l0.length l0) (hc0 : l0.length ≤ c0) (h : chalklineref35_Few.f k l0 = some r) :
    Calls Try.prog 12 #[.slice A0 l0.length c0] w fun e w' => e = .returned (.bool r) ∧ Drawn0 w w' := by
  have HR0 := Aside0.mk hr0
  have HC0 := Aside0.mk hc0
  clear hr0 hc0
  have H : (chalklineref35_Few.l0 k l0 0) = some r := h
  clear h
  have H' := Aside0.mk H
  clear H
  go_enter Try.func12, Try.ntmps12
  go_wp2
  go_loopg [3] k (fun kq v3 w' => ∃ (x3_1 : Int), v3 = .int .i64 x3_1 ∧ Aside0 (chalklineref35_Few.l0 kq l0 x3_1 = some r) ∧ Aside0 (kq ≤ k) ∧ Drawn0 w w')
  case atStart => exact ⟨(0), (by first | rfl | (simp; done) | (simp [*]; done)), H', ⟨Nat.le_refl _⟩, by repeat (first | exact Drawn0.refl _ | apply Drawn0.step)⟩
  case round =>
    clear H'
    try clear c1
    obtain ⟨x3_1, rfl, HA, HK1, ⟨m1, rfl⟩⟩ := hrel
    cases gk with
    | zero => exact absurd HA.out (by simp [chalklineref35_Few.l0])
    | succ k1 =>
      have H := HA.out
      clear HA
      simp only [chalklineref35_Few.l0] at H
      have HC2 := Aside0.mk H
      clear H
      go_upto_region 2 with (fail)
      go_cut [11] (fun v11 wc => ∃ (kq : Nat) (x11_1 : Bool), v11 = .bool x11_1 ∧ Aside0 (chalklineref35_Few.j1 kq l0 x3_1 x11_1 = some r) ∧ Aside0 (kq ≤ k1) ∧ Drawn0 w wc)
      case first =>
        have H := HC2.out
        clear HC2
        by_cases c3 : x3_1 < (l0.length : Int)
        · rw [if_pos c3] at H
          have c3b0 : decide (x3_1 < (l0.length : Int)) = true := decide_eq_true c3
          clear c3
          (first | rw [c3b0] | (simp only [i64_w, i32_w]; rw [c3b0]) | skip)
          have H' := Aside0.mk H
          clear H
          go_wp2
          go_meet
          case rel => exact ⟨_, (decide (x3_1 < 30)), (by first | rfl | (simp; done) | (simp [*]; done)), H', ⟨by have := HK1.out; first | omega | exact Nat.le_refl _⟩, by repeat (first | exact Drawn0.refl _ | apply Drawn0.step)⟩
        · rw [if_neg c3] at H
          have c3b0 : decide (x3_1 < (l0.length : Int)) = false := decide_eq_false c3
          clear c3
          (first | rw [c3b0] | (simp only [i64_w, i32_w]; rw [c3b0]) | skip)
          have H' := Aside0.mk H
          clear H
          go_wp2
          go_meet
          case rel => exact ⟨_, (false), (by first | rfl | (simp; done) | (simp [*]; done)), H', ⟨by have := HK1.out; first | omega | exact Nat.le_refl _⟩, by repeat (first | exact Drawn0.refl _ | apply Drawn0.step)⟩
      case rest =>
        clear HC2
        try clear c1
        try clear p2
        try clear c3
        try clear c3b0
        obtain ⟨kq, x11_1, rfl, HA, HJ1, ⟨mc1, rfl⟩⟩ := hcut
        cases kq with
        | zero => exact absurd HA.out (by simp [chalklineref35_Few.j1])
        | succ kj1 =>
          have H := HA.out
          clear HA
          simp only [chalklineref35_Few.j1] at H
          by_cases c4 : x11_1 = true
          · subst c4
            have H1 : (if 0 ≤ x3_1 then (if x3_1 < (l0.length : Int) then (if (((rd_T52 l0 x3_1).f1.f0).length : Int) > 70 then (some false) else (chalklineref35_Few.l0 kj1 l0 (wrap64 (x3_1 + 1)))) else (none)) else (none)) = some r := by rw [if_pos rfl] at H; exact H
            clear H
            have H := H1
            clear H1
            by_cases c5 : 0 ≤ x3_1
            · rw [if_pos c5] at H
              have c5b0 : decide (0 ≤ x3_1) = true := decide_eq_true c5
              clear c5
              by_cases c6 : x3_1 < (l0.length : Int)
              · rw [if_pos c6] at H
                have c6b0 : decide (x3_1 < (l0.length : Int)) = true := decide_eq_true c6
                clear c6
                by_cases c7 : (((rd_T52 l0 x3_1).f1.f0).length : Int) > 70
                · rw [if_pos c7] at H
                  have c7b0 : decide (70 < (((rd_T52 l0 x3_1).f1.f0).length : Int)) = true := decide_eq_true c7
                  have c7b1 : decide (70 < ((rd_T52 l0 x3_1).f1.f0).length) = true := decide_eq_true (by omega)
                  clear c7
                  obtain rfl := Option.some.inj H
                  have p163 : 0 ≤ (x3_1 : Int) := of_decide_eq_true (by first | (with_reducible assumption) | assumption)
                  have q163 : x3_1 < (l0.length : Int) := of_decide_eq_true (by first | (with_reducible assumption) | assumption)
                  obtain ⟨ad163, A163_1, c163_1, e163, hx163_0, hx163_1, hx163_2, hx163_3, hl163_1, hi163_1⟩ := at_T52 HR0.out x3_1 p163 q163
                  cases e163
                  have HR163_1 := Aside0.mk hi163_1
                  have HC163_1 := Aside0.mk hl163_1
                  clear hi163_1 hl163_1
                  replace p163 := eq_true p163
                  replace q163 := eq_true q163
                  go_wp2
                  go_ret
                  exact ⟨by first | rfl | (simp; done) | (simp [*]; done), by repeat (first | exact Drawn0.refl _ | apply Drawn0.step)⟩
                · rw [if_neg c7] at H
                  have c7b0 : decide (70 < (((rd_T52 l0 x3_1).f1.f0).length : Int)) = false := decide_eq_false c7
                  have c7b1 : decide (70 < ((rd_T52 l0 x3_1).f1.f0).length) = false := decide_eq_false (by omega)
                  clear c7
                  have H' := Aside0.mk H
                  clear H
                  have p163 : 0 ≤ (x3_1 : Int) := of_decide_eq_true (by first | (with_reducible assumption) | assumption)
                  have q163 : x3_1 < (l0.length : Int) := of_decide_eq_true (by first | (with_reducible assumption) | assumption)
                  obtain ⟨ad163, A163_1, c163_1, e163, hx163_0, hx163_1, hx163_2, hx163_3, hl163_1, hi163_1⟩ := at_T52 HR0.out x3_1 p163 q163
                  cases e163
                  have HR163_1 := Aside0.mk hi163_1
                  have HC163_1 := Aside0.mk hl163_1
                  clear hi163_1 hl163_1
                  replace p163 := eq_true p163
                  replace q163 := eq_true q163
                  go_wp2
                  go_roundg kj1
                  case measure => have := HK1.out; have := HJ1.out; omega
                  case rel => exact ⟨(wrap64 (x3_1 + 1)), (by first | rfl | (simp; done) | (simp [*]; done)), H', ⟨by have := HK1.out; have := HJ1.out; omega⟩, by repeat (first | exact Drawn0.refl _ | apply Drawn0.step)⟩
              · rw [if_neg c6] at H
                exact absurd H (by simp)
            · rw [if_neg c5] at H
              exact absurd H (by simp)
          · replace c4 := Bool.eq_false_iff.mpr c4
            subst c4
            have H1 : (some (decide ((l0.length : Int) ≤ 20))) = some r := by rw [if_neg (show ¬ (false = true) by decide)] at H; exact H
            clear H
            have H := H1
            clear H1
            obtain rfl := Option.some.inj H
            go_wp2
            go_ret
            exact ⟨by first | rfl | (simp; done) | (simp [*]; done), by repeat (first | exact Drawn0.refl _ | apply Drawn0.step)⟩
end Go.Proofs.Ytfdhnmijaobbdaa.S
end
section
namespace Go.Proofs.Ytfdhnmijaobbdaa.S
open Go.RowKit Go.Proofs.YtfdhnmijaobbdaaW.PrintWords Go.Proofs.YtfdhnmijaobbdaaW.PrintLast Go.Proofs.YtfdhnmijaobbdaaW.PrintMore
attribute [local go_sem] max2_int min2_int max_two min_two max_three min_three max_four min_four   -- for this text's walks alone
set_option linter.unusedVariables false
set_option linter.unusedSimpArgs false
def chalklinelaw35_shows.f (k : Nat) (l0 : List (S52)) (a1_0 : Int) (l1_1 : List (S60)) : Option (Bool) := if a1_0 = 0 then (some ((l1_1.length : Int) == 0)) else (if a1_0 ≥ 1 then (if a1_0 ≤ (l0.length : Int) then (if 0 ≤ (wrap64 (a1_0 - 1)) then (if (wrap64 (a1_0 - 1)) < (l0.length : Int) then ((chalklineref04_Same.f k ((rd_T52 l0 (wrap64 (a1_0 - 1))).f1.f0) l1_1).bind fun t307 => (some t307)) else (none)) else (none)) else (some false)) else (some false))
def chalklinelaw35_shows.T3 : Bool × List (List Nat × List Nat) := (true, [([], []), ([0], [0]), ([1], [1]), ([2], [2]), ([3], [3]), ([4, 3], [3, 4]), ([3], [3]), ([6, 3], [3, 6]), ([5, 7, 3], [3, 5, 7]), ([3, 8], [3, 8]), ([9, 3], [9]), ([10], [10]), ([10], [10]), ([12, 10], [10, 12]), ([13, 10], [10, 13]), ([11, 14, 10], [10, 11, 14]), ([15, 10], [10, 15]), ([16, 10], [10, 16]), ([10], [10]), ([18, 10], [10, 18]), ([17, 19, 10, 10], [10, 17, 19]), ([10, 20], [10, 20]), ([21, 20, 0, 1, 2, 3, 4, 5, 6, 7, 8, 9, 10, 11, 12, 13, 14, 15, 16, 17, 18, 19, 20, 21], [21])])
def chalklinelaw35_shows.B3 : List Nat := [0, 1, 3, 7, 15, 31, 15, 79, 255, 511, 1023, 2047, 2047, 6143, 14335, 32767, 65535, 131071, 2047, 264191, 1048575, 2097151, 4194303]
theorem chalklinelaw35_shows.tab3 : rtab .any (opsOf Try.f24 3) = chalklinelaw35_shows.T3 := by kernel_rfl
theorem chalklinelaw35_shows.bits3 : waitsOk chalklinelaw35_shows.T3.2 chalklinelaw35_shows.B3 = true := by kernel_rfl
set_option maxHeartbeats 8000000 in
set_option maxRecDepth 100000 in
theorem chalklinelaw35_shows.calls (k : Nat) (A0 : Option Addr) (c0 : Nat) (l0 : List (S52)) (a1_0 : Int) (A1_1 : Option Addr) (c1_1 : Nat) (l1_1 : List (S60)) (r : Bool) (w : World) (hr0 : Kd.C k52 w A0 l0.length l0) (hc0 : l0.length ≤ c0) (hr1_1 : Kd.C k60 w A1_1 l1_1.length l1_1) (hc1_1 : l1_1.length ≤ c1_1) (h : chalklinelaw35_shows.f k l0 a1_0 l1_1 = some r) :
    Calls Try.prog 24 #[.slice A0 l0.length c0, .agg #[.int .i64 a1_0, .slice A1_1 l1_1.length c1_1]] w fun e w' => e = .returned (.bool r) ∧ Below w.heap.size w w' := by
  have hu27 := Try.underlying27
  have hu25 := Try.underlying25
  have HR0 := Aside0.mk hr0
  have HC0 := Aside0.mk hc0
  clear hr0 hc0
  have HR1_1 := Aside0.mk hr1_1
  have HC1_1 := Aside0.mk hc1_1
  clear hr1_1 hc1_1
  have HB := Aside0.mk (Below.refl w.heap.size w)
  have H : (if a1_0 = 0 then (some ((l1_1.length : Int) == 0)) else (if a1_0 ≥ 1 then (if a1_0 ≤ (l0.length : Int) then (if 0 ≤ (wrap64 (a1_0 - 1)) then (if (wrap64 (a1_0 - 1)) < (l0.length : Int) then ((chalklineref04_Same.f k ((rd_T52 l0 (wrap64 (a1_0 - 1))).f1.f0) l1_1).bind fun t307 => (some t307)) else (none)) else (none)) else (some false)) else (some false))) = some r := h
  clear h
  by_cases c3 : a1_0 = 0
  · rw [if_pos c3] at H
    have c3b0 : (a1_0 == 0) = true := beq_iff_eq.mpr c3
    have c3b1 : (a1_0 != 0) = false := bne_eq_false_iff_eq.mpr c3
    clear c3
    obtain rfl := Option.some.inj H
    go_enter Try.func24, Try.ntmps24
    go_wp2_with (first | ((with_reducible refine gate_dst (N := 3) rfl ?_); (try (refine gate_guard (by rfl) ?_; dsimp only)); refine box_event ?hg (N := 3) ?hd (cs := #[.int .i64 a1_0, .slice A1_1 l1_1.length c1_1]) (t := 27) ?hr ?_; (case hd => rfl); (case hg => rfl); (case hr => first | (go_simp; done) | (go_simp; rfl)); intro gb305 hg w4 hbox hb; have n0_ := Aside0.mk (below_step (by repeat (first | (with_reducible first | exact HB.out | apply below_alloc | apply pw_below_drewN | apply below_drew1) | exact HB.out)) hb); have n1_ := Aside0.mk (hbox); have n2_ := Aside0.mk ((by rw [hg]; exact (below_size (by repeat (first | (with_reducible first | exact HB.out | apply below_alloc | apply pw_below_drewN | apply below_drew1) | exact HB.out))) : w.heap.size ≤ gb305)); have n3_ := Aside0.mk ((by rw [hg]; exact (below_size (by repeat (first | (with_reducible first | exact HB.out | apply below_alloc | apply pw_below_drewN | apply below_drew1) | exact HB.out))) : w.heap.size ≤ gb305)); clear HB; have HB := n0_; have BK305 := n1_; have GW305 := n2_; have GE305 := n3_; clear n0_ n1_ n2_ n3_; clear hb hbox hg; have hcz5_0 : w4.cell? ⟨gb305, 0, none⟩ = some (.int .i64 a1_0) := (blk_cell BK305.out 0).trans rfl; have hcz5_1 : w4.cell? ⟨gb305, 1, none⟩ = some (.slice A1_1 l1_1.length c1_1) := (blk_cell BK305.out 1).trans rfl; have hfz5_0 := blk_frozen BK305.out 0; have hfz5_1 := blk_frozen BK305.out 1))
    go_ret
    exact ⟨by first | rfl | (simp [errW_none, errW_some] <;> rfl) | (simp [*, errW_none, errW_some] <;> rfl), by repeat (first | (with_reducible first | exact HB.out | apply below_alloc | apply pw_below_drewN | apply below_drew1 | refine below_set ?_ GE305.out) | exact HB.out)⟩
  · rw [if_neg c3] at H
    have c3b0 : (a1_0 == 0) = false := beq_eq_false_iff_ne.mpr c3
    have c3b1 : (a1_0 != 0) = true := bne_iff_ne.mpr c3
    by_cases c6 : a1_0 ≥ 1
    · rw [if_pos c6] at H
      have c6b0 : decide (1 ≤ a1_0) = true := decide_eq_true c6
      clear c6
      by_cases c7 : a1_0 ≤ (l0.length : Int)
      · rw [if_pos c7] at H
        have c7b0 : decide (a1_0 ≤ (l0.length : Int)) = true := decide_eq_true c7
        clear c7
        obtain ⟨ji8, hji8⟩ : ∃ j_ : Int, (wrap64 (a1_0 - 1)) = j_ := ⟨_, rfl⟩
        replace H : (if 0 ≤ (ji8) then (if (ji8) < (l0.length : Int) then ((chalklineref04_Same.f k ((rd_T52 l0 (ji8)).f1.f0) l1_1).bind fun t307 => (some t307)) else (none)) else (none)) = some r := by first | (rw [hji8] at H; exact H) | (simp only [hji8] at H ⊢; exact H)
        have hji8w : (IntKind.i64.wrap (a1_0 - 1)) = ji8 := (i64_w _).trans hji8
        by_cases c9 : 0 ≤ (ji8)
        · rw [if_pos c9] at H
          have c9b0 : decide (0 ≤ (ji8)) = true := decide_eq_true c9
          clear c9
          by_cases c10 : (ji8) < (l0.length : Int)
          · rw [if_pos c10] at H
            have c10b0 : decide ((ji8) < (l0.length : Int)) = true := decide_eq_true c10
            clear c10
            replace H := Option.bind_eq_some_iff.mp H
            obtain ⟨t307, A110, H⟩ := H
            replace H : (some t307) = some r := H
            have A11 := Aside0.mk A110
            clear A110
            obtain rfl := Option.some.inj H
            go_enter Try.func24, Try.ntmps24
            try go_wp2_with (first | ((with_reducible refine gate_dst (N := 3) rfl ?_); (try (refine gate_guard (by rfl) ?_; dsimp only)); refine box_event ?hg (N := 3) ?hd (cs := #[.int .i64 a1_0, .slice A1_1 l1_1.length c1_1]) (t := 27) ?hr ?_; (case hd => rfl); (case hg => rfl); (case hr => first | (go_simp; done) | (go_simp; rfl)); intro gb305 hg w12 hbox hb; have n0_ := Aside0.mk (below_step (by repeat (first | (with_reducible first | exact HB.out | apply below_alloc | apply pw_below_drewN | apply below_drew1) | exact HB.out)) hb); have n1_ := Aside0.mk (hbox); have n2_ := Aside0.mk ((by rw [hg]; exact (below_size (by repeat (first | (with_reducible first | exact HB.out | apply below_alloc | apply pw_below_drewN | apply below_drew1) | exact HB.out))) : w.heap.size ≤ gb305)); have n3_ := Aside0.mk ((by rw [hg]; exact (below_size (by repeat (first | (with_reducible first | exact HB.out | apply below_alloc | apply pw_below_drewN | apply below_drew1) | exact HB.out))) : w.heap.size ≤ gb305)); clear HB; have HB := n0_; have BK305 := n1_; have GW305 := n2_; have GE305 := n3_; clear n0_ n1_ n2_ n3_; clear hb hbox hg; have hcz13_0 : w12.cell? ⟨gb305, 0, none⟩ = some (.int .i64 a1_0) := (blk_cell BK305.out 0).trans rfl; have hcz13_1 : w12.cell? ⟨gb305, 1, none⟩ = some (.slice A1_1 l1_1.length c1_1) := (blk_cell BK305.out 1).trans rfl; have hfz13_0 := blk_frozen BK305.out 0; have hfz13_1 := blk_frozen BK305.out 1))
            have n0_ := Aside0.mk (blk_drew BK305.out)
            have n1_ := Aside0.mk (below_drew1 HB.out)
            clear BK305
            clear HB
            have BK305 := n0_
            have HB := n1_
            clear n0_ n1_
            have p306 : 0 ≤ ((ji8) : Int) := of_decide_eq_true (by first | (with_reducible assumption) | assumption)
            have q306 : (ji8) < (l0.length : Int) := of_decide_eq_true (by first | (with_reducible assumption) | assumption)
            obtain ⟨ad306, A306_1, c306_1, e306, hx306_0, hx306_1, hx306_2, hx306_3, hl306_1, hi306_1⟩ := at_T52 HR0.out (ji8) p306 q306
            have hw306_3 := hx306_3
            have hw306_2 := hx306_2
            have hw306_1 := hx306_1
            have hw306_0 := hx306_0
            cases e306
            replace hx306_0 := (HB.out.cell (World.block_lt_of_cell? w _ hx306_0)).trans hx306_0
            replace hx306_1 := (HB.out.cell (World.block_lt_of_cell? w _ hx306_1)).trans hx306_1
            replace hx306_2 := (HB.out.cell (World.block_lt_of_cell? w _ hx306_2)).trans hx306_2
            replace hx306_3 := (HB.out.cell (World.block_lt_of_cell? w _ hx306_3)).trans hx306_3
            have HR306_1 := Aside0.mk hi306_1
            have HC306_1 := Aside0.mk hl306_1
            clear hi306_1 hl306_1
            replace p306 := eq_true p306
            replace q306 := eq_true q306
            refine start_ (n := 23) (S := fun w' => w'.cell? ⟨gb305, 0, none⟩ = some (.int .i64 a1_0) ∧ w'.cell? ⟨gb305, 1, none⟩ = some (.slice A1_1 l1_1.length c1_1) ∧ w'.cell? (ad306.add (((ji8)).toNat * 4)) = some (.int .i64 ((rd_T52 l0 (ji8)).f0)) ∧ w'.cell? ⟨(ad306.add (((ji8)).toNat * 4)).block, (ad306.add (((ji8)).toNat * 4)).off + 1, none⟩ = some (.slice A306_1 ((rd_T52 l0 (ji8)).f1.f0).length c306_1) ∧ w'.cell? ⟨(ad306.add (((ji8)).toNat * 4)).block, (ad306.add (((ji8)).toNat * 4)).off + 2, none⟩ = some (.int .i64 ((rd_T52 l0 (ji8)).f2)) ∧ w'.cell? ⟨(ad306.add (((ji8)).toNat * 4)).block, (ad306.add (((ji8)).toNat * 4)).off + 3, none⟩ = some (.bool ((rd_T52 l0 (ji8)).f3))) (ds := []) #[false, false, false, false, false, false, false, false, false, false, false, false, false, false, false, false, false, false, false, false, false, false, false] (by kernel_rfl) rfl rfl ⟨(blk_cell BK305.out 0).trans rfl, (blk_cell BK305.out 1).trans rfl, ((HB.out.cell (World.block_lt_of_cell? w _ hw306_0)).trans hw306_0), ((HB.out.cell (World.block_lt_of_cell? w _ hw306_1)).trans hw306_1), ((HB.out.cell (World.block_lt_of_cell? w _ hw306_2)).trans hw306_2), ((HB.out.cell (World.block_lt_of_cell? w _ hw306_3)).trans hw306_3)⟩ (fun hHeld => ?_); refine with_tabW chalklinelaw35_shows.tab3 chalklinelaw35_shows.bits3 (fun HT_ HW_ => ?_)
            generalize w12.drew = w14 at BK305 HB HR306_1 hx306_0 hx306_1 hx306_2 hx306_3 hHeld ⊢
            refine pure_ (i := 0) (N := some 13) (v := ?_) (a' := ?_) #[true, false, false, false, false, false, false, false, false, false, false, false, false, false, false, false, false, false, false, false, false, false, false] rfl rfl (any_of HT_.out (by kernel_rfl)) (fun _ _ _ h => h) (Or.inl ⟨by rfl, ?_⟩) ?_ ?_
            rotate_left
            · intro w'
              go_simp
              with_reducible rfl
            rotate_left
            · simp only [Act.put, List.setIfInBounds_toArray, List.set_cons_zero, List.set_cons_succ, i64_w, i32_w]
              rfl
            refine take_ (i := 1) (N := some 14) (v := ?_) (a' := ?_) #[true, true, false, false, false, false, false, false, false, false, false, false, false, false, false, false, false, false, false, false, false, false, false] rfl rfl (take_ofW HT_.out HW_.out (by kernel_rfl)) (fun _ _ _ h => h) (Or.inl ⟨by rfl, ?_⟩) hHeld ?_ ?_
            rotate_left
            · rintro w' ⟨s0, s1, s2, s3, s4, s5⟩
              go_simp
              with_reducible rfl
            rotate_left
            · simp only [Act.put, List.setIfInBounds_toArray, List.set_cons_zero, List.set_cons_succ, i64_w, i32_w]
              rfl
            refine pure_ (i := 2) (N := some 15) (v := ?_) (a' := ?_) #[true, true, true, false, false, false, false, false, false, false, false, false, false, false, false, false, false, false, false, false, false, false, false] rfl rfl (any_of HT_.out (by kernel_rfl)) (fun _ _ _ h => h) (Or.inl ⟨by rfl, ?_⟩) ?_ ?_
            rotate_left
            · intro w'
              go_simp
              with_reducible rfl
            rotate_left
            · simp only [Act.put, List.setIfInBounds_toArray, List.set_cons_zero, List.set_cons_succ, i64_w, i32_w]
              rfl
            refine pure_ (i := 3) (N := some 16) (v := ?_) (a' := ?_) #[true, true, true, true, false, false, false, false, false, false, false, false, false, false, false, false, false, false, false, false, false, false, false] rfl rfl (any_of HT_.out (by kernel_rfl)) (fun _ _ _ h => h) (Or.inl ⟨by rfl, ?_⟩) ?_ ?_
            rotate_left
            · intro w'
              go_simp
              with_reducible rfl
            rotate_left
            · simp only [Act.put, List.setIfInBounds_toArray, List.set_cons_zero, List.set_cons_succ, i64_w, i32_w]
              rfl
            refine pure_ (i := 4) (N := some 17) (v := ?_) (a' := ?_) #[true, true, true, true, true, false, false, false, false, false, false, false, false, false, false, false, false, false, false, false, false, false, false] rfl rfl (any_of HT_.out (by kernel_rfl)) (fun _ _ _ h => h) (Or.inl ⟨by rfl, ?_⟩) ?_ ?_
            rotate_left
            · intro w'
              go_simp
              with_reducible rfl
            rotate_left
            · simp only [Act.put, List.setIfInBounds_toArray, List.set_cons_zero, List.set_cons_succ, i64_w, i32_w]
              rfl
            refine pure_ (i := 6) (N := some 19) (v := ?_) (a' := ?_) #[true, true, true, true, true, false, true, false, false, false, false, false, false, false, false, false, false, false, false, false, false, false, false] rfl rfl (any_of HT_.out (by kernel_rfl)) (fun _ _ _ h => h) (Or.inl ⟨by rfl, ?_⟩) ?_ ?_
            rotate_left
            · intro w'
              go_simp
              with_reducible rfl
            rotate_left
            · simp only [Act.put, List.setIfInBounds_toArray, List.set_cons_zero, List.set_cons_succ, i64_w, i32_w]
              rfl
            refine pure_ (i := 7) (N := some 20) (v := ?_) (a' := ?_) #[true, true, true, true, true, false, true, true, false, false, false, false, false, false, false, false, false, false, false, false, false, false, false] rfl rfl (any_of HT_.out (by kernel_rfl)) (fun _ _ _ h => h) (Or.inl ⟨by rfl, ?_⟩) ?_ ?_
            rotate_left
            · intro w'
              go_simp
              with_reducible rfl
            rotate_left
            · simp only [Act.put, List.setIfInBounds_toArray, List.set_cons_zero, List.set_cons_succ, i64_w, i32_w]
              rfl
            refine take_ (i := 5) (N := some 18) (v := ?_) (a' := ?_) #[true, true, true, true, true, true, true, true, false, false, false, false, false, false, false, false, false, false, false, false, false, false, false] rfl rfl (take_ofW HT_.out HW_.out (by kernel_rfl)) (fun _ _ _ h => h) (Or.inl ⟨by rfl, ?_⟩) hHeld ?_ ?_
            rotate_left
            · rintro w' ⟨s0, s1, s2, s3, s4, s5⟩
              go_simp
              with_reducible rfl
            rotate_left
            · simp only [Act.put, List.setIfInBounds_toArray, List.set_cons_zero, List.set_cons_succ, i64_w, i32_w]
              rfl
            refine pure_ (i := 8) (N := some 21) (v := ?_) (a' := ?_) #[true, true, true, true, true, true, true, true, true, false, false, false, false, false, false, false, false, false, false, false, false, false, false] rfl rfl (any_of HT_.out (by kernel_rfl)) (fun _ _ _ h => h) (Or.inl ⟨by rfl, ?_⟩) ?_ ?_
            rotate_left
            · intro w'
              go_simp
              with_reducible rfl
            rotate_left
            · simp only [Act.put, List.setIfInBounds_toArray, List.set_cons_zero, List.set_cons_succ, i64_w, i32_w]
              rfl
            refine pure_ (i := 9) (N := some 22) (v := ?_) (a' := ?_) #[true, true, true, true, true, true, true, true, true, true, false, false, false, false, false, false, false, false, false, false, false, false, false] rfl rfl (any_of HT_.out (by kernel_rfl)) (fun _ _ _ h => h) (Or.inl ⟨by rfl, ?_⟩) ?_ ?_
            rotate_left
            · intro w'
              go_simp
              with_reducible rfl
            rotate_left
            · simp only [Act.put, List.setIfInBounds_toArray, List.set_cons_zero, List.set_cons_succ, i64_w, i32_w]
              rfl
            refine pure_ (i := 10) (N := some 23) (v := ?_) (a' := ?_) #[true, true, true, true, true, true, true, true, true, true, true, false, false, false, false, false, false, false, false, false, false, false, false] rfl rfl (any_of HT_.out (by kernel_rfl)) (fun _ _ _ h => h) (Or.inl ⟨by rfl, ?_⟩) ?_ ?_
            rotate_left
            · intro w'
              go_simp
              with_reducible rfl
            rotate_left
            · simp only [Act.put, List.setIfInBounds_toArray, List.set_cons_zero, List.set_cons_succ, i64_w, i32_w]
              rfl
            refine pure_ (i := 11) (N := some 24) (v := ?_) (a' := ?_) #[true, true, true, true, true, true, true, true, true, true, true, true, false, false, false, false, false, false, false, false, false, false, false] rfl rfl (any_of HT_.out (by kernel_rfl)) (fun _ _ _ h => h) (Or.inl ⟨by rfl, ?_⟩) ?_ ?_
            rotate_left
            · intro w'
              go_simp
              with_reducible rfl
            rotate_left
            · simp only [Act.put, List.setIfInBounds_toArray, List.set_cons_zero, List.set_cons_succ, i64_w, i32_w]
              rfl
            refine pure_ (i := 12) (N := some 25) (v := ?_) (a' := ?_) #[true, true, true, true, true, true, true, true, true, true, true, true, true, false, false, false, false, false, false, false, false, false, false] rfl rfl (any_of HT_.out (by kernel_rfl)) (fun _ _ _ h => h) (Or.inl ⟨by rfl, ?_⟩) ?_ ?_
            rotate_left
            · intro w'
              go_simp
              with_reducible rfl
            rotate_left
            · simp only [Act.put, List.setIfInBounds_toArray, List.set_cons_zero, List.set_cons_succ, i64_w, i32_w]
              rfl
            refine pure_ (i := 18) (N := some 31) (v := ?_) (a' := ?_) #[true, true, true, true, true, true, true, true, true, true, true, true, true, false, false, false, false, false, true, false, false, false, false] rfl rfl (any_of HT_.out (by kernel_rfl)) (fun _ _ _ h => h) (Or.inl ⟨by rfl, ?_⟩) ?_ ?_
            rotate_left
            · intro w'
              go_simp
              with_reducible rfl
            rotate_left
            · simp only [Act.put, List.setIfInBounds_toArray, List.set_cons_zero, List.set_cons_succ, i64_w, i32_w]
              rfl
            refine take_ (i := 13) (N := some 26) (v := ?_) (a' := ?_) #[true, true, true, true, true, true, true, true, true, true, true, true, true, true, false, false, false, false, true, false, false, false, false] rfl rfl (take_ofW HT_.out HW_.out (by kernel_rfl)) (fun _ _ _ h => h) (Or.inl ⟨by rfl, ?_⟩) hHeld ?_ ?_
            rotate_left
            · rintro w' ⟨s0, s1, s2, s3, s4, s5⟩
              go_simp
              with_reducible rfl
            rotate_left
            · simp only [Act.put, List.setIfInBounds_toArray, List.set_cons_zero, List.set_cons_succ, i64_w, i32_w]
              rfl
            refine pure_ (i := 14) (N := some 27) (v := ?_) (a' := ?_) #[true, true, true, true, true, true, true, true, true, true, true, true, true, true, true, false, false, false, true, false, false, false, false] rfl rfl (any_of HT_.out (by kernel_rfl)) (fun _ _ _ h => h) (Or.inl ⟨by rfl, ?_⟩) ?_ ?_
            rotate_left
            · intro w'
              go_simp
              with_reducible rfl
            rotate_left
            · simp only [Act.put, List.setIfInBounds_toArray, List.set_cons_zero, List.set_cons_succ, i64_w, i32_w]
              rfl
            refine pure_ (i := 15) (N := some 28) (v := ?_) (a' := ?_) #[true, true, true, true, true, true, true, true, true, true, true, true, true, true, true, true, false, false, true, false, false, false, false] rfl rfl (any_of HT_.out (by kernel_rfl)) (fun _ _ _ h => h) (Or.inl ⟨by rfl, ?_⟩) ?_ ?_
            rotate_left
            · intro w'
              go_simp
              with_reducible rfl
            rotate_left
            · simp only [Act.put, List.setIfInBounds_toArray, List.set_cons_zero, List.set_cons_succ, i64_w, i32_w]
              rfl
            refine pure_ (i := 16) (N := some 29) (v := ?_) (a' := ?_) #[true, true, true, true, true, true, true, true, true, true, true, true, true, true, true, true, true, false, true, false, false, false, false] rfl rfl (any_of HT_.out (by kernel_rfl)) (fun _ _ _ h => h) (Or.inl ⟨by rfl, ?_⟩) ?_ ?_
            rotate_left
            · intro w'
              go_simp
              with_reducible rfl
            rotate_left
            · simp only [Act.put, List.setIfInBounds_toArray, List.set_cons_zero, List.set_cons_succ, i64_w, i32_w]
              rfl
            refine take_ (i := 17) (N := some 30) (v := ?_) (a' := ?_) #[true, true, true, true, true, true, true, true, true, true, true, true, true, true, true, true, true, true, true, false, false, false, false] rfl rfl (take_ofW HT_.out HW_.out (by kernel_rfl)) (fun _ _ _ h => h) (Or.inl ⟨by rfl, ?_⟩) hHeld ?_ ?_
            rotate_left
            · rintro w' ⟨s0, s1, s2, s3, s4, s5⟩
              go_simp
              with_reducible rfl
            rotate_left
            · simp only [Act.put, List.setIfInBounds_toArray, List.set_cons_zero, List.set_cons_succ, i64_w, i32_w]
              rfl
            refine take_ (i := 19) (N := some 32) (v := ?_) (a' := ?_) #[true, true, true, true, true, true, true, true, true, true, true, true, true, true, true, true, true, true, true, true, false, false, false] rfl rfl (take_ofW HT_.out HW_.out (by kernel_rfl)) (fun _ _ _ h => h) (Or.inl ⟨by rfl, ?_⟩) hHeld ?_ ?_
            rotate_left
            · rintro w' ⟨s0, s1, s2, s3, s4, s5⟩
              go_simp
              with_reducible rfl
            rotate_left
            · simp only [Act.put, List.setIfInBounds_toArray, List.set_cons_zero, List.set_cons_succ, i64_w, i32_w]
              rfl
            refine one_ (i := 20) (N := some 33) #[true, true, true, true, true, true, true, true, true, true, true, true, true, true, true, true, true, true, true, true, true, false, false] rfl rfl (one_of HT_.out (by kernel_rfl)) (by decide) (fun K hK => ?_)
            refine goes_ Try.func27 (by kernel_rfl) rfl #[.agg #[.slice A306_1 ((rd_T52 l0 (ji8)).f1.f0).length c306_1], .agg #[.slice A1_1 l1_1.length c1_1]] (by rfl) rfl rfl (by (try simp only [List.map_toArray, List.map_cons, List.map_nil]); first | done | (simp only [hji8]; rfl) | rfl | (simp only [List.length_drop, List.length_take]; rfl)) ?_
            with_reducible refine (chalklineref04_Same.calls k _ _ ((rd_T52 l0 (ji8)).f1.f0) _ _ l1_1 t307 _ ?side1 ?side2 ?side3 ?side4 A11.out).mono ?_
            (case side1 => repeat (first | exact (Kd.C_below HR306_1.out HB.out) | (with_reducible refine Kd.C_alloc ?_ _) | (with_reducible refine Kd.C_drewN ?_ _) | (with_reducible refine Kd.C_drew ?_)))
            (case side2 => exact HC306_1.out)
            (case side3 => repeat (first | exact (Kd.C_below HR1_1.out HB.out) | (with_reducible refine Kd.C_alloc ?_ _) | (with_reducible refine Kd.C_drewN ?_ _) | (with_reducible refine Kd.C_drew ?_)))
            (case side4 => exact HC1_1.out)
            rintro e w15 ⟨rfl, hb⟩
            refine ⟨_, rfl, ?_⟩
            have n0_ := Aside0.mk (blk_below (g := gb305) (o := .cells #[.int .i64 a1_0, .slice A1_1 l1_1.length c1_1] 27 (0, 0)) (by (with_reducible repeat (first | refine blk_drewN ?_ _ | refine blk_drew ?_ | refine blk_alloc ?_ _)); exact BK305.out) hb)
            have n1_ := Aside0.mk (below_step (by repeat (first | (with_reducible first | exact HB.out | apply below_alloc | apply pw_below_drewN | apply below_drew1 | refine below_set ?_ GE305.out) | exact HB.out)) hb)
            clear BK305
            clear HB
            have BK305 := n0_
            have HB := n1_
            clear n0_ n1_
            (try clear hb)
            (try clear hb2)
            (try clear hk)
            (try clear hi)
            refine hK.out _ _ ⟨(blk_cell BK305.out 0).trans rfl, (blk_cell BK305.out 1).trans rfl, ((HB.out.cell (World.block_lt_of_cell? w _ hw306_0)).trans hw306_0), ((HB.out.cell (World.block_lt_of_cell? w _ hw306_1)).trans hw306_1), ((HB.out.cell (World.block_lt_of_cell? w _ hw306_2)).trans hw306_2), ((HB.out.cell (World.block_lt_of_cell? w _ hw306_3)).trans hw306_3)⟩ (fun hHeld => ?_)
            clear hK K
            refine norm_ (a' := ?_) ?_ ?_
            rotate_left
            · show Act.put _ (some 33) _ = _
              simp only [Act.put, List.setIfInBounds_toArray, List.set_cons_zero, List.set_cons_succ, i64_w, i32_w]
              rfl
            refine pure_ (i := 21) (N := some 34) (v := ?_) (a' := ?_) #[true, true, true, true, true, true, true, true, true, true, true, true, true, true, true, true, true, true, true, true, true, true, false] rfl rfl (any_of HT_.out (by kernel_rfl)) (fun _ _ _ h => h) (Or.inl ⟨by rfl, ?_⟩) ?_ ?_
            rotate_left
            · intro w'
              go_simp
              with_reducible rfl
            rotate_left
            · simp only [Act.put, List.setIfInBounds_toArray, List.set_cons_zero, List.set_cons_succ, i64_w, i32_w]
              rfl
            refine pure_ (i := 22) (N := some 4) (v := ?_) (a' := ?_) #[true, true, true, true, true, true, true, true, true, true, true, true, true, true, true, true, true, true, true, true, true, true, true] rfl rfl (any_of HT_.out (by kernel_rfl)) (fun _ _ _ h => h) (Or.inl ⟨by rfl, ?_⟩) ?_ ?_
            rotate_left
            · intro w'
              go_simp
              with_reducible rfl
            rotate_left
            · simp only [Act.put, List.setIfInBounds_toArray, List.set_cons_zero, List.set_cons_succ, i64_w, i32_w]
              rfl
            refine done_ (done_of HT_.out (by kernel_rfl)) ?_
            try go_wp2
            go_ret
            exact ⟨by first | rfl | (simp [errW_none, errW_some] <;> rfl) | (simp only [← hji8]; first | rfl | (simp [errW_none, errW_some] <;> rfl)) | (simp [*, errW_none, errW_some] <;> rfl), by repeat (first | (with_reducible first | exact HB.out | apply below_alloc | apply pw_below_drewN | apply below_drew1 | refine below_set ?_ GE305.out) | exact HB.out)⟩
          · rw [if_neg c10] at H
            exact absurd H (by simp)
        · rw [if_neg c9] at H
          exact absurd H (by simp)
      · rw [if_neg c7] at H
        have c7b0 : decide (a1_0 ≤ (l0.length : Int)) = false := decide_eq_false c7
        clear c7
        obtain rfl := Option.some.inj H
        go_enter Try.func24, Try.ntmps24
        try go_wp2_with (first | ((with_reducible refine gate_dst (N := 3) rfl ?_); (try (refine gate_guard (by rfl) ?_; dsimp only)); refine box_event ?hg (N := 3) ?hd (cs := #[.int .i64 a1_0, .slice A1_1 l1_1.length c1_1]) (t := 27) ?hr ?_; (case hd => rfl); (case hg => rfl); (case hr => first | (go_simp; done) | (go_simp; rfl)); intro gb305 hg w16 hbox hb; have n0_ := Aside0.mk (below_step (by repeat (first | (with_reducible first | exact HB.out | apply below_alloc | apply pw_below_drewN | apply below_drew1) | exact HB.out)) hb); have n1_ := Aside0.mk (hbox); have n2_ := Aside0.mk ((by rw [hg]; exact (below_size (by repeat (first | (with_reducible first | exact HB.out | apply below_alloc | apply pw_below_drewN | apply below_drew1) | exact HB.out))) : w.heap.size ≤ gb305)); have n3_ := Aside0.mk ((by rw [hg]; exact (below_size (by repeat (first | (with_reducible first | exact HB.out | apply below_alloc | apply pw_below_drewN | apply below_drew1) | exact HB.out))) : w.heap.size ≤ gb305)); clear HB; have HB := n0_; have BK305 := n1_; have GW305 := n2_; have GE305 := n3_; clear n0_ n1_ n2_ n3_; clear hb hbox hg; have hcz17_0 : w16.cell? ⟨gb305, 0, none⟩ = some (.int .i64 a1_0) := (blk_cell BK305.out 0).trans rfl; have hcz17_1 : w16.cell? ⟨gb305, 1, none⟩ = some (.slice A1_1 l1_1.length c1_1) := (blk_cell BK305.out 1).trans rfl; have hfz17_0 := blk_frozen BK305.out 0; have hfz17_1 := blk_frozen BK305.out 1))
        have n0_ := Aside0.mk (blk_drew BK305.out)
        have n1_ := Aside0.mk (below_drew1 HB.out)
        clear BK305
        clear HB
        have BK305 := n0_
        have HB := n1_
        clear n0_ n1_
        refine start_ (n := 23) (S := fun w' => w'.cell? ⟨gb305, 0, none⟩ = some (.int .i64 a1_0) ∧ w'.cell? ⟨gb305, 1, none⟩ = some (.slice A1_1 l1_1.length c1_1)) (ds := []) #[false, false, false, false, false, false, false, false, false, false, false, false, false, false, false, false, false, false, false, false, false, false, false] (by kernel_rfl) rfl rfl ⟨(blk_cell BK305.out 0).trans rfl, (blk_cell BK305.out 1).trans rfl⟩ (fun hHeld => ?_); refine with_tabW chalklinelaw35_shows.tab3 chalklinelaw35_shows.bits3 (fun HT_ HW_ => ?_)
        generalize w16.drew = w18 at BK305 HB hHeld ⊢
        refine pure_ (i := 0) (N := some 13) (v := ?_) (a' := ?_) #[true, false, false, false, false, false, false, false, false, false, false, false, false, false, false, false, false, false, false, false, false, false, false] rfl rfl (any_of HT_.out (by kernel_rfl)) (fun _ _ _ h => h) (Or.inl ⟨by rfl, ?_⟩) ?_ ?_
        rotate_left
        · intro w'
          go_simp
          with_reducible rfl
        rotate_left
        · simp only [Act.put, List.setIfInBounds_toArray, List.set_cons_zero, List.set_cons_succ, i64_w, i32_w]
          rfl
        refine take_ (i := 1) (N := some 14) (v := ?_) (a' := ?_) #[true, true, false, false, false, false, false, false, false, false, false, false, false, false, false, false, false, false, false, false, false, false, false] rfl rfl (take_ofW HT_.out HW_.out (by kernel_rfl)) (fun _ _ _ h => h) (Or.inl ⟨by rfl, ?_⟩) hHeld ?_ ?_
        rotate_left
        · rintro w' ⟨s0, s1⟩
          go_simp
          with_reducible rfl
        rotate_left
        · simp only [Act.put, List.setIfInBounds_toArray, List.set_cons_zero, List.set_cons_succ, i64_w, i32_w]
          rfl
        refine pure_ (i := 2) (N := some 15) (v := ?_) (a' := ?_) #[true, true, true, false, false, false, false, false, false, false, false, false, false, false, false, false, false, false, false, false, false, false, false] rfl rfl (any_of HT_.out (by kernel_rfl)) (fun _ _ _ h => h) (Or.inl ⟨by rfl, ?_⟩) ?_ ?_
        rotate_left
        · intro w'
          go_simp
          with_reducible rfl
        rotate_left
        · simp only [Act.put, List.setIfInBounds_toArray, List.set_cons_zero, List.set_cons_succ, i64_w, i32_w]
          rfl
        refine pure_ (i := 3) (N := some 16) (v := ?_) (a' := ?_) #[true, true, true, true, false, false, false, false, false, false, false, false, false, false, false, false, false, false, false, false, false, false, false] rfl rfl (any_of HT_.out (by kernel_rfl)) (fun _ _ _ h => h) (Or.inl ⟨by rfl, ?_⟩) ?_ ?_
        rotate_left
        · intro w'
          go_simp
          with_reducible rfl
        rotate_left
        · simp only [Act.put, List.setIfInBounds_toArray, List.set_cons_zero, List.set_cons_succ, i64_w, i32_w]
          rfl
        refine pure_ (i := 4) (N := some 17) (v := ?_) (a' := ?_) #[true, true, true, true, true, false, false, false, false, false, false, false, false, false, false, false, false, false, false, false, false, false, false] rfl rfl (any_of HT_.out (by kernel_rfl)) (fun _ _ _ h => h) (Or.inl ⟨by rfl, ?_⟩) ?_ ?_
        rotate_left
        · intro w'
          go_simp
          with_reducible rfl
        rotate_left
        · simp only [Act.put, List.setIfInBounds_toArray, List.set_cons_zero, List.set_cons_succ, i64_w, i32_w]
          rfl
        refine pure_ (i := 6) (N := some 19) (v := ?_) (a' := ?_) #[true, true, true, true, true, false, true, false, false, false, false, false, false, false, false, false, false, false, false, false, false, false, false] rfl rfl (any_of HT_.out (by kernel_rfl)) (fun _ _ _ h => h) (Or.inl ⟨by rfl, ?_⟩) ?_ ?_
        rotate_left
        · intro w'
          go_simp
          with_reducible rfl
        rotate_left
        · simp only [Act.put, List.setIfInBounds_toArray, List.set_cons_zero, List.set_cons_succ, i64_w, i32_w]
          rfl
        refine pure_ (i := 7) (N := some 20) (v := ?_) (a' := ?_) #[true, true, true, true, true, false, true, true, false, false, false, false, false, false, false, false, false, false, false, false, false, false, false] rfl rfl (any_of HT_.out (by kernel_rfl)) (fun _ _ _ h => h) (Or.inl ⟨by rfl, ?_⟩) ?_ ?_
        rotate_left
        · intro w'
          go_simp
          with_reducible rfl
        rotate_left
        · simp only [Act.put, List.setIfInBounds_toArray, List.set_cons_zero, List.set_cons_succ, i64_w, i32_w]
          rfl
        refine take_ (i := 5) (N := some 18) (v := ?_) (a' := ?_) #[true, true, true, true, true, true, true, true, false, false, false, false, false, false, false, false, false, false, false, false, false, false, false] rfl rfl (take_ofW HT_.out HW_.out (by kernel_rfl)) (fun _ _ _ h => h) (Or.inl ⟨by rfl, ?_⟩) hHeld ?_ ?_
        rotate_left
        · rintro w' ⟨s0, s1⟩
          go_simp
          with_reducible rfl
        rotate_left
        · simp only [Act.put, List.setIfInBounds_toArray, List.set_cons_zero, List.set_cons_succ, i64_w, i32_w]
          rfl
        refine pure_ (i := 8) (N := some 21) (v := ?_) (a' := ?_) #[true, true, true, true, true, true, true, true, true, false, false, false, false, false, false, false, false, false, false, false, false, false, false] rfl rfl (any_of HT_.out (by kernel_rfl)) (fun _ _ _ h => h) (Or.inl ⟨by rfl, ?_⟩) ?_ ?_
        rotate_left
        · intro w'
          go_simp
          with_reducible rfl
        rotate_left
        · simp only [Act.put, List.setIfInBounds_toArray, List.set_cons_zero, List.set_cons_succ, i64_w, i32_w]
          rfl
        refine pure_ (i := 9) (N := some 22) (v := ?_) (a' := ?_) #[true, true, true, true, true, true, true, true, true, true, false, false, false, false, false, false, false, false, false, false, false, false, false] rfl rfl (any_of HT_.out (by kernel_rfl)) (fun _ _ _ h => h) (Or.inl ⟨by rfl, ?_⟩) ?_ ?_
        rotate_left
        · intro w'
          go_simp
          with_reducible rfl
        rotate_left
        · simp only [Act.put, List.setIfInBounds_toArray, List.set_cons_zero, List.set_cons_succ, i64_w, i32_w]
          rfl
        refine pure_ (i := 10) (N := some 23) (v := ?_) (a' := ?_) #[true, true, true, true, true, true, true, true, true, true, true, false, false, false, false, false, false, false, false, false, false, false, false] rfl rfl (any_of HT_.out (by kernel_rfl)) (fun _ _ _ h => h) (Or.inl ⟨by rfl, ?_⟩) ?_ ?_
        rotate_left
        · intro w'
          go_simp
          with_reducible rfl
        rotate_left
        · simp only [Act.put, List.setIfInBounds_toArray, List.set_cons_zero, List.set_cons_succ, i64_w, i32_w]
          rfl
        refine pure_ (i := 11) (N := some 24) (v := undef) (a' := ?_) #[true, true, true, true, true, true, true, true, true, true, true, true, false, false, false, false, false, false, false, false, false, false, false] rfl rfl (any_of HT_.out (by kernel_rfl)) (fun _ _ _ h => h) (Or.inr ⟨by rfl, rfl⟩) ?_ ?_
        rotate_left
        · simp only [Act.put, List.setIfInBounds_toArray, List.set_cons_zero, List.set_cons_succ, i64_w, i32_w]
          rfl
        refine pure_ (i := 12) (N := some 25) (v := undef) (a' := ?_) #[true, true, true, true, true, true, true, true, true, true, true, true, true, false, false, false, false, false, false, false, false, false, false] rfl rfl (any_of HT_.out (by kernel_rfl)) (fun _ _ _ h => h) (Or.inr ⟨by rfl, rfl⟩) ?_ ?_
        rotate_left
        · simp only [Act.put, List.setIfInBounds_toArray, List.set_cons_zero, List.set_cons_succ, i64_w, i32_w]
          rfl
        refine pure_ (i := 13) (N := some 26) (v := undef) (a' := ?_) #[true, true, true, true, true, true, true, true, true, true, true, true, true, true, false, false, false, false, false, false, false, false, false] rfl rfl (any_of HT_.out (by kernel_rfl)) (fun _ _ _ h => h) (Or.inr ⟨by rfl, rfl⟩) ?_ ?_
        rotate_left
        · simp only [Act.put, List.setIfInBounds_toArray, List.set_cons_zero, List.set_cons_succ, i64_w, i32_w]
          rfl
        refine pure_ (i := 14) (N := some 27) (v := undef) (a' := ?_) #[true, true, true, true, true, true, true, true, true, true, true, true, true, true, true, false, false, false, false, false, false, false, false] rfl rfl (any_of HT_.out (by kernel_rfl)) (fun _ _ _ h => h) (Or.inr ⟨by rfl, rfl⟩) ?_ ?_
        rotate_left
        · simp only [Act.put, List.setIfInBounds_toArray, List.set_cons_zero, List.set_cons_succ, i64_w, i32_w]
          rfl
        refine pure_ (i := 15) (N := some 28) (v := undef) (a' := ?_) #[true, true, true, true, true, true, true, true, true, true, true, true, true, true, true, true, false, false, false, false, false, false, false] rfl rfl (any_of HT_.out (by kernel_rfl)) (fun _ _ _ h => h) (Or.inr ⟨by rfl, rfl⟩) ?_ ?_
        rotate_left
        · simp only [Act.put, List.setIfInBounds_toArray, List.set_cons_zero, List.set_cons_succ, i64_w, i32_w]
          rfl
        refine pure_ (i := 16) (N := some 29) (v := undef) (a' := ?_) #[true, true, true, true, true, true, true, true, true, true, true, true, true, true, true, true, true, false, false, false, false, false, false] rfl rfl (any_of HT_.out (by kernel_rfl)) (fun _ _ _ h => h) (Or.inr ⟨by rfl, rfl⟩) ?_ ?_
        rotate_left
        · simp only [Act.put, List.setIfInBounds_toArray, List.set_cons_zero, List.set_cons_succ, i64_w, i32_w]
          rfl
        refine pure_ (i := 17) (N := some 30) (v := undef) (a' := ?_) #[true, true, true, true, true, true, true, true, true, true, true, true, true, true, true, true, true, true, false, false, false, false, false] rfl rfl (any_of HT_.out (by kernel_rfl)) (fun _ _ _ h => h) (Or.inr ⟨by rfl, rfl⟩) ?_ ?_
        rotate_left
        · simp only [Act.put, List.setIfInBounds_toArray, List.set_cons_zero, List.set_cons_succ, i64_w, i32_w]
          rfl
        refine pure_ (i := 18) (N := some 31) (v := undef) (a' := ?_) #[true, true, true, true, true, true, true, true, true, true, true, true, true, true, true, true, true, true, true, false, false, false, false] rfl rfl (any_of HT_.out (by kernel_rfl)) (fun _ _ _ h => h) (Or.inr ⟨by rfl, rfl⟩) ?_ ?_
        rotate_left
        · simp only [Act.put, List.setIfInBounds_toArray, List.set_cons_zero, List.set_cons_succ, i64_w, i32_w]
          rfl
        refine pure_ (i := 19) (N := some 32) (v := undef) (a' := ?_) #[true, true, true, true, true, true, true, true, true, true, true, true, true, true, true, true, true, true, true, true, false, false, false] rfl rfl (any_of HT_.out (by kernel_rfl)) (fun _ _ _ h => h) (Or.inr ⟨by rfl, rfl⟩) ?_ ?_
        rotate_left
        · simp only [Act.put, List.setIfInBounds_toArray, List.set_cons_zero, List.set_cons_succ, i64_w, i32_w]
          rfl
        refine pure_ (i := 20) (N := some 33) (v := undef) (a' := ?_) #[true, true, true, true, true, true, true, true, true, true, true, true, true, true, true, true, true, true, true, true, true, false, false] rfl rfl (any_of HT_.out (by kernel_rfl)) (fun _ _ _ h => h) (Or.inr ⟨by rfl, rfl⟩) ?_ ?_
        rotate_left
        · simp only [Act.put, List.setIfInBounds_toArray, List.set_cons_zero, List.set_cons_succ, i64_w, i32_w]
          rfl
        refine pure_ (i := 21) (N := some 34) (v := ?_) (a' := ?_) #[true, true, true, true, true, true, true, true, true, true, true, true, true, true, true, true, true, true, true, true, true, true, false] rfl rfl (any_of HT_.out (by kernel_rfl)) (fun _ _ _ h => h) (Or.inl ⟨by rfl, ?_⟩) ?_ ?_
        rotate_left
        · intro w'
          go_simp
          with_reducible rfl
        rotate_left
        · simp only [Act.put, List.setIfInBounds_toArray, List.set_cons_zero, List.set_cons_succ, i64_w, i32_w]
          rfl
        refine pure_ (i := 22) (N := some 4) (v := ?_) (a' := ?_) #[true, true, true, true, true, true, true, true, true, true, true, true, true, true, true, true, true, true, true, true, true, true, true] rfl rfl (any_of HT_.out (by kernel_rfl)) (fun _ _ _ h => h) (Or.inl ⟨by rfl, ?_⟩) ?_ ?_
        rotate_left
        · intro w'
          go_simp
          with_reducible rfl
        rotate_left
        · simp only [Act.put, List.setIfInBounds_toArray, List.set_cons_zero, List.set_cons_succ, i64_w, i32_w]
          rfl
        refine done_ (done_of HT_.out (by kernel_rfl)) ?_
        try go_wp2
        go_ret
        exact ⟨by first | rfl | (simp [errW_none, errW_some] <;> rfl) | (simp [*, errW_none, errW_some] <;> rfl), by repeat (first | (with_reducible first | exact HB.out | apply below_alloc | apply pw_below_drewN | apply below_drew1 | refine below_set ?_ GE305.out) | exact HB.out)⟩
    · rw [if_neg c6] at H
      have c6b0 : decide (1 ≤ a1_0) = false := decide_eq_false c6
      clear c6
      obtain rfl := Option.some.inj H
      go_enter Try.func24, Try.ntmps24
      try go_wp2_with (first | ((with_reducible refine gate_dst (N := 3) rfl ?_); (try (refine gate_guard (by rfl) ?_; dsimp only)); refine box_event ?hg (N := 3) ?hd (cs := #[.int .i64 a1_0, .slice A1_1 l1_1.length c1_1]) (t := 27) ?hr ?_; (case hd => rfl); (case hg => rfl); (case hr => first | (go_simp; done) | (go_simp; rfl)); intro gb305 hg w19 hbox hb; have n0_ := Aside0.mk (below_step (by repeat (first | (with_reducible first | exact HB.out | apply below_alloc | apply pw_below_drewN | apply below_drew1) | exact HB.out)) hb); have n1_ := Aside0.mk (hbox); have n2_ := Aside0.mk ((by rw [hg]; exact (below_size (by repeat (first | (with_reducible first | exact HB.out | apply below_alloc | apply pw_below_drewN | apply below_drew1) | exact HB.out))) : w.heap.size ≤ gb305)); have n3_ := Aside0.mk ((by rw [hg]; exact (below_size (by repeat (first | (with_reducible first | exact HB.out | apply below_alloc | apply pw_below_drewN | apply below_drew1) | exact HB.out))) : w.heap.size ≤ gb305)); clear HB; have HB := n0_; have BK305 := n1_; have GW305 := n2_; have GE305 := n3_; clear n0_ n1_ n2_ n3_; clear hb hbox hg; have hcz20_0 : w19.cell? ⟨gb305, 0, none⟩ = some (.int .i64 a1_0) := (blk_cell BK305.out 0).trans rfl; have hcz20_1 : w19.cell? ⟨gb305, 1, none⟩ = some (.slice A1_1 l1_1.length c1_1) := (blk_cell BK305.out 1).trans rfl; have hfz20_0 := blk_frozen BK305.out 0; have hfz20_1 := blk_frozen BK305.out 1))
      have n0_ := Aside0.mk (blk_drew BK305.out)
      have n1_ := Aside0.mk (below_drew1 HB.out)
      clear BK305
      clear HB
      have BK305 := n0_
      have HB := n1_
      clear n0_ n1_
      refine start_ (n := 23) (S := fun w' => w'.cell? ⟨gb305, 0, none⟩ = some (.int .i64 a1_0) ∧ w'.cell? ⟨gb305, 1, none⟩ = some (.slice A1_1 l1_1.length c1_1)) (ds := []) #[false, false, false, false, false, false, false, false, false, false, false, false, false, false, false, false, false, false, false, false, false, false, false] (by kernel_rfl) rfl rfl ⟨(blk_cell BK305.out 0).trans rfl, (blk_cell BK305.out 1).trans rfl⟩ (fun hHeld => ?_); refine with_tabW chalklinelaw35_shows.tab3 chalklinelaw35_shows.bits3 (fun HT_ HW_ => ?_)
      generalize w19.drew = w21 at BK305 HB hHeld ⊢
      refine pure_ (i := 0) (N := some 13) (v := ?_) (a' := ?_) #[true, false, false, false, false, false, false, false, false, false, false, false, false, false, false, false, false, false, false, false, false, false, false] rfl rfl (any_of HT_.out (by kernel_rfl)) (fun _ _ _ h => h) (Or.inl ⟨by rfl, ?_⟩) ?_ ?_
      rotate_left
      · intro w'
        go_simp
        with_reducible rfl
      rotate_left
      · simp only [Act.put, List.setIfInBounds_toArray, List.set_cons_zero, List.set_cons_succ, i64_w, i32_w]
        rfl
      refine take_ (i := 1) (N := some 14) (v := ?_) (a' := ?_) #[true, true, false, false, false, false, false, false, false, false, false, false, false, false, false, false, false, false, false, false, false, false, false] rfl rfl (take_ofW HT_.out HW_.out (by kernel_rfl)) (fun _ _ _ h => h) (Or.inl ⟨by rfl, ?_⟩) hHeld ?_ ?_
      rotate_left
      · rintro w' ⟨s0, s1⟩
        go_simp
        with_reducible rfl
      rotate_left
      · simp only [Act.put, List.setIfInBounds_toArray, List.set_cons_zero, List.set_cons_succ, i64_w, i32_w]
        rfl
      refine pure_ (i := 2) (N := some 15) (v := ?_) (a' := ?_) #[true, true, true, false, false, false, false, false, false, false, false, false, false, false, false, false, false, false, false, false, false, false, false] rfl rfl (any_of HT_.out (by kernel_rfl)) (fun _ _ _ h => h) (Or.inl ⟨by rfl, ?_⟩) ?_ ?_
      rotate_left
      · intro w'
        go_simp
        with_reducible rfl
      rotate_left
      · simp only [Act.put, List.setIfInBounds_toArray, List.set_cons_zero, List.set_cons_succ, i64_w, i32_w]
        rfl
      refine pure_ (i := 3) (N := some 16) (v := ?_) (a' := ?_) #[true, true, true, true, false, false, false, false, false, false, false, false, false, false, false, false, false, false, false, false, false, false, false] rfl rfl (any_of HT_.out (by kernel_rfl)) (fun _ _ _ h => h) (Or.inl ⟨by rfl, ?_⟩) ?_ ?_
      rotate_left
      · intro w'
        go_simp
        with_reducible rfl
      rotate_left
      · simp only [Act.put, List.setIfInBounds_toArray, List.set_cons_zero, List.set_cons_succ, i64_w, i32_w]
        rfl
      refine pure_ (i := 4) (N := some 17) (v := undef) (a' := ?_) #[true, true, true, true, true, false, false, false, false, false, false, false, false, false, false, false, false, false, false, false, false, false, false] rfl rfl (any_of HT_.out (by kernel_rfl)) (fun _ _ _ h => h) (Or.inr ⟨by rfl, rfl⟩) ?_ ?_
      rotate_left
      · simp only [Act.put, List.setIfInBounds_toArray, List.set_cons_zero, List.set_cons_succ, i64_w, i32_w]
        rfl
      refine pure_ (i := 5) (N := some 18) (v := undef) (a' := ?_) #[true, true, true, true, true, true, false, false, false, false, false, false, false, false, false, false, false, false, false, false, false, false, false] rfl rfl (any_of HT_.out (by kernel_rfl)) (fun _ _ _ h => h) (Or.inr ⟨by rfl, rfl⟩) ?_ ?_
      rotate_left
      · simp only [Act.put, List.setIfInBounds_toArray, List.set_cons_zero, List.set_cons_succ, i64_w, i32_w]
        rfl
      refine pure_ (i := 6) (N := some 19) (v := undef) (a' := ?_) #[true, true, true, true, true, true, true, false, false, false, false, false, false, false, false, false, false, false, false, false, false, false, false] rfl rfl (any_of HT_.out (by kernel_rfl)) (fun _ _ _ h => h) (Or.inr ⟨by rfl, rfl⟩) ?_ ?_
      rotate_left
      · simp only [Act.put, List.setIfInBounds_toArray, List.set_cons_zero, List.set_cons_succ, i64_w, i32_w]
        rfl
      refine pure_ (i := 7) (N := some 20) (v := undef) (a' := ?_) #[true, true, true, true, true, true, true, true, false, false, false, false, false, false, false, false, false, false, false, false, false, false, false] rfl rfl (any_of HT_.out (by kernel_rfl)) (fun _ _ _ h => h) (Or.inr ⟨by rfl, rfl⟩) ?_ ?_
      rotate_left
      · simp only [Act.put, List.setIfInBounds_toArray, List.set_cons_zero, List.set_cons_succ, i64_w, i32_w]
        rfl
      refine pure_ (i := 8) (N := some 21) (v := undef) (a' := ?_) #[true, true, true, true, true, true, true, true, true, false, false, false, false, false, false, false, false, false, false, false, false, false, false] rfl rfl (any_of HT_.out (by kernel_rfl)) (fun _ _ _ h => h) (Or.inr ⟨by rfl, rfl⟩) ?_ ?_
      rotate_left
      · simp only [Act.put, List.setIfInBounds_toArray, List.set_cons_zero, List.set_cons_succ, i64_w, i32_w]
        rfl
      refine pure_ (i := 9) (N := some 22) (v := ?_) (a' := ?_) #[true, true, true, true, true, true, true, true, true, true, false, false, false, false, false, false, false, false, false, false, false, false, false] rfl rfl (any_of HT_.out (by kernel_rfl)) (fun _ _ _ h => h) (Or.inl ⟨by rfl, ?_⟩) ?_ ?_
      rotate_left
      · intro w'
        go_simp
        with_reducible rfl
      rotate_left
      · simp only [Act.put, List.setIfInBounds_toArray, List.set_cons_zero, List.set_cons_succ, i64_w, i32_w]
        rfl
      refine pure_ (i := 10) (N := some 23) (v := ?_) (a' := ?_) #[true, true, true, true, true, true, true, true, true, true, true, false, false, false, false, false, false, false, false, false, false, false, false] rfl rfl (any_of HT_.out (by kernel_rfl)) (fun _ _ _ h => h) (Or.inl ⟨by rfl, ?_⟩) ?_ ?_
      rotate_left
      · intro w'
        go_simp
        with_reducible rfl
      rotate_left
      · simp only [Act.put, List.setIfInBounds_toArray, List.set_cons_zero, List.set_cons_succ, i64_w, i32_w]
        rfl
      refine pure_ (i := 11) (N := some 24) (v := undef) (a' := ?_) #[true, true, true, true, true, true, true, true, true, true, true, true, false, false, false, false, false, false, false, false, false, false, false] rfl rfl (any_of HT_.out (by kernel_rfl)) (fun _ _ _ h => h) (Or.inr ⟨by rfl, rfl⟩) ?_ ?_
      rotate_left
      · simp only [Act.put, List.setIfInBounds_toArray, List.set_cons_zero, List.set_cons_succ, i64_w, i32_w]
        rfl
      refine pure_ (i := 12) (N := some 25) (v := undef) (a' := ?_) #[true, true, true, true, true, true, true, true, true, true, true, true, true, false, false, false, false, false, false, false, false, false, false] rfl rfl (any_of HT_.out (by kernel_rfl)) (fun _ _ _ h => h) (Or.inr ⟨by rfl, rfl⟩) ?_ ?_
      rotate_left
      · simp only [Act.put, List.setIfInBounds_toArray, List.set_cons_zero, List.set_cons_succ, i64_w, i32_w]
        rfl
      refine pure_ (i := 13) (N := some 26) (v := undef) (a' := ?_) #[true, true, true, true, true, true, true, true, true, true, true, true, true, true, false, false, false, false, false, false, false, false, false] rfl rfl (any_of HT_.out (by kernel_rfl)) (fun _ _ _ h => h) (Or.inr ⟨by rfl, rfl⟩) ?_ ?_
      rotate_left
      · simp only [Act.put, List.setIfInBounds_toArray, List.set_cons_zero, List.set_cons_succ, i64_w, i32_w]
        rfl
      refine pure_ (i := 14) (N := some 27) (v := undef) (a' := ?_) #[true, true, true, true, true, true, true, true, true, true, true, true, true, true, true, false, false, false, false, false, false, false, false] rfl rfl (any_of HT_.out (by kernel_rfl)) (fun _ _ _ h => h) (Or.inr ⟨by rfl, rfl⟩) ?_ ?_
      rotate_left
      · simp only [Act.put, List.setIfInBounds_toArray, List.set_cons_zero, List.set_cons_succ, i64_w, i32_w]
        rfl
      refine pure_ (i := 15) (N := some 28) (v := undef) (a' := ?_) #[true, true, true, true, true, true, true, true, true, true, true, true, true, true, true, true, false, false, false, false, false, false, false] rfl rfl (any_of HT_.out (by kernel_rfl)) (fun _ _ _ h => h) (Or.inr ⟨by rfl, rfl⟩) ?_ ?_
      rotate_left
      · simp only [Act.put, List.setIfInBounds_toArray, List.set_cons_zero, List.set_cons_succ, i64_w, i32_w]
        rfl
      refine pure_ (i := 16) (N := some 29) (v := undef) (a' := ?_) #[true, true, true, true, true, true, true, true, true, true, true, true, true, true, true, true, true, false, false, false, false, false, false] rfl rfl (any_of HT_.out (by kernel_rfl)) (fun _ _ _ h => h) (Or.inr ⟨by rfl, rfl⟩) ?_ ?_
      rotate_left
      · simp only [Act.put, List.setIfInBounds_toArray, List.set_cons_zero, List.set_cons_succ, i64_w, i32_w]
        rfl
      refine pure_ (i := 17) (N := some 30) (v := undef) (a' := ?_) #[true, true, true, true, true, true, true, true, true, true, true, true, true, true, true, true, true, true, false, false, false, false, false] rfl rfl (any_of HT_.out (by kernel_rfl)) (fun _ _ _ h => h) (Or.inr ⟨by rfl, rfl⟩) ?_ ?_
      rotate_left
      · simp only [Act.put, List.setIfInBounds_toArray, List.set_cons_zero, List.set_cons_succ, i64_w, i32_w]
        rfl
      refine pure_ (i := 18) (N := some 31) (v := undef) (a' := ?_) #[true, true, true, true, true, true, true, true, true, true, true, true, true, true, true, true, true, true, true, false, false, false, false] rfl rfl (any_of HT_.out (by kernel_rfl)) (fun _ _ _ h => h) (Or.inr ⟨by rfl, rfl⟩) ?_ ?_
      rotate_left
      · simp only [Act.put, List.setIfInBounds_toArray, List.set_cons_zero, List.set_cons_succ, i64_w, i32_w]
        rfl
      refine pure_ (i := 19) (N := some 32) (v := undef) (a' := ?_) #[true, true, true, true, true, true, true, true, true, true, true, true, true, true, true, true, true, true, true, true, false, false, false] rfl rfl (any_of HT_.out (by kernel_rfl)) (fun _ _ _ h => h) (Or.inr ⟨by rfl, rfl⟩) ?_ ?_
      rotate_left
      · simp only [Act.put, List.setIfInBounds_toArray, List.set_cons_zero, List.set_cons_succ, i64_w, i32_w]
        rfl
      refine pure_ (i := 20) (N := some 33) (v := undef) (a' := ?_) #[true, true, true, true, true, true, true, true, true, true, true, true, true, true, true, true, true, true, true, true, true, false, false] rfl rfl (any_of HT_.out (by kernel_rfl)) (fun _ _ _ h => h) (Or.inr ⟨by rfl, rfl⟩) ?_ ?_
      rotate_left
      · simp only [Act.put, List.setIfInBounds_toArray, List.set_cons_zero, List.set_cons_succ, i64_w, i32_w]
        rfl
      refine pure_ (i := 21) (N := some 34) (v := ?_) (a' := ?_) #[true, true, true, true, true, true, true, true, true, true, true, true, true, true, true, true, true, true, true, true, true, true, false] rfl rfl (any_of HT_.out (by kernel_rfl)) (fun _ _ _ h => h) (Or.inl ⟨by rfl, ?_⟩) ?_ ?_
      rotate_left
      · intro w'
        go_simp
        with_reducible rfl
      rotate_left
      · simp only [Act.put, List.setIfInBounds_toArray, List.set_cons_zero, List.set_cons_succ, i64_w, i32_w]
        rfl
      refine pure_ (i := 22) (N := some 4) (v := ?_) (a' := ?_) #[true, true, true, true, true, true, true, true, true, true, true, true, true, true, true, true, true, true, true, true, true, true, true] rfl rfl (any_of HT_.out (by kernel_rfl)) (fun _ _ _ h => h) (Or.inl ⟨by rfl, ?_⟩) ?_ ?_
      rotate_left
      · intro w'
        go_simp
        with_reducible rfl
      rotate_left
      · simp only [Act.put, List.setIfInBounds_toArray, List.set_cons_zero, List.set_cons_succ, i64_w, i32_w]
        rfl
      refine done_ (done_of HT_.out (by kernel_rfl)) ?_
      try go_wp2
      go_ret
      exact ⟨by first | rfl | (simp [errW_none, errW_some] <;> rfl) | (simp [*, errW_none, errW_some] <;> rfl), by repeat (first | (with_reducible first | exact HB.out | apply below_alloc | apply pw_below_drewN | apply below_drew1 | refine below_set ?_ GE305.out) | exact HB.out)⟩
end Go.Proofs.Ytfdhnmijaobbdaa.S
end
section
namespace Go.Proofs.Ytfdhnmijaobbdaa.S
open Go.RowKit Go.Proofs.YtfdhnmijaobbdaaW.PrintWords Go.Proofs.YtfdhnmijaobbdaaW.PrintLast Go.Proofs.YtfdhnmijaobbdaaW.PrintMore
attribute [local go_sem] max2_int min2_int max_two min_two max_three min_three max_four min_four   -- for this text's walks alone
set_option linter.unusedVariables false
set_option linter.unusedSimpArgs false
mutual
def chalklineref35_may.l0 : Nat → Int → List (S60) → Option (Bool)
  | 0, _, _ => none
  | k + 1, x3, x165000 => if x3 < (x165000.length : Int) then (chalklineref35_may.j1 k x3 (decide (x3 < 65)) x165000) else (chalklineref35_may.j1 k x3 false x165000)
def chalklineref35_may.j1 : Nat → Int → Bool → List (S60) → Option (Bool)
  | 0, _, _, _ => none
  | k + 1, x3, x13, x165000 => if x13 = true then (if 0 ≤ x3 then (if x3 < (x165000.length : Int) then (if ((rd_T60 x165000 x3).f0) < 0 then (some false) else (if ((rd_T60 x165000 x3).f0) ≥ 50 then (some false) else (if ((rd_T60 x165000 x3).f1) < 0 then (some false) else (if ((rd_T60 x165000 x3).f1) ≥ 32 then (some false) else (chalklineref35_may.l0 k (wrap64 (x3 + 1)) x165000))))) else (none)) else (none)) else (some (decide ((x165000.length : Int) ≤ 64)))
end
def chalklineref35_may.f (k : Nat) (l0_0 : List (S60)) : Option (Bool) := chalklineref35_may.l0 k 0 l0_0
end Go.Proofs.Ytfdhnmijaobbdaa.S
end
section
namespace Go.Proofs.Ytfdhnmijaobbdaa.S
open Go.RowKit Go.Proofs.YtfdhnmijaobbdaaW.PrintWords Go.Proofs.YtfdhnmijaobbdaaW.PrintLast Go.Proofs.YtfdhnmijaobbdaaW.PrintMore
attribute [local go_sem] max2_int min2_int max_two min_two max_three min_three max_four min_four   -- for this text's walks alone
set_option linter.unusedVariables false
set_option linter.unusedSimpArgs false
def chalklineref35_Check.l0 : Nat → List (S52) → Int → Option (Int)
  | 0, _, _ => none
  | k + 1, x0, x3 => if x3 < (x0.length : Int) then (if 0 ≤ x3 then (if ((rd_T52 x0 x3).f0) = (wrap64 (x3 + 1)) then (if ((rd_T52 x0 x3).f2) < 0 then (some 1) else (if ((rd_T52 x0 x3).f2) > 1099511627776 then (some 1) else ((chalklineref35_may.f k ((rd_T52 x0 x3).f1.f0)).bind fun t171 => (if t171 = true then (chalklineref35_Check.l0 k x0 (wrap64 (x3 + 1))) else (some 1))))) else (some 1)) else (none)) else (some 0)
end Go.Proofs.Ytfdhnmijaobbdaa.S
end
section
namespace Go.Proofs.Ytfdhnmijaobbdaa.S
open Go.RowKit Go.Proofs.YtfdhnmijaobbdaaW.PrintWords Go.Proofs.YtfdhnmijaobbdaaW.PrintLast Go.Proofs.YtfdhnmijaobbdaaW.PrintMore
theorem wrap_succ {i : Nat} (h : i < 9223372036854775807) : wrap64 ((i : Int) + 1) = ((i + 1 : Nat) : Int) := by
  unfold wrap64; omega
theorem wrap_pred {i : Int} (h0 : -9223372036854775807 ≤ i) (h : i ≤ 9223372036854775807) : wrap64 (i - 1) = i - 1 := by
  unfold wrap64; omega
theorem wrap_inc {i : Int} (h0 : -9223372036854775808 ≤ i) (h : i < 9223372036854775807) : wrap64 (i + 1) = i + 1 := by
  unfold wrap64; omega
theorem drop_cons {α : Type} {l s : List α} {x : α} {i : Nat} (h : l.drop i = x :: s) : i < l.length ∧ l[i]? = some x ∧ l.drop (i + 1) = s := by
  have h1 : i < l.length := by
    rcases Nat.lt_or_ge i l.length with h1 | h1
    · exact h1
    · rw [List.drop_eq_nil_of_le h1] at h; cases h
  refine ⟨h1, ?_, ?_⟩
  · rw [List.drop_eq_getElem_cons h1] at h
    injection h with h _
    rw [List.getElem?_eq_getElem h1, h]
  · rw [List.drop_eq_getElem_cons h1] at h
    injection h
theorem drop_nil {α : Type} {l : List α} {i : Nat} (h : l.drop i = []) : l.length ≤ i := by
  rcases Nat.lt_or_ge i l.length with h1 | h1
  · rw [List.drop_eq_getElem_cons h1] at h; cases h
  · exact h1
theorem rd52 {l : List S52} {i : Nat} {x : S52} (h : l[i]? = some x) : rd_T52 l (i : Int) = x := by
  unfold rd_T52; rw [Int.toNat_natCast, List.getD_eq_getElem?_getD, h]; rfl
theorem rd60 {l : List S60} {i : Nat} {x : S60} (h : l[i]? = some x) : rd_T60 l (i : Int) = x := by
  unfold rd_T60; rw [Int.toNat_natCast, List.getD_eq_getElem?_getD, h]; rfl
theorem rd64 {l : List S64} {i : Nat} {x : S64} (h : l[i]? = some x) : rd_T64 l (i : Int) = x := by
  unfold rd_T64; rw [Int.toNat_natCast, List.getD_eq_getElem?_getD, h]; rfl
theorem succ_of {k n : Nat} (h : n < k) : ∃ m, k = m + 1 ∧ n ≤ m := ⟨k - 1, by omega, by omega⟩
def okP (p : S60) : Bool := decide (0 ≤ p.f0 ∧ p.f0 ≤ 49 ∧ 0 ≤ p.f1 ∧ p.f1 ≤ 31)
def okW (w : List S60) : Bool := decide (w.length ≤ 64) && w.all okP
def okV (n : Int) (v : S52) : Bool := decide (v.f0 = n + 1) && (decide (0 ≤ v.f2 ∧ v.f2 ≤ 1099511627776) && okW v.f1.f0)
def okAll (n : Nat) : List S52 → Bool
  | [] => true
  | v :: l => okV n v && okAll (n + 1) l
def chk (l : List S52) : Int := cond (okAll 0 l) 0 1
theorem place_ok (a x y : Int) : feed_Check_1_1.f a x y = some (okP ⟨x, y⟩) := by
  unfold feed_Check_1_1.f
  rw [feed_Take.bounds, feed_Take.bounds]
  simp only [Option.bind_some, okP]
  by_cases h : 0 ≤ x ∧ x ≤ 49
  · simp [h]
  · rw [decide_eq_false h]
    simp
    omega
theorem places_ok (l : List S60) (hl : l.length ≤ 9223372036854775806) : ∀ (s : List S60) (i k : Nat), l.drop i = s → s.length < k → feed_all_api_Place.l0 k l (l.length : Int) (i : Int) = some (s.all okP) := by
  intro s
  induction s with
  | nil =>
    intro i k hs hk
    obtain ⟨k, rfl, _⟩ := succ_of hk
    have := drop_nil hs
    simp only [feed_all_api_Place.l0]
    rw [if_neg (by omega)]
    rfl
  | cons x s ih =>
    intro i k hs hk
    obtain ⟨k, rfl, hk'⟩ := succ_of hk
    obtain ⟨h1, h2, h3⟩ := drop_cons hs
    have hk2 : s.length < k := by simp at hk'; omega
    simp only [feed_all_api_Place.l0]
    rw [if_pos (by omega), if_pos (by omega), if_pos (by omega), rd60 h2, place_ok]
    simp only [Option.bind_some]
    rw [wrap_succ (by omega), ih (i + 1) k h3 hk2]
    cases h : okP x <;> simp [h]
theorem version_ok (i k : Nat) (v : S52) (hi : i < 9223372036854775806) (hw : v.f1.f0.length ≤ 9223372036854775806) (hk : v.f1.f0.length < k) :
    feed_Check_1.f k (i : Int) v.f0 v.f1.f0 v.f2 v.f3 = some (okV i v) := by
  unfold feed_Check_1.f
  rw [wrap_inc (by omega) (by omega), feed_Take.bounds]
  simp only [Option.bind_some, okV, okW]
  by_cases h : v.f0 = (i : Int) + 1
  · rw [if_pos h, decide_eq_true h]
    by_cases h2 : 0 ≤ v.f2 ∧ v.f2 ≤ 1099511627776
    · rw [decide_eq_true h2]
      simp only [if_true, Bool.true_and]
      by_cases h3 : v.f1.f0.length ≤ 64
      · rw [if_pos (by omega), decide_eq_true h3]
        unfold feed_all_api_Place.f
        have := places_ok v.f1.f0 hw v.f1.f0 0 k rfl hk
        rw [show ((0 : Nat) : Int) = 0 from rfl] at this
        rw [this]
        simp
      · rw [if_neg (by omega), decide_eq_false h3]
        simp
    · rw [decide_eq_false h2]
      simp
  · rw [if_neg h, decide_eq_false h]
    simp
def Short (n : Nat) (l : List S52) : Prop := ∀ v ∈ l, v.f1.f0.length ≤ n
theorem versions_ok (l : List S52) (hl : l.length ≤ 9223372036854775806) (N : Nat) (hN : N ≤ 9223372036854775806) (hS : Short N l) : ∀ (s : List S52) (i k : Nat), l.drop i = s → s.length + N < k → feed_all_api_Version.l0 k l (l.length : Int) (i : Int) = some (okAll i s) := by
  intro s
  induction s with
  | nil =>
    intro i k hs hk
    obtain ⟨k, rfl, _⟩ := succ_of hk
    have := drop_nil hs
    simp only [feed_all_api_Version.l0]
    rw [if_neg (by omega)]
    rfl
  | cons x s ih =>
    intro i k hs hk
    obtain ⟨k, rfl, hk'⟩ := succ_of hk
    obtain ⟨h1, h2, h3⟩ := drop_cons hs
    have hx := hS x (List.mem_of_getElem? h2)
    have hk2 : s.length + N < k := by simp at hk'; omega
    simp only [feed_all_api_Version.l0]
    rw [if_pos (by omega), if_pos (by omega), if_pos (by omega), rd52 h2, version_ok i k x (by omega) (by omega) (by omega)]
    simp only [Option.bind_some]
    rw [wrap_succ (by omega), ih (i + 1) k h3 hk2]
    simp only [okAll]
    cases h : okV i x <;> simp
theorem feedCheck_eq (l : List S52) (hl : l.length ≤ 9223372036854775806) (N : Nat) (hN : N ≤ 9223372036854775806) (hS : Short N l) (k : Nat) (hk : l.length + N < k) : feed_Check.f k l = some (chk l) := by
  unfold feed_Check.f feed_all_api_Version.f
  have := versions_ok l hl N hN hS l 0 k rfl hk
  rw [show ((0 : Nat) : Int) = 0 from rfl] at this
  rw [this]
  simp only [Option.bind_some, chk]
  cases okAll 0 l <;> rfl
theorem may_ok (l : List S60) (hl : l.length ≤ 9223372036854775806) : ∀ (s : List S60) (i k : Nat), l.drop i = s → i ≤ 65 → 2 * (65 - i) + 2 ≤ k → chalklineref35_may.l0 k (i : Int) l = some (decide (l.length ≤ 64) && s.all okP) := by
  intro s
  induction s with
  | nil =>
    intro i k hs hi hk
    obtain ⟨k, rfl, _⟩ := succ_of (show 1 < k by omega)
    obtain ⟨k, rfl, _⟩ := succ_of (show 0 < k by omega)
    have := drop_nil hs
    simp only [chalklineref35_may.l0]
    rw [if_neg (by omega)]
    simp only [chalklineref35_may.j1]
    simp
    omega
  | cons x s ih =>
    intro i k hs hi hk
    obtain ⟨k, rfl, _⟩ := succ_of (show 1 < k by omega)
    obtain ⟨k, rfl, _⟩ := succ_of (show 0 < k by omega)
    obtain ⟨h1, h2, h3⟩ := drop_cons hs
    simp only [chalklineref35_may.l0]
    rw [if_pos (by omega)]
    by_cases h65 : i < 65
    · rw [decide_eq_true (by omega : (i : Int) < 65)]
      simp only [chalklineref35_may.j1]
      rw [if_pos trivial, if_pos (by omega), if_pos (by omega), rd60 h2, wrap_succ (by omega), ih (i + 1) k h3 (by omega) (by omega)]
      simp only [List.all_cons, okP]
      by_cases a : x.f0 < 0
      · rw [if_pos a, decide_eq_false (show ¬ (0 ≤ x.f0 ∧ x.f0 ≤ 49 ∧ 0 ≤ x.f1 ∧ x.f1 ≤ 31) by omega)]; simp
      · rw [if_neg a]
        by_cases b : x.f0 ≥ 50
        · rw [if_pos b, decide_eq_false (show ¬ (0 ≤ x.f0 ∧ x.f0 ≤ 49 ∧ 0 ≤ x.f1 ∧ x.f1 ≤ 31) by omega)]; simp
        · rw [if_neg b]
          by_cases c : x.f1 < 0
          · rw [if_pos c, decide_eq_false (show ¬ (0 ≤ x.f0 ∧ x.f0 ≤ 49 ∧ 0 ≤ x.f1 ∧ x.f1 ≤ 31) by omega)]; simp
          · rw [if_neg c]
            by_cases d : x.f1 ≥ 32
            · rw [if_pos d, decide_eq_false (show ¬ (0 ≤ x.f0 ∧ x.f0 ≤ 49 ∧ 0 ≤ x.f1 ∧ x.f1 ≤ 31) by omega)]; simp
            · rw [if_neg d, decide_eq_true (by omega : 0 ≤ x.f0 ∧ x.f0 ≤ 49 ∧ 0 ≤ x.f1 ∧ x.f1 ≤ 31)]; simp
    · rw [decide_eq_false (by omega : ¬ (i : Int) < 65)]
      simp only [chalklineref35_may.j1]
      rw [if_neg (by decide), decide_eq_false (by omega : ¬ (l.length : Int) ≤ 64), decide_eq_false (by omega : ¬ l.length ≤ 64)]
      rfl
theorem mayW (l : List S60) (hl : l.length ≤ 9223372036854775806) (k : Nat) (hk : 132 ≤ k) : chalklineref35_may.f k l = some (okW l) := by
  have := may_ok l hl l 0 k rfl (by omega) (by omega)
  exact this
theorem refVersions_ok (l : List S52) (hl : l.length ≤ 9223372036854775806) (hS : Short 9223372036854775806 l) : ∀ (s : List S52) (i k : Nat), l.drop i = s → s.length + 132 < k → chalklineref35_Check.l0 k l (i : Int) = some (cond (okAll i s) 0 1) := by
  intro s
  induction s with
  | nil =>
    intro i k hs hk
    obtain ⟨k, rfl, _⟩ := succ_of hk
    have := drop_nil hs
    simp only [chalklineref35_Check.l0]
    rw [if_neg (by omega)]
    rfl
  | cons x s ih =>
    intro i k hs hk
    obtain ⟨k, rfl, hk'⟩ := succ_of hk
    obtain ⟨h1, h2, h3⟩ := drop_cons hs
    have hx := hS x (List.mem_of_getElem? h2)
    have hk2 : s.length + 132 < k := by simp at hk'; omega
    simp only [chalklineref35_Check.l0]
    rw [if_pos (by omega), if_pos (by omega), rd52 h2, wrap_succ (by omega), mayW x.f1.f0 hx k (by omega), ih (i + 1) k h3 hk2]
    simp only [Option.bind_some, okAll, okV]
    by_cases a : x.f0 = ((i + 1 : Nat) : Int)
    · rw [if_pos a, decide_eq_true (by omega : x.f0 = (i : Int) + 1)]
      by_cases b : x.f2 < 0
      · rw [if_pos b, decide_eq_false (show ¬ (0 ≤ x.f2 ∧ x.f2 ≤ 1099511627776) by omega)]; simp
      · rw [if_neg b]
        by_cases c : x.f2 > 1099511627776
        · rw [if_pos c, decide_eq_false (show ¬ (0 ≤ x.f2 ∧ x.f2 ≤ 1099511627776) by omega)]; simp
        · rw [if_neg c, decide_eq_true (by omega : 0 ≤ x.f2 ∧ x.f2 ≤ 1099511627776)]
          cases okW x.f1.f0 <;> simp
    · rw [if_neg a, decide_eq_false (show ¬ x.f0 = (i : Int) + 1 by omega)]; simp
theorem few_ok (l : List S52) (hl : l.length ≤ 9223372036854775806) : ∀ (s : List S52) (i k : Nat), l.drop i = s → i ≤ 30 → 2 * (30 - i) + 2 ≤ k → ∃ b, chalklineref35_Few.l0 k l (i : Int) = some b ∧ (b = true → l.length ≤ 20 ∧ Short 70 s) := by
  intro s
  induction s with
  | nil =>
    intro i k hs hi hk
    obtain ⟨k, rfl, _⟩ := succ_of (show 1 < k by omega)
    obtain ⟨k, rfl, _⟩ := succ_of (show 0 < k by omega)
    have := drop_nil hs
    simp only [chalklineref35_Few.l0]
    rw [if_neg (by omega)]
    simp only [chalklineref35_Few.j1]
    exact ⟨_, by rw [if_neg (by decide)], fun h => ⟨by have := of_decide_eq_true h; omega, fun v hv => by cases hv⟩⟩
  | cons x s ih =>
    intro i k hs hi hk
    obtain ⟨k, rfl, _⟩ := succ_of (show 1 < k by omega)
    obtain ⟨k, rfl, _⟩ := succ_of (show 0 < k by omega)
    obtain ⟨h1, h2, h3⟩ := drop_cons hs
    simp only [chalklineref35_Few.l0]
    rw [if_pos (by omega)]
    by_cases h30 : i < 30
    · rw [decide_eq_true (by omega : (i : Int) < 30)]
      simp only [chalklineref35_Few.j1]
      rw [if_pos trivial, if_pos (by omega), if_pos (by omega), rd52 h2, wrap_succ (by omega)]
      by_cases a : (x.f1.f0.length : Int) > 70
      · rw [if_pos a]; exact ⟨false, rfl, fun h => by cases h⟩
      · rw [if_neg a]
        obtain ⟨b, hb, hb2⟩ := ih (i + 1) k h3 (by omega) (by omega)
        refine ⟨b, hb, fun h => ⟨(hb2 h).1, fun v hv => ?_⟩⟩
        rcases List.mem_cons.1 hv with rfl | hv
        · omega
        · exact (hb2 h).2 v hv
    · rw [decide_eq_false (by omega : ¬ (i : Int) < 30)]
      simp only [chalklineref35_Few.j1]
      rw [if_neg (by decide)]
      exact ⟨_, rfl, fun h => by have := of_decide_eq_true h; omega⟩
theorem few_eq (l : List S52) (hl : l.length ≤ 9223372036854775806) (k : Nat) (hk : 62 ≤ k) : ∃ b, chalklineref35_Few.f k l = some b ∧ (b = true → l.length ≤ 20 ∧ Short 70 l) :=
  few_ok l hl l 0 k rfl (by omega) (by omega)
theorem same_refl (l : List S60) (hl : l.length ≤ 9223372036854775806) : ∀ (s : List S60) (i k : Nat), l.drop i = s → s.length < k → chalklineref04_Same.l0 k (i : Int) l l = some true := by
  intro s
  induction s with
  | nil =>
    intro i k hs hk
    obtain ⟨k, rfl, _⟩ := succ_of hk
    have := drop_nil hs
    simp only [chalklineref04_Same.l0]
    rw [if_neg (by omega)]
  | cons x s ih =>
    intro i k hs hk
    obtain ⟨k, rfl, hk'⟩ := succ_of hk
    obtain ⟨h1, h2, h3⟩ := drop_cons hs
    simp only [chalklineref04_Same.l0]
    rw [if_pos (by omega), if_pos (by omega), if_pos (by omega), wrap_succ (by omega), ih (i + 1) k h3 (by simp at hk'; omega)]
    simp
theorem same_eq (l : List S60) (hl : l.length ≤ 9223372036854775806) (k : Nat) (hk : l.length < k) : chalklineref04_Same.f k l l = some true := by
  unfold chalklineref04_Same.f
  rw [if_pos rfl]
  exact same_refl l hl l 0 k rfl hk
def diffGo (n : Nat) : List S60 → List S60 → List S64
  | a :: xs, b :: ys => if a.f0 = b.f0 ∧ a.f1 = b.f1 then diffGo (n + 1) xs ys else ⟨n, b⟩ :: diffGo (n + 1) xs ys
  | _, _ => []
theorem diffGo_len : ∀ (n : Nat) (a b : List S60), (diffGo n a b).length ≤ b.length
  | _, [], _ => by simp [diffGo]
  | _, _ :: _, [] => by simp [diffGo]
  | n, a :: xs, b :: ys => by
    simp only [diffGo]
    have := diffGo_len (n + 1) xs ys
    split <;> simp <;> omega
theorem diff_loop (a b : List S60) (hab : a.length = b.length) (hl : b.length ≤ 5864062014805) : ∀ (s t : List S60) (i k : Nat) (acc : List S64), a.drop i = s → b.drop i = t → acc.length + t.length ≤ b.length → t.length < k →
    week_Diff.l0 k acc 0 b (b.length : Int) (i : Int) a = some (acc ++ diffGo i s t, 0) := by
  intro s t
  induction t generalizing s with
  | nil =>
    intro i k acc hs ht hacc hk
    obtain ⟨k, rfl, _⟩ := succ_of hk
    have := drop_nil ht
    simp only [week_Diff.l0]
    rw [if_neg (by omega)]
    cases s <;> simp [diffGo]
  | cons y t ih =>
    intro i k acc hs ht hacc hk
    obtain ⟨k, rfl, hk'⟩ := succ_of hk
    obtain ⟨h1, h2, h3⟩ := drop_cons ht
    match s, hs with
    | [], hs => have := drop_nil hs; omega
    | x :: s, hs =>
      obtain ⟨g1, g2, g3⟩ := drop_cons hs
      simp only [List.length_cons] at hk' hacc
      simp only [week_Diff.l0]
      rw [if_pos (by omega), if_pos (by omega), if_pos (by omega), if_pos (by omega), rd60 h2, rd60 g2, wrap_succ (by omega)]
      by_cases e : x.f0 = y.f0 ∧ x.f1 = y.f1
      · rw [if_neg (by simp [e.1, e.2]), ih s (i + 1) k acc g3 h3 (by omega) (by omega)]
        simp only [diffGo]
        rw [if_pos e]
      · rw [if_pos (by simp; omega), if_pos (by omega), ih s (i + 1) k _ g3 h3 (by simp; omega) (by omega)]
        simp only [diffGo]
        rw [if_neg e]
        simp
theorem diff_eq (a b : List S60) (hl : b.length ≤ 5864062014805) (k : Nat) (hk : b.length < k) : week_Diff.f k a b = some (if a.length = b.length then (diffGo 0 a b, 0) else ([], 1)) := by
  unfold week_Diff.f
  by_cases h : a.length = b.length
  · rw [if_pos (by omega), if_pos h]
    exact diff_loop a b h hl a b 0 k [] rfl rfl (by simp) hk
  · rw [if_neg (by omega), if_neg h]
def applyGo (n : Nat) (last : Int) : List S64 → List S60 → List S60 × Int
  | [], x => (x, 0)
  | m :: l, x => if m.f0 ≤ last ∨ m.f0 ≥ n then ([], 1) else applyGo n m.f0 l (x.set m.f0.toNat m.f1)
theorem apply_loop (w : List S60) (l : List S64) (hl : l.length ≤ 9223372036854775806) : ∀ (s : List S64) (i k : Nat) (last : Int) (x : List S60), l.drop i = s → -1 ≤ last → x.length = w.length → s.length < k →
    week_Apply.l0 k last l (l.length : Int) (i : Int) w x = some (applyGo w.length last s x) := by
  intro s
  induction s with
  | nil =>
    intro i k last x hs h0 hx hk
    obtain ⟨k, rfl, _⟩ := succ_of hk
    have := drop_nil hs
    simp only [week_Apply.l0]
    rw [if_neg (by omega)]
    rfl
  | cons y s ih =>
    intro i k last x hs h0 hx hk
    obtain ⟨k, rfl, hk'⟩ := succ_of hk
    obtain ⟨h1, h2, h3⟩ := drop_cons hs
    simp only [List.length_cons] at hk'
    simp only [week_Apply.l0]
    rw [if_pos (by omega), if_pos (by omega), if_pos (by omega), rd64 h2, wrap_succ (by omega)]
    simp only [applyGo]
    by_cases a : y.f0 ≤ last
    · rw [if_pos a, if_pos (.inl a)]
    · rw [if_neg a]
      by_cases b : y.f0 ≥ (w.length : Int)
      · rw [if_pos b, if_pos (.inr b)]
      · rw [if_neg b, if_pos (by omega), if_pos (by omega), if_neg (by omega)]
        exact ih (i + 1) k y.f0 _ h3 (by omega) (by rw [List.length_set]; exact hx) (by omega)
theorem apply_eq (w : List S60) (l : List S64) (hw : w.length < 8796093022208) (hl : l.length ≤ 9223372036854775806) (k : Nat) (hk : l.length < k) : week_Apply.f k w l = some (applyGo w.length (-1) l w) := by
  unfold week_Apply.f slices_Clone_api_Place_api_Place.f
  rw [if_pos hw]
  simp only [Option.bind_some]
  exact apply_loop w l hl l 0 k (-1) w rfl (by omega) rfl hk
abbrev RepT := Int × Int × Int × Int × (List (S60)) × (List (S64)) × Int
def lastOf (l : List S52) : S52 := rd_T52 l ((l.length : Int) - 1)
def replyS (l : List S52) (no dst : Int) : RepT :=
  if ¬ chk l = 0 ∨ ¬ (0 ≤ no ∧ no ≤ 1099511627776) ∨ ¬ (0 ≤ dst ∧ dst ≤ 7) then (0, 0, 0, 0, [], [], 1)
  else if no ≥ (l.length : Int) then (0, 0, 0, 0, [], [], 341)
  else if no > 0 ∧ (rd_T52 l (no - 1)).f1.f0.length = (lastOf l).f1.f0.length then (2, dst, no, (lastOf l).f0, [], diffGo 0 (rd_T52 l (no - 1)).f1.f0 (lastOf l).f1.f0, 0)
  else (1, dst, 0, (lastOf l).f0, (lastOf l).f1.f0, [], 0)
theorem chk_or (l : List S52) : chk l = 0 ∨ chk l = 1 := by unfold chk; cases okAll 0 l <;> simp
theorem short_rd {n : Nat} {l : List S52} (h : Short n l) (i : Int) : (rd_T52 l i).f1.f0.length ≤ n := by
  unfold rd_T52
  rw [List.getD_eq_getElem?_getD]
  cases e : l[i.toNat]? with
  | none => simp [z52, z25]
  | some v => exact h v (List.mem_of_getElem? e)
theorem reply_j (l : List S52) (hl : l.length ≤ 1000) (N : Nat) (hN : N ≤ 1000) (hS : Short N l) (no dst : Int) (h0 : 0 ≤ no) (k : Nat) (hk : N + 1 < k) (ht : ¬ no ≥ (l.length : Int)) :
    feed_Reply.j0 k l no dst 0 false 0 0 0 0 = some (if no > 0 ∧ (rd_T52 l (no - 1)).f1.f0.length = (lastOf l).f1.f0.length then (2, dst, no, (lastOf l).f0, [], diffGo 0 (rd_T52 l (no - 1)).f1.f0 (lastOf l).f1.f0, 0)
      else (1, dst, 0, (lastOf l).f0, (lastOf l).f1.f0, [], 0)) := by
  obtain ⟨k, rfl, hk'⟩ := succ_of hk
  have hlast : (lastOf l).f1.f0.length ≤ N := short_rd hS _
  simp only [feed_Reply.j0]
  rw [if_neg (by decide), if_neg ht, wrap_pred (by omega) (by omega), if_pos (by omega), if_pos (by omega)]
  rw [show rd_T52 l ((l.length : Int) - 1) = lastOf l from rfl]
  by_cases a : no > 0
  · rw [if_pos a, wrap_pred (by omega) (by omega), if_pos (by omega), if_pos (by omega), diff_eq _ _ (by omega) k (by omega)]
    simp only [Option.bind_some]
    by_cases b : (rd_T52 l (no - 1)).f1.f0.length = (lastOf l).f1.f0.length
    · simp only [if_pos b, if_pos (And.intro a b), if_true]
    · simp only [if_neg b, if_neg (fun z : no > 0 ∧ (rd_T52 l (no - 1)).f1.f0.length = (lastOf l).f1.f0.length => b z.2)]
      unfold slices_Clone_api_Place_api_Place.f
      rw [if_neg (by decide), if_pos (by omega)]; rfl
  · rw [if_neg a, if_neg (fun z => a z.1)]
    unfold slices_Clone_api_Place_api_Place.f
    rw [if_pos (by omega)]; rfl
theorem reply_eq (l : List S52) (hl : l.length ≤ 1000) (N : Nat) (hN : N ≤ 1000) (hS : Short N l) (no dst : Int) (k : Nat) (hk : l.length + N + 1 < k) : feed_Reply.f k l no dst = some (replyS l no dst) := by
  unfold feed_Reply.f
  rw [feedCheck_eq l (by omega) N (by omega) hS k (by omega), feed_Take.bounds, feed_Take.bounds]
  simp only [Option.bind_some]
  have hbad : feed_Reply.j0 k l no dst 0 true 0 0 0 0 = some (0, 0, 0, 0, [], [], 1) := by
    obtain ⟨k, rfl, _⟩ := succ_of (show 0 < k by omega)
    simp [feed_Reply.j0]
  unfold replyS
  by_cases a : chk l = 0
  · rw [if_pos a]
    by_cases b : 0 ≤ no ∧ no ≤ 1099511627776
    · rw [decide_eq_true b, if_pos rfl]
      by_cases c : 0 ≤ dst ∧ dst ≤ 7
      · rw [decide_eq_true c, if_neg (by simp only [a, b, c]; simp)]
        by_cases d : no ≥ (l.length : Int)
        · rw [if_pos d]
          obtain ⟨k, rfl, _⟩ := succ_of (show 0 < k by omega)
          simp only [feed_Reply.j0, Bool.not_true]
          rw [if_neg (by decide), if_pos d]
        · rw [if_neg d]
          exact reply_j l hl N hN hS no dst b.1 k (by omega) d
      · rw [decide_eq_false c, if_pos (.inr (.inr c))]; exact hbad
    · rw [decide_eq_false b, if_neg (by decide), if_pos (.inr (.inl b))]; exact hbad
  · rw [if_neg a, if_pos (.inl a)]
    rcases chk_or l with e | e
    · exact absurd e a
    · rw [e]; exact hbad
abbrev TakT := Int × (List S60) × Int
def takeS (n0 : Int) (l1 : List S60) (m0 m2 m3 : Int) (l4 : List S60) (l5 : List S64) : TakT :=
  if (m0 = 1 ∨ m0 = 2) ∧ (0 ≤ n0 ∧ n0 ≤ 1099511627776) ∧ (1 ≤ m3 ∧ m3 ≤ 1099511627776) then
    if m3 ≤ n0 then (0, [], 341)
    else if m0 = 1 then (m3, l4, 0)
    else if m2 = n0 then (if (applyGo l1.length (-1) l5 l1).2 = 0 then (m3, (applyGo l1.length (-1) l5 l1).1, 0) else (0, [], (applyGo l1.length (-1) l5 l1).2))
    else (0, [], 350)
  else (0, [], 1)
theorem take_eq (k : Nat) (n0 : Int) (l1 : List S60) (m0 m1 m2 m3 : Int) (l4 : List S60) (l5 : List S64) (h1 : l1.length < 8796093022208) (h4 : l4.length < 8796093022208) (h5 : l5.length ≤ 9223372036854775806) (hk : l5.length < k) :
    feed_Take.f k n0 l1 m0 m1 m2 m3 l4 l5 = some (takeS n0 l1 m0 m2 m3 l4 l5) := by
  unfold feed_Take.f feed_Take.eff takeS
  rw [apply_eq l1 l5 h1 h5 k hk]
  simp only [slices_Clone_api_Place_api_Place.f, if_pos h4, Option.bind_some]
  generalize applyGo l1.length (-1) l5 l1 = z
  by_cases m : m0 = 1 ∨ m0 = 2
  · rw [if_pos m]
    by_cases a : 0 ≤ n0
    · rw [if_pos a]
      by_cases b : n0 ≤ 1099511627776
      · rw [if_pos b]
        by_cases c : 1 ≤ m3
        · rw [if_pos c]
          by_cases d : m3 ≤ 1099511627776
          · rw [if_pos d, if_pos (show (m0 = 1 ∨ m0 = 2) ∧ (0 ≤ n0 ∧ n0 ≤ 1099511627776) ∧ (1 ≤ m3 ∧ m3 ≤ 1099511627776) from ⟨m, ⟨a, b⟩, c, d⟩)]
            by_cases f : m3 ≤ n0
            · rw [if_pos f, if_pos f]
            · rw [if_neg f, if_neg f]
              by_cases g : m0 = 1
              · simp [g]
              · by_cases o : m2 = n0
                · by_cases hz : z.2 = 0
                  · simp [g, o, hz]
                  · simp [g, o, hz]
                · simp [g, o]
          · rw [if_neg d, if_neg (fun z => d z.2.2.2)]
        · rw [if_neg c, if_neg (fun z => c z.2.2.1)]
      · rw [if_neg b, if_neg (fun z => b z.2.1.2)]
    · rw [if_neg a, if_neg (fun z => a z.2.1.1)]
  · rw [if_neg m, if_neg (fun z => m z.1)]
theorem okAll_get : ∀ (l : List S52) (n i : Nat) (v : S52), okAll n l = true → l[i]? = some v → okV ((n + i : Nat) : Int) v = true
  | [], _, _, _, _, h => by simp at h
  | x :: l, n, 0, v, h, hv => by
    simp only [List.getElem?_cons_zero, Option.some.injEq] at hv
    subst hv
    simp only [okAll, Bool.and_eq_true] at h
    exact h.1
  | x :: l, n, i + 1, v, h, hv => by
    simp only [okAll, Bool.and_eq_true] at h
    rw [List.getElem?_cons_succ] at hv
    have := okAll_get l (n + 1) i v h.2 hv
    rwa [show n + 1 + i = n + (i + 1) by omega] at this
theorem chk_get {l : List S52} (h : chk l = 0) {i : Nat} {v : S52} (hv : l[i]? = some v) : v.f0 = (i : Int) + 1 ∧ v.f1.f0.length ≤ 64 := by
  have h' : okAll 0 l = true := by unfold chk at h; cases e : okAll 0 l <;> simp_all
  have := okAll_get l 0 i v h' hv
  simp only [okV, okW, Bool.and_eq_true, decide_eq_true_eq, Nat.zero_add] at this
  exact ⟨this.1, this.2.2.1⟩
theorem chk_last {l : List S52} (h : chk l = 0) (hl : 0 < l.length) : (lastOf l).f0 = (l.length : Int) ∧ (lastOf l).f1.f0.length ≤ 64 := by
  have e : l[l.length - 1]? = some (l[l.length - 1]'(by omega)) := List.getElem?_eq_getElem (by omega)
  have h2 := chk_get h e
  have h3 : lastOf l = l[l.length - 1]'(by omega) := by
    unfold lastOf
    rw [show (l.length : Int) - 1 = ((l.length - 1 : Nat) : Int) by omega]
    exact rd52 e
  rw [h3]
  exact ⟨by omega, h2.2⟩
theorem s60_ext {a b : S60} (h0 : a.f0 = b.f0) (h1 : a.f1 = b.f1) : a = b := by
  cases a; cases b; simp_all
theorem apply_diff_go : ∀ (xs ys pre x : List S60) (last : Int), xs.length = ys.length → x = pre ++ xs → last < (pre.length : Int) → applyGo x.length last (diffGo pre.length xs ys) x = (pre ++ ys, 0)
  | [], [], pre, x, last, _, hx, _ => by subst hx; simp [diffGo, applyGo]
  | [], y :: ys, _, _, _, h, _, _ => by simp at h
  | a :: xs, [], _, _, _, h, _, _ => by simp at h
  | a :: xs, b :: ys, pre, x, last, h, hx, hlast => by
    simp only [List.length_cons] at h
    simp only [diffGo]
    by_cases e : a.f0 = b.f0 ∧ a.f1 = b.f1
    · rw [if_pos e]
      have ih := apply_diff_go xs ys (pre ++ [a]) x last (by omega) (by rw [hx]; simp) (by simp; omega)
      rw [List.length_append, List.length_singleton] at ih
      rw [ih, s60_ext e.1 e.2]
      simp
    · rw [if_neg e]
      simp only [applyGo]
      rw [if_neg (by rw [hx]; simp; omega), Int.toNat_natCast]
      have hset : x.set pre.length b = pre ++ b :: xs := by
        rw [hx, List.set_append_right _ _ (Nat.le_refl _)]
        simp
      have ih := apply_diff_go xs ys (pre ++ [b]) (x.set pre.length b) (pre.length : Int) (by omega) (by rw [hset]; simp) (by simp; omega)
      rw [List.length_append, List.length_singleton, List.length_set] at ih
      rw [ih]
      simp
theorem apply_diff (a b : List S60) (h : a.length = b.length) : applyGo a.length (-1) (diffGo 0 a b) a = (b, 0) := by
  have := apply_diff_go a b [] a (-1) h rfl (by simp)
  simpa using this
end Go.Proofs.Ytfdhnmijaobbdaa.S
end
section
namespace Go.Proofs.Ytfdhnmijaobbdaa.S
open Go.RowKit Go.Proofs.YtfdhnmijaobbdaaW.PrintWords Go.Proofs.YtfdhnmijaobbdaaW.PrintLast Go.Proofs.YtfdhnmijaobbdaaW.PrintMore
def mW (l : List S52) (n : Int) : List S60 := (rd_T52 l (n - 1)).f1.f0
def Okm (l : List S52) (t : Int) (m : S32) : Prop := 1 ≤ m.f3 ∧ m.f3 ≤ t ∧ ((m.f0 = 1 ∧ m.f4.f0 = mW l m.f3 ∧ m.f5 = []) ∨ (m.f0 = 2 ∧ 1 ≤ m.f2 ∧ m.f4.f0 = [] ∧ (mW l m.f2).length = (mW l m.f3).length ∧ m.f5 = diffGo 0 (mW l m.f2) (mW l m.f3)))
def Okc (l : List S52) (t n : Int) (W : List S60) : Prop := (n = 0 ∧ W = []) ∨ (1 ≤ n ∧ n ≤ t ∧ W = mW l n)
theorem Okm.mono {l : List S52} {t t' : Int} {m : S32} (h : Okm l t m) (ht : t ≤ t') : Okm l t' m := ⟨h.1, by have := h.2.1; omega, h.2.2⟩
theorem Okc.mono {l : List S52} {t t' n : Int} {W : List S60} (h : Okc l t n W) (ht : t ≤ t') : Okc l t' n W := by
  rcases h with h | ⟨a, b, c⟩
  · exact Or.inl h
  · exact Or.inr ⟨a, by omega, c⟩
theorem mW_len {l : List S52} (hS : Short 70 l) (n : Int) : (mW l n).length ≤ 70 := short_rd hS _
theorem Okc.len {l : List S52} (hS : Short 70 l) {t n : Int} {W : List S60} (h : Okc l t n W) : W.length ≤ 70 := by
  rcases h with ⟨_, e⟩ | ⟨_, _, e⟩
  · rw [e]; simp
  · rw [e]; exact mW_len hS n
theorem Okm.len {l : List S52} (hS : Short 70 l) {t : Int} {m : S32} (h : Okm l t m) : m.f4.f0.length ≤ 70 := by
  rcases h.2.2 with ⟨_, e, _⟩ | ⟨_, _, e, _⟩
  · rw [e]; exact mW_len hS _
  · rw [e]; simp
theorem okAll_take : ∀ (l : List S52) (n k : Nat), okAll n l = true → okAll n (l.take k) = true
  | [], _, _, _ => by simp [okAll]
  | _ :: _, _, 0, _ => by simp [okAll]
  | x :: l, n, k + 1, h => by
    simp only [okAll, Bool.and_eq_true] at h
    simp only [List.take_succ_cons, okAll, Bool.and_eq_true]
    exact ⟨h.1, okAll_take l (n + 1) k h.2⟩
theorem chk_take {l : List S52} (h : chk l = 0) (k : Nat) : chk (l.take k) = 0 := by
  unfold chk at h ⊢
  cases e : okAll 0 l with
  | false => rw [e] at h; simp at h
  | true => rw [okAll_take l 0 k e]; rfl
theorem short_take {n : Nat} {l : List S52} (h : Short n l) (k : Nat) : Short n (l.take k) := fun v hv => h v (List.mem_of_mem_take hv)
theorem rd_take {l : List S52} {k : Nat} {i : Int} (h0 : 0 ≤ i) (h1 : i < (k : Int)) : rd_T52 (l.take k) i = rd_T52 l i := by
  unfold rd_T52
  rw [List.getD_eq_getElem?_getD, List.getD_eq_getElem?_getD, List.getElem?_take, if_pos (by omega)]
theorem replyS_ok {l : List S52} (hc : chk l = 0) {t : Nat} (ht : t ≤ l.length) {no : Int} (h0 : 0 ≤ no) (h1 : no ≤ 1099511627776) {m0 m1 m2 m3 : Int} {l4 : List S60} {l5 : List S64} {e : Int} (h : replyS (l.take t) no 3 = (m0, m1, m2, m3, l4, l5, e)) :
    (e = 0 ∧ Okm l t ⟨m0, m1, m2, m3, ⟨l4⟩, l5⟩) ∨ e = 341 := by
  have hlen : (l.take t).length = t := by rw [List.length_take]; omega
  unfold replyS at h
  rw [if_neg (by rw [chk_take hc t]; omega), hlen] at h
  by_cases hn : no ≥ (t : Int)
  · rw [if_pos hn] at h
    simp only [Prod.mk.injEq] at h
    exact Or.inr (by omega)
  · rw [if_neg hn] at h
    obtain ⟨g1, _⟩ := chk_last (chk_take hc t) (by rw [hlen]; omega)
    rw [hlen] at g1
    have hL : (lastOf (l.take t)).f1.f0 = mW l t := by
      unfold lastOf mW; rw [hlen, rd_take (by omega) (by omega)]
    by_cases hd : no > 0 ∧ (rd_T52 (l.take t) (no - 1)).f1.f0.length = (lastOf (l.take t)).f1.f0.length
    · rw [if_pos hd, g1, hL, rd_take (show 0 ≤ no - 1 by omega) (by omega)] at h
      rw [hL, rd_take (show 0 ≤ no - 1 by omega) (by omega)] at hd
      simp only [Prod.mk.injEq] at h
      obtain ⟨rfl, rfl, rfl, rfl, rfl, rfl, rfl⟩ := h
      refine Or.inl ⟨rfl, by show (1 : Int) ≤ t; omega, by show (t : Int) ≤ t; omega, Or.inr ⟨rfl, by show 1 ≤ no; omega, rfl, hd.2, rfl⟩⟩
    · rw [if_neg hd, g1, hL] at h
      simp only [Prod.mk.injEq] at h
      obtain ⟨rfl, rfl, rfl, rfl, rfl, rfl, rfl⟩ := h
      refine Or.inl ⟨rfl, by show (1 : Int) ≤ t; omega, by show (t : Int) ≤ t; omega, Or.inl ⟨rfl, rfl, rfl⟩⟩
theorem takeS_ok {l : List S52} {t n : Int} {W : List S60} {m : S32} (ht : t ≤ 20) (hc : Okc l t n W) (hm : Okm l t m) {x : Int} {X : List S60} {e : Int} (h : takeS n W m.f0 m.f2 m.f3 m.f4.f0 m.f5 = (x, X, e)) :
    (e = 0 ∧ n < x ∧ Okc l t x X) ∨ e = 341 ∨ e = 350 := by
  obtain ⟨a, b, c⟩ := hm
  have hn : 0 ≤ n ∧ n ≤ 20 := by
    rcases hc with ⟨z, _⟩ | ⟨z1, z2, _⟩ <;> omega
  unfold takeS at h
  rw [if_pos ⟨by rcases c with ⟨z, _⟩ | ⟨z, _⟩ <;> omega, ⟨by omega, by omega⟩, by omega, by omega⟩] at h
  by_cases ho : m.f3 ≤ n
  · rw [if_pos ho] at h
    simp only [Prod.mk.injEq] at h
    exact Or.inr (Or.inl (by omega))
  · rw [if_neg ho] at h
    rcases c with ⟨z0, z4, _⟩ | ⟨z0, z1, z4, zl, z5⟩
    · rw [if_pos z0] at h
      simp only [Prod.mk.injEq] at h
      obtain ⟨rfl, rfl, rfl⟩ := h
      exact Or.inl ⟨rfl, by omega, Or.inr ⟨a, b, z4⟩⟩
    · rw [if_neg (by omega)] at h
      by_cases hf : m.f2 = n
      · rw [if_pos hf] at h
        have hW : W = mW l m.f2 := by
          rcases hc with ⟨z, _⟩ | ⟨_, _, z⟩
          · omega
          · rw [hf]; exact z
        subst hW
        rw [z5, apply_diff _ _ zl, if_pos rfl] at h
        simp only [Prod.mk.injEq] at h
        obtain ⟨rfl, rfl, rfl⟩ := h
        exact Or.inl ⟨rfl, by omega, Or.inr ⟨a, b, rfl⟩⟩
      · rw [if_neg hf] at h
        simp only [Prod.mk.injEq] at h
        exact Or.inr (Or.inr (by omega))
theorem shows_ok {l : List S52} (hl : l.length ≤ 20) (hS : Short 70 l) {t : Nat} (ht : t ≤ l.length) {n : Int} {W : List S60} (hc : Okc l t n W) (k : Nat) (hk : 71 ≤ k) : chalklinelaw35_shows.f k (l.take t) n W = some true := by
  have hlen : (l.take t).length = t := by rw [List.length_take]; omega
  unfold chalklinelaw35_shows.f
  rcases hc with ⟨rfl, rfl⟩ | ⟨a, b, rfl⟩
  · rfl
  · have e : wrap64 (n - 1) = n - 1 := by unfold wrap64; omega
    have hw := mW_len hS n
    rw [if_neg (by omega), if_pos a, hlen, if_pos b, e, if_pos (by omega), if_pos (by omega), rd_take (by omega) (by omega)]
    show (chalklineref04_Same.f k (mW l n) (mW l n)).bind _ = _
    rw [same_eq _ (by omega) k (by omega)]
    rfl
end Go.Proofs.Ytfdhnmijaobbdaa.S
end
