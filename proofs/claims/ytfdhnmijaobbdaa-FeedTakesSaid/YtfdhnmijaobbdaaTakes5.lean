/- feedTakes_holds: part 5 of the proof: the plain functions, the walks of the program's functions and the laws about them. Conditions: those that each theorem states. -/
import Derived.Deep.Slices
import Derived.ChangeSame
import Derived.WideShapes
import Derived.OpenShut
import Derived.SizedLaws
import Derived.ProofKit
import Derived.WalkKit
import Derived.ShutString
import Derived.ChangeOld
import Derived.Below
import Derived.Test.YtfdhnmijaobbdaaTakes1
import Derived.Test.YtfdhnmijaobbdaaTakes2
import Derived.Test.YtfdhnmijaobbdaaTakes3
import Derived.Test.YtfdhnmijaobbdaaTakes4
section
namespace Go.Proofs.Ytfdhnmijaobbdaa.S
open Go.RowKit Go.Proofs.YtfdhnmijaobbdaaW.PrintWords Go.Proofs.YtfdhnmijaobbdaaW.PrintLast Go.Proofs.YtfdhnmijaobbdaaW.PrintMore
attribute [local go_sem] max2_int min2_int max_two min_two max_three min_three max_four min_four   -- for this text's walks alone
set_option linter.unusedVariables false
set_option linter.unusedSimpArgs false
def chalklineref04_Apply.l0 : Nat → List (S64) → Int → List (S60) → List (S60) → Option ((List (S60)) × Int)
  | 0, _, _, _, _ => none
  | k + 1, x1, x7, x260000, x268000 => if x7 < (x1.length : Int) then (if 0 ≤ x7 then (if ((rd_T64 x1 x7).f0) < 0 then (some (([] : List (S60)), 1)) else (if ((rd_T64 x1 x7).f0) ≥ (x260000.length : Int) then (some (([] : List (S60)), 1)) else (if x7 > 0 then (if 0 ≤ (wrap64 (x7 - 1)) then (if (wrap64 (x7 - 1)) < (x1.length : Int) then (if ((rd_T64 x1 x7).f0) ≤ ((rd_T64 x1 (wrap64 (x7 - 1))).f0) then (some (([] : List (S60)), 1)) else (if 0 ≤ ((rd_T64 x1 x7).f0) then (if ((rd_T64 x1 x7).f0) < (x268000.length : Int) then (chalklineref04_Apply.l0 k x1 (wrap64 (x7 + 1)) x260000 (x268000.set (((rd_T64 x1 x7).f0) : Int).toNat (⟨(rd_T64 x1 x7).f1.f0, (rd_T64 x1 x7).f1.f1⟩ : S60))) else (none)) else (none))) else (none)) else (none)) else (if 0 ≤ ((rd_T64 x1 x7).f0) then (if ((rd_T64 x1 x7).f0) < (x268000.length : Int) then (chalklineref04_Apply.l0 k x1 (wrap64 (x7 + 1)) x260000 (x268000.set (((rd_T64 x1 x7).f0) : Int).toNat (⟨(rd_T64 x1 x7).f1.f0, (rd_T64 x1 x7).f1.f1⟩ : S60))) else (none)) else (none))))) else (none)) else (some (x268000, 0))
def chalklineref04_Apply.f (k : Nat) (l0_0 : List (S60)) (l1 : List (S64)) : Option ((List (S60)) × Int) := (some (([] : List (S60)) : List (S60))).bind fun y261 => (if y261.length + l0_0.length < 8796093022208 then (chalklineref04_Apply.l0 k l1 0 l0_0 (y261 ++ l0_0)) else (none))
def chalklineref04_Apply.T8 : Bool × List (List Nat × List Nat) := (true, [([], []), ([0], [0]), ([], []), ([], []), ([], []), ([3, 4], [3, 4]), ([5], [5]), ([6], [6]), ([1, 2, 0, 1, 2, 3, 4, 5, 6, 7], [1, 2]), ([8, 7, 0, 1, 2, 3, 4, 5, 6, 7], [7, 8])])
def chalklineref04_Apply.B8 : List Nat := [0, 1, 0, 0, 0, 24, 56, 120, 255, 511]
theorem chalklineref04_Apply.tab8 : rtab .any (opsOf Try.f39 8) = chalklineref04_Apply.T8 := by kernel_rfl
theorem chalklineref04_Apply.bits8 : waitsOk chalklineref04_Apply.T8.2 chalklineref04_Apply.B8 = true := by kernel_rfl
set_option maxHeartbeats 8000000 in
set_option maxRecDepth 100000 in
theorem chalklineref04_Apply.calls (k : Nat) (A0_0 : Option Addr) (c0_0 : Nat) (l0_0 : List (S60)) (A1 : Option Addr) (c1 : Nat) (l1 : List (S64)) (r1 : List (S60)) (r2 : Int) (w : World) (hr0_0 : Kd.C k60 w A0_0 l0_0.length l0_0) (hc0_0 : l0_0.length ≤ c0_0) (hr1 : Kd.C k64 w A1 l1.length l1) (hc1 : l1.length ≤ c1) (h : chalklineref04_Apply.f k l0_0 l1 = some (r1, r2)) :
    Calls Try.prog 39 #[.agg #[.slice A0_0 l0_0.length c0_0], .slice A1 l1.length c1] w fun e w' => ∃ v0_ : Value, e = .returned (.tuple #[.agg #[v0_], .int .i64 r2]) ∧ Kd.R k60 60 w' w.heap.size (fun _ => True) v0_ r1 ∧ Below w.heap.size w w' := by
  have hu25 := Try.underlying25
  have hu60 := Try.underlying60
  have HR0_0 := Aside0.mk hr0_0
  have HC0_0 := Aside0.mk hc0_0
  clear hr0_0 hc0_0
  have HR1 := Aside0.mk hr1
  have HC1 := Aside0.mk hc1
  clear hr1 hc1
  have HB := Aside0.mk (Below.refl w.heap.size w)
  have H : ((some (([] : List (S60)) : List (S60))).bind fun y261 => (if y261.length + l0_0.length < 8796093022208 then (chalklineref04_Apply.l0 k l1 0 l0_0 (y261 ++ l0_0)) else (none))) = some (r1, r2) := h
  clear h
  obtain ⟨y261, hy261⟩ : ∃ y_ : List (S60), y_ = (([] : List (S60))) := ⟨_, rfl⟩
  replace H : (if y261.length + l0_0.length < 8796093022208 then (chalklineref04_Apply.l0 k l1 0 l0_0 (y261 ++ l0_0)) else (none)) = some (r1, r2) := by first | (rw [hy261]; with_reducible exact H) | (have H2_ := (Option.bind_some _ _).symm.trans H; rw [hy261]; with_reducible exact H2_) | (have H2_ := (Option.bind_some _ _).symm.trans H; with_reducible exact H2_) | with_reducible exact H | (rw [hy261]; exact H) | exact H
  have Ny261 := Aside0.mk hy261
  clear hy261
  by_cases c3 : y261.length + l0_0.length < 8796093022208
  · rw [if_pos c3] at H
    have LMc3 := Aside0.mk c3
    clear c3
    obtain ⟨y264, hy264⟩ : ∃ y_ : List (S60), y_ = (y261 ++ l0_0) := ⟨_, rfl⟩
    replace H : (chalklineref04_Apply.l0 k l1 0 l0_0 y264) = some (r1, r2) := by first | (rw [hy264]; with_reducible exact H) | (have H2_ := (Option.bind_some _ _).symm.trans H; rw [hy264]; with_reducible exact H2_) | (have H2_ := (Option.bind_some _ _).symm.trans H; with_reducible exact H2_) | with_reducible exact H | (rw [hy264]; exact H) | exact H
    have Ny264 := Aside0.mk hy264
    clear hy264
    have H' := Aside0.mk H
    clear H
    go_enter Try.func39, Try.ntmps39
    go_wp2_with (first | ((with_reducible refine gate_dst (N := 2) rfl ?_); (try (refine gate_guard (by rfl) ?_; dsimp only)); refine box_event ?hg (N := 2) ?hd (cs := #[.slice A0_0 l0_0.length c0_0]) (t := 25) ?hr ?_; (case hd => rfl); (case hg => rfl); (case hr => first | (go_simp; done) | (go_simp; rfl)); intro gb259 hg w4 hbox hb; have n0_ := Aside0.mk (below_step (by repeat (first | (with_reducible first | exact HB.out | apply below_alloc | apply pw_below_drewN | apply below_drew1) | exact HB.out)) hb); have n1_ := Aside0.mk (hbox); have n2_ := Aside0.mk ((by rw [hg]; exact (below_size (by repeat (first | (with_reducible first | exact HB.out | apply below_alloc | apply pw_below_drewN | apply below_drew1) | exact HB.out))) : w.heap.size ≤ gb259)); have n3_ := Aside0.mk ((by rw [hg]; exact (below_size (by repeat (first | (with_reducible first | exact HB.out | apply below_alloc | apply pw_below_drewN | apply below_drew1) | exact HB.out))) : w.heap.size ≤ gb259)); clear HB; have HB := n0_; have BK259 := n1_; have GW259 := n2_; have GE259 := n3_; clear n0_ n1_ n2_ n3_; clear hb hbox hg) | ((with_reducible refine gate_dst (N := 4) rfl ?_); (try (refine gate_guard (by rfl) ?_; dsimp only)); refine box_event ?hg (N := 4) ?hd (cs := #[.slice none 0 0]) (t := 25) ?hr ?_; (case hd => rfl); (case hg => rfl); (case hr => first | (go_simp; done) | (go_simp; rfl)); intro gb260 hg w5 hbox hb; have n0_ := Aside0.mk (blk_below (g := gb259) (o := .cells #[.slice A0_0 l0_0.length c0_0] 25 (0, 0)) (by (with_reducible repeat (first | refine blk_drewN ?_ _ | refine blk_drew ?_ | refine blk_alloc ?_ _)); exact BK259.out) hb); have n1_ := Aside0.mk (below_step (by repeat (first | (with_reducible first | exact HB.out | apply below_alloc | apply pw_below_drewN | apply below_drew1 | refine below_set ?_ GE259.out) | exact HB.out)) hb); have n2_ := Aside0.mk (hbox); have n3_ := Aside0.mk ((by rw [hg]; exact (below_size (by repeat (first | (with_reducible first | exact HB.out | apply below_alloc | apply pw_below_drewN | apply below_drew1 | refine below_set ?_ GE259.out) | exact HB.out))) : w.heap.size ≤ gb260)); have n4_ := Aside0.mk ((by rw [hg]; exact (below_size (by repeat (first | (with_reducible first | exact HB.out | apply below_alloc | apply pw_below_drewN | apply below_drew1 | refine below_set ?_ GE259.out) | exact HB.out))) : w.heap.size ≤ gb260)); have n5_ := Aside0.mk ((by rw [hg]; exact Nat.ne_of_lt (blk_lt (g := gb259) (o := .cells #[.slice A0_0 l0_0.length c0_0] 25 (0, 0)) (by (with_reducible repeat (first | refine blk_drewN ?_ _ | refine blk_drew ?_ | refine blk_alloc ?_ _)); exact BK259.out)) : gb259 ≠ gb260)); have n6_ := Aside0.mk ((by rw [hg]; exact Nat.ne_of_gt (blk_lt (g := gb259) (o := .cells #[.slice A0_0 l0_0.length c0_0] 25 (0, 0)) (by (with_reducible repeat (first | refine blk_drewN ?_ _ | refine blk_drew ?_ | refine blk_alloc ?_ _)); exact BK259.out)) : gb260 ≠ gb259)); clear BK259; clear HB; have BK259 := n0_; have HB := n1_; have BK260 := n2_; have GW260 := n3_; have GE260 := n4_; have NB259_260 := n5_; have NB260_259 := n6_; clear n0_ n1_ n2_ n3_ n4_ n5_ n6_; clear hb hbox hg) | ((with_reducible refine gate_dst (N := 9) rfl ?_); (try (refine gate_guard (by rfl) ?_; dsimp only)); refine Kd.R_lit k60 _ 60 ?hg (N := 9) ?hd (xs := ([] : List (S60))) (inner := []) (ok := fun _ => True) (okp := fun _ => True) ?hr ?hp (fun _ hk => hk) trivial (Below.refl _ _) (Nat.le_refl _) (by simp) ?_; (case hd => rfl); (case hg => rfl); (case hr => first | (go_simp; done) | (go_simp; rfl)); (case hp => exact (Reps.none _ _)); intro v262 w6 ho7 hb hg_ hnew_; clear hg_ hnew_; (first | rw [← Ny261.out] at ho7 | (simp only [Int.reduceToNat] at ho7; rw [← Ny261.out] at ho7)); have n0_ := Aside0.mk (Kd.R_lower ho7 (below_size (by repeat (first | (with_reducible first | exact HB.out | apply below_alloc | apply pw_below_drewN | apply below_drew1 | refine below_set ?_ GE259.out | refine below_set ?_ GE260.out) | exact HB.out)))); have n1_ := Aside0.mk (blk_below (g := gb259) (o := .cells #[.slice A0_0 l0_0.length c0_0] 25 (0, 0)) (by (with_reducible repeat (first | refine blk_drewN ?_ _ | refine blk_drew ?_ | refine blk_alloc ?_ _)); exact BK259.out) hb); have n2_ := Aside0.mk (blk_below (g := gb260) (o := .cells #[.slice none 0 0] 25 (0, 0)) (by (with_reducible repeat (first | refine blk_drewN ?_ _ | refine blk_drew ?_ | refine blk_alloc ?_ _)); exact BK260.out) hb); have n3_ := Aside0.mk (below_step (by repeat (first | (with_reducible first | exact HB.out | apply below_alloc | apply pw_below_drewN | apply below_drew1 | refine below_set ?_ GE259.out | refine below_set ?_ GE260.out) | exact HB.out)) hb); clear BK259; clear BK260; clear HB; have HO263 := n0_; have BK259 := n1_; have BK260 := n2_; have HB := n3_; clear n0_ n1_ n2_ n3_; clear hb ho7; have hnb8 := NB259_260.out; have hnc8 := NB260_259.out; have hcz9_0 : w6.cell? ⟨gb259, 0, none⟩ = some (.slice A0_0 l0_0.length c0_0) := (blk_cell BK259.out 0).trans rfl; have hfz9_0 := blk_frozen BK259.out 0) | ((with_reducible refine gate_builtin (b := .append) (xs := #[.tmp 9, .tmp 11]) rfl ?_); (try (refine gate_guard (by rfl) ?_; dsimp only)); at_builtin; refine Kd.R_append_rows k60 (w0 := w) w.heap.size rfl (.tmp 9) (.tmp 11) 23 60 (.agg #[(.int .i64 0), (.int .i64 0)]) 16 rfl Try.underlying23 info60 rfl (by decide) (by omega) v262 y261 l0_0 _ _ _ (fun _ => True) (fun _ => False) rfl rfl ?aO ?aR (fun _ _ h => h) (fun _ h => h.elim) ?aF ?aB ?aS ?aL ?_; (case aR => repeat (first | exact (Kd.C_below HR0_0.out HB.out) | (with_reducible refine Kd.C_alloc ?_ _) | (with_reducible refine Kd.C_drewN ?_ _) | (with_reducible refine Kd.C_drew ?_))); (case aB => exact (by repeat (first | (with_reducible first | exact HB.out | apply below_alloc | apply pw_below_drewN | apply below_drew1 | refine below_set ?_ GE259.out | refine below_set ?_ GE260.out) | exact HB.out))); (case aF => exact (fun _ _ => trivial)); (case aO => exact (by (with_reducible repeat (first | apply Kd.R_alloc | apply Kd.R_drewN | apply Kd.R_drew)); exact HO263.out)); (case aS => exact (below_size (by repeat (first | (with_reducible first | exact HB.out | apply below_alloc | apply pw_below_drewN | apply below_drew1 | refine below_set ?_ GE259.out | refine below_set ?_ GE260.out) | exact HB.out)))); (case aL => have := LMc3.out; omega); intro v265 w10 ho hb hg hat; rw [← Ny264.out] at ho; have n0_ := Aside0.mk (blk_grown (g := gb259) (o := .cells #[.slice A0_0 l0_0.length c0_0] 25 (0, 0)) (by (with_reducible repeat (first | refine blk_drewN ?_ _ | refine blk_drew ?_ | refine blk_alloc ?_ _)); exact BK259.out) hg (Kd.R_ne HO263.out BK259.out (by decide))); have n1_ := Aside0.mk (blk_grown (g := gb260) (o := .cells #[.slice none 0 0] 25 (0, 0)) (by (with_reducible repeat (first | refine blk_drewN ?_ _ | refine blk_drew ?_ | refine blk_alloc ?_ _)); exact BK260.out) hg (Kd.R_ne HO263.out BK260.out (by decide))); have n2_ := Aside0.mk (hb); have n3_ := Aside0.mk (ho); clear BK259; clear BK260; clear HB; clear HO263; have BK259 := n0_; have BK260 := n1_; have HB := n2_; have HO266 := n3_; clear n0_ n1_ n2_ n3_; clear ho hb hg hat; obtain ⟨Ao11, co11, eo11⟩ := Kd.R_slice HO266.out; subst eo11) | ((with_reducible refine gate_dst (N := 6) rfl ?_); (try (refine gate_guard (by rfl) ?_; dsimp only)); refine box_event ?hg (N := 6) ?hd (cs := #[.slice none 0 0]) (t := 25) ?hr ?_; (case hd => rfl); (case hg => rfl); (case hr => first | (go_simp; done) | (go_simp; rfl)); intro gb267 hg w12 hbox hb; have n0_ := Aside0.mk (Kd.R_below (by (with_reducible repeat (first | apply Kd.R_alloc | apply Kd.R_drewN | apply Kd.R_drew)); exact HO266.out) hb); have n1_ := Aside0.mk (blk_below (g := gb259) (o := .cells #[.slice A0_0 l0_0.length c0_0] 25 (0, 0)) (by (with_reducible repeat (first | refine blk_drewN ?_ _ | refine blk_drew ?_ | refine blk_alloc ?_ _)); exact BK259.out) hb); have n2_ := Aside0.mk (blk_below (g := gb260) (o := .cells #[.slice none 0 0] 25 (0, 0)) (by (with_reducible repeat (first | refine blk_drewN ?_ _ | refine blk_drew ?_ | refine blk_alloc ?_ _)); exact BK260.out) hb); have n3_ := Aside0.mk (below_step (by repeat (first | (with_reducible first | exact HB.out | apply below_alloc | apply pw_below_drewN | apply below_drew1 | refine below_set ?_ GE259.out | refine below_set ?_ GE260.out) | exact HB.out)) hb); have n4_ := Aside0.mk (hbox); have n5_ := Aside0.mk ((by rw [hg]; exact (below_size (by repeat (first | (with_reducible first | exact HB.out | apply below_alloc | apply pw_below_drewN | apply below_drew1 | refine below_set ?_ GE259.out | refine below_set ?_ GE260.out) | exact HB.out))) : w.heap.size ≤ gb267)); have n6_ := Aside0.mk ((by rw [hg]; exact (below_size (by repeat (first | (with_reducible first | exact HB.out | apply below_alloc | apply pw_below_drewN | apply below_drew1 | refine below_set ?_ GE259.out | refine below_set ?_ GE260.out) | exact HB.out))) : w.heap.size ≤ gb267)); have n7_ := Aside0.mk ((by rw [hg]; exact Nat.ne_of_lt (blk_lt (g := gb259) (o := .cells #[.slice A0_0 l0_0.length c0_0] 25 (0, 0)) (by (with_reducible repeat (first | refine blk_drewN ?_ _ | refine blk_drew ?_ | refine blk_alloc ?_ _)); exact BK259.out)) : gb259 ≠ gb267)); have n8_ := Aside0.mk ((by rw [hg]; exact Nat.ne_of_gt (blk_lt (g := gb259) (o := .cells #[.slice A0_0 l0_0.length c0_0] 25 (0, 0)) (by (with_reducible repeat (first | refine blk_drewN ?_ _ | refine blk_drew ?_ | refine blk_alloc ?_ _)); exact BK259.out)) : gb267 ≠ gb259)); have n9_ := Aside0.mk ((by rw [hg]; exact Nat.ne_of_lt (blk_lt (g := gb260) (o := .cells #[.slice none 0 0] 25 (0, 0)) (by (with_reducible repeat (first | refine blk_drewN ?_ _ | refine blk_drew ?_ | refine blk_alloc ?_ _)); exact BK260.out)) : gb260 ≠ gb267)); have n10_ := Aside0.mk ((by rw [hg]; exact Nat.ne_of_gt (blk_lt (g := gb260) (o := .cells #[.slice none 0 0] 25 (0, 0)) (by (with_reducible repeat (first | refine blk_drewN ?_ _ | refine blk_drew ?_ | refine blk_alloc ?_ _)); exact BK260.out)) : gb267 ≠ gb260)); clear HO266; clear BK259; clear BK260; clear HB; have HO266 := n0_; have BK259 := n1_; have BK260 := n2_; have HB := n3_; have BK267 := n4_; have GW267 := n5_; have GE267 := n6_; have NB259_267 := n7_; have NB267_259 := n8_; have NB260_267 := n9_; have NB267_260 := n10_; clear n0_ n1_ n2_ n3_ n4_ n5_ n6_ n7_ n8_ n9_ n10_; clear hb hbox hg; have hnb13 := NB267_259.out; have hnc13 := NB259_267.out; have hnb14 := NB267_260.out; have hnc14 := NB260_267.out; have hcz15_0 : w12.cell? ⟨gb267, 0, none⟩ = some (.slice none 0 0) := (blk_cell BK267.out 0).trans rfl; have hfz15_0 := blk_frozen BK267.out 0))
    go_loopg [7] k (fun kq v7 w' => ∃ (x7_1 : Int) (x268000_1 : List (S60)) (u268000 : Value), v7 = .int .i64 x7_1 ∧ Aside0 (chalklineref04_Apply.l0 kq l1 x7_1 l0_0 x268000_1 = some (r1, r2)) ∧ Aside0 (kq ≤ k) ∧ Aside0 (Kd.R k60 60 w' w.heap.size (fun _ => True) u268000 x268000_1) ∧ Aside0 (w'.heap[gb259]? = some (.cells #[(.slice A0_0 l0_0.length c0_0)] 25 (0, 0))) ∧ Aside0 (w'.heap[gb260]? = some (.cells #[(.slice none 0 0)] 25 (0, 0))) ∧ Aside0 (w'.heap[gb267]? = some (.cells #[u268000] 25 (0, 0))) ∧ Aside0 (Below w.heap.size w w'))
    case atStart => exact ⟨(0), (y264), (.slice Ao11 y264.length co11), (by first | rfl | (simp; done) | (simp [*]; done)), H', ⟨Nat.le_refl _⟩, ⟨by (with_reducible repeat (first | apply Kd.R_alloc | apply Kd.R_drewN | apply Kd.R_drew)); exact Kd.R_mono (Kd.R_far (p := ⟨gb267, 0, none⟩) (Kd.R_types HO266.out BK267.out (by decide)) (fun _ hk => hk.2) (.slice Ao11 y264.length co11)) (fun _ hk => trivial)⟩, ⟨by (with_reducible repeat (first | refine blk_drewN ?_ _ | refine blk_drew ?_ | refine blk_alloc ?_ _)); refine blk_far ?_ NB259_267.out _; (with_reducible repeat (first | refine blk_drewN ?_ _ | refine blk_drew ?_ | refine blk_alloc ?_ _)); exact BK259.out⟩, ⟨by (with_reducible repeat (first | refine blk_drewN ?_ _ | refine blk_drew ?_ | refine blk_alloc ?_ _)); refine blk_far ?_ NB260_267.out _; (with_reducible repeat (first | refine blk_drewN ?_ _ | refine blk_drew ?_ | refine blk_alloc ?_ _)); exact BK260.out⟩, ⟨by (with_reducible repeat (first | refine blk_drewN ?_ _ | refine blk_drew ?_ | refine blk_alloc ?_ _)); refine blk_put (cs := #[.slice none 0 0]) ?_ 0 _ rfl; (with_reducible repeat (first | refine blk_drewN ?_ _ | refine blk_drew ?_ | refine blk_alloc ?_ _)); exact BK267.out⟩, ⟨by repeat (first | (with_reducible first | exact HB.out | apply below_alloc | apply pw_below_drewN | apply below_drew1 | refine below_set ?_ GE259.out | refine below_set ?_ GE260.out | refine below_set ?_ GE267.out) | exact HB.out)⟩⟩
    case round =>
      clear H'
      try clear c1
      try clear p2
      try clear c3
      try clear c8
      try clear c13
      try clear c14
      try clear hcz15_0
      try clear hcz9_0
      try clear hfz15_0
      try clear hfz9_0
      obtain ⟨x7_1, x268000_1, u268000, rfl, HA, HK1, HO_268000, BK259, BK260, BK267, HB⟩ := hrel
      cases gk with
      | zero => exact absurd HA.out (by simp [chalklineref04_Apply.l0])
      | succ k1 =>
        have H := HA.out
        clear HA
        simp only [chalklineref04_Apply.l0] at H
        by_cases c16 : x7_1 < (l1.length : Int)
        · rw [if_pos c16] at H
          have c16b0 : decide (x7_1 < (l1.length : Int)) = true := decide_eq_true c16
          clear c16
          by_cases c17 : 0 ≤ x7_1
          · rw [if_pos c17] at H
            have c17b0 : decide (0 ≤ x7_1) = true := decide_eq_true c17
            clear c17
            by_cases c18 : ((rd_T64 l1 x7_1).f0) < 0
            · rw [if_pos c18] at H
              have c18b0 : decide (((rd_T64 l1 x7_1).f0) < 0) = true := decide_eq_true c18
              clear c18
              simp only [Option.some.injEq, Prod.mk.injEq] at H
              obtain ⟨rfl, rfl⟩ := H
              have p268 : 0 ≤ (x7_1 : Int) := of_decide_eq_true (by first | (with_reducible assumption) | assumption)
              have q268 : x7_1 < (l1.length : Int) := of_decide_eq_true (by first | (with_reducible assumption) | assumption)
              obtain ⟨ad268, e268, hx268_0, hx268_1, hx268_2⟩ := at_T64 HR1.out x7_1 p268 q268
              cases e268
              replace hx268_0 := (HB.out.cell (World.block_lt_of_cell? w _ hx268_0)).trans hx268_0
              replace hx268_1 := (HB.out.cell (World.block_lt_of_cell? w _ hx268_1)).trans hx268_1
              replace hx268_2 := (HB.out.cell (World.block_lt_of_cell? w _ hx268_2)).trans hx268_2
              replace p268 := eq_true p268
              replace q268 := eq_true q268
              have hnb19 := NB260_259.out
              have hnc19 := NB259_260.out
              have hnb20 := NB260_267.out
              have hnc20 := NB267_260.out
              have hcz21_0 : wr.cell? ⟨gb260, 0, none⟩ = some (.slice none 0 0) := (blk_cell BK260.out 0).trans rfl
              have hfz21_0 := blk_frozen BK260.out 0
              go_wp2
              refine bodyPost_ret (results_ct rfl _ _ gb260 25 #[.slice none 0 0] (0, 0) _ rfl (by (with_reducible repeat (first | refine blk_drewN ?_ _ | refine blk_drew ?_ | refine blk_alloc ?_ _)); refine blk_put (cs := #[.slice none 0 0]) ?_ 0 _ rfl; (with_reducible repeat (first | refine blk_drewN ?_ _ | refine blk_drew ?_ | refine blk_alloc ?_ _)); exact BK260.out) Try.underlying25 rfl (by kernel_rfl)) rfl ?_
              exact ⟨_, by first | rfl | (simp [errW_none, errW_some] <;> rfl) | (simp [*, errW_none, errW_some] <;> rfl), by first | exact Kd.R_nil _ _ _ _ _ | exact Kd.N_nil _ _ _ _ _ | exact Kd.V_nil _ _ _ _ _ | exact Kd.Q_nil _ _ _ _ _ | exact Kd.S_nil _ _ _ _ _, by repeat (first | (with_reducible first | exact HB.out | apply below_alloc | apply pw_below_drewN | apply below_drew1 | refine below_set ?_ GE259.out | refine below_set ?_ GE260.out | refine below_set ?_ GE267.out) | exact HB.out)⟩
            · rw [if_neg c18] at H
              have c18b0 : decide (((rd_T64 l1 x7_1).f0) < 0) = false := decide_eq_false c18
              clear c18
              by_cases c22 : ((rd_T64 l1 x7_1).f0) ≥ (l0_0.length : Int)
              · rw [if_pos c22] at H
                have c22b0 : decide ((l0_0.length : Int) ≤ ((rd_T64 l1 x7_1).f0)) = true := decide_eq_true c22
                clear c22
                simp only [Option.some.injEq, Prod.mk.injEq] at H
                obtain ⟨rfl, rfl⟩ := H
                have p268 : 0 ≤ (x7_1 : Int) := of_decide_eq_true (by first | (with_reducible assumption) | assumption)
                have q268 : x7_1 < (l1.length : Int) := of_decide_eq_true (by first | (with_reducible assumption) | assumption)
                obtain ⟨ad268, e268, hx268_0, hx268_1, hx268_2⟩ := at_T64 HR1.out x7_1 p268 q268
                cases e268
                replace hx268_0 := (HB.out.cell (World.block_lt_of_cell? w _ hx268_0)).trans hx268_0
                replace hx268_1 := (HB.out.cell (World.block_lt_of_cell? w _ hx268_1)).trans hx268_1
                replace hx268_2 := (HB.out.cell (World.block_lt_of_cell? w _ hx268_2)).trans hx268_2
                replace p268 := eq_true p268
                replace q268 := eq_true q268
                have hnb23 := NB259_260.out
                have hnc23 := NB260_259.out
                have hnb24 := NB259_267.out
                have hnc24 := NB267_259.out
                have hcz25_0 : wr.cell? ⟨gb259, 0, none⟩ = some (.slice A0_0 l0_0.length c0_0) := (blk_cell BK259.out 0).trans rfl
                have hfz25_0 := blk_frozen BK259.out 0
                have hnb26 := NB260_267.out
                have hnc26 := NB267_260.out
                have hcz27_0 : wr.cell? ⟨gb260, 0, none⟩ = some (.slice none 0 0) := (blk_cell BK260.out 0).trans rfl
                have hfz27_0 := blk_frozen BK260.out 0
                go_wp2
                refine bodyPost_ret (results_ct rfl _ _ gb260 25 #[.slice none 0 0] (0, 0) _ rfl (by (with_reducible repeat (first | refine blk_drewN ?_ _ | refine blk_drew ?_ | refine blk_alloc ?_ _)); refine blk_put (cs := #[.slice none 0 0]) ?_ 0 _ rfl; (with_reducible repeat (first | refine blk_drewN ?_ _ | refine blk_drew ?_ | refine blk_alloc ?_ _)); exact BK260.out) Try.underlying25 rfl (by kernel_rfl)) rfl ?_
                exact ⟨_, by first | rfl | (simp [errW_none, errW_some] <;> rfl) | (simp [*, errW_none, errW_some] <;> rfl), by first | exact Kd.R_nil _ _ _ _ _ | exact Kd.N_nil _ _ _ _ _ | exact Kd.V_nil _ _ _ _ _ | exact Kd.Q_nil _ _ _ _ _ | exact Kd.S_nil _ _ _ _ _, by repeat (first | (with_reducible first | exact HB.out | apply below_alloc | apply pw_below_drewN | apply below_drew1 | refine below_set ?_ GE259.out | refine below_set ?_ GE260.out | refine below_set ?_ GE267.out) | exact HB.out)⟩
              · rw [if_neg c22] at H
                have c22b0 : decide ((l0_0.length : Int) ≤ ((rd_T64 l1 x7_1).f0)) = false := decide_eq_false c22
                clear c22
                by_cases c28 : x7_1 > 0
                · rw [if_pos c28] at H
                  have c28b0 : decide (0 < x7_1) = true := decide_eq_true c28
                  clear c28
                  obtain ⟨ji29, hji29⟩ : ∃ j_ : Int, (wrap64 (x7_1 - 1)) = j_ := ⟨_, rfl⟩
                  replace H : (if 0 ≤ (ji29) then (if (ji29) < (l1.length : Int) then (if ((rd_T64 l1 x7_1).f0) ≤ ((rd_T64 l1 (ji29)).f0) then (some (([] : List (S60)), 1)) else (if 0 ≤ ((rd_T64 l1 x7_1).f0) then (if ((rd_T64 l1 x7_1).f0) < (x268000_1.length : Int) then (chalklineref04_Apply.l0 k1 l1 (wrap64 (x7_1 + 1)) l0_0 (x268000_1.set (((rd_T64 l1 x7_1).f0) : Int).toNat (⟨(rd_T64 l1 x7_1).f1.f0, (rd_T64 l1 x7_1).f1.f1⟩ : S60))) else (none)) else (none))) else (none)) else (none)) = some (r1, r2) := by first | (rw [hji29] at H; exact H) | (simp only [hji29] at H ⊢; exact H)
                  have hji29w : (IntKind.i64.wrap (x7_1 - 1)) = ji29 := (i64_w _).trans hji29
                  by_cases c30 : 0 ≤ (ji29)
                  · rw [if_pos c30] at H
                    have c30b0 : decide (0 ≤ (ji29)) = true := decide_eq_true c30
                    clear c30
                    by_cases c31 : (ji29) < (l1.length : Int)
                    · rw [if_pos c31] at H
                      have c31b0 : decide ((ji29) < (l1.length : Int)) = true := decide_eq_true c31
                      clear c31
                      by_cases c32 : ((rd_T64 l1 x7_1).f0) ≤ ((rd_T64 l1 (ji29)).f0)
                      · rw [if_pos c32] at H
                        have c32b0 : decide (((rd_T64 l1 x7_1).f0) ≤ ((rd_T64 l1 (ji29)).f0)) = true := decide_eq_true c32
                        clear c32
                        simp only [Option.some.injEq, Prod.mk.injEq] at H
                        obtain ⟨rfl, rfl⟩ := H
                        have p268 : 0 ≤ (x7_1 : Int) := of_decide_eq_true (by first | (with_reducible assumption) | assumption)
                        have q268 : x7_1 < (l1.length : Int) := of_decide_eq_true (by first | (with_reducible assumption) | assumption)
                        obtain ⟨ad268, e268, hx268_0, hx268_1, hx268_2⟩ := at_T64 HR1.out x7_1 p268 q268
                        cases e268
                        replace hx268_0 := (HB.out.cell (World.block_lt_of_cell? w _ hx268_0)).trans hx268_0
                        replace hx268_1 := (HB.out.cell (World.block_lt_of_cell? w _ hx268_1)).trans hx268_1
                        replace hx268_2 := (HB.out.cell (World.block_lt_of_cell? w _ hx268_2)).trans hx268_2
                        replace p268 := eq_true p268
                        replace q268 := eq_true q268
                        have hnb33 := NB259_260.out
                        have hnc33 := NB260_259.out
                        have hnb34 := NB259_267.out
                        have hnc34 := NB267_259.out
                        have hcz35_0 : wr.cell? ⟨gb259, 0, none⟩ = some (.slice A0_0 l0_0.length c0_0) := (blk_cell BK259.out 0).trans rfl
                        have hfz35_0 := blk_frozen BK259.out 0
                        have p269 : 0 ≤ ((ji29) : Int) := of_decide_eq_true (by first | (with_reducible assumption) | assumption)
                        have q269 : (ji29) < (l1.length : Int) := of_decide_eq_true (by first | (with_reducible assumption) | assumption)
                        obtain ⟨ad269, e269, hx269_0, hx269_1, hx269_2⟩ := at_T64 HR1.out (ji29) p269 q269
                        obtain rfl : ad268 = ad269 := (by injection e269)
                        replace hx269_0 := (HB.out.cell (World.block_lt_of_cell? w _ hx269_0)).trans hx269_0
                        replace hx269_1 := (HB.out.cell (World.block_lt_of_cell? w _ hx269_1)).trans hx269_1
                        replace hx269_2 := (HB.out.cell (World.block_lt_of_cell? w _ hx269_2)).trans hx269_2
                        replace p269 := eq_true p269
                        replace q269 := eq_true q269
                        have hnb36 := NB260_267.out
                        have hnc36 := NB267_260.out
                        have hcz37_0 : wr.cell? ⟨gb260, 0, none⟩ = some (.slice none 0 0) := (blk_cell BK260.out 0).trans rfl
                        have hfz37_0 := blk_frozen BK260.out 0
                        go_wp2
                        refine bodyPost_ret (results_ct rfl _ _ gb260 25 #[.slice none 0 0] (0, 0) _ rfl (by (with_reducible repeat (first | refine blk_drewN ?_ _ | refine blk_drew ?_ | refine blk_alloc ?_ _)); refine blk_put (cs := #[.slice none 0 0]) ?_ 0 _ rfl; (with_reducible repeat (first | refine blk_drewN ?_ _ | refine blk_drew ?_ | refine blk_alloc ?_ _)); exact BK260.out) Try.underlying25 rfl (by kernel_rfl)) rfl ?_
                        exact ⟨_, by first | rfl | (simp [errW_none, errW_some] <;> rfl) | (simp only [← hji29]; first | rfl | (simp [errW_none, errW_some] <;> rfl)) | (simp [*, errW_none, errW_some] <;> rfl), by first | exact Kd.R_nil _ _ _ _ _ | exact Kd.N_nil _ _ _ _ _ | exact Kd.V_nil _ _ _ _ _ | exact Kd.Q_nil _ _ _ _ _ | exact Kd.S_nil _ _ _ _ _, by repeat (first | (with_reducible first | exact HB.out | apply below_alloc | apply pw_below_drewN | apply below_drew1 | refine below_set ?_ GE259.out | refine below_set ?_ GE260.out | refine below_set ?_ GE267.out) | exact HB.out)⟩
                      · rw [if_neg c32] at H
                        have c32b0 : decide (((rd_T64 l1 x7_1).f0) ≤ ((rd_T64 l1 (ji29)).f0)) = false := decide_eq_false c32
                        clear c32
                        by_cases c38 : 0 ≤ ((rd_T64 l1 x7_1).f0)
                        · rw [if_pos c38] at H
                          have c38b0 : decide (0 ≤ ((rd_T64 l1 x7_1).f0)) = true := decide_eq_true c38
                          clear c38
                          by_cases c39 : ((rd_T64 l1 x7_1).f0) < (x268000_1.length : Int)
                          · rw [if_pos c39] at H
                            have c39b0 : decide (((rd_T64 l1 x7_1).f0) < (x268000_1.length : Int)) = true := decide_eq_true c39
                            clear c39
                            obtain ⟨y271, hy271⟩ : ∃ y_ : List (S60), y_ = (x268000_1.set (((rd_T64 l1 x7_1).f0) : Int).toNat (⟨(rd_T64 l1 x7_1).f1.f0, (rd_T64 l1 x7_1).f1.f1⟩ : S60)) := ⟨_, rfl⟩
                            replace H : (chalklineref04_Apply.l0 k1 l1 (wrap64 (x7_1 + 1)) l0_0 y271) = some (r1, r2) := by first | (rw [hy271]; with_reducible exact H) | (have H2_ := (Option.bind_some _ _).symm.trans H; rw [hy271]; with_reducible exact H2_) | (have H2_ := (Option.bind_some _ _).symm.trans H; with_reducible exact H2_) | with_reducible exact H | (rw [hy271]; exact H) | exact H
                            have Ny271 := Aside0.mk hy271
                            clear hy271
                            have H' := Aside0.mk H
                            clear H
                            have p268 : 0 ≤ (x7_1 : Int) := of_decide_eq_true (by first | (with_reducible assumption) | assumption)
                            have q268 : x7_1 < (l1.length : Int) := of_decide_eq_true (by first | (with_reducible assumption) | assumption)
                            obtain ⟨ad268, e268, hx268_0, hx268_1, hx268_2⟩ := at_T64 HR1.out x7_1 p268 q268
                            cases e268
                            replace hx268_0 := (HB.out.cell (World.block_lt_of_cell? w _ hx268_0)).trans hx268_0
                            replace hx268_1 := (HB.out.cell (World.block_lt_of_cell? w _ hx268_1)).trans hx268_1
                            replace hx268_2 := (HB.out.cell (World.block_lt_of_cell? w _ hx268_2)).trans hx268_2
                            replace p268 := eq_true p268
                            replace q268 := eq_true q268
                            have hnb41 := NB259_260.out
                            have hnc41 := NB260_259.out
                            have hnb42 := NB259_267.out
                            have hnc42 := NB267_259.out
                            have hcz43_0 : wr.cell? ⟨gb259, 0, none⟩ = some (.slice A0_0 l0_0.length c0_0) := (blk_cell BK259.out 0).trans rfl
                            have hfz43_0 := blk_frozen BK259.out 0
                            have p269 : 0 ≤ ((ji29) : Int) := of_decide_eq_true (by first | (with_reducible assumption) | assumption)
                            have q269 : (ji29) < (l1.length : Int) := of_decide_eq_true (by first | (with_reducible assumption) | assumption)
                            obtain ⟨ad269, e269, hx269_0, hx269_1, hx269_2⟩ := at_T64 HR1.out (ji29) p269 q269
                            obtain rfl : ad268 = ad269 := (by injection e269)
                            replace hx269_0 := (HB.out.cell (World.block_lt_of_cell? w _ hx269_0)).trans hx269_0
                            replace hx269_1 := (HB.out.cell (World.block_lt_of_cell? w _ hx269_1)).trans hx269_1
                            replace hx269_2 := (HB.out.cell (World.block_lt_of_cell? w _ hx269_2)).trans hx269_2
                            replace p269 := eq_true p269
                            replace q269 := eq_true q269
                            try go_wp2
                            have n0_ := Aside0.mk (Kd.R_drew HO_268000.out)
                            have n1_ := Aside0.mk (blk_drew BK259.out)
                            have n2_ := Aside0.mk (blk_drew BK260.out)
                            have n3_ := Aside0.mk (blk_drew BK267.out)
                            have n4_ := Aside0.mk (below_drew1 HB.out)
                            clear HO_268000
                            clear BK259
                            clear BK260
                            clear BK267
                            clear HB
                            have HO_268000 := n0_
                            have BK259 := n1_
                            have BK260 := n2_
                            have BK267 := n3_
                            have HB := n4_
                            clear n0_ n1_ n2_ n3_ n4_
                            have p270 : 0 ≤ (x7_1 : Int) := of_decide_eq_true (by first | (with_reducible assumption) | assumption)
                            have q270 : x7_1 < (l1.length : Int) := of_decide_eq_true (by first | (with_reducible assumption) | assumption)
                            obtain ⟨ad270, e270, hx270_0, hx270_1, hx270_2⟩ := at_T64 HR1.out x7_1 p270 q270
                            have hw270_2 := hx270_2
                            have hw270_1 := hx270_1
                            have hw270_0 := hx270_0
                            obtain rfl : ad268 = ad270 := (by injection e270)
                            replace hx270_0 := (HB.out.cell (World.block_lt_of_cell? w _ hx270_0)).trans hx270_0
                            replace hx270_1 := (HB.out.cell (World.block_lt_of_cell? w _ hx270_1)).trans hx270_1
                            replace hx270_2 := (HB.out.cell (World.block_lt_of_cell? w _ hx270_2)).trans hx270_2
                            replace p270 := eq_true p270
                            replace q270 := eq_true q270
                            have p40 : 0 ≤ (((rd_T64 l1 x7_1).f0) : Int) := of_decide_eq_true (by first | (with_reducible assumption) | assumption)
                            have q40 : (((rd_T64 l1 x7_1).f0) : Int) < ((x268000_1.length : Int) : Int) := of_decide_eq_true (by first | (with_reducible assumption) | assumption)
                            obtain ⟨go40, co40, eo40, gb40, gl40, cl40, HG40⟩ := Kd.R_form HO_268000.out (by omega)
                            (first | cases eo40 | (injection eo40 with ea_ en_ ec_; (first | subst ea_ | (injection ea_ with ea_; subst ea_)); subst ec_; clear en_))
                            have GB40 := Aside0.mk gb40
                            have GG40 := Aside0.mk HG40
                            clear gb40 gl40 HG40
                            obtain ⟨ce40, hcl40, hM40, hcc40, hfr40⟩ := Kd.R_elem HO_268000.out z60 (((rd_T64 l1 x7_1).f0) : Int) p40 q40
                            obtain rfl := k60_openM hM40
                            have hx40_0 : World.cell? _ ⟨go40, (((rd_T64 l1 x7_1).f0) : Int).toNat * 2, none⟩ = some (.int .i64 ((rd_T60 x268000_1 ((rd_T64 l1 x7_1).f0)).f0)) := hcc40 0 _ rfl
                            have hx40_1 : World.cell? _ ⟨go40, (((rd_T64 l1 x7_1).f0) : Int).toNat * 2 + 1, none⟩ = some (.int .i64 ((rd_T60 x268000_1 ((rd_T64 l1 x7_1).f0)).f1)) := hcc40 1 _ rfl
                            have hf40_0 : World.frozen? _ ⟨go40, (((rd_T64 l1 x7_1).f0) : Int).toNat * 2, none⟩ = false := hfr40 0
                            have hf40_1 : World.frozen? _ ⟨go40, (((rd_T64 l1 x7_1).f0) : Int).toNat * 2 + 1, none⟩ = false := hfr40 1
                            clear hcl40 hcc40 hfr40 hM40
                            replace p40 := eq_true p40
                            replace q40 := eq_true q40
                            obtain ⟨ce45, hcl45, hM45, hcc45, hfr45⟩ := Kd.R_elem HO_268000.out z60 (((rd_T64 l1 x7_1).f0) : Int) (of_decide_eq_true (by first | (with_reducible assumption) | assumption)) (by have h_ : (((rd_T64 l1 x7_1).f0) : Int) < ((x268000_1.length : Int) : Int) := of_decide_eq_true (by first | (with_reducible assumption) | assumption); first | exact h_ | (have e_ := (Kd.R_reads' HO_268000.out).1; omega) | simpa using h_)
                            obtain rfl := k60_openM hM45
                            have HP45 := (Kd.R_seg HO_268000.out (((rd_T64 l1 x7_1).f0) : Int) (of_decide_eq_true (by first | (with_reducible assumption) | assumption)) (by have h_ : (((rd_T64 l1 x7_1).f0) : Int) < ((x268000_1.length : Int) : Int) := of_decide_eq_true (by first | (with_reducible assumption) | assumption); first | exact h_ | (have e_ := (Kd.R_reads' HO_268000.out).1; omega) | simpa using h_) (seg := [.int .i64 ((rd_T64 l1 x7_1).f1.f0), .int .i64 ((rd_T64 l1 x7_1).f1.f1)]) (j := 0) hcl45 hcc45 (show 2 ≤ 2 from by decide) (x' := (⟨(rd_T64 l1 x7_1).f1.f0, (rd_T64 l1 x7_1).f1.f1⟩ : S60)) (k60_mkM _ _ _ (⟨(rd_T64 l1 x7_1).f1.f0, (rd_T64 l1 x7_1).f1.f1⟩ : S60) ) (fun _ hk => hk)).1
                            rw [← Ny271.out] at HP45
                            have HQ45 := Aside0.mk HP45
                            clear hcl45 hcc45 hfr45 hM45 HP45
                            refine start_ (n := 10) (S := fun w' => w'.cell? ⟨gb267, 0, none⟩ = some (.slice (some ⟨go40, 0, none⟩) x268000_1.length co40) ∧ w'.cell? (ad268.add ((x7_1).toNat * 3)) = some (.int .i64 ((rd_T64 l1 x7_1).f0)) ∧ w'.cell? ⟨(ad268.add ((x7_1).toNat * 3)).block, (ad268.add ((x7_1).toNat * 3)).off + 1, none⟩ = some (.int .i64 ((rd_T64 l1 x7_1).f1.f0)) ∧ w'.cell? ⟨(ad268.add ((x7_1).toNat * 3)).block, (ad268.add ((x7_1).toNat * 3)).off + 2, none⟩ = some (.int .i64 ((rd_T64 l1 x7_1).f1.f1))) (ds := [9]) #[false, false, false, false, false, false, false, false, false, false] (by kernel_rfl) rfl rfl ⟨(blk_cell BK267.out 0).trans rfl, ((HB.out.cell (World.block_lt_of_cell? w _ hw270_0)).trans hw270_0), ((HB.out.cell (World.block_lt_of_cell? w _ hw270_1)).trans hw270_1), ((HB.out.cell (World.block_lt_of_cell? w _ hw270_2)).trans hw270_2)⟩ (fun hHeld => ?_); refine with_tabW chalklineref04_Apply.tab8 chalklineref04_Apply.bits8 (fun HT_ HW_ => ?_)
                            generalize wr.drew = w44 at HO_268000 BK259 BK260 BK267 HB GG40 HQ45 hf40_0 hf40_1 hx270_0 hx270_1 hx270_2 hx40_0 hx40_1 hHeld ⊢
                            refine pure_ (i := 0) (N := some 49) (v := ?_) (a' := ?_) #[true, false, false, false, false, false, false, false, false, false] rfl rfl (any_of HT_.out (by kernel_rfl)) (fun _ _ _ h => h) (Or.inl ⟨by rfl, ?_⟩) ?_ ?_
                            rotate_left
                            · intro w'
                              go_simp
                              with_reducible rfl
                            rotate_left
                            · simp only [Act.put, List.setIfInBounds_toArray, List.set_cons_zero, List.set_cons_succ, i64_w, i32_w]
                              rfl
                            refine pure_ (i := 2) (N := some 51) (v := ?_) (a' := ?_) #[true, false, true, false, false, false, false, false, false, false] rfl rfl (any_of HT_.out (by kernel_rfl)) (fun _ _ _ h => h) (Or.inl ⟨by rfl, ?_⟩) ?_ ?_
                            rotate_left
                            · intro w'
                              go_simp
                              with_reducible rfl
                            rotate_left
                            · simp only [Act.put, List.setIfInBounds_toArray, List.set_cons_zero, List.set_cons_succ, i64_w, i32_w]
                              rfl
                            refine pure_ (i := 3) (N := some 52) (v := ?_) (a' := ?_) #[true, false, true, true, false, false, false, false, false, false] rfl rfl (any_of HT_.out (by kernel_rfl)) (fun _ _ _ h => h) (Or.inl ⟨by rfl, ?_⟩) ?_ ?_
                            rotate_left
                            · intro w'
                              go_simp
                              with_reducible rfl
                            rotate_left
                            · simp only [Act.put, List.setIfInBounds_toArray, List.set_cons_zero, List.set_cons_succ, i64_w, i32_w]
                              rfl
                            refine pure_ (i := 4) (N := some 53) (v := ?_) (a' := ?_) #[true, false, true, true, true, false, false, false, false, false] rfl rfl (any_of HT_.out (by kernel_rfl)) (fun _ _ _ h => h) (Or.inl ⟨by rfl, ?_⟩) ?_ ?_
                            rotate_left
                            · intro w'
                              go_simp
                              with_reducible rfl
                            rotate_left
                            · simp only [Act.put, List.setIfInBounds_toArray, List.set_cons_zero, List.set_cons_succ, i64_w, i32_w]
                              rfl
                            refine pure_ (i := 5) (N := some 54) (v := ?_) (a' := ?_) #[true, false, true, true, true, true, false, false, false, false] rfl rfl (any_of HT_.out (by kernel_rfl)) (fun _ _ _ h => h) (Or.inl ⟨by rfl, ?_⟩) ?_ ?_
                            rotate_left
                            · intro w'
                              go_simp
                              with_reducible rfl
                            rotate_left
                            · simp only [Act.put, List.setIfInBounds_toArray, List.set_cons_zero, List.set_cons_succ, i64_w, i32_w]
                              rfl
                            refine pure_ (i := 6) (N := some 55) (v := ?_) (a' := ?_) #[true, false, true, true, true, true, true, false, false, false] rfl rfl (any_of HT_.out (by kernel_rfl)) (fun _ _ _ h => h) (Or.inl ⟨by rfl, ?_⟩) ?_ ?_
                            rotate_left
                            · intro w'
                              go_simp
                              with_reducible rfl
                            rotate_left
                            · simp only [Act.put, List.setIfInBounds_toArray, List.set_cons_zero, List.set_cons_succ, i64_w, i32_w]
                              rfl
                            refine take_ (i := 1) (N := some 50) (v := ?_) (a' := ?_) #[true, true, true, true, true, true, true, false, false, false] rfl rfl (take_ofW HT_.out HW_.out (by kernel_rfl)) (fun _ _ _ h => h) (Or.inl ⟨by rfl, ?_⟩) hHeld ?_ ?_
                            rotate_left
                            · rintro w' ⟨s0, s1, s2, s3⟩
                              go_simp
                              with_reducible rfl
                            rotate_left
                            · simp only [Act.put, List.setIfInBounds_toArray, List.set_cons_zero, List.set_cons_succ, i64_w, i32_w]
                              rfl
                            refine take_ (i := 7) (N := some 56) (v := ?_) (a' := ?_) #[true, true, true, true, true, true, true, true, false, false] rfl rfl (take_ofW HT_.out HW_.out (by kernel_rfl)) (fun _ _ _ h => h) (Or.inl ⟨by rfl, ?_⟩) hHeld ?_ ?_
                            rotate_left
                            · rintro w' ⟨s0, s1, s2, s3⟩
                              go_simp
                              with_reducible rfl
                            rotate_left
                            · simp only [Act.put, List.setIfInBounds_toArray, List.set_cons_zero, List.set_cons_succ, i64_w, i32_w]
                              rfl
                            refine pure_ (i := 8) (N := some 57) (v := ?_) (a' := ?_) #[true, true, true, true, true, true, true, true, true, false] rfl rfl (any_of HT_.out (by kernel_rfl)) (fun _ _ _ h => h) (Or.inl ⟨by rfl, ?_⟩) ?_ ?_
                            rotate_left
                            · intro w'
                              go_simp
                              with_reducible rfl
                            rotate_left
                            · simp only [Act.put, List.setIfInBounds_toArray, List.set_cons_zero, List.set_cons_succ, i64_w, i32_w]
                              rfl
                            refine last_ (i := 9) (N := none) #[true, true, true, true, true, true, true, true, true, true] rfl rfl (one_of HT_.out (by kernel_rfl)) (by decide) (fun K hK => ?_)
                            refine skip_ (w1 := ?_) (by rfl) rfl ?_ ?_
                            rotate_left
                            · go_simp
                              rfl
                            refine hK.out _ _ ?_
                            clear hK K
                            refine done_ (done_of HT_.out (by kernel_rfl)) ?_
                            try go_wp2
                            go_roundg k1
                            case measure => have := HK1.out; omega
                            case rel => exact ⟨(wrap64 (x7_1 + 1)), (y271), (.slice (some ⟨go40, 0, none⟩) x268000_1.length co40), (by first | rfl | (simp; done) | (simp [*]; done)), H', ⟨by have := HK1.out; omega⟩, ⟨by (with_reducible repeat (first | apply Kd.R_alloc | apply Kd.R_drewN | apply Kd.R_drew)); exact HQ45.out⟩, ⟨by (with_reducible repeat (first | refine blk_drewN ?_ _ | refine blk_drew ?_ | refine blk_alloc ?_ _)); refine blk_far ?_ (by have h_ := Kd.R_ne HO_268000.out BK259.out (by decide); intro e_; exact h_ (by rw [e_]; rfl)) _; (with_reducible repeat (first | refine blk_drewN ?_ _ | refine blk_drew ?_ | refine blk_alloc ?_ _)); refine blk_far ?_ (by have h_ := Kd.R_ne HO_268000.out BK259.out (by decide); intro e_; exact h_ (by rw [e_]; rfl)) _; (with_reducible repeat (first | refine blk_drewN ?_ _ | refine blk_drew ?_ | refine blk_alloc ?_ _)); exact BK259.out⟩, ⟨by (with_reducible repeat (first | refine blk_drewN ?_ _ | refine blk_drew ?_ | refine blk_alloc ?_ _)); refine blk_far ?_ (by have h_ := Kd.R_ne HO_268000.out BK260.out (by decide); intro e_; exact h_ (by rw [e_]; rfl)) _; (with_reducible repeat (first | refine blk_drewN ?_ _ | refine blk_drew ?_ | refine blk_alloc ?_ _)); refine blk_far ?_ (by have h_ := Kd.R_ne HO_268000.out BK260.out (by decide); intro e_; exact h_ (by rw [e_]; rfl)) _; (with_reducible repeat (first | refine blk_drewN ?_ _ | refine blk_drew ?_ | refine blk_alloc ?_ _)); exact BK260.out⟩, ⟨by (with_reducible repeat (first | refine blk_drewN ?_ _ | refine blk_drew ?_ | refine blk_alloc ?_ _)); refine blk_far ?_ (by have h_ := Kd.R_ne HO_268000.out BK267.out (by decide); intro e_; exact h_ (by rw [e_]; rfl)) _; (with_reducible repeat (first | refine blk_drewN ?_ _ | refine blk_drew ?_ | refine blk_alloc ?_ _)); refine blk_far ?_ (by have h_ := Kd.R_ne HO_268000.out BK267.out (by decide); intro e_; exact h_ (by rw [e_]; rfl)) _; (with_reducible repeat (first | refine blk_drewN ?_ _ | refine blk_drew ?_ | refine blk_alloc ?_ _)); exact BK267.out⟩, ⟨by repeat (first | (with_reducible first | exact HB.out | apply below_alloc | apply pw_below_drewN | apply below_drew1 | refine below_set ?_ GB40.out | refine below_set ?_ GB40.out | refine below_set ?_ GE259.out | refine below_set ?_ GE260.out | refine below_set ?_ GE267.out) | exact HB.out)⟩⟩
                          · rw [if_neg c39] at H
                            exact absurd H (by simp)
                        · rw [if_neg c38] at H
                          exact absurd H (by simp)
                    · rw [if_neg c31] at H
                      exact absurd H (by simp)
                  · rw [if_neg c30] at H
                    exact absurd H (by simp)
                · rw [if_neg c28] at H
                  have c28b0 : decide (0 < x7_1) = false := decide_eq_false c28
                  clear c28
                  by_cases c46 : 0 ≤ ((rd_T64 l1 x7_1).f0)
                  · rw [if_pos c46] at H
                    have c46b0 : decide (0 ≤ ((rd_T64 l1 x7_1).f0)) = true := decide_eq_true c46
                    clear c46
                    by_cases c47 : ((rd_T64 l1 x7_1).f0) < (x268000_1.length : Int)
                    · rw [if_pos c47] at H
                      have c47b0 : decide (((rd_T64 l1 x7_1).f0) < (x268000_1.length : Int)) = true := decide_eq_true c47
                      clear c47
                      obtain ⟨y273, hy273⟩ : ∃ y_ : List (S60), y_ = (x268000_1.set (((rd_T64 l1 x7_1).f0) : Int).toNat (⟨(rd_T64 l1 x7_1).f1.f0, (rd_T64 l1 x7_1).f1.f1⟩ : S60)) := ⟨_, rfl⟩
                      replace H : (chalklineref04_Apply.l0 k1 l1 (wrap64 (x7_1 + 1)) l0_0 y273) = some (r1, r2) := by first | (rw [hy273]; with_reducible exact H) | (have H2_ := (Option.bind_some _ _).symm.trans H; rw [hy273]; with_reducible exact H2_) | (have H2_ := (Option.bind_some _ _).symm.trans H; with_reducible exact H2_) | with_reducible exact H | (rw [hy273]; exact H) | exact H
                      have Ny273 := Aside0.mk hy273
                      clear hy273
                      have H' := Aside0.mk H
                      clear H
                      have p268 : 0 ≤ (x7_1 : Int) := of_decide_eq_true (by first | (with_reducible assumption) | assumption)
                      have q268 : x7_1 < (l1.length : Int) := of_decide_eq_true (by first | (with_reducible assumption) | assumption)
                      obtain ⟨ad268, e268, hx268_0, hx268_1, hx268_2⟩ := at_T64 HR1.out x7_1 p268 q268
                      cases e268
                      replace hx268_0 := (HB.out.cell (World.block_lt_of_cell? w _ hx268_0)).trans hx268_0
                      replace hx268_1 := (HB.out.cell (World.block_lt_of_cell? w _ hx268_1)).trans hx268_1
                      replace hx268_2 := (HB.out.cell (World.block_lt_of_cell? w _ hx268_2)).trans hx268_2
                      replace p268 := eq_true p268
                      replace q268 := eq_true q268
                      have hnb49 := NB259_260.out
                      have hnc49 := NB260_259.out
                      have hnb50 := NB259_267.out
                      have hnc50 := NB267_259.out
                      have hcz51_0 : wr.cell? ⟨gb259, 0, none⟩ = some (.slice A0_0 l0_0.length c0_0) := (blk_cell BK259.out 0).trans rfl
                      have hfz51_0 := blk_frozen BK259.out 0
                      try go_wp2
                      have n0_ := Aside0.mk (Kd.R_drew HO_268000.out)
                      have n1_ := Aside0.mk (blk_drew BK259.out)
                      have n2_ := Aside0.mk (blk_drew BK260.out)
                      have n3_ := Aside0.mk (blk_drew BK267.out)
                      have n4_ := Aside0.mk (below_drew1 HB.out)
                      clear HO_268000
                      clear BK259
                      clear BK260
                      clear BK267
                      clear HB
                      have HO_268000 := n0_
                      have BK259 := n1_
                      have BK260 := n2_
                      have BK267 := n3_
                      have HB := n4_
                      clear n0_ n1_ n2_ n3_ n4_
                      have p272 : 0 ≤ (x7_1 : Int) := of_decide_eq_true (by first | (with_reducible assumption) | assumption)
                      have q272 : x7_1 < (l1.length : Int) := of_decide_eq_true (by first | (with_reducible assumption) | assumption)
                      obtain ⟨ad272, e272, hx272_0, hx272_1, hx272_2⟩ := at_T64 HR1.out x7_1 p272 q272
                      have hw272_2 := hx272_2
                      have hw272_1 := hx272_1
                      have hw272_0 := hx272_0
                      obtain rfl : ad268 = ad272 := (by injection e272)
                      replace hx272_0 := (HB.out.cell (World.block_lt_of_cell? w _ hx272_0)).trans hx272_0
                      replace hx272_1 := (HB.out.cell (World.block_lt_of_cell? w _ hx272_1)).trans hx272_1
                      replace hx272_2 := (HB.out.cell (World.block_lt_of_cell? w _ hx272_2)).trans hx272_2
                      replace p272 := eq_true p272
                      replace q272 := eq_true q272
                      have p48 : 0 ≤ (((rd_T64 l1 x7_1).f0) : Int) := of_decide_eq_true (by first | (with_reducible assumption) | assumption)
                      have q48 : (((rd_T64 l1 x7_1).f0) : Int) < ((x268000_1.length : Int) : Int) := of_decide_eq_true (by first | (with_reducible assumption) | assumption)
                      obtain ⟨go48, co48, eo48, gb48, gl48, cl48, HG48⟩ := Kd.R_form HO_268000.out (by omega)
                      (first | cases eo48 | (injection eo48 with ea_ en_ ec_; (first | subst ea_ | (injection ea_ with ea_; subst ea_)); subst ec_; clear en_))
                      have GB48 := Aside0.mk gb48
                      have GG48 := Aside0.mk HG48
                      clear gb48 gl48 HG48
                      obtain ⟨ce48, hcl48, hM48, hcc48, hfr48⟩ := Kd.R_elem HO_268000.out z60 (((rd_T64 l1 x7_1).f0) : Int) p48 q48
                      obtain rfl := k60_openM hM48
                      have hx48_0 : World.cell? _ ⟨go48, (((rd_T64 l1 x7_1).f0) : Int).toNat * 2, none⟩ = some (.int .i64 ((rd_T60 x268000_1 ((rd_T64 l1 x7_1).f0)).f0)) := hcc48 0 _ rfl
                      have hx48_1 : World.cell? _ ⟨go48, (((rd_T64 l1 x7_1).f0) : Int).toNat * 2 + 1, none⟩ = some (.int .i64 ((rd_T60 x268000_1 ((rd_T64 l1 x7_1).f0)).f1)) := hcc48 1 _ rfl
                      have hf48_0 : World.frozen? _ ⟨go48, (((rd_T64 l1 x7_1).f0) : Int).toNat * 2, none⟩ = false := hfr48 0
                      have hf48_1 : World.frozen? _ ⟨go48, (((rd_T64 l1 x7_1).f0) : Int).toNat * 2 + 1, none⟩ = false := hfr48 1
                      clear hcl48 hcc48 hfr48 hM48
                      replace p48 := eq_true p48
                      replace q48 := eq_true q48
                      obtain ⟨ce53, hcl53, hM53, hcc53, hfr53⟩ := Kd.R_elem HO_268000.out z60 (((rd_T64 l1 x7_1).f0) : Int) (of_decide_eq_true (by first | (with_reducible assumption) | assumption)) (by have h_ : (((rd_T64 l1 x7_1).f0) : Int) < ((x268000_1.length : Int) : Int) := of_decide_eq_true (by first | (with_reducible assumption) | assumption); first | exact h_ | (have e_ := (Kd.R_reads' HO_268000.out).1; omega) | simpa using h_)
                      obtain rfl := k60_openM hM53
                      have HP53 := (Kd.R_seg HO_268000.out (((rd_T64 l1 x7_1).f0) : Int) (of_decide_eq_true (by first | (with_reducible assumption) | assumption)) (by have h_ : (((rd_T64 l1 x7_1).f0) : Int) < ((x268000_1.length : Int) : Int) := of_decide_eq_true (by first | (with_reducible assumption) | assumption); first | exact h_ | (have e_ := (Kd.R_reads' HO_268000.out).1; omega) | simpa using h_) (seg := [.int .i64 ((rd_T64 l1 x7_1).f1.f0), .int .i64 ((rd_T64 l1 x7_1).f1.f1)]) (j := 0) hcl53 hcc53 (show 2 ≤ 2 from by decide) (x' := (⟨(rd_T64 l1 x7_1).f1.f0, (rd_T64 l1 x7_1).f1.f1⟩ : S60)) (k60_mkM _ _ _ (⟨(rd_T64 l1 x7_1).f1.f0, (rd_T64 l1 x7_1).f1.f1⟩ : S60) ) (fun _ hk => hk)).1
                      rw [← Ny273.out] at HP53
                      have HQ53 := Aside0.mk HP53
                      clear hcl53 hcc53 hfr53 hM53 HP53
                      refine start_ (n := 10) (S := fun w' => w'.cell? ⟨gb267, 0, none⟩ = some (.slice (some ⟨go48, 0, none⟩) x268000_1.length co48) ∧ w'.cell? (ad268.add ((x7_1).toNat * 3)) = some (.int .i64 ((rd_T64 l1 x7_1).f0)) ∧ w'.cell? ⟨(ad268.add ((x7_1).toNat * 3)).block, (ad268.add ((x7_1).toNat * 3)).off + 1, none⟩ = some (.int .i64 ((rd_T64 l1 x7_1).f1.f0)) ∧ w'.cell? ⟨(ad268.add ((x7_1).toNat * 3)).block, (ad268.add ((x7_1).toNat * 3)).off + 2, none⟩ = some (.int .i64 ((rd_T64 l1 x7_1).f1.f1))) (ds := [9]) #[false, false, false, false, false, false, false, false, false, false] (by kernel_rfl) rfl rfl ⟨(blk_cell BK267.out 0).trans rfl, ((HB.out.cell (World.block_lt_of_cell? w _ hw272_0)).trans hw272_0), ((HB.out.cell (World.block_lt_of_cell? w _ hw272_1)).trans hw272_1), ((HB.out.cell (World.block_lt_of_cell? w _ hw272_2)).trans hw272_2)⟩ (fun hHeld => ?_); refine with_tabW chalklineref04_Apply.tab8 chalklineref04_Apply.bits8 (fun HT_ HW_ => ?_)
                      generalize wr.drew = w52 at HO_268000 BK259 BK260 BK267 HB GG48 HQ53 hf48_0 hf48_1 hx272_0 hx272_1 hx272_2 hx48_0 hx48_1 hHeld ⊢
                      refine pure_ (i := 0) (N := some 49) (v := ?_) (a' := ?_) #[true, false, false, false, false, false, false, false, false, false] rfl rfl (any_of HT_.out (by kernel_rfl)) (fun _ _ _ h => h) (Or.inl ⟨by rfl, ?_⟩) ?_ ?_
                      rotate_left
                      · intro w'
                        go_simp
                        with_reducible rfl
                      rotate_left
                      · simp only [Act.put, List.setIfInBounds_toArray, List.set_cons_zero, List.set_cons_succ, i64_w, i32_w]
                        rfl
                      refine pure_ (i := 2) (N := some 51) (v := ?_) (a' := ?_) #[true, false, true, false, false, false, false, false, false, false] rfl rfl (any_of HT_.out (by kernel_rfl)) (fun _ _ _ h => h) (Or.inl ⟨by rfl, ?_⟩) ?_ ?_
                      rotate_left
                      · intro w'
                        go_simp
                        with_reducible rfl
                      rotate_left
                      · simp only [Act.put, List.setIfInBounds_toArray, List.set_cons_zero, List.set_cons_succ, i64_w, i32_w]
                        rfl
                      refine pure_ (i := 3) (N := some 52) (v := ?_) (a' := ?_) #[true, false, true, true, false, false, false, false, false, false] rfl rfl (any_of HT_.out (by kernel_rfl)) (fun _ _ _ h => h) (Or.inl ⟨by rfl, ?_⟩) ?_ ?_
                      rotate_left
                      · intro w'
                        go_simp
                        with_reducible rfl
                      rotate_left
                      · simp only [Act.put, List.setIfInBounds_toArray, List.set_cons_zero, List.set_cons_succ, i64_w, i32_w]
                        rfl
                      refine pure_ (i := 4) (N := some 53) (v := ?_) (a' := ?_) #[true, false, true, true, true, false, false, false, false, false] rfl rfl (any_of HT_.out (by kernel_rfl)) (fun _ _ _ h => h) (Or.inl ⟨by rfl, ?_⟩) ?_ ?_
                      rotate_left
                      · intro w'
                        go_simp
                        with_reducible rfl
                      rotate_left
                      · simp only [Act.put, List.setIfInBounds_toArray, List.set_cons_zero, List.set_cons_succ, i64_w, i32_w]
                        rfl
                      refine pure_ (i := 5) (N := some 54) (v := ?_) (a' := ?_) #[true, false, true, true, true, true, false, false, false, false] rfl rfl (any_of HT_.out (by kernel_rfl)) (fun _ _ _ h => h) (Or.inl ⟨by rfl, ?_⟩) ?_ ?_
                      rotate_left
                      · intro w'
                        go_simp
                        with_reducible rfl
                      rotate_left
                      · simp only [Act.put, List.setIfInBounds_toArray, List.set_cons_zero, List.set_cons_succ, i64_w, i32_w]
                        rfl
                      refine pure_ (i := 6) (N := some 55) (v := ?_) (a' := ?_) #[true, false, true, true, true, true, true, false, false, false] rfl rfl (any_of HT_.out (by kernel_rfl)) (fun _ _ _ h => h) (Or.inl ⟨by rfl, ?_⟩) ?_ ?_
                      rotate_left
                      · intro w'
                        go_simp
                        with_reducible rfl
                      rotate_left
                      · simp only [Act.put, List.setIfInBounds_toArray, List.set_cons_zero, List.set_cons_succ, i64_w, i32_w]
                        rfl
                      refine take_ (i := 1) (N := some 50) (v := ?_) (a' := ?_) #[true, true, true, true, true, true, true, false, false, false] rfl rfl (take_ofW HT_.out HW_.out (by kernel_rfl)) (fun _ _ _ h => h) (Or.inl ⟨by rfl, ?_⟩) hHeld ?_ ?_
                      rotate_left
                      · rintro w' ⟨s0, s1, s2, s3⟩
                        go_simp
                        with_reducible rfl
                      rotate_left
                      · simp only [Act.put, List.setIfInBounds_toArray, List.set_cons_zero, List.set_cons_succ, i64_w, i32_w]
                        rfl
                      refine take_ (i := 7) (N := some 56) (v := ?_) (a' := ?_) #[true, true, true, true, true, true, true, true, false, false] rfl rfl (take_ofW HT_.out HW_.out (by kernel_rfl)) (fun _ _ _ h => h) (Or.inl ⟨by rfl, ?_⟩) hHeld ?_ ?_
                      rotate_left
                      · rintro w' ⟨s0, s1, s2, s3⟩
                        go_simp
                        with_reducible rfl
                      rotate_left
                      · simp only [Act.put, List.setIfInBounds_toArray, List.set_cons_zero, List.set_cons_succ, i64_w, i32_w]
                        rfl
                      refine pure_ (i := 8) (N := some 57) (v := ?_) (a' := ?_) #[true, true, true, true, true, true, true, true, true, false] rfl rfl (any_of HT_.out (by kernel_rfl)) (fun _ _ _ h => h) (Or.inl ⟨by rfl, ?_⟩) ?_ ?_
                      rotate_left
                      · intro w'
                        go_simp
                        with_reducible rfl
                      rotate_left
                      · simp only [Act.put, List.setIfInBounds_toArray, List.set_cons_zero, List.set_cons_succ, i64_w, i32_w]
                        rfl
                      refine last_ (i := 9) (N := none) #[true, true, true, true, true, true, true, true, true, true] rfl rfl (one_of HT_.out (by kernel_rfl)) (by decide) (fun K hK => ?_)
                      refine skip_ (w1 := ?_) (by rfl) rfl ?_ ?_
                      rotate_left
                      · go_simp
                        rfl
                      refine hK.out _ _ ?_
                      clear hK K
                      refine done_ (done_of HT_.out (by kernel_rfl)) ?_
                      try go_wp2
                      go_roundg k1
                      case measure => have := HK1.out; omega
                      case rel => exact ⟨(wrap64 (x7_1 + 1)), (y273), (.slice (some ⟨go48, 0, none⟩) x268000_1.length co48), (by first | rfl | (simp; done) | (simp [*]; done)), H', ⟨by have := HK1.out; omega⟩, ⟨by (with_reducible repeat (first | apply Kd.R_alloc | apply Kd.R_drewN | apply Kd.R_drew)); exact HQ53.out⟩, ⟨by (with_reducible repeat (first | refine blk_drewN ?_ _ | refine blk_drew ?_ | refine blk_alloc ?_ _)); refine blk_far ?_ (by have h_ := Kd.R_ne HO_268000.out BK259.out (by decide); intro e_; exact h_ (by rw [e_]; rfl)) _; (with_reducible repeat (first | refine blk_drewN ?_ _ | refine blk_drew ?_ | refine blk_alloc ?_ _)); refine blk_far ?_ (by have h_ := Kd.R_ne HO_268000.out BK259.out (by decide); intro e_; exact h_ (by rw [e_]; rfl)) _; (with_reducible repeat (first | refine blk_drewN ?_ _ | refine blk_drew ?_ | refine blk_alloc ?_ _)); exact BK259.out⟩, ⟨by (with_reducible repeat (first | refine blk_drewN ?_ _ | refine blk_drew ?_ | refine blk_alloc ?_ _)); refine blk_far ?_ (by have h_ := Kd.R_ne HO_268000.out BK260.out (by decide); intro e_; exact h_ (by rw [e_]; rfl)) _; (with_reducible repeat (first | refine blk_drewN ?_ _ | refine blk_drew ?_ | refine blk_alloc ?_ _)); refine blk_far ?_ (by have h_ := Kd.R_ne HO_268000.out BK260.out (by decide); intro e_; exact h_ (by rw [e_]; rfl)) _; (with_reducible repeat (first | refine blk_drewN ?_ _ | refine blk_drew ?_ | refine blk_alloc ?_ _)); exact BK260.out⟩, ⟨by (with_reducible repeat (first | refine blk_drewN ?_ _ | refine blk_drew ?_ | refine blk_alloc ?_ _)); refine blk_far ?_ (by have h_ := Kd.R_ne HO_268000.out BK267.out (by decide); intro e_; exact h_ (by rw [e_]; rfl)) _; (with_reducible repeat (first | refine blk_drewN ?_ _ | refine blk_drew ?_ | refine blk_alloc ?_ _)); refine blk_far ?_ (by have h_ := Kd.R_ne HO_268000.out BK267.out (by decide); intro e_; exact h_ (by rw [e_]; rfl)) _; (with_reducible repeat (first | refine blk_drewN ?_ _ | refine blk_drew ?_ | refine blk_alloc ?_ _)); exact BK267.out⟩, ⟨by repeat (first | (with_reducible first | exact HB.out | apply below_alloc | apply pw_below_drewN | apply below_drew1 | refine below_set ?_ GB48.out | refine below_set ?_ GB48.out | refine below_set ?_ GE259.out | refine below_set ?_ GE260.out | refine below_set ?_ GE267.out) | exact HB.out)⟩⟩
                    · rw [if_neg c47] at H
                      exact absurd H (by simp)
                  · rw [if_neg c46] at H
                    exact absurd H (by simp)
          · rw [if_neg c17] at H
            exact absurd H (by simp)
        · rw [if_neg c16] at H
          have c16b0 : decide (x7_1 < (l1.length : Int)) = false := decide_eq_false c16
          clear c16
          simp only [Option.some.injEq, Prod.mk.injEq] at H
          obtain ⟨rfl, rfl⟩ := H
          have hnb54 := NB267_259.out
          have hnc54 := NB259_267.out
          have hnb55 := NB267_260.out
          have hnc55 := NB260_267.out
          have hcz56_0 : wr.cell? ⟨gb267, 0, none⟩ = some (u268000) := (blk_cell BK267.out 0).trans rfl
          have hfz56_0 := blk_frozen BK267.out 0
          obtain ⟨Ao57, co57, eo57⟩ := Kd.R_slice HO_268000.out
          subst eo57
          have hnb58 := NB260_259.out
          have hnc58 := NB259_260.out
          have hcz59_0 : wr.cell? ⟨gb260, 0, none⟩ = some (.slice none 0 0) := (blk_cell BK260.out 0).trans rfl
          have hfz59_0 := blk_frozen BK260.out 0
          go_wp2
          refine bodyPost_ret (results_ct rfl _ _ gb260 25 #[.slice Ao57 x268000_1.length co57] (0, 0) _ rfl (by (with_reducible repeat (first | refine blk_drewN ?_ _ | refine blk_drew ?_ | refine blk_alloc ?_ _)); refine blk_put (cs := #[.slice none 0 0]) ?_ 0 _ rfl; (with_reducible repeat (first | refine blk_drewN ?_ _ | refine blk_drew ?_ | refine blk_alloc ?_ _)); exact BK260.out) Try.underlying25 rfl (by kernel_rfl)) rfl ?_
          exact ⟨_, by first | rfl | (simp [errW_none, errW_some] <;> rfl) | (simp [*, errW_none, errW_some] <;> rfl), by (with_reducible repeat (first | apply Kd.R_alloc | apply Kd.R_drewN | apply Kd.R_drew)); exact Kd.R_mono (Kd.R_far (p := ⟨gb260, 0, none⟩) (Kd.R_types HO_268000.out BK260.out (by decide)) (fun _ hk => hk.2) (.slice Ao57 x268000_1.length co57)) (fun _ hk => trivial), by repeat (first | (with_reducible first | exact HB.out | apply below_alloc | apply pw_below_drewN | apply below_drew1 | refine below_set ?_ GE259.out | refine below_set ?_ GE260.out | refine below_set ?_ GE267.out) | exact HB.out)⟩
  · rw [if_neg c3] at H
    exact absurd H (by simp)
end Go.Proofs.Ytfdhnmijaobbdaa.S
end
section
namespace Go.Proofs.Ytfdhnmijaobbdaa.S
open Go.RowKit Go.Proofs.YtfdhnmijaobbdaaW.PrintWords Go.Proofs.YtfdhnmijaobbdaaW.PrintLast Go.Proofs.YtfdhnmijaobbdaaW.PrintMore
attribute [local go_sem] max2_int min2_int max_two min_two max_three min_three max_four min_four   -- for this text's walks alone
set_option linter.unusedVariables false
set_option linter.unusedSimpArgs false
def chalklineref35_Take.j0 : Nat → Bool → Int → List (S60) → Int → Int → Int → Int → List (S60) → List (S64) → Option (Int × (List (S60)) × Int)
  | 0, _, _, _, _, _, _, _, _, _ => none
  | k + 1, x35, x275000, x275001, x276000, x276001, x276002, x276003, x276004, x276005 => if x35 = true then (some (0, ([] : List (S60)), 1)) else (if x276003 ≤ x275000 then (some (0, ([] : List (S60)), 341)) else (if x276000 = 1 then ((some (([] : List (S60)) : List (S60))).bind fun y277 => (if y277.length + x276004.length < 8796093022208 then (some (x276003, (y277 ++ x276004), 0)) else (none))) else (if x276002 = x275000 then ((chalklineref04_Apply.f k x275001 x276005).bind fun bt283 => (if bt283.2 = 0 then (some (x276003, bt283.1, 0)) else (some (0, ([] : List (S60)), bt283.2)))) else (some (0, ([] : List (S60)), 350)))))
def chalklineref35_Take.f (k : Nat) (a0_0 : Int) (l0_1 : List (S60)) (a1_0 : Int) (a1_1 : Int) (a1_2 : Int) (a1_3 : Int) (l1_4 : List (S60)) (l1_5 : List (S64)) : Option (Int × (List (S60)) × Int) := if a0_0 < 0 then (chalklineref35_Take.j0 k true a0_0 l0_1 a1_0 a1_1 a1_2 a1_3 l1_4 l1_5) else (if a0_0 > 1099511627776 then (chalklineref35_Take.j0 k true a0_0 l0_1 a1_0 a1_1 a1_2 a1_3 l1_4 l1_5) else (if a1_3 < 1 then (chalklineref35_Take.j0 k true a0_0 l0_1 a1_0 a1_1 a1_2 a1_3 l1_4 l1_5) else (if a1_3 > 1099511627776 then (chalklineref35_Take.j0 k true a0_0 l0_1 a1_0 a1_1 a1_2 a1_3 l1_4 l1_5) else (if a1_0 = 1 then (chalklineref35_Take.j0 k false a0_0 l0_1 a1_0 a1_1 a1_2 a1_3 l1_4 l1_5) else (chalklineref35_Take.j0 k (a1_0 != 2) a0_0 l0_1 a1_0 a1_1 a1_2 a1_3 l1_4 l1_5)))))
def chalklineref35_Take.T6 : Bool × List (List Nat × List Nat) := (true, [([], []), ([0], [0]), ([], []), ([], []), ([3], [3]), ([4], [4]), ([2, 5], [2, 5]), ([6], [6]), ([1, 7], [1, 7]), ([8, 6, 0, 1, 2, 3, 4, 5, 6, 7, 8], [8]), ([9, 0, 1, 2, 3, 4, 5, 6, 7, 8, 9], [])])
def chalklineref35_Take.B6 : List Nat := [0, 1, 0, 0, 8, 24, 60, 124, 255, 511, 1023]
theorem chalklineref35_Take.tab6 : rtab .any (opsOf Try.f22 6) = chalklineref35_Take.T6 := by kernel_rfl
theorem chalklineref35_Take.bits6 : waitsOk chalklineref35_Take.T6.2 chalklineref35_Take.B6 = true := by kernel_rfl
set_option maxHeartbeats 8000000 in
set_option maxRecDepth 100000 in
theorem chalklineref35_Take.calls (k : Nat) (a0_0 : Int) (A0_1 : Option Addr) (c0_1 : Nat) (l0_1 : List (S60)) (a1_0 : Int) (a1_1 : Int) (a1_2 : Int) (a1_3 : Int) (A1_4 : Option Addr) (c1_4 : Nat) (l1_4 : List (S60)) (A1_5 : Option Addr) (c1_5 : Nat) (l1_5 : List (S64)) (r1 : Int) (r2 : List (S60)) (r3 : Int) (w : World) (hr0_1 : Kd.C k60 w A0_1 l0_1.length l0_1) (hc0_1 : l0_1.length ≤ c0_1) (hr1_4 : Kd.C k60 w A1_4 l1_4.length l1_4) (hc1_4 : l1_4.length ≤ c1_4) (hr1_5 : Kd.C k64 w A1_5 l1_5.length l1_5) (hc1_5 : l1_5.length ≤ c1_5) (h : chalklineref35_Take.f k a0_0 l0_1 a1_0 a1_1 a1_2 a1_3 l1_4 l1_5 = some (r1, r2, r3)) :
    Calls Try.prog 22 #[.agg #[.int .i64 a0_0, .slice A0_1 l0_1.length c0_1], .agg #[.int .i64 a1_0, .int .i64 a1_1, .int .i64 a1_2, .int .i64 a1_3, .slice A1_4 l1_4.length c1_4, .slice A1_5 l1_5.length c1_5]] w fun e w' => ∃ v1_ : Value, e = .returned (.tuple #[.agg #[.int .i64 r1, v1_], .int .i64 r3]) ∧ Kd.R k60 60 w' w.heap.size (fun _ => True) v1_ r2 ∧ Below w.heap.size w w' := by
  have hu27 := Try.underlying27
  have hu32 := Try.underlying32
  have hu25 := Try.underlying25
  have HR0_1 := Aside0.mk hr0_1
  have HC0_1 := Aside0.mk hc0_1
  clear hr0_1 hc0_1
  have HR1_4 := Aside0.mk hr1_4
  have HC1_4 := Aside0.mk hc1_4
  clear hr1_4 hc1_4
  have HR1_5 := Aside0.mk hr1_5
  have HC1_5 := Aside0.mk hc1_5
  clear hr1_5 hc1_5
  have HB := Aside0.mk (Below.refl w.heap.size w)
  have H : (if a0_0 < 0 then (chalklineref35_Take.j0 k true a0_0 l0_1 a1_0 a1_1 a1_2 a1_3 l1_4 l1_5) else (if a0_0 > 1099511627776 then (chalklineref35_Take.j0 k true a0_0 l0_1 a1_0 a1_1 a1_2 a1_3 l1_4 l1_5) else (if a1_3 < 1 then (chalklineref35_Take.j0 k true a0_0 l0_1 a1_0 a1_1 a1_2 a1_3 l1_4 l1_5) else (if a1_3 > 1099511627776 then (chalklineref35_Take.j0 k true a0_0 l0_1 a1_0 a1_1 a1_2 a1_3 l1_4 l1_5) else (if a1_0 = 1 then (chalklineref35_Take.j0 k false a0_0 l0_1 a1_0 a1_1 a1_2 a1_3 l1_4 l1_5) else (chalklineref35_Take.j0 k (a1_0 != 2) a0_0 l0_1 a1_0 a1_1 a1_2 a1_3 l1_4 l1_5)))))) = some (r1, r2, r3) := h
  clear h
  have HC3 := Aside0.mk H
  clear H
  go_enter Try.func22, Try.ntmps22
  go_upto_region 1 with (first | ((with_reducible refine gate_dst (N := 2) rfl ?_); refine box_event ?hg (N := 2) ?hd (cs := #[.int .i64 a0_0, .slice A0_1 l0_1.length c0_1]) (t := 27) ?hr ?_; (case hd => rfl); (case hg => rfl); (case hr => first | (go_simp; done) | (go_simp; rfl)); intro gb274 hg w4 hbox hb; have n0_ := Aside0.mk (below_step (by repeat (first | (with_reducible first | exact HB.out | apply below_alloc | apply pw_below_drewN | apply below_drew1) | exact HB.out)) hb); have n1_ := Aside0.mk (hbox); have n2_ := Aside0.mk ((by rw [hg]; exact (below_size (by repeat (first | (with_reducible first | exact HB.out | apply below_alloc | apply pw_below_drewN | apply below_drew1) | exact HB.out))) : w.heap.size ≤ gb274)); have n3_ := Aside0.mk ((by rw [hg]; exact (below_size (by repeat (first | (with_reducible first | exact HB.out | apply below_alloc | apply pw_below_drewN | apply below_drew1) | exact HB.out))) : w.heap.size ≤ gb274)); clear HB; have HB := n0_; have BK274 := n1_; have GW274 := n2_; have GE274 := n3_; clear n0_ n1_ n2_ n3_; clear hb hbox hg) | ((with_reducible refine gate_dst (N := 3) rfl ?_); refine box_event ?hg (N := 3) ?hd (cs := #[.int .i64 a1_0, .int .i64 a1_1, .int .i64 a1_2, .int .i64 a1_3, .slice A1_4 l1_4.length c1_4, .slice A1_5 l1_5.length c1_5]) (t := 32) ?hr ?_; (case hd => rfl); (case hg => rfl); (case hr => first | (go_simp; done) | (go_simp; rfl)); intro gb275 hg w5 hbox hb; have n0_ := Aside0.mk (blk_below (g := gb274) (o := .cells #[.int .i64 a0_0, .slice A0_1 l0_1.length c0_1] 27 (0, 0)) (by (with_reducible repeat (first | refine blk_drewN ?_ _ | refine blk_drew ?_ | refine blk_alloc ?_ _)); exact BK274.out) hb); have n1_ := Aside0.mk (below_step (by repeat (first | (with_reducible first | exact HB.out | apply below_alloc | apply pw_below_drewN | apply below_drew1 | refine below_set ?_ GE274.out) | exact HB.out)) hb); have n2_ := Aside0.mk (hbox); have n3_ := Aside0.mk ((by rw [hg]; exact (below_size (by repeat (first | (with_reducible first | exact HB.out | apply below_alloc | apply pw_below_drewN | apply below_drew1 | refine below_set ?_ GE274.out) | exact HB.out))) : w.heap.size ≤ gb275)); have n4_ := Aside0.mk ((by rw [hg]; exact (below_size (by repeat (first | (with_reducible first | exact HB.out | apply below_alloc | apply pw_below_drewN | apply below_drew1 | refine below_set ?_ GE274.out) | exact HB.out))) : w.heap.size ≤ gb275)); have n5_ := Aside0.mk ((by rw [hg]; exact Nat.ne_of_lt (blk_lt (g := gb274) (o := .cells #[.int .i64 a0_0, .slice A0_1 l0_1.length c0_1] 27 (0, 0)) (by (with_reducible repeat (first | refine blk_drewN ?_ _ | refine blk_drew ?_ | refine blk_alloc ?_ _)); exact BK274.out)) : gb274 ≠ gb275)); have n6_ := Aside0.mk ((by rw [hg]; exact Nat.ne_of_gt (blk_lt (g := gb274) (o := .cells #[.int .i64 a0_0, .slice A0_1 l0_1.length c0_1] 27 (0, 0)) (by (with_reducible repeat (first | refine blk_drewN ?_ _ | refine blk_drew ?_ | refine blk_alloc ?_ _)); exact BK274.out)) : gb275 ≠ gb274)); clear BK274; clear HB; have BK274 := n0_; have HB := n1_; have BK275 := n2_; have GW275 := n3_; have GE275 := n4_; have NB274_275 := n5_; have NB275_274 := n6_; clear n0_ n1_ n2_ n3_ n4_ n5_ n6_; clear hb hbox hg) | ((with_reducible refine gate_dst (N := 4) rfl ?_); refine box_event ?hg (N := 4) ?hd (cs := #[.int .i64 0, .slice none 0 0]) (t := 27) ?hr ?_; (case hd => rfl); (case hg => rfl); (case hr => first | (go_simp; done) | (go_simp; rfl)); intro gb276 hg w6 hbox hb; have n0_ := Aside0.mk (blk_below (g := gb274) (o := .cells #[.int .i64 a0_0, .slice A0_1 l0_1.length c0_1] 27 (0, 0)) (by (with_reducible repeat (first | refine blk_drewN ?_ _ | refine blk_drew ?_ | refine blk_alloc ?_ _)); exact BK274.out) hb); have n1_ := Aside0.mk (blk_below (g := gb275) (o := .cells #[.int .i64 a1_0, .int .i64 a1_1, .int .i64 a1_2, .int .i64 a1_3, .slice A1_4 l1_4.length c1_4, .slice A1_5 l1_5.length c1_5] 32 (0, 0)) (by (with_reducible repeat (first | refine blk_drewN ?_ _ | refine blk_drew ?_ | refine blk_alloc ?_ _)); exact BK275.out) hb); have n2_ := Aside0.mk (below_step (by repeat (first | (with_reducible first | exact HB.out | apply below_alloc | apply pw_below_drewN | apply below_drew1 | refine below_set ?_ GE274.out | refine below_set ?_ GE275.out) | exact HB.out)) hb); have n3_ := Aside0.mk (hbox); have n4_ := Aside0.mk ((by rw [hg]; exact (below_size (by repeat (first | (with_reducible first | exact HB.out | apply below_alloc | apply pw_below_drewN | apply below_drew1 | refine below_set ?_ GE274.out | refine below_set ?_ GE275.out) | exact HB.out))) : w.heap.size ≤ gb276)); have n5_ := Aside0.mk ((by rw [hg]; exact (below_size (by repeat (first | (with_reducible first | exact HB.out | apply below_alloc | apply pw_below_drewN | apply below_drew1 | refine below_set ?_ GE274.out | refine below_set ?_ GE275.out) | exact HB.out))) : w.heap.size ≤ gb276)); have n6_ := Aside0.mk ((by rw [hg]; exact Nat.ne_of_lt (blk_lt (g := gb274) (o := .cells #[.int .i64 a0_0, .slice A0_1 l0_1.length c0_1] 27 (0, 0)) (by (with_reducible repeat (first | refine blk_drewN ?_ _ | refine blk_drew ?_ | refine blk_alloc ?_ _)); exact BK274.out)) : gb274 ≠ gb276)); have n7_ := Aside0.mk ((by rw [hg]; exact Nat.ne_of_gt (blk_lt (g := gb274) (o := .cells #[.int .i64 a0_0, .slice A0_1 l0_1.length c0_1] 27 (0, 0)) (by (with_reducible repeat (first | refine blk_drewN ?_ _ | refine blk_drew ?_ | refine blk_alloc ?_ _)); exact BK274.out)) : gb276 ≠ gb274)); have n8_ := Aside0.mk ((by rw [hg]; exact Nat.ne_of_lt (blk_lt (g := gb275) (o := .cells #[.int .i64 a1_0, .int .i64 a1_1, .int .i64 a1_2, .int .i64 a1_3, .slice A1_4 l1_4.length c1_4, .slice A1_5 l1_5.length c1_5] 32 (0, 0)) (by (with_reducible repeat (first | refine blk_drewN ?_ _ | refine blk_drew ?_ | refine blk_alloc ?_ _)); exact BK275.out)) : gb275 ≠ gb276)); have n9_ := Aside0.mk ((by rw [hg]; exact Nat.ne_of_gt (blk_lt (g := gb275) (o := .cells #[.int .i64 a1_0, .int .i64 a1_1, .int .i64 a1_2, .int .i64 a1_3, .slice A1_4 l1_4.length c1_4, .slice A1_5 l1_5.length c1_5] 32 (0, 0)) (by (with_reducible repeat (first | refine blk_drewN ?_ _ | refine blk_drew ?_ | refine blk_alloc ?_ _)); exact BK275.out)) : gb276 ≠ gb275)); clear BK274; clear BK275; clear HB; have BK274 := n0_; have BK275 := n1_; have HB := n2_; have BK276 := n3_; have GW276 := n4_; have GE276 := n5_; have NB274_276 := n6_; have NB276_274 := n7_; have NB275_276 := n8_; have NB276_275 := n9_; clear n0_ n1_ n2_ n3_ n4_ n5_ n6_ n7_ n8_ n9_; clear hb hbox hg))
  (try simp only [Act.put, List.setIfInBounds_toArray, List.set_cons_zero, List.set_cons_succ])
  go_cut [35] (fun v35 wc => ∃ (kq : Nat) (x35_2 : Bool), v35 = .bool x35_2 ∧ Aside0 (chalklineref35_Take.j0 kq x35_2 a0_0 l0_1 a1_0 a1_1 a1_2 a1_3 l1_4 l1_5 = some (r1, r2, r3)) ∧ Aside0 (kq ≤ k) ∧ Aside0 (wc.heap[gb274]? = some (.cells #[.int .i64 a0_0, (.slice A0_1 l0_1.length c0_1)] 27 (0, 0))) ∧ Aside0 (wc.heap[gb275]? = some (.cells #[.int .i64 a1_0, .int .i64 a1_1, .int .i64 a1_2, .int .i64 a1_3, (.slice A1_4 l1_4.length c1_4), (.slice A1_5 l1_5.length c1_5)] 32 (0, 0))) ∧ Aside0 (wc.heap[gb276]? = some (.cells #[.int .i64 0, (.slice none 0 0)] 27 (0, 0))) ∧ Aside0 (Below w.heap.size w wc))
  case first =>
    have H := HC3.out
    clear HC3
    by_cases c7 : a0_0 < 0
    · rw [if_pos c7] at H
      have c7b0 : decide (a0_0 < 0) = true := decide_eq_true c7
      clear c7
      (first | rw [c7b0] | (simp only [i64_w, i32_w]; rw [c7b0]) | skip)
      have H' := Aside0.mk H
      clear H
      have hnb8 := NB274_275.out
      have hnc8 := NB275_274.out
      have hnb9 := NB274_276.out
      have hnc9 := NB276_274.out
      have hcz10_0 : w6.cell? ⟨gb274, 0, none⟩ = some (.int .i64 a0_0) := (blk_cell BK274.out 0).trans rfl
      have hcz10_1 : w6.cell? ⟨gb274, 1, none⟩ = some (.slice A0_1 l0_1.length c0_1) := (blk_cell BK274.out 1).trans rfl
      have hfz10_0 := blk_frozen BK274.out 0
      have hfz10_1 := blk_frozen BK274.out 1
      go_wp2
      go_meet
      case rel => exact ⟨_, (true), (by first | rfl | (simp; done) | (simp [*]; done)), H', ⟨by first | omega | exact Nat.le_refl _⟩, ⟨by (with_reducible repeat (first | refine blk_drewN ?_ _ | refine blk_drew ?_ | refine blk_alloc ?_ _)); exact BK274.out⟩, ⟨by (with_reducible repeat (first | refine blk_drewN ?_ _ | refine blk_drew ?_ | refine blk_alloc ?_ _)); exact BK275.out⟩, ⟨by (with_reducible repeat (first | refine blk_drewN ?_ _ | refine blk_drew ?_ | refine blk_alloc ?_ _)); exact BK276.out⟩, ⟨by repeat (first | (with_reducible first | exact HB.out | apply below_alloc | apply pw_below_drewN | apply below_drew1 | refine below_set ?_ GE274.out | refine below_set ?_ GE275.out | refine below_set ?_ GE276.out) | exact HB.out)⟩⟩
    · rw [if_neg c7] at H
      have c7b0 : decide (a0_0 < 0) = false := decide_eq_false c7
      clear c7
      (first | rw [c7b0] | (simp only [i64_w, i32_w]; rw [c7b0]) | skip)
      by_cases c11 : a0_0 > 1099511627776
      · rw [if_pos c11] at H
        have c11b0 : decide (1099511627776 < a0_0) = true := decide_eq_true c11
        clear c11
        have H' := Aside0.mk H
        clear H
        have hnb12 := NB274_275.out
        have hnc12 := NB275_274.out
        have hnb13 := NB274_276.out
        have hnc13 := NB276_274.out
        have hcz14_0 : w6.cell? ⟨gb274, 0, none⟩ = some (.int .i64 a0_0) := (blk_cell BK274.out 0).trans rfl
        have hcz14_1 : w6.cell? ⟨gb274, 1, none⟩ = some (.slice A0_1 l0_1.length c0_1) := (blk_cell BK274.out 1).trans rfl
        have hfz14_0 := blk_frozen BK274.out 0
        have hfz14_1 := blk_frozen BK274.out 1
        go_wp2
        go_meet
        case rel => exact ⟨_, (true), (by first | rfl | (simp; done) | (simp [*]; done)), H', ⟨by first | omega | exact Nat.le_refl _⟩, ⟨by (with_reducible repeat (first | refine blk_drewN ?_ _ | refine blk_drew ?_ | refine blk_alloc ?_ _)); exact BK274.out⟩, ⟨by (with_reducible repeat (first | refine blk_drewN ?_ _ | refine blk_drew ?_ | refine blk_alloc ?_ _)); exact BK275.out⟩, ⟨by (with_reducible repeat (first | refine blk_drewN ?_ _ | refine blk_drew ?_ | refine blk_alloc ?_ _)); exact BK276.out⟩, ⟨by repeat (first | (with_reducible first | exact HB.out | apply below_alloc | apply pw_below_drewN | apply below_drew1 | refine below_set ?_ GE274.out | refine below_set ?_ GE275.out | refine below_set ?_ GE276.out) | exact HB.out)⟩⟩
      · rw [if_neg c11] at H
        have c11b0 : decide (1099511627776 < a0_0) = false := decide_eq_false c11
        clear c11
        by_cases c15 : a1_3 < 1
        · rw [if_pos c15] at H
          have c15b0 : decide (a1_3 < 1) = true := decide_eq_true c15
          clear c15
          have H' := Aside0.mk H
          clear H
          have hnb16 := NB274_275.out
          have hnc16 := NB275_274.out
          have hnb17 := NB274_276.out
          have hnc17 := NB276_274.out
          have hcz18_0 : w6.cell? ⟨gb274, 0, none⟩ = some (.int .i64 a0_0) := (blk_cell BK274.out 0).trans rfl
          have hcz18_1 : w6.cell? ⟨gb274, 1, none⟩ = some (.slice A0_1 l0_1.length c0_1) := (blk_cell BK274.out 1).trans rfl
          have hfz18_0 := blk_frozen BK274.out 0
          have hfz18_1 := blk_frozen BK274.out 1
          have hnb19 := NB275_276.out
          have hnc19 := NB276_275.out
          have hcz20_0 : w6.cell? ⟨gb275, 0, none⟩ = some (.int .i64 a1_0) := (blk_cell BK275.out 0).trans rfl
          have hcz20_1 : w6.cell? ⟨gb275, 1, none⟩ = some (.int .i64 a1_1) := (blk_cell BK275.out 1).trans rfl
          have hcz20_2 : w6.cell? ⟨gb275, 2, none⟩ = some (.int .i64 a1_2) := (blk_cell BK275.out 2).trans rfl
          have hcz20_3 : w6.cell? ⟨gb275, 3, none⟩ = some (.int .i64 a1_3) := (blk_cell BK275.out 3).trans rfl
          have hcz20_4 : w6.cell? ⟨gb275, 4, none⟩ = some (.slice A1_4 l1_4.length c1_4) := (blk_cell BK275.out 4).trans rfl
          have hcz20_5 : w6.cell? ⟨gb275, 5, none⟩ = some (.slice A1_5 l1_5.length c1_5) := (blk_cell BK275.out 5).trans rfl
          have hfz20_0 := blk_frozen BK275.out 0
          have hfz20_1 := blk_frozen BK275.out 1
          have hfz20_2 := blk_frozen BK275.out 2
          have hfz20_3 := blk_frozen BK275.out 3
          have hfz20_4 := blk_frozen BK275.out 4
          have hfz20_5 := blk_frozen BK275.out 5
          go_wp2
          go_meet
          case rel => exact ⟨_, (true), (by first | rfl | (simp; done) | (simp [*]; done)), H', ⟨by first | omega | exact Nat.le_refl _⟩, ⟨by (with_reducible repeat (first | refine blk_drewN ?_ _ | refine blk_drew ?_ | refine blk_alloc ?_ _)); exact BK274.out⟩, ⟨by (with_reducible repeat (first | refine blk_drewN ?_ _ | refine blk_drew ?_ | refine blk_alloc ?_ _)); exact BK275.out⟩, ⟨by (with_reducible repeat (first | refine blk_drewN ?_ _ | refine blk_drew ?_ | refine blk_alloc ?_ _)); exact BK276.out⟩, ⟨by repeat (first | (with_reducible first | exact HB.out | apply below_alloc | apply pw_below_drewN | apply below_drew1 | refine below_set ?_ GE274.out | refine below_set ?_ GE275.out | refine below_set ?_ GE276.out) | exact HB.out)⟩⟩
        · rw [if_neg c15] at H
          have c15b0 : decide (a1_3 < 1) = false := decide_eq_false c15
          clear c15
          by_cases c21 : a1_3 > 1099511627776
          · rw [if_pos c21] at H
            have c21b0 : decide (1099511627776 < a1_3) = true := decide_eq_true c21
            clear c21
            have H' := Aside0.mk H
            clear H
            have hnb22 := NB274_275.out
            have hnc22 := NB275_274.out
            have hnb23 := NB274_276.out
            have hnc23 := NB276_274.out
            have hcz24_0 : w6.cell? ⟨gb274, 0, none⟩ = some (.int .i64 a0_0) := (blk_cell BK274.out 0).trans rfl
            have hcz24_1 : w6.cell? ⟨gb274, 1, none⟩ = some (.slice A0_1 l0_1.length c0_1) := (blk_cell BK274.out 1).trans rfl
            have hfz24_0 := blk_frozen BK274.out 0
            have hfz24_1 := blk_frozen BK274.out 1
            have hnb25 := NB275_276.out
            have hnc25 := NB276_275.out
            have hcz26_0 : w6.cell? ⟨gb275, 0, none⟩ = some (.int .i64 a1_0) := (blk_cell BK275.out 0).trans rfl
            have hcz26_1 : w6.cell? ⟨gb275, 1, none⟩ = some (.int .i64 a1_1) := (blk_cell BK275.out 1).trans rfl
            have hcz26_2 : w6.cell? ⟨gb275, 2, none⟩ = some (.int .i64 a1_2) := (blk_cell BK275.out 2).trans rfl
            have hcz26_3 : w6.cell? ⟨gb275, 3, none⟩ = some (.int .i64 a1_3) := (blk_cell BK275.out 3).trans rfl
            have hcz26_4 : w6.cell? ⟨gb275, 4, none⟩ = some (.slice A1_4 l1_4.length c1_4) := (blk_cell BK275.out 4).trans rfl
            have hcz26_5 : w6.cell? ⟨gb275, 5, none⟩ = some (.slice A1_5 l1_5.length c1_5) := (blk_cell BK275.out 5).trans rfl
            have hfz26_0 := blk_frozen BK275.out 0
            have hfz26_1 := blk_frozen BK275.out 1
            have hfz26_2 := blk_frozen BK275.out 2
            have hfz26_3 := blk_frozen BK275.out 3
            have hfz26_4 := blk_frozen BK275.out 4
            have hfz26_5 := blk_frozen BK275.out 5
            go_wp2
            go_meet
            case rel => exact ⟨_, (true), (by first | rfl | (simp; done) | (simp [*]; done)), H', ⟨by first | omega | exact Nat.le_refl _⟩, ⟨by (with_reducible repeat (first | refine blk_drewN ?_ _ | refine blk_drew ?_ | refine blk_alloc ?_ _)); exact BK274.out⟩, ⟨by (with_reducible repeat (first | refine blk_drewN ?_ _ | refine blk_drew ?_ | refine blk_alloc ?_ _)); exact BK275.out⟩, ⟨by (with_reducible repeat (first | refine blk_drewN ?_ _ | refine blk_drew ?_ | refine blk_alloc ?_ _)); exact BK276.out⟩, ⟨by repeat (first | (with_reducible first | exact HB.out | apply below_alloc | apply pw_below_drewN | apply below_drew1 | refine below_set ?_ GE274.out | refine below_set ?_ GE275.out | refine below_set ?_ GE276.out) | exact HB.out)⟩⟩
          · rw [if_neg c21] at H
            have c21b0 : decide (1099511627776 < a1_3) = false := decide_eq_false c21
            clear c21
            by_cases c27 : a1_0 = 1
            · rw [if_pos c27] at H
              have c27b0 : (a1_0 == 1) = true := beq_iff_eq.mpr c27
              have c27b1 : (a1_0 != 1) = false := bne_eq_false_iff_eq.mpr c27
              clear c27
              have H' := Aside0.mk H
              clear H
              have hnb28 := NB274_275.out
              have hnc28 := NB275_274.out
              have hnb29 := NB274_276.out
              have hnc29 := NB276_274.out
              have hcz30_0 : w6.cell? ⟨gb274, 0, none⟩ = some (.int .i64 a0_0) := (blk_cell BK274.out 0).trans rfl
              have hcz30_1 : w6.cell? ⟨gb274, 1, none⟩ = some (.slice A0_1 l0_1.length c0_1) := (blk_cell BK274.out 1).trans rfl
              have hfz30_0 := blk_frozen BK274.out 0
              have hfz30_1 := blk_frozen BK274.out 1
              have hnb31 := NB275_276.out
              have hnc31 := NB276_275.out
              have hcz32_0 : w6.cell? ⟨gb275, 0, none⟩ = some (.int .i64 a1_0) := (blk_cell BK275.out 0).trans rfl
              have hcz32_1 : w6.cell? ⟨gb275, 1, none⟩ = some (.int .i64 a1_1) := (blk_cell BK275.out 1).trans rfl
              have hcz32_2 : w6.cell? ⟨gb275, 2, none⟩ = some (.int .i64 a1_2) := (blk_cell BK275.out 2).trans rfl
              have hcz32_3 : w6.cell? ⟨gb275, 3, none⟩ = some (.int .i64 a1_3) := (blk_cell BK275.out 3).trans rfl
              have hcz32_4 : w6.cell? ⟨gb275, 4, none⟩ = some (.slice A1_4 l1_4.length c1_4) := (blk_cell BK275.out 4).trans rfl
              have hcz32_5 : w6.cell? ⟨gb275, 5, none⟩ = some (.slice A1_5 l1_5.length c1_5) := (blk_cell BK275.out 5).trans rfl
              have hfz32_0 := blk_frozen BK275.out 0
              have hfz32_1 := blk_frozen BK275.out 1
              have hfz32_2 := blk_frozen BK275.out 2
              have hfz32_3 := blk_frozen BK275.out 3
              have hfz32_4 := blk_frozen BK275.out 4
              have hfz32_5 := blk_frozen BK275.out 5
              go_wp2
              go_meet
              case rel => exact ⟨_, (false), (by first | rfl | (simp; done) | (simp [*]; done)), H', ⟨by first | omega | exact Nat.le_refl _⟩, ⟨by (with_reducible repeat (first | refine blk_drewN ?_ _ | refine blk_drew ?_ | refine blk_alloc ?_ _)); exact BK274.out⟩, ⟨by (with_reducible repeat (first | refine blk_drewN ?_ _ | refine blk_drew ?_ | refine blk_alloc ?_ _)); exact BK275.out⟩, ⟨by (with_reducible repeat (first | refine blk_drewN ?_ _ | refine blk_drew ?_ | refine blk_alloc ?_ _)); exact BK276.out⟩, ⟨by repeat (first | (with_reducible first | exact HB.out | apply below_alloc | apply pw_below_drewN | apply below_drew1 | refine below_set ?_ GE274.out | refine below_set ?_ GE275.out | refine below_set ?_ GE276.out) | exact HB.out)⟩⟩
            · rw [if_neg c27] at H
              have c27b0 : (a1_0 == 1) = false := beq_eq_false_iff_ne.mpr c27
              have c27b1 : (a1_0 != 1) = true := bne_iff_ne.mpr c27
              have H' := Aside0.mk H
              clear H
              have hnb33 := NB274_275.out
              have hnc33 := NB275_274.out
              have hnb34 := NB274_276.out
              have hnc34 := NB276_274.out
              have hcz35_0 : w6.cell? ⟨gb274, 0, none⟩ = some (.int .i64 a0_0) := (blk_cell BK274.out 0).trans rfl
              have hcz35_1 : w6.cell? ⟨gb274, 1, none⟩ = some (.slice A0_1 l0_1.length c0_1) := (blk_cell BK274.out 1).trans rfl
              have hfz35_0 := blk_frozen BK274.out 0
              have hfz35_1 := blk_frozen BK274.out 1
              have hnb36 := NB275_276.out
              have hnc36 := NB276_275.out
              have hcz37_0 : w6.cell? ⟨gb275, 0, none⟩ = some (.int .i64 a1_0) := (blk_cell BK275.out 0).trans rfl
              have hcz37_1 : w6.cell? ⟨gb275, 1, none⟩ = some (.int .i64 a1_1) := (blk_cell BK275.out 1).trans rfl
              have hcz37_2 : w6.cell? ⟨gb275, 2, none⟩ = some (.int .i64 a1_2) := (blk_cell BK275.out 2).trans rfl
              have hcz37_3 : w6.cell? ⟨gb275, 3, none⟩ = some (.int .i64 a1_3) := (blk_cell BK275.out 3).trans rfl
              have hcz37_4 : w6.cell? ⟨gb275, 4, none⟩ = some (.slice A1_4 l1_4.length c1_4) := (blk_cell BK275.out 4).trans rfl
              have hcz37_5 : w6.cell? ⟨gb275, 5, none⟩ = some (.slice A1_5 l1_5.length c1_5) := (blk_cell BK275.out 5).trans rfl
              have hfz37_0 := blk_frozen BK275.out 0
              have hfz37_1 := blk_frozen BK275.out 1
              have hfz37_2 := blk_frozen BK275.out 2
              have hfz37_3 := blk_frozen BK275.out 3
              have hfz37_4 := blk_frozen BK275.out 4
              have hfz37_5 := blk_frozen BK275.out 5
              go_wp2
              go_meet
              case rel => exact ⟨_, ((a1_0 != 2)), (by first | rfl | (simp; done) | (simp [*]; done)), H', ⟨by first | omega | exact Nat.le_refl _⟩, ⟨by (with_reducible repeat (first | refine blk_drewN ?_ _ | refine blk_drew ?_ | refine blk_alloc ?_ _)); exact BK274.out⟩, ⟨by (with_reducible repeat (first | refine blk_drewN ?_ _ | refine blk_drew ?_ | refine blk_alloc ?_ _)); exact BK275.out⟩, ⟨by (with_reducible repeat (first | refine blk_drewN ?_ _ | refine blk_drew ?_ | refine blk_alloc ?_ _)); exact BK276.out⟩, ⟨by repeat (first | (with_reducible first | exact HB.out | apply below_alloc | apply pw_below_drewN | apply below_drew1 | refine below_set ?_ GE274.out | refine below_set ?_ GE275.out | refine below_set ?_ GE276.out) | exact HB.out)⟩⟩
  case rest =>
    clear HC3
    try clear c1
    try clear c2
    try clear p2
    try clear c3
    try clear c7
    try clear c7b0
    try clear c8
    try clear c9
    try clear c11
    try clear c11b0
    try clear c12
    try clear c13
    try clear c15
    try clear c15b0
    try clear c16
    try clear c17
    try clear c19
    try clear c21
    try clear c21b0
    try clear c22
    try clear c23
    try clear c25
    try clear c27
    try clear c27b0
    try clear c27b1
    try clear c28
    try clear c29
    try clear c31
    try clear c33
    try clear c34
    try clear c36
    try clear hcz10_0
    try clear hcz10_1
    try clear hcz14_0
    try clear hcz14_1
    try clear hcz18_0
    try clear hcz18_1
    try clear hcz20_0
    try clear hcz20_1
    try clear hcz20_2
    try clear hcz20_3
    try clear hcz20_4
    try clear hcz20_5
    try clear hcz24_0
    try clear hcz24_1
    try clear hcz26_0
    try clear hcz26_1
    try clear hcz26_2
    try clear hcz26_3
    try clear hcz26_4
    try clear hcz26_5
    try clear hcz30_0
    try clear hcz30_1
    try clear hcz32_0
    try clear hcz32_1
    try clear hcz32_2
    try clear hcz32_3
    try clear hcz32_4
    try clear hcz32_5
    try clear hcz35_0
    try clear hcz35_1
    try clear hcz37_0
    try clear hcz37_1
    try clear hcz37_2
    try clear hcz37_3
    try clear hcz37_4
    try clear hcz37_5
    try clear hfz10_0
    try clear hfz10_1
    try clear hfz14_0
    try clear hfz14_1
    try clear hfz18_0
    try clear hfz18_1
    try clear hfz20_0
    try clear hfz20_1
    try clear hfz20_2
    try clear hfz20_3
    try clear hfz20_4
    try clear hfz20_5
    try clear hfz24_0
    try clear hfz24_1
    try clear hfz26_0
    try clear hfz26_1
    try clear hfz26_2
    try clear hfz26_3
    try clear hfz26_4
    try clear hfz26_5
    try clear hfz30_0
    try clear hfz30_1
    try clear hfz32_0
    try clear hfz32_1
    try clear hfz32_2
    try clear hfz32_3
    try clear hfz32_4
    try clear hfz32_5
    try clear hfz35_0
    try clear hfz35_1
    try clear hfz37_0
    try clear hfz37_1
    try clear hfz37_2
    try clear hfz37_3
    try clear hfz37_4
    try clear hfz37_5
    obtain ⟨kq, x35_2, rfl, HA, HJ2, BK274, BK275, BK276, HB⟩ := hcut
    cases kq with
    | zero => exact absurd HA.out (by simp [chalklineref35_Take.j0])
    | succ kj2 =>
      have H := HA.out
      clear HA
      simp only [chalklineref35_Take.j0] at H
      by_cases c38 : x35_2 = true
      · subst c38
        have H1 : (some (0, ([] : List (S60)), 1)) = some (r1, r2, r3) := by rw [if_pos rfl] at H; exact H
        clear H
        have H := H1
        clear H1
        simp only [Option.some.injEq, Prod.mk.injEq] at H
        obtain ⟨rfl, rfl, rfl⟩ := H
        have hnb39 := NB276_274.out
        have hnc39 := NB274_276.out
        have hnb40 := NB276_275.out
        have hnc40 := NB275_276.out
        have hcz41_0 : wc.cell? ⟨gb276, 0, none⟩ = some (.int .i64 0) := (blk_cell BK276.out 0).trans rfl
        have hcz41_1 : wc.cell? ⟨gb276, 1, none⟩ = some (.slice none 0 0) := (blk_cell BK276.out 1).trans rfl
        have hfz41_0 := blk_frozen BK276.out 0
        have hfz41_1 := blk_frozen BK276.out 1
        go_wp2
        refine bodyPost_ret (results_ct rfl _ _ gb276 27 #[.int .i64 0, .slice none 0 0] (0, 0) _ rfl (by (with_reducible repeat (first | refine blk_drewN ?_ _ | refine blk_drew ?_ | refine blk_alloc ?_ _)); refine blk_put (cs := #[.int .i64 0, .slice none 0 0]) ?_ 1 _ rfl; (with_reducible repeat (first | refine blk_drewN ?_ _ | refine blk_drew ?_ | refine blk_alloc ?_ _)); refine blk_put (cs := #[.int .i64 0, .slice none 0 0]) ?_ 0 _ rfl; (with_reducible repeat (first | refine blk_drewN ?_ _ | refine blk_drew ?_ | refine blk_alloc ?_ _)); exact BK276.out) Try.underlying27 rfl (by kernel_rfl)) rfl ?_
        exact ⟨_, by first | rfl | (simp [errW_none, errW_some] <;> rfl) | (simp [*, errW_none, errW_some] <;> rfl), by first | exact Kd.R_nil _ _ _ _ _ | exact Kd.N_nil _ _ _ _ _ | exact Kd.V_nil _ _ _ _ _ | exact Kd.Q_nil _ _ _ _ _ | exact Kd.S_nil _ _ _ _ _, by repeat (first | (with_reducible first | exact HB.out | apply below_alloc | apply pw_below_drewN | apply below_drew1 | refine below_set ?_ GE274.out | refine below_set ?_ GE275.out | refine below_set ?_ GE276.out) | exact HB.out)⟩
      · replace c38 := Bool.eq_false_iff.mpr c38
        subst c38
        have H1 : (if a1_3 ≤ a0_0 then (some (0, ([] : List (S60)), 341)) else (if a1_0 = 1 then ((some (([] : List (S60)) : List (S60))).bind fun y277 => (if y277.length + l1_4.length < 8796093022208 then (some (a1_3, (y277 ++ l1_4), 0)) else (none))) else (if a1_2 = a0_0 then ((chalklineref04_Apply.f kj2 l0_1 l1_5).bind fun bt283 => (if bt283.2 = 0 then (some (a1_3, bt283.1, 0)) else (some (0, ([] : List (S60)), bt283.2)))) else (some (0, ([] : List (S60)), 350))))) = some (r1, r2, r3) := by rw [if_neg (show ¬ (false = true) by decide)] at H; exact H
        clear H
        have H := H1
        clear H1
        by_cases c42 : a1_3 ≤ a0_0
        · rw [if_pos c42] at H
          have c42b0 : decide (a1_3 ≤ a0_0) = true := decide_eq_true c42
          clear c42
          simp only [Option.some.injEq, Prod.mk.injEq] at H
          obtain ⟨rfl, rfl, rfl⟩ := H
          have hnb43 := NB275_274.out
          have hnc43 := NB274_275.out
          have hnb44 := NB275_276.out
          have hnc44 := NB276_275.out
          have hcz45_0 : wc.cell? ⟨gb275, 0, none⟩ = some (.int .i64 a1_0) := (blk_cell BK275.out 0).trans rfl
          have hcz45_1 : wc.cell? ⟨gb275, 1, none⟩ = some (.int .i64 a1_1) := (blk_cell BK275.out 1).trans rfl
          have hcz45_2 : wc.cell? ⟨gb275, 2, none⟩ = some (.int .i64 a1_2) := (blk_cell BK275.out 2).trans rfl
          have hcz45_3 : wc.cell? ⟨gb275, 3, none⟩ = some (.int .i64 a1_3) := (blk_cell BK275.out 3).trans rfl
          have hcz45_4 : wc.cell? ⟨gb275, 4, none⟩ = some (.slice A1_4 l1_4.length c1_4) := (blk_cell BK275.out 4).trans rfl
          have hcz45_5 : wc.cell? ⟨gb275, 5, none⟩ = some (.slice A1_5 l1_5.length c1_5) := (blk_cell BK275.out 5).trans rfl
          have hfz45_0 := blk_frozen BK275.out 0
          have hfz45_1 := blk_frozen BK275.out 1
          have hfz45_2 := blk_frozen BK275.out 2
          have hfz45_3 := blk_frozen BK275.out 3
          have hfz45_4 := blk_frozen BK275.out 4
          have hfz45_5 := blk_frozen BK275.out 5
          have hnb46 := NB274_276.out
          have hnc46 := NB276_274.out
          have hcz47_0 : wc.cell? ⟨gb274, 0, none⟩ = some (.int .i64 a0_0) := (blk_cell BK274.out 0).trans rfl
          have hcz47_1 : wc.cell? ⟨gb274, 1, none⟩ = some (.slice A0_1 l0_1.length c0_1) := (blk_cell BK274.out 1).trans rfl
          have hfz47_0 := blk_frozen BK274.out 0
          have hfz47_1 := blk_frozen BK274.out 1
          have hcz48_0 : wc.cell? ⟨gb276, 0, none⟩ = some (.int .i64 0) := (blk_cell BK276.out 0).trans rfl
          have hcz48_1 : wc.cell? ⟨gb276, 1, none⟩ = some (.slice none 0 0) := (blk_cell BK276.out 1).trans rfl
          have hfz48_0 := blk_frozen BK276.out 0
          have hfz48_1 := blk_frozen BK276.out 1
          go_wp2
          refine bodyPost_ret (results_ct rfl _ _ gb276 27 #[.int .i64 0, .slice none 0 0] (0, 0) _ rfl (by (with_reducible repeat (first | refine blk_drewN ?_ _ | refine blk_drew ?_ | refine blk_alloc ?_ _)); refine blk_put (cs := #[.int .i64 0, .slice none 0 0]) ?_ 1 _ rfl; (with_reducible repeat (first | refine blk_drewN ?_ _ | refine blk_drew ?_ | refine blk_alloc ?_ _)); refine blk_put (cs := #[.int .i64 0, .slice none 0 0]) ?_ 0 _ rfl; (with_reducible repeat (first | refine blk_drewN ?_ _ | refine blk_drew ?_ | refine blk_alloc ?_ _)); exact BK276.out) Try.underlying27 rfl (by kernel_rfl)) rfl ?_
          exact ⟨_, by first | rfl | (simp [errW_none, errW_some] <;> rfl) | (simp [*, errW_none, errW_some] <;> rfl), by first | exact Kd.R_nil _ _ _ _ _ | exact Kd.N_nil _ _ _ _ _ | exact Kd.V_nil _ _ _ _ _ | exact Kd.Q_nil _ _ _ _ _ | exact Kd.S_nil _ _ _ _ _, by repeat (first | (with_reducible first | exact HB.out | apply below_alloc | apply pw_below_drewN | apply below_drew1 | refine below_set ?_ GE274.out | refine below_set ?_ GE275.out | refine below_set ?_ GE276.out) | exact HB.out)⟩
        · rw [if_neg c42] at H
          have c42b0 : decide (a1_3 ≤ a0_0) = false := decide_eq_false c42
          clear c42
          by_cases c49 : a1_0 = 1
          · rw [if_pos c49] at H
            have c49b0 : (a1_0 == 1) = true := beq_iff_eq.mpr c49
            have c49b1 : (a1_0 != 1) = false := bne_eq_false_iff_eq.mpr c49
            clear c49
            obtain ⟨y277, hy277⟩ : ∃ y_ : List (S60), y_ = (([] : List (S60))) := ⟨_, rfl⟩
            replace H : (if y277.length + l1_4.length < 8796093022208 then (some (a1_3, (y277 ++ l1_4), 0)) else (none)) = some (r1, r2, r3) := by first | (rw [hy277]; with_reducible exact H) | (have H2_ := (Option.bind_some _ _).symm.trans H; rw [hy277]; with_reducible exact H2_) | (have H2_ := (Option.bind_some _ _).symm.trans H; with_reducible exact H2_) | with_reducible exact H | (rw [hy277]; exact H) | exact H
            have Ny277 := Aside0.mk hy277
            clear hy277
            by_cases c50 : y277.length + l1_4.length < 8796093022208
            · rw [if_pos c50] at H
              have LMc50 := Aside0.mk c50
              clear c50
              obtain ⟨y280, hy280⟩ : ∃ y_ : List (S60), y_ = (y277 ++ l1_4) := ⟨_, rfl⟩
              replace H : (some (a1_3, y280, 0)) = some (r1, r2, r3) := by first | (rw [hy280]; with_reducible exact H) | (have H2_ := (Option.bind_some _ _).symm.trans H; rw [hy280]; with_reducible exact H2_) | (have H2_ := (Option.bind_some _ _).symm.trans H; with_reducible exact H2_) | with_reducible exact H | (rw [hy280]; exact H) | exact H
              have Ny280 := Aside0.mk hy280
              clear hy280
              simp only [Option.some.injEq, Prod.mk.injEq] at H
              obtain ⟨rfl, rfl, rfl⟩ := H
              have hnb51 := NB275_274.out
              have hnc51 := NB274_275.out
              have hnb52 := NB275_276.out
              have hnc52 := NB276_275.out
              have hcz53_0 : wc.cell? ⟨gb275, 0, none⟩ = some (.int .i64 a1_0) := (blk_cell BK275.out 0).trans rfl
              have hcz53_1 : wc.cell? ⟨gb275, 1, none⟩ = some (.int .i64 a1_1) := (blk_cell BK275.out 1).trans rfl
              have hcz53_2 : wc.cell? ⟨gb275, 2, none⟩ = some (.int .i64 a1_2) := (blk_cell BK275.out 2).trans rfl
              have hcz53_3 : wc.cell? ⟨gb275, 3, none⟩ = some (.int .i64 a1_3) := (blk_cell BK275.out 3).trans rfl
              have hcz53_4 : wc.cell? ⟨gb275, 4, none⟩ = some (.slice A1_4 l1_4.length c1_4) := (blk_cell BK275.out 4).trans rfl
              have hcz53_5 : wc.cell? ⟨gb275, 5, none⟩ = some (.slice A1_5 l1_5.length c1_5) := (blk_cell BK275.out 5).trans rfl
              have hfz53_0 := blk_frozen BK275.out 0
              have hfz53_1 := blk_frozen BK275.out 1
              have hfz53_2 := blk_frozen BK275.out 2
              have hfz53_3 := blk_frozen BK275.out 3
              have hfz53_4 := blk_frozen BK275.out 4
              have hfz53_5 := blk_frozen BK275.out 5
              have hnb54 := NB274_276.out
              have hnc54 := NB276_274.out
              have hcz55_0 : wc.cell? ⟨gb274, 0, none⟩ = some (.int .i64 a0_0) := (blk_cell BK274.out 0).trans rfl
              have hcz55_1 : wc.cell? ⟨gb274, 1, none⟩ = some (.slice A0_1 l0_1.length c0_1) := (blk_cell BK274.out 1).trans rfl
              have hfz55_0 := blk_frozen BK274.out 0
              have hfz55_1 := blk_frozen BK274.out 1
              try go_wp2
              have n0_ := Aside0.mk (blk_drew BK274.out)
              have n1_ := Aside0.mk (blk_drew BK275.out)
              have n2_ := Aside0.mk (blk_drew BK276.out)
              have n3_ := Aside0.mk (below_drew1 HB.out)
              clear BK274
              clear BK275
              clear BK276
              clear HB
              have BK274 := n0_
              have BK275 := n1_
              have BK276 := n2_
              have HB := n3_
              clear n0_ n1_ n2_ n3_
              refine start_ (n := 11) (S := fun w' => w'.cell? ⟨gb275, 0, none⟩ = some (.int .i64 a1_0) ∧ w'.cell? ⟨gb275, 1, none⟩ = some (.int .i64 a1_1) ∧ w'.cell? ⟨gb275, 2, none⟩ = some (.int .i64 a1_2) ∧ w'.cell? ⟨gb275, 3, none⟩ = some (.int .i64 a1_3) ∧ w'.cell? ⟨gb275, 4, none⟩ = some (.slice A1_4 l1_4.length c1_4) ∧ w'.cell? ⟨gb275, 5, none⟩ = some (.slice A1_5 l1_5.length c1_5)) (ds := []) #[false, false, false, false, false, false, false, false, false, false, false] (by kernel_rfl) rfl rfl ⟨(blk_cell BK275.out 0).trans rfl, (blk_cell BK275.out 1).trans rfl, (blk_cell BK275.out 2).trans rfl, (blk_cell BK275.out 3).trans rfl, (blk_cell BK275.out 4).trans rfl, (blk_cell BK275.out 5).trans rfl⟩ (fun hHeld => ?_); refine with_tabW chalklineref35_Take.tab6 chalklineref35_Take.bits6 (fun HT_ HW_ => ?_)
              generalize wc.drew = w56 at BK274 BK275 BK276 HB hHeld ⊢
              refine pure_ (i := 0) (N := some 46) (v := ?_) (a' := ?_) #[true, false, false, false, false, false, false, false, false, false, false] rfl rfl (any_of HT_.out (by kernel_rfl)) (fun _ _ _ h => h) (Or.inl ⟨by rfl, ?_⟩) ?_ ?_
              rotate_left
              · intro w'
                go_simp
                with_reducible rfl
              rotate_left
              · simp only [Act.put, List.setIfInBounds_toArray, List.set_cons_zero, List.set_cons_succ, i64_w, i32_w]
                rfl
              refine pure_ (i := 3) (N := some 49) (v := ?_) (a' := ?_) #[true, false, false, true, false, false, false, false, false, false, false] rfl rfl (any_of HT_.out (by kernel_rfl)) (fun _ _ _ h => h) (Or.inl ⟨by rfl, ?_⟩) ?_ ?_
              rotate_left
              · intro w'
                go_simp
                with_reducible rfl
              rotate_left
              · simp only [Act.put, List.setIfInBounds_toArray, List.set_cons_zero, List.set_cons_succ, i64_w, i32_w]
                rfl
              refine pure_ (i := 4) (N := some 50) (v := ?_) (a' := ?_) #[true, false, false, true, true, false, false, false, false, false, false] rfl rfl (any_of HT_.out (by kernel_rfl)) (fun _ _ _ h => h) (Or.inl ⟨by rfl, ?_⟩) ?_ ?_
              rotate_left
              · intro w'
                go_simp
                with_reducible rfl
              rotate_left
              · simp only [Act.put, List.setIfInBounds_toArray, List.set_cons_zero, List.set_cons_succ, i64_w, i32_w]
                rfl
              refine take_ (i := 1) (N := some 47) (v := ?_) (a' := ?_) #[true, true, false, true, true, false, false, false, false, false, false] rfl rfl (take_ofW HT_.out HW_.out (by kernel_rfl)) (fun _ _ _ h => h) (Or.inl ⟨by rfl, ?_⟩) hHeld ?_ ?_
              rotate_left
              · rintro w' ⟨s0, s1, s2, s3, s4, s5⟩
                go_simp
                with_reducible rfl
              rotate_left
              · simp only [Act.put, List.setIfInBounds_toArray, List.set_cons_zero, List.set_cons_succ, i64_w, i32_w]
                rfl
              refine take_ (i := 5) (N := some 51) (v := ?_) (a' := ?_) #[true, true, false, true, true, true, false, false, false, false, false] rfl rfl (take_ofW HT_.out HW_.out (by kernel_rfl)) (fun _ _ _ h => h) (Or.inl ⟨by rfl, ?_⟩) hHeld ?_ ?_
              rotate_left
              · rintro w' ⟨s0, s1, s2, s3, s4, s5⟩
                go_simp
                with_reducible rfl
              rotate_left
              · simp only [Act.put, List.setIfInBounds_toArray, List.set_cons_zero, List.set_cons_succ, i64_w, i32_w]
                rfl
              refine one_ (i := 2) (N := some 48) #[true, true, true, true, true, true, false, false, false, false, false] rfl rfl (one_of HT_.out (by kernel_rfl)) (by decide) (fun K hK => ?_)
              refine Kd.R_lit_step k60 _ 60 ?hg (N := 48) ?hd (xs := ([] : List (S60))) (inner := []) (ok := fun _ => True) (okp := fun _ => True) ?hr ?hp (fun _ hk => hk) trivial (Below.refl _ _) (Nat.le_refl _) (by simp) ?_; (case hd => rfl); (case hg => rfl); (case hr => first | (go_simp; done) | (go_simp; rfl)); (case hp => exact (Reps.none _ _))
              intro v278 w57 ho58 hb hg_ hnew_
              clear hg_ hnew_
              (first | rw [← Ny277.out] at ho58 | (simp only [Int.reduceToNat] at ho58; rw [← Ny277.out] at ho58))
              have n0_ := Aside0.mk (Kd.R_lower ho58 (below_size (by repeat (first | (with_reducible first | exact HB.out | apply below_alloc | apply pw_below_drewN | apply below_drew1 | refine below_set ?_ GE274.out | refine below_set ?_ GE275.out | refine below_set ?_ GE276.out) | exact HB.out))))
              have n1_ := Aside0.mk (blk_below (g := gb274) (o := .cells #[.int .i64 a0_0, .slice A0_1 l0_1.length c0_1] 27 (0, 0)) (by (with_reducible repeat (first | refine blk_drewN ?_ _ | refine blk_drew ?_ | refine blk_alloc ?_ _)); exact BK274.out) hb)
              have n2_ := Aside0.mk (blk_below (g := gb275) (o := .cells #[.int .i64 a1_0, .int .i64 a1_1, .int .i64 a1_2, .int .i64 a1_3, .slice A1_4 l1_4.length c1_4, .slice A1_5 l1_5.length c1_5] 32 (0, 0)) (by (with_reducible repeat (first | refine blk_drewN ?_ _ | refine blk_drew ?_ | refine blk_alloc ?_ _)); exact BK275.out) hb)
              have n3_ := Aside0.mk (blk_below (g := gb276) (o := .cells #[.int .i64 0, .slice none 0 0] 27 (0, 0)) (by (with_reducible repeat (first | refine blk_drewN ?_ _ | refine blk_drew ?_ | refine blk_alloc ?_ _)); exact BK276.out) hb)
              have n4_ := Aside0.mk (below_step (by repeat (first | (with_reducible first | exact HB.out | apply below_alloc | apply pw_below_drewN | apply below_drew1 | refine below_set ?_ GE274.out | refine below_set ?_ GE275.out | refine below_set ?_ GE276.out) | exact HB.out)) hb)
              clear BK274
              clear BK275
              clear BK276
              clear HB
              have HO279 := n0_
              have BK274 := n1_
              have BK275 := n2_
              have BK276 := n3_
              have HB := n4_
              clear n0_ n1_ n2_ n3_ n4_
              clear hb ho58
              refine hK.out _ _ ⟨(blk_cell BK275.out 0).trans rfl, (blk_cell BK275.out 1).trans rfl, (blk_cell BK275.out 2).trans rfl, (blk_cell BK275.out 3).trans rfl, (blk_cell BK275.out 4).trans rfl, (blk_cell BK275.out 5).trans rfl⟩ (fun hHeld => ?_)
              clear hK K
              refine norm_ (a' := ?_) ?_ ?_
              rotate_left
              · show Act.put _ (some 48) _ = _
                simp only [Act.put, List.setIfInBounds_toArray, List.set_cons_zero, List.set_cons_succ, i64_w, i32_w]
                rfl
              refine one_ (i := 6) (N := some 52) #[true, true, true, true, true, true, true, false, false, false, false] rfl rfl (one_of HT_.out (by kernel_rfl)) (by decide) (fun K hK => ?_)
              refine Kd.R_append_rows_step k60 (w0 := w) w.heap.size (by rfl) (.tmp 48) (.tmp 51) 23 60 (.agg #[(.int .i64 0), (.int .i64 0)]) 16 rfl Try.underlying23 info60 rfl (by decide) (by omega) v278 y277 l1_4 _ _ _ (fun _ => True) (fun _ => False) rfl rfl ?aO ?aR (fun _ _ h => h) (fun _ h => h.elim) ?aF ?aB ?aS ?aL ?_
              (case aR => repeat (first | exact (Kd.C_below HR1_4.out HB.out) | (with_reducible refine Kd.C_alloc ?_ _) | (with_reducible refine Kd.C_drewN ?_ _) | (with_reducible refine Kd.C_drew ?_)))
              (case aB => exact (by repeat (first | (with_reducible first | exact HB.out | apply below_alloc | apply pw_below_drewN | apply below_drew1 | refine below_set ?_ GE274.out | refine below_set ?_ GE275.out | refine below_set ?_ GE276.out) | exact HB.out)))
              (case aF => exact (fun _ _ => trivial))
              (case aO => exact (by (with_reducible repeat (first | apply Kd.R_alloc | apply Kd.R_drewN | apply Kd.R_drew)); exact HO279.out))
              (case aS => exact (below_size (by repeat (first | (with_reducible first | exact HB.out | apply below_alloc | apply pw_below_drewN | apply below_drew1 | refine below_set ?_ GE274.out | refine below_set ?_ GE275.out | refine below_set ?_ GE276.out) | exact HB.out))))
              (case aL => have := LMc50.out; omega)
              intro v281 w59 ho hb hg hat
              rw [← Ny280.out] at ho
              have n0_ := Aside0.mk (blk_grown (g := gb274) (o := .cells #[.int .i64 a0_0, .slice A0_1 l0_1.length c0_1] 27 (0, 0)) (by (with_reducible repeat (first | refine blk_drewN ?_ _ | refine blk_drew ?_ | refine blk_alloc ?_ _)); exact BK274.out) hg (Kd.R_ne HO279.out BK274.out (by decide)))
              have n1_ := Aside0.mk (blk_grown (g := gb275) (o := .cells #[.int .i64 a1_0, .int .i64 a1_1, .int .i64 a1_2, .int .i64 a1_3, .slice A1_4 l1_4.length c1_4, .slice A1_5 l1_5.length c1_5] 32 (0, 0)) (by (with_reducible repeat (first | refine blk_drewN ?_ _ | refine blk_drew ?_ | refine blk_alloc ?_ _)); exact BK275.out) hg (Kd.R_ne HO279.out BK275.out (by decide)))
              have n2_ := Aside0.mk (blk_grown (g := gb276) (o := .cells #[.int .i64 0, .slice none 0 0] 27 (0, 0)) (by (with_reducible repeat (first | refine blk_drewN ?_ _ | refine blk_drew ?_ | refine blk_alloc ?_ _)); exact BK276.out) hg (Kd.R_ne HO279.out BK276.out (by decide)))
              have n3_ := Aside0.mk (hb)
              have n4_ := Aside0.mk (ho)
              clear BK274
              clear BK275
              clear BK276
              clear HB
              clear HO279
              have BK274 := n0_
              have BK275 := n1_
              have BK276 := n2_
              have HB := n3_
              have HO282 := n4_
              clear n0_ n1_ n2_ n3_ n4_
              clear ho hb hg hat
              obtain ⟨Ao60, co60, eo60⟩ := Kd.R_slice HO282.out
              (first | subst eo60 | (injection eo60 with f1_ f2_ f3_; have f4_ := f1_.symm; have f5_ := f3_.symm; clear f1_ f2_ f3_; subst f4_; subst f5_))
              refine hK.out _ _ ⟨(blk_cell BK275.out 0).trans rfl, (blk_cell BK275.out 1).trans rfl, (blk_cell BK275.out 2).trans rfl, (blk_cell BK275.out 3).trans rfl, (blk_cell BK275.out 4).trans rfl, (blk_cell BK275.out 5).trans rfl⟩ (fun hHeld => ?_)
              clear hK K
              refine norm_ (a' := ?_) ?_ ?_
              rotate_left
              · show Act.put _ (some 52) _ = _
                simp only [Act.put, List.setIfInBounds_toArray, List.set_cons_zero, List.set_cons_succ, i64_w, i32_w]
                rfl
              refine pure_ (i := 7) (N := some 53) (v := ?_) (a' := ?_) #[true, true, true, true, true, true, true, true, false, false, false] rfl rfl (any_of HT_.out (by kernel_rfl)) (fun _ _ _ h => h) (Or.inl ⟨by rfl, ?_⟩) ?_ ?_
              rotate_left
              · intro w'
                go_simp
                with_reducible rfl
              rotate_left
              · simp only [Act.put, List.setIfInBounds_toArray, List.set_cons_zero, List.set_cons_succ, i64_w, i32_w]
                rfl
              refine pure_ (i := 8) (N := some 54) (v := ?_) (a' := ?_) #[true, true, true, true, true, true, true, true, true, false, false] rfl rfl (any_of HT_.out (by kernel_rfl)) (fun _ _ _ h => h) (Or.inl ⟨by rfl, ?_⟩) ?_ ?_
              rotate_left
              · intro w'
                go_simp
                with_reducible rfl
              rotate_left
              · simp only [Act.put, List.setIfInBounds_toArray, List.set_cons_zero, List.set_cons_succ, i64_w, i32_w]
                rfl
              refine one_ (i := 9) (N := none) #[true, true, true, true, true, true, true, true, true, true, false] rfl rfl (one_of HT_.out (by kernel_rfl)) (by decide) (fun K hK => ?_)
              have hs61 : w59.cell? ⟨gb276, 0, none⟩ = some (.int .i64 0) := (blk_cell BK276.out 0).trans rfl
              have hfs61 := blk_frozen BK276.out 0
              have hns61_0 := NB274_276.out
              have hns61_1 := NB275_276.out
              have hms61_0 := NB276_274.out
              have hms61_1 := NB276_275.out
              have hs62 : w59.cell? ⟨gb276, 1, none⟩ = some (.slice none 0 0) := (blk_cell BK276.out 1).trans rfl
              have hfs62 := blk_frozen BK276.out 1
              have hns62_0 := NB274_276.out
              have hns62_1 := NB275_276.out
              have hms62_0 := NB276_274.out
              have hms62_1 := NB276_275.out
              refine skip_ (w1 := ?_) (by rfl) rfl ?_ ?_
              rotate_left
              · go_simp
                rfl
              refine hK.out _ _ ⟨((cell_far (p := ⟨gb276, _, none⟩) NB275_276.out _).trans (((cell_far (p := ⟨gb276, _, none⟩) NB275_276.out _).trans (hHeld.1)))), ((cell_far (p := ⟨gb276, _, none⟩) NB275_276.out _).trans (((cell_far (p := ⟨gb276, _, none⟩) NB275_276.out _).trans (hHeld.2.1)))), ((cell_far (p := ⟨gb276, _, none⟩) NB275_276.out _).trans (((cell_far (p := ⟨gb276, _, none⟩) NB275_276.out _).trans (hHeld.2.2.1)))), ((cell_far (p := ⟨gb276, _, none⟩) NB275_276.out _).trans (((cell_far (p := ⟨gb276, _, none⟩) NB275_276.out _).trans (hHeld.2.2.2.1)))), ((cell_far (p := ⟨gb276, _, none⟩) NB275_276.out _).trans (((cell_far (p := ⟨gb276, _, none⟩) NB275_276.out _).trans (hHeld.2.2.2.2.1)))), ((cell_far (p := ⟨gb276, _, none⟩) NB275_276.out _).trans (((cell_far (p := ⟨gb276, _, none⟩) NB275_276.out _).trans (hHeld.2.2.2.2.2))))⟩ (fun hHeld => ?_)
              clear hK K
              refine pure_ (i := 10) (N := some 5) (v := ?_) (a' := ?_) #[true, true, true, true, true, true, true, true, true, true, true] rfl rfl (any_of HT_.out (by kernel_rfl)) (fun _ _ _ h => h) (Or.inl ⟨by rfl, ?_⟩) ?_ ?_
              rotate_left
              · intro w'
                go_simp
                with_reducible rfl
              rotate_left
              · simp only [Act.put, List.setIfInBounds_toArray, List.set_cons_zero, List.set_cons_succ, i64_w, i32_w]
                rfl
              refine done_ (done_of HT_.out (by kernel_rfl)) ?_
              try go_wp2
              refine bodyPost_ret (results_ct rfl _ _ gb276 27 #[.int .i64 a1_3, .slice Ao60 y280.length co60] (0, 0) _ rfl (by (with_reducible repeat (first | refine blk_drewN ?_ _ | refine blk_drew ?_ | refine blk_alloc ?_ _)); refine blk_put (cs := #[.int .i64 a1_3, .slice none 0 0]) ?_ 1 _ rfl; (with_reducible repeat (first | refine blk_drewN ?_ _ | refine blk_drew ?_ | refine blk_alloc ?_ _)); refine blk_put (cs := #[.int .i64 0, .slice none 0 0]) ?_ 0 _ rfl; (with_reducible repeat (first | refine blk_drewN ?_ _ | refine blk_drew ?_ | refine blk_alloc ?_ _)); exact BK276.out) Try.underlying27 rfl (by kernel_rfl)) rfl ?_
              exact ⟨_, by first | rfl | (simp [errW_none, errW_some] <;> rfl) | (simp [*, errW_none, errW_some] <;> rfl), by (with_reducible repeat (first | apply Kd.R_alloc | apply Kd.R_drewN | apply Kd.R_drew)); exact Kd.R_mono (Kd.R_far (p := ⟨gb276, 1, none⟩) (Kd.R_far (p := ⟨gb276, 0, none⟩) (Kd.R_types HO282.out BK276.out (by decide)) (fun _ hk => hk.2) (.int .i64 a1_3)) (fun _ hk => hk.2) (.slice Ao60 y280.length co60)) (fun _ hk => trivial), by repeat (first | (with_reducible first | exact HB.out | apply below_alloc | apply pw_below_drewN | apply below_drew1 | refine below_set ?_ GE274.out | refine below_set ?_ GE275.out | refine below_set ?_ GE276.out) | exact HB.out)⟩
            · rw [if_neg c50] at H
              exact absurd H (by simp)
          · rw [if_neg c49] at H
            have c49b0 : (a1_0 == 1) = false := beq_eq_false_iff_ne.mpr c49
            have c49b1 : (a1_0 != 1) = true := bne_iff_ne.mpr c49
            by_cases c63 : a1_2 = a0_0
            · rw [if_pos c63] at H
              have c63b0 : (a1_2 == a0_0) = true := beq_iff_eq.mpr c63
              have c63b1 : (a1_2 != a0_0) = false := bne_eq_false_iff_eq.mpr c63
              clear c63
              replace H := Option.bind_eq_some_iff.mp H
              obtain ⟨⟨t283, t286⟩, A640, H⟩ := H
              replace H : (if t286 = 0 then (some (a1_3, t283, 0)) else (some (0, ([] : List (S60)), t286))) = some (r1, r2, r3) := H
              have A64 := Aside0.mk A640
              clear A640
              by_cases c65 : t286 = 0
              · rw [if_pos c65] at H
                have c65b0 : (t286 == 0) = true := beq_iff_eq.mpr c65
                have c65b1 : (t286 != 0) = false := bne_eq_false_iff_eq.mpr c65
                clear c65
                simp only [Option.some.injEq, Prod.mk.injEq] at H
                obtain ⟨rfl, rfl, rfl⟩ := H
                have hnb66 := NB275_274.out
                have hnc66 := NB274_275.out
                have hnb67 := NB275_276.out
                have hnc67 := NB276_275.out
                have hcz68_0 : wc.cell? ⟨gb275, 0, none⟩ = some (.int .i64 a1_0) := (blk_cell BK275.out 0).trans rfl
                have hcz68_1 : wc.cell? ⟨gb275, 1, none⟩ = some (.int .i64 a1_1) := (blk_cell BK275.out 1).trans rfl
                have hcz68_2 : wc.cell? ⟨gb275, 2, none⟩ = some (.int .i64 a1_2) := (blk_cell BK275.out 2).trans rfl
                have hcz68_3 : wc.cell? ⟨gb275, 3, none⟩ = some (.int .i64 a1_3) := (blk_cell BK275.out 3).trans rfl
                have hcz68_4 : wc.cell? ⟨gb275, 4, none⟩ = some (.slice A1_4 l1_4.length c1_4) := (blk_cell BK275.out 4).trans rfl
                have hcz68_5 : wc.cell? ⟨gb275, 5, none⟩ = some (.slice A1_5 l1_5.length c1_5) := (blk_cell BK275.out 5).trans rfl
                have hfz68_0 := blk_frozen BK275.out 0
                have hfz68_1 := blk_frozen BK275.out 1
                have hfz68_2 := blk_frozen BK275.out 2
                have hfz68_3 := blk_frozen BK275.out 3
                have hfz68_4 := blk_frozen BK275.out 4
                have hfz68_5 := blk_frozen BK275.out 5
                have hnb69 := NB274_276.out
                have hnc69 := NB276_274.out
                have hcz70_0 : wc.cell? ⟨gb274, 0, none⟩ = some (.int .i64 a0_0) := (blk_cell BK274.out 0).trans rfl
                have hcz70_1 : wc.cell? ⟨gb274, 1, none⟩ = some (.slice A0_1 l0_1.length c0_1) := (blk_cell BK274.out 1).trans rfl
                have hfz70_0 := blk_frozen BK274.out 0
                have hfz70_1 := blk_frozen BK274.out 1
                go_wp2_with (first | ((with_reducible refine gate_callee (f := 39) rfl ?_); refine goesL_ (some 66) rfl rfl Try.func39 (by kernel_rfl) rfl #[.agg #[.slice A0_1 l0_1.length c0_1], .slice A1_5 l1_5.length c1_5] rfl (by (try simp only [List.map_toArray, List.map_cons, List.map_nil]); first | done | rfl | (simp only [List.length_drop, List.length_take]; rfl)) ?_; (with_reducible refine (chalklineref04_Apply.calls kj2 _ _ l0_1 _ _ l1_5 t283 t286 _ ?side1 ?side2 ?side3 ?side4 A64.out).mono ?_); (case side1 => repeat (first | exact (Kd.C_below HR0_1.out HB.out) | (with_reducible refine Kd.C_alloc ?_ _) | (with_reducible refine Kd.C_drewN ?_ _) | (with_reducible refine Kd.C_drew ?_))); (case side2 => exact HC0_1.out); (case side3 => repeat (first | exact (Kd.C_below HR1_5.out HB.out) | (with_reducible refine Kd.C_alloc ?_ _) | (with_reducible refine Kd.C_drewN ?_ _) | (with_reducible refine Kd.C_drew ?_))); (case side4 => exact HC1_5.out); rintro e w71 ⟨v284, rfl, ho0, hb⟩; refine ⟨_, rfl, ?_⟩; have n0_ := Aside0.mk (Kd.R_lower ho0 (below_size (by repeat (first | (with_reducible first | exact HB.out | apply below_alloc | apply pw_below_drewN | apply below_drew1 | refine below_set ?_ GE274.out | refine below_set ?_ GE275.out | refine below_set ?_ GE276.out) | exact HB.out)))); have n1_ := Aside0.mk (blk_below (g := gb274) (o := .cells #[.int .i64 a0_0, .slice A0_1 l0_1.length c0_1] 27 (0, 0)) (by (with_reducible repeat (first | refine blk_drewN ?_ _ | refine blk_drew ?_ | refine blk_alloc ?_ _)); exact BK274.out) hb); have n2_ := Aside0.mk (blk_below (g := gb275) (o := .cells #[.int .i64 a1_0, .int .i64 a1_1, .int .i64 a1_2, .int .i64 a1_3, .slice A1_4 l1_4.length c1_4, .slice A1_5 l1_5.length c1_5] 32 (0, 0)) (by (with_reducible repeat (first | refine blk_drewN ?_ _ | refine blk_drew ?_ | refine blk_alloc ?_ _)); exact BK275.out) hb); have n3_ := Aside0.mk (blk_below (g := gb276) (o := .cells #[.int .i64 0, .slice none 0 0] 27 (0, 0)) (by (with_reducible repeat (first | refine blk_drewN ?_ _ | refine blk_drew ?_ | refine blk_alloc ?_ _)); exact BK276.out) hb); have n4_ := Aside0.mk (below_step (by repeat (first | (with_reducible first | exact HB.out | apply below_alloc | apply pw_below_drewN | apply below_drew1 | refine below_set ?_ GE274.out | refine below_set ?_ GE275.out | refine below_set ?_ GE276.out) | exact HB.out)) hb); clear BK274; clear BK275; clear BK276; clear HB; have HO285 := n0_; have BK274 := n1_; have BK275 := n2_; have BK276 := n3_; have HB := n4_; clear n0_ n1_ n2_ n3_ n4_; (try clear hb); (try clear hb2); (try clear hk); (try clear hi); (try clear ho0)) | ((with_reducible refine gate_dst (N := 6) rfl ?_); refine box_event ?hg (N := 6) ?hd (cs := #[.slice none 0 0]) (t := 25) ?hr ?_; (case hd => rfl); (case hg => rfl); (case hr => first | (go_simp; done) | (go_simp; rfl)); intro gb287 hg w72 hbox hb; have n0_ := Aside0.mk (Kd.R_below (by (with_reducible repeat (first | apply Kd.R_alloc | apply Kd.R_drewN | apply Kd.R_drew)); exact HO285.out) hb); have n1_ := Aside0.mk (blk_below (g := gb274) (o := .cells #[.int .i64 a0_0, .slice A0_1 l0_1.length c0_1] 27 (0, 0)) (by (with_reducible repeat (first | refine blk_drewN ?_ _ | refine blk_drew ?_ | refine blk_alloc ?_ _)); exact BK274.out) hb); have n2_ := Aside0.mk (blk_below (g := gb275) (o := .cells #[.int .i64 a1_0, .int .i64 a1_1, .int .i64 a1_2, .int .i64 a1_3, .slice A1_4 l1_4.length c1_4, .slice A1_5 l1_5.length c1_5] 32 (0, 0)) (by (with_reducible repeat (first | refine blk_drewN ?_ _ | refine blk_drew ?_ | refine blk_alloc ?_ _)); exact BK275.out) hb); have n3_ := Aside0.mk (blk_below (g := gb276) (o := .cells #[.int .i64 0, .slice none 0 0] 27 (0, 0)) (by (with_reducible repeat (first | refine blk_drewN ?_ _ | refine blk_drew ?_ | refine blk_alloc ?_ _)); exact BK276.out) hb); have n4_ := Aside0.mk (below_step (by repeat (first | (with_reducible first | exact HB.out | apply below_alloc | apply pw_below_drewN | apply below_drew1 | refine below_set ?_ GE274.out | refine below_set ?_ GE275.out | refine below_set ?_ GE276.out) | exact HB.out)) hb); have n5_ := Aside0.mk (hbox); have n6_ := Aside0.mk ((by rw [hg]; exact (below_size (by repeat (first | (with_reducible first | exact HB.out | apply below_alloc | apply pw_below_drewN | apply below_drew1 | refine below_set ?_ GE274.out | refine below_set ?_ GE275.out | refine below_set ?_ GE276.out) | exact HB.out))) : w.heap.size ≤ gb287)); have n7_ := Aside0.mk ((by rw [hg]; exact (below_size (by repeat (first | (with_reducible first | exact HB.out | apply below_alloc | apply pw_below_drewN | apply below_drew1 | refine below_set ?_ GE274.out | refine below_set ?_ GE275.out | refine below_set ?_ GE276.out) | exact HB.out))) : w.heap.size ≤ gb287)); have n8_ := Aside0.mk ((by rw [hg]; exact Nat.ne_of_lt (blk_lt (g := gb274) (o := .cells #[.int .i64 a0_0, .slice A0_1 l0_1.length c0_1] 27 (0, 0)) (by (with_reducible repeat (first | refine blk_drewN ?_ _ | refine blk_drew ?_ | refine blk_alloc ?_ _)); exact BK274.out)) : gb274 ≠ gb287)); have n9_ := Aside0.mk ((by rw [hg]; exact Nat.ne_of_gt (blk_lt (g := gb274) (o := .cells #[.int .i64 a0_0, .slice A0_1 l0_1.length c0_1] 27 (0, 0)) (by (with_reducible repeat (first | refine blk_drewN ?_ _ | refine blk_drew ?_ | refine blk_alloc ?_ _)); exact BK274.out)) : gb287 ≠ gb274)); have n10_ := Aside0.mk ((by rw [hg]; exact Nat.ne_of_lt (blk_lt (g := gb275) (o := .cells #[.int .i64 a1_0, .int .i64 a1_1, .int .i64 a1_2, .int .i64 a1_3, .slice A1_4 l1_4.length c1_4, .slice A1_5 l1_5.length c1_5] 32 (0, 0)) (by (with_reducible repeat (first | refine blk_drewN ?_ _ | refine blk_drew ?_ | refine blk_alloc ?_ _)); exact BK275.out)) : gb275 ≠ gb287)); have n11_ := Aside0.mk ((by rw [hg]; exact Nat.ne_of_gt (blk_lt (g := gb275) (o := .cells #[.int .i64 a1_0, .int .i64 a1_1, .int .i64 a1_2, .int .i64 a1_3, .slice A1_4 l1_4.length c1_4, .slice A1_5 l1_5.length c1_5] 32 (0, 0)) (by (with_reducible repeat (first | refine blk_drewN ?_ _ | refine blk_drew ?_ | refine blk_alloc ?_ _)); exact BK275.out)) : gb287 ≠ gb275)); have n12_ := Aside0.mk ((by rw [hg]; exact Nat.ne_of_lt (blk_lt (g := gb276) (o := .cells #[.int .i64 0, .slice none 0 0] 27 (0, 0)) (by (with_reducible repeat (first | refine blk_drewN ?_ _ | refine blk_drew ?_ | refine blk_alloc ?_ _)); exact BK276.out)) : gb276 ≠ gb287)); have n13_ := Aside0.mk ((by rw [hg]; exact Nat.ne_of_gt (blk_lt (g := gb276) (o := .cells #[.int .i64 0, .slice none 0 0] 27 (0, 0)) (by (with_reducible repeat (first | refine blk_drewN ?_ _ | refine blk_drew ?_ | refine blk_alloc ?_ _)); exact BK276.out)) : gb287 ≠ gb276)); clear HO285; clear BK274; clear BK275; clear BK276; clear HB; have HO285 := n0_; have BK274 := n1_; have BK275 := n2_; have BK276 := n3_; have HB := n4_; have BK287 := n5_; have GW287 := n6_; have GE287 := n7_; have NB274_287 := n8_; have NB287_274 := n9_; have NB275_287 := n10_; have NB287_275 := n11_; have NB276_287 := n12_; have NB287_276 := n13_; clear n0_ n1_ n2_ n3_ n4_ n5_ n6_ n7_ n8_ n9_ n10_ n11_ n12_ n13_; clear hb hbox hg; obtain ⟨Ao73, co73, eo73⟩ := Kd.R_slice HO285.out; subst eo73; have hnb74 := NB287_274.out; have hnc74 := NB274_287.out; have hnb75 := NB287_275.out; have hnc75 := NB275_287.out; have hnb76 := NB287_276.out; have hnc76 := NB276_287.out; have hcz77_0 : w72.cell? ⟨gb287, 0, none⟩ = some (.slice none 0 0) := (blk_cell BK287.out 0).trans rfl; have hfz77_0 := blk_frozen BK287.out 0; have hcz78_0 : w72.cell? ⟨gb275, 0, none⟩ = some (.int .i64 a1_0) := (blk_cell BK275.out 0).trans rfl; have hcz78_1 : w72.cell? ⟨gb275, 1, none⟩ = some (.int .i64 a1_1) := (blk_cell BK275.out 1).trans rfl; have hcz78_2 : w72.cell? ⟨gb275, 2, none⟩ = some (.int .i64 a1_2) := (blk_cell BK275.out 2).trans rfl; have hcz78_3 : w72.cell? ⟨gb275, 3, none⟩ = some (.int .i64 a1_3) := (blk_cell BK275.out 3).trans rfl; have hcz78_4 : w72.cell? ⟨gb275, 4, none⟩ = some (.slice A1_4 l1_4.length c1_4) := (blk_cell BK275.out 4).trans rfl; have hcz78_5 : w72.cell? ⟨gb275, 5, none⟩ = some (.slice A1_5 l1_5.length c1_5) := (blk_cell BK275.out 5).trans rfl; have hfz78_0 := blk_frozen BK275.out 0; have hfz78_1 := blk_frozen BK275.out 1; have hfz78_2 := blk_frozen BK275.out 2; have hfz78_3 := blk_frozen BK275.out 3; have hfz78_4 := blk_frozen BK275.out 4; have hfz78_5 := blk_frozen BK275.out 5; have hcz79_0 : w72.cell? ⟨gb276, 0, none⟩ = some (.int .i64 0) := (blk_cell BK276.out 0).trans rfl; have hcz79_1 : w72.cell? ⟨gb276, 1, none⟩ = some (.slice none 0 0) := (blk_cell BK276.out 1).trans rfl; have hfz79_0 := blk_frozen BK276.out 0; have hfz79_1 := blk_frozen BK276.out 1))
                refine bodyPost_ret (results_ct rfl _ _ gb276 27 #[.int .i64 a1_3, .slice Ao73 t283.length co73] (0, 0) _ rfl (by (with_reducible repeat (first | refine blk_drewN ?_ _ | refine blk_drew ?_ | refine blk_alloc ?_ _)); refine blk_put (cs := #[.int .i64 a1_3, .slice none 0 0]) ?_ 1 _ rfl; (with_reducible repeat (first | refine blk_drewN ?_ _ | refine blk_drew ?_ | refine blk_alloc ?_ _)); refine blk_put (cs := #[.int .i64 0, .slice none 0 0]) ?_ 0 _ rfl; (with_reducible repeat (first | refine blk_drewN ?_ _ | refine blk_drew ?_ | refine blk_alloc ?_ _)); refine blk_far ?_ NB276_287.out _; (with_reducible repeat (first | refine blk_drewN ?_ _ | refine blk_drew ?_ | refine blk_alloc ?_ _)); exact BK276.out) Try.underlying27 rfl (by kernel_rfl)) rfl ?_
                exact ⟨_, by first | rfl | (simp [errW_none, errW_some] <;> rfl) | (simp [*, errW_none, errW_some] <;> rfl), by (with_reducible repeat (first | apply Kd.R_alloc | apply Kd.R_drewN | apply Kd.R_drew)); exact Kd.R_mono (Kd.R_far (p := ⟨gb276, 1, none⟩) (Kd.R_far (p := ⟨gb276, 0, none⟩) (Kd.R_far (p := ⟨gb287, 0, none⟩) (Kd.R_types (Kd.R_types HO285.out BK287.out (by decide)) BK276.out (by decide)) (fun _ hk => hk.1.2) (.slice Ao73 t283.length co73)) (fun _ hk => hk.2) (.int .i64 a1_3)) (fun _ hk => hk.2) (.slice Ao73 t283.length co73)) (fun _ hk => trivial), by repeat (first | (with_reducible first | exact HB.out | apply below_alloc | apply pw_below_drewN | apply below_drew1 | refine below_set ?_ GE274.out | refine below_set ?_ GE275.out | refine below_set ?_ GE276.out | refine below_set ?_ GE287.out) | exact HB.out)⟩
              · rw [if_neg c65] at H
                have c65b0 : (t286 == 0) = false := beq_eq_false_iff_ne.mpr c65
                have c65b1 : (t286 != 0) = true := bne_iff_ne.mpr c65
                simp only [Option.some.injEq, Prod.mk.injEq] at H
                obtain ⟨rfl, rfl, rfl⟩ := H
                have hnb80 := NB275_274.out
                have hnc80 := NB274_275.out
                have hnb81 := NB275_276.out
                have hnc81 := NB276_275.out
                have hcz82_0 : wc.cell? ⟨gb275, 0, none⟩ = some (.int .i64 a1_0) := (blk_cell BK275.out 0).trans rfl
                have hcz82_1 : wc.cell? ⟨gb275, 1, none⟩ = some (.int .i64 a1_1) := (blk_cell BK275.out 1).trans rfl
                have hcz82_2 : wc.cell? ⟨gb275, 2, none⟩ = some (.int .i64 a1_2) := (blk_cell BK275.out 2).trans rfl
                have hcz82_3 : wc.cell? ⟨gb275, 3, none⟩ = some (.int .i64 a1_3) := (blk_cell BK275.out 3).trans rfl
                have hcz82_4 : wc.cell? ⟨gb275, 4, none⟩ = some (.slice A1_4 l1_4.length c1_4) := (blk_cell BK275.out 4).trans rfl
                have hcz82_5 : wc.cell? ⟨gb275, 5, none⟩ = some (.slice A1_5 l1_5.length c1_5) := (blk_cell BK275.out 5).trans rfl
                have hfz82_0 := blk_frozen BK275.out 0
                have hfz82_1 := blk_frozen BK275.out 1
                have hfz82_2 := blk_frozen BK275.out 2
                have hfz82_3 := blk_frozen BK275.out 3
                have hfz82_4 := blk_frozen BK275.out 4
                have hfz82_5 := blk_frozen BK275.out 5
                have hnb83 := NB274_276.out
                have hnc83 := NB276_274.out
                have hcz84_0 : wc.cell? ⟨gb274, 0, none⟩ = some (.int .i64 a0_0) := (blk_cell BK274.out 0).trans rfl
                have hcz84_1 : wc.cell? ⟨gb274, 1, none⟩ = some (.slice A0_1 l0_1.length c0_1) := (blk_cell BK274.out 1).trans rfl
                have hfz84_0 := blk_frozen BK274.out 0
                have hfz84_1 := blk_frozen BK274.out 1
                go_wp2_with (first | ((with_reducible refine gate_callee (f := 39) rfl ?_); refine goesL_ (some 66) rfl rfl Try.func39 (by kernel_rfl) rfl #[.agg #[.slice A0_1 l0_1.length c0_1], .slice A1_5 l1_5.length c1_5] rfl (by (try simp only [List.map_toArray, List.map_cons, List.map_nil]); first | done | rfl | (simp only [List.length_drop, List.length_take]; rfl)) ?_; (with_reducible refine (chalklineref04_Apply.calls kj2 _ _ l0_1 _ _ l1_5 t283 t286 _ ?side1 ?side2 ?side3 ?side4 A64.out).mono ?_); (case side1 => repeat (first | exact (Kd.C_below HR0_1.out HB.out) | (with_reducible refine Kd.C_alloc ?_ _) | (with_reducible refine Kd.C_drewN ?_ _) | (with_reducible refine Kd.C_drew ?_))); (case side2 => exact HC0_1.out); (case side3 => repeat (first | exact (Kd.C_below HR1_5.out HB.out) | (with_reducible refine Kd.C_alloc ?_ _) | (with_reducible refine Kd.C_drewN ?_ _) | (with_reducible refine Kd.C_drew ?_))); (case side4 => exact HC1_5.out); rintro e w85 ⟨v284, rfl, ho0, hb⟩; refine ⟨_, rfl, ?_⟩; have n0_ := Aside0.mk (Kd.R_lower ho0 (below_size (by repeat (first | (with_reducible first | exact HB.out | apply below_alloc | apply pw_below_drewN | apply below_drew1 | refine below_set ?_ GE274.out | refine below_set ?_ GE275.out | refine below_set ?_ GE276.out) | exact HB.out)))); have n1_ := Aside0.mk (blk_below (g := gb274) (o := .cells #[.int .i64 a0_0, .slice A0_1 l0_1.length c0_1] 27 (0, 0)) (by (with_reducible repeat (first | refine blk_drewN ?_ _ | refine blk_drew ?_ | refine blk_alloc ?_ _)); exact BK274.out) hb); have n2_ := Aside0.mk (blk_below (g := gb275) (o := .cells #[.int .i64 a1_0, .int .i64 a1_1, .int .i64 a1_2, .int .i64 a1_3, .slice A1_4 l1_4.length c1_4, .slice A1_5 l1_5.length c1_5] 32 (0, 0)) (by (with_reducible repeat (first | refine blk_drewN ?_ _ | refine blk_drew ?_ | refine blk_alloc ?_ _)); exact BK275.out) hb); have n3_ := Aside0.mk (blk_below (g := gb276) (o := .cells #[.int .i64 0, .slice none 0 0] 27 (0, 0)) (by (with_reducible repeat (first | refine blk_drewN ?_ _ | refine blk_drew ?_ | refine blk_alloc ?_ _)); exact BK276.out) hb); have n4_ := Aside0.mk (below_step (by repeat (first | (with_reducible first | exact HB.out | apply below_alloc | apply pw_below_drewN | apply below_drew1 | refine below_set ?_ GE274.out | refine below_set ?_ GE275.out | refine below_set ?_ GE276.out) | exact HB.out)) hb); clear BK274; clear BK275; clear BK276; clear HB; have HO285 := n0_; have BK274 := n1_; have BK275 := n2_; have BK276 := n3_; have HB := n4_; clear n0_ n1_ n2_ n3_ n4_; (try clear hb); (try clear hb2); (try clear hk); (try clear hi); (try clear ho0)) | ((with_reducible refine gate_dst (N := 6) rfl ?_); refine box_event ?hg (N := 6) ?hd (cs := #[.slice none 0 0]) (t := 25) ?hr ?_; (case hd => rfl); (case hg => rfl); (case hr => first | (go_simp; done) | (go_simp; rfl)); intro gb287 hg w86 hbox hb; have n0_ := Aside0.mk (Kd.R_below (by (with_reducible repeat (first | apply Kd.R_alloc | apply Kd.R_drewN | apply Kd.R_drew)); exact HO285.out) hb); have n1_ := Aside0.mk (blk_below (g := gb274) (o := .cells #[.int .i64 a0_0, .slice A0_1 l0_1.length c0_1] 27 (0, 0)) (by (with_reducible repeat (first | refine blk_drewN ?_ _ | refine blk_drew ?_ | refine blk_alloc ?_ _)); exact BK274.out) hb); have n2_ := Aside0.mk (blk_below (g := gb275) (o := .cells #[.int .i64 a1_0, .int .i64 a1_1, .int .i64 a1_2, .int .i64 a1_3, .slice A1_4 l1_4.length c1_4, .slice A1_5 l1_5.length c1_5] 32 (0, 0)) (by (with_reducible repeat (first | refine blk_drewN ?_ _ | refine blk_drew ?_ | refine blk_alloc ?_ _)); exact BK275.out) hb); have n3_ := Aside0.mk (blk_below (g := gb276) (o := .cells #[.int .i64 0, .slice none 0 0] 27 (0, 0)) (by (with_reducible repeat (first | refine blk_drewN ?_ _ | refine blk_drew ?_ | refine blk_alloc ?_ _)); exact BK276.out) hb); have n4_ := Aside0.mk (below_step (by repeat (first | (with_reducible first | exact HB.out | apply below_alloc | apply pw_below_drewN | apply below_drew1 | refine below_set ?_ GE274.out | refine below_set ?_ GE275.out | refine below_set ?_ GE276.out) | exact HB.out)) hb); have n5_ := Aside0.mk (hbox); have n6_ := Aside0.mk ((by rw [hg]; exact (below_size (by repeat (first | (with_reducible first | exact HB.out | apply below_alloc | apply pw_below_drewN | apply below_drew1 | refine below_set ?_ GE274.out | refine below_set ?_ GE275.out | refine below_set ?_ GE276.out) | exact HB.out))) : w.heap.size ≤ gb287)); have n7_ := Aside0.mk ((by rw [hg]; exact (below_size (by repeat (first | (with_reducible first | exact HB.out | apply below_alloc | apply pw_below_drewN | apply below_drew1 | refine below_set ?_ GE274.out | refine below_set ?_ GE275.out | refine below_set ?_ GE276.out) | exact HB.out))) : w.heap.size ≤ gb287)); have n8_ := Aside0.mk ((by rw [hg]; exact Nat.ne_of_lt (blk_lt (g := gb274) (o := .cells #[.int .i64 a0_0, .slice A0_1 l0_1.length c0_1] 27 (0, 0)) (by (with_reducible repeat (first | refine blk_drewN ?_ _ | refine blk_drew ?_ | refine blk_alloc ?_ _)); exact BK274.out)) : gb274 ≠ gb287)); have n9_ := Aside0.mk ((by rw [hg]; exact Nat.ne_of_gt (blk_lt (g := gb274) (o := .cells #[.int .i64 a0_0, .slice A0_1 l0_1.length c0_1] 27 (0, 0)) (by (with_reducible repeat (first | refine blk_drewN ?_ _ | refine blk_drew ?_ | refine blk_alloc ?_ _)); exact BK274.out)) : gb287 ≠ gb274)); have n10_ := Aside0.mk ((by rw [hg]; exact Nat.ne_of_lt (blk_lt (g := gb275) (o := .cells #[.int .i64 a1_0, .int .i64 a1_1, .int .i64 a1_2, .int .i64 a1_3, .slice A1_4 l1_4.length c1_4, .slice A1_5 l1_5.length c1_5] 32 (0, 0)) (by (with_reducible repeat (first | refine blk_drewN ?_ _ | refine blk_drew ?_ | refine blk_alloc ?_ _)); exact BK275.out)) : gb275 ≠ gb287)); have n11_ := Aside0.mk ((by rw [hg]; exact Nat.ne_of_gt (blk_lt (g := gb275) (o := .cells #[.int .i64 a1_0, .int .i64 a1_1, .int .i64 a1_2, .int .i64 a1_3, .slice A1_4 l1_4.length c1_4, .slice A1_5 l1_5.length c1_5] 32 (0, 0)) (by (with_reducible repeat (first | refine blk_drewN ?_ _ | refine blk_drew ?_ | refine blk_alloc ?_ _)); exact BK275.out)) : gb287 ≠ gb275)); have n12_ := Aside0.mk ((by rw [hg]; exact Nat.ne_of_lt (blk_lt (g := gb276) (o := .cells #[.int .i64 0, .slice none 0 0] 27 (0, 0)) (by (with_reducible repeat (first | refine blk_drewN ?_ _ | refine blk_drew ?_ | refine blk_alloc ?_ _)); exact BK276.out)) : gb276 ≠ gb287)); have n13_ := Aside0.mk ((by rw [hg]; exact Nat.ne_of_gt (blk_lt (g := gb276) (o := .cells #[.int .i64 0, .slice none 0 0] 27 (0, 0)) (by (with_reducible repeat (first | refine blk_drewN ?_ _ | refine blk_drew ?_ | refine blk_alloc ?_ _)); exact BK276.out)) : gb287 ≠ gb276)); clear HO285; clear BK274; clear BK275; clear BK276; clear HB; have HO285 := n0_; have BK274 := n1_; have BK275 := n2_; have BK276 := n3_; have HB := n4_; have BK287 := n5_; have GW287 := n6_; have GE287 := n7_; have NB274_287 := n8_; have NB287_274 := n9_; have NB275_287 := n10_; have NB287_275 := n11_; have NB276_287 := n12_; have NB287_276 := n13_; clear n0_ n1_ n2_ n3_ n4_ n5_ n6_ n7_ n8_ n9_ n10_ n11_ n12_ n13_; clear hb hbox hg; obtain ⟨Ao87, co87, eo87⟩ := Kd.R_slice HO285.out; subst eo87; have hnb88 := NB287_274.out; have hnc88 := NB274_287.out; have hnb89 := NB287_275.out; have hnc89 := NB275_287.out; have hnb90 := NB287_276.out; have hnc90 := NB276_287.out; have hcz91_0 : w86.cell? ⟨gb287, 0, none⟩ = some (.slice none 0 0) := (blk_cell BK287.out 0).trans rfl; have hfz91_0 := blk_frozen BK287.out 0; have hcz92_0 : w86.cell? ⟨gb276, 0, none⟩ = some (.int .i64 0) := (blk_cell BK276.out 0).trans rfl; have hcz92_1 : w86.cell? ⟨gb276, 1, none⟩ = some (.slice none 0 0) := (blk_cell BK276.out 1).trans rfl; have hfz92_0 := blk_frozen BK276.out 0; have hfz92_1 := blk_frozen BK276.out 1))
                refine bodyPost_ret (results_ct rfl _ _ gb276 27 #[.int .i64 0, .slice none 0 0] (0, 0) _ rfl (by (with_reducible repeat (first | refine blk_drewN ?_ _ | refine blk_drew ?_ | refine blk_alloc ?_ _)); refine blk_put (cs := #[.int .i64 0, .slice none 0 0]) ?_ 1 _ rfl; (with_reducible repeat (first | refine blk_drewN ?_ _ | refine blk_drew ?_ | refine blk_alloc ?_ _)); refine blk_put (cs := #[.int .i64 0, .slice none 0 0]) ?_ 0 _ rfl; (with_reducible repeat (first | refine blk_drewN ?_ _ | refine blk_drew ?_ | refine blk_alloc ?_ _)); refine blk_far ?_ NB276_287.out _; (with_reducible repeat (first | refine blk_drewN ?_ _ | refine blk_drew ?_ | refine blk_alloc ?_ _)); exact BK276.out) Try.underlying27 rfl (by kernel_rfl)) rfl ?_
                exact ⟨_, by first | rfl | (simp [errW_none, errW_some] <;> rfl) | (simp [*, errW_none, errW_some] <;> rfl), by first | exact Kd.R_nil _ _ _ _ _ | exact Kd.N_nil _ _ _ _ _ | exact Kd.V_nil _ _ _ _ _ | exact Kd.Q_nil _ _ _ _ _ | exact Kd.S_nil _ _ _ _ _, by repeat (first | (with_reducible first | exact HB.out | apply below_alloc | apply pw_below_drewN | apply below_drew1 | refine below_set ?_ GE274.out | refine below_set ?_ GE275.out | refine below_set ?_ GE276.out | refine below_set ?_ GE287.out) | exact HB.out)⟩
            · rw [if_neg c63] at H
              have c63b0 : (a1_2 == a0_0) = false := beq_eq_false_iff_ne.mpr c63
              have c63b1 : (a1_2 != a0_0) = true := bne_iff_ne.mpr c63
              simp only [Option.some.injEq, Prod.mk.injEq] at H
              obtain ⟨rfl, rfl, rfl⟩ := H
              have hnb93 := NB275_274.out
              have hnc93 := NB274_275.out
              have hnb94 := NB275_276.out
              have hnc94 := NB276_275.out
              have hcz95_0 : wc.cell? ⟨gb275, 0, none⟩ = some (.int .i64 a1_0) := (blk_cell BK275.out 0).trans rfl
              have hcz95_1 : wc.cell? ⟨gb275, 1, none⟩ = some (.int .i64 a1_1) := (blk_cell BK275.out 1).trans rfl
              have hcz95_2 : wc.cell? ⟨gb275, 2, none⟩ = some (.int .i64 a1_2) := (blk_cell BK275.out 2).trans rfl
              have hcz95_3 : wc.cell? ⟨gb275, 3, none⟩ = some (.int .i64 a1_3) := (blk_cell BK275.out 3).trans rfl
              have hcz95_4 : wc.cell? ⟨gb275, 4, none⟩ = some (.slice A1_4 l1_4.length c1_4) := (blk_cell BK275.out 4).trans rfl
              have hcz95_5 : wc.cell? ⟨gb275, 5, none⟩ = some (.slice A1_5 l1_5.length c1_5) := (blk_cell BK275.out 5).trans rfl
              have hfz95_0 := blk_frozen BK275.out 0
              have hfz95_1 := blk_frozen BK275.out 1
              have hfz95_2 := blk_frozen BK275.out 2
              have hfz95_3 := blk_frozen BK275.out 3
              have hfz95_4 := blk_frozen BK275.out 4
              have hfz95_5 := blk_frozen BK275.out 5
              have hnb96 := NB274_276.out
              have hnc96 := NB276_274.out
              have hcz97_0 : wc.cell? ⟨gb274, 0, none⟩ = some (.int .i64 a0_0) := (blk_cell BK274.out 0).trans rfl
              have hcz97_1 : wc.cell? ⟨gb274, 1, none⟩ = some (.slice A0_1 l0_1.length c0_1) := (blk_cell BK274.out 1).trans rfl
              have hfz97_0 := blk_frozen BK274.out 0
              have hfz97_1 := blk_frozen BK274.out 1
              have hcz98_0 : wc.cell? ⟨gb276, 0, none⟩ = some (.int .i64 0) := (blk_cell BK276.out 0).trans rfl
              have hcz98_1 : wc.cell? ⟨gb276, 1, none⟩ = some (.slice none 0 0) := (blk_cell BK276.out 1).trans rfl
              have hfz98_0 := blk_frozen BK276.out 0
              have hfz98_1 := blk_frozen BK276.out 1
              go_wp2
              refine bodyPost_ret (results_ct rfl _ _ gb276 27 #[.int .i64 0, .slice none 0 0] (0, 0) _ rfl (by (with_reducible repeat (first | refine blk_drewN ?_ _ | refine blk_drew ?_ | refine blk_alloc ?_ _)); refine blk_put (cs := #[.int .i64 0, .slice none 0 0]) ?_ 1 _ rfl; (with_reducible repeat (first | refine blk_drewN ?_ _ | refine blk_drew ?_ | refine blk_alloc ?_ _)); refine blk_put (cs := #[.int .i64 0, .slice none 0 0]) ?_ 0 _ rfl; (with_reducible repeat (first | refine blk_drewN ?_ _ | refine blk_drew ?_ | refine blk_alloc ?_ _)); exact BK276.out) Try.underlying27 rfl (by kernel_rfl)) rfl ?_
              exact ⟨_, by first | rfl | (simp [errW_none, errW_some] <;> rfl) | (simp [*, errW_none, errW_some] <;> rfl), by first | exact Kd.R_nil _ _ _ _ _ | exact Kd.N_nil _ _ _ _ _ | exact Kd.V_nil _ _ _ _ _ | exact Kd.Q_nil _ _ _ _ _ | exact Kd.S_nil _ _ _ _ _, by repeat (first | (with_reducible first | exact HB.out | apply below_alloc | apply pw_below_drewN | apply below_drew1 | refine below_set ?_ GE274.out | refine below_set ?_ GE275.out | refine below_set ?_ GE276.out) | exact HB.out)⟩
end Go.Proofs.Ytfdhnmijaobbdaa.S
end
section
namespace Go.Proofs.Ytfdhnmijaobbdaa.S
open Go.RowKit Go.Proofs.YtfdhnmijaobbdaaW.PrintWords Go.Proofs.YtfdhnmijaobbdaaW.PrintLast Go.Proofs.YtfdhnmijaobbdaaW.PrintMore
attribute [local go_sem] max2_int min2_int max_two min_two max_three min_three max_four min_four   -- for this text's walks alone
set_option linter.unusedVariables false
set_option linter.unusedSimpArgs false
def chalklinelaw35_FeedTakes.j0 : Nat → Bool → Int → List (S60) → Int → Int → Int → Int → List (S60) → List (S64) → Option (Bool)
  | 0, _, _, _, _, _, _, _, _, _ => none
  | k + 1, x20, x289000, x289001, x290000, x290001, x290002, x290003, x290004, x290005 => if x20 = true then (some true) else ((feed_Take.f k x289000 x289001 x290000 x290001 x290002 x290003 x290004 x290005).bind fun bt292 => ((chalklineref35_Take.f k x289000 x289001 x290000 x290001 x290002 x290003 x290004 x290005).bind fun bt298 => ((chalklineref35_Clients.f k bt292.1 bt292.2.1 bt298.1 bt298.2.1).bind fun t304 => (if t304 = true then (some (bt292.2.2 == bt298.2.2)) else (some false)))))
def chalklinelaw35_FeedTakes.f (k : Nat) (a0_0 : Int) (l0_1 : List (S60)) (a1_0 : Int) (a1_1 : Int) (a1_2 : Int) (a1_3 : Int) (l1_4 : List (S60)) (l1_5 : List (S64)) : Option (Bool) := (chalklinelaw35_live.f).bind fun t290 => (if t290 = true then (if (l0_1.length : Int) > 70 then (chalklinelaw35_FeedTakes.j0 k true a0_0 l0_1 a1_0 a1_1 a1_2 a1_3 l1_4 l1_5) else ((chalklinelaw35_fewMsg.f a1_0 a1_1 a1_2 a1_3 l1_4 l1_5).bind fun t291 => (chalklinelaw35_FeedTakes.j0 k (!t291) a0_0 l0_1 a1_0 a1_1 a1_2 a1_3 l1_4 l1_5))) else (some false))
set_option maxHeartbeats 8000000 in
set_option maxRecDepth 100000 in
theorem chalklinelaw35_FeedTakes.calls (k : Nat) (a0_0 : Int) (A0_1 : Option Addr) (c0_1 : Nat) (l0_1 : List (S60)) (a1_0 : Int) (a1_1 : Int) (a1_2 : Int) (a1_3 : Int) (A1_4 : Option Addr) (c1_4 : Nat) (l1_4 : List (S60)) (A1_5 : Option Addr) (c1_5 : Nat) (l1_5 : List (S64)) (r : Bool) (w : World) (hr0_1 : Kd.C k60 w A0_1 l0_1.length l0_1) (hc0_1 : l0_1.length ≤ c0_1) (hr1_4 : Kd.C k60 w A1_4 l1_4.length l1_4) (hc1_4 : l1_4.length ≤ c1_4) (hr1_5 : Kd.C k64 w A1_5 l1_5.length l1_5) (hc1_5 : l1_5.length ≤ c1_5) (h : chalklinelaw35_FeedTakes.f k a0_0 l0_1 a1_0 a1_1 a1_2 a1_3 l1_4 l1_5 = some r) :
    Calls Try.prog 4 #[.agg #[.int .i64 a0_0, .slice A0_1 l0_1.length c0_1], .agg #[.int .i64 a1_0, .int .i64 a1_1, .int .i64 a1_2, .int .i64 a1_3, .slice A1_4 l1_4.length c1_4, .slice A1_5 l1_5.length c1_5]] w fun e w' => e = .returned (.bool r) ∧ Below w.heap.size w w' := by
  have hu27 := Try.underlying27
  have hu32 := Try.underlying32
  have HR0_1 := Aside0.mk hr0_1
  have HC0_1 := Aside0.mk hc0_1
  clear hr0_1 hc0_1
  have HR1_4 := Aside0.mk hr1_4
  have HC1_4 := Aside0.mk hc1_4
  clear hr1_4 hc1_4
  have HR1_5 := Aside0.mk hr1_5
  have HC1_5 := Aside0.mk hc1_5
  clear hr1_5 hc1_5
  have HB := Aside0.mk (Below.refl w.heap.size w)
  have H : ((chalklinelaw35_live.f).bind fun t290 => (if t290 = true then (if (l0_1.length : Int) > 70 then (chalklinelaw35_FeedTakes.j0 k true a0_0 l0_1 a1_0 a1_1 a1_2 a1_3 l1_4 l1_5) else ((chalklinelaw35_fewMsg.f a1_0 a1_1 a1_2 a1_3 l1_4 l1_5).bind fun t291 => (chalklinelaw35_FeedTakes.j0 k (!t291) a0_0 l0_1 a1_0 a1_1 a1_2 a1_3 l1_4 l1_5))) else (some false))) = some r := h
  clear h
  replace H := Option.bind_eq_some_iff.mp H
  obtain ⟨t290, A30, H⟩ := H
  replace H : (if t290 = true then (if (l0_1.length : Int) > 70 then (chalklinelaw35_FeedTakes.j0 k true a0_0 l0_1 a1_0 a1_1 a1_2 a1_3 l1_4 l1_5) else ((chalklinelaw35_fewMsg.f a1_0 a1_1 a1_2 a1_3 l1_4 l1_5).bind fun t291 => (chalklinelaw35_FeedTakes.j0 k (!t291) a0_0 l0_1 a1_0 a1_1 a1_2 a1_3 l1_4 l1_5))) else (some false)) = some r := H
  have A3 := Aside0.mk A30
  clear A30
  by_cases c4 : t290 = true
  · subst c4
    have H1 : (if (l0_1.length : Int) > 70 then (chalklinelaw35_FeedTakes.j0 k true a0_0 l0_1 a1_0 a1_1 a1_2 a1_3 l1_4 l1_5) else ((chalklinelaw35_fewMsg.f a1_0 a1_1 a1_2 a1_3 l1_4 l1_5).bind fun t291 => (chalklinelaw35_FeedTakes.j0 k (!t291) a0_0 l0_1 a1_0 a1_1 a1_2 a1_3 l1_4 l1_5))) = some r := by rw [if_pos rfl] at H; exact H
    clear H
    have H := H1
    clear H1
    have HC5 := Aside0.mk H
    clear H
    go_enter Try.func4, Try.ntmps4
    go_upto_region 3 with (first | ((with_reducible refine gate_dst (N := 2) rfl ?_); refine box_event ?hg (N := 2) ?hd (cs := #[.int .i64 a0_0, .slice A0_1 l0_1.length c0_1]) (t := 27) ?hr ?_; (case hd => rfl); (case hg => rfl); (case hr => first | (go_simp; done) | (go_simp; rfl)); intro gb288 hg w6 hbox hb; have n0_ := Aside0.mk (below_step (by repeat (first | (with_reducible first | exact HB.out | apply below_alloc | apply pw_below_drewN | apply below_drew1) | exact HB.out)) hb); have n1_ := Aside0.mk (hbox); have n2_ := Aside0.mk ((by rw [hg]; exact (below_size (by repeat (first | (with_reducible first | exact HB.out | apply below_alloc | apply pw_below_drewN | apply below_drew1) | exact HB.out))) : w.heap.size ≤ gb288)); have n3_ := Aside0.mk ((by rw [hg]; exact (below_size (by repeat (first | (with_reducible first | exact HB.out | apply below_alloc | apply pw_below_drewN | apply below_drew1) | exact HB.out))) : w.heap.size ≤ gb288)); clear HB; have HB := n0_; have BK288 := n1_; have GW288 := n2_; have GE288 := n3_; clear n0_ n1_ n2_ n3_; clear hb hbox hg) | ((with_reducible refine gate_dst (N := 3) rfl ?_); refine box_event ?hg (N := 3) ?hd (cs := #[.int .i64 a1_0, .int .i64 a1_1, .int .i64 a1_2, .int .i64 a1_3, .slice A1_4 l1_4.length c1_4, .slice A1_5 l1_5.length c1_5]) (t := 32) ?hr ?_; (case hd => rfl); (case hg => rfl); (case hr => first | (go_simp; done) | (go_simp; rfl)); intro gb289 hg w7 hbox hb; have n0_ := Aside0.mk (blk_below (g := gb288) (o := .cells #[.int .i64 a0_0, .slice A0_1 l0_1.length c0_1] 27 (0, 0)) (by (with_reducible repeat (first | refine blk_drewN ?_ _ | refine blk_drew ?_ | refine blk_alloc ?_ _)); exact BK288.out) hb); have n1_ := Aside0.mk (below_step (by repeat (first | (with_reducible first | exact HB.out | apply below_alloc | apply pw_below_drewN | apply below_drew1 | refine below_set ?_ GE288.out) | exact HB.out)) hb); have n2_ := Aside0.mk (hbox); have n3_ := Aside0.mk ((by rw [hg]; exact (below_size (by repeat (first | (with_reducible first | exact HB.out | apply below_alloc | apply pw_below_drewN | apply below_drew1 | refine below_set ?_ GE288.out) | exact HB.out))) : w.heap.size ≤ gb289)); have n4_ := Aside0.mk ((by rw [hg]; exact (below_size (by repeat (first | (with_reducible first | exact HB.out | apply below_alloc | apply pw_below_drewN | apply below_drew1 | refine below_set ?_ GE288.out) | exact HB.out))) : w.heap.size ≤ gb289)); have n5_ := Aside0.mk ((by rw [hg]; exact Nat.ne_of_lt (blk_lt (g := gb288) (o := .cells #[.int .i64 a0_0, .slice A0_1 l0_1.length c0_1] 27 (0, 0)) (by (with_reducible repeat (first | refine blk_drewN ?_ _ | refine blk_drew ?_ | refine blk_alloc ?_ _)); exact BK288.out)) : gb288 ≠ gb289)); have n6_ := Aside0.mk ((by rw [hg]; exact Nat.ne_of_gt (blk_lt (g := gb288) (o := .cells #[.int .i64 a0_0, .slice A0_1 l0_1.length c0_1] 27 (0, 0)) (by (with_reducible repeat (first | refine blk_drewN ?_ _ | refine blk_drew ?_ | refine blk_alloc ?_ _)); exact BK288.out)) : gb289 ≠ gb288)); clear BK288; clear HB; have BK288 := n0_; have HB := n1_; have BK289 := n2_; have GW289 := n3_; have GE289 := n4_; have NB288_289 := n5_; have NB289_288 := n6_; clear n0_ n1_ n2_ n3_ n4_ n5_ n6_; clear hb hbox hg) | ((with_reducible refine gate_callee (f := 11) rfl ?_); refine goesL_ (some 9) rfl rfl Try.func11 (by kernel_rfl) rfl #[] rfl (by (try simp only [List.map_toArray, List.map_cons, List.map_nil]); first | done | rfl | (simp only [List.length_drop, List.length_take]; rfl)) ?_; (with_reducible refine (chalklinelaw35_live.calls  true _ A3.out).mono ?_); rintro e w8 ⟨rfl, hb⟩; refine ⟨_, rfl, ?_⟩; have n0_ := Aside0.mk (blk_below (g := gb288) (o := .cells #[.int .i64 a0_0, .slice A0_1 l0_1.length c0_1] 27 (0, 0)) (by (with_reducible repeat (first | refine blk_drewN ?_ _ | refine blk_drew ?_ | refine blk_alloc ?_ _)); exact BK288.out) hb); have n1_ := Aside0.mk (blk_below (g := gb289) (o := .cells #[.int .i64 a1_0, .int .i64 a1_1, .int .i64 a1_2, .int .i64 a1_3, .slice A1_4 l1_4.length c1_4, .slice A1_5 l1_5.length c1_5] 32 (0, 0)) (by (with_reducible repeat (first | refine blk_drewN ?_ _ | refine blk_drew ?_ | refine blk_alloc ?_ _)); exact BK289.out) hb); have n2_ := Aside0.mk (below_step (by repeat (first | (with_reducible first | exact HB.out | apply below_alloc | apply pw_below_drewN | apply below_drew1 | refine below_set ?_ GE288.out | refine below_set ?_ GE289.out) | exact HB.out)) hb); clear BK288; clear BK289; clear HB; have BK288 := n0_; have BK289 := n1_; have HB := n2_; clear n0_ n1_ n2_; (try clear hb); (try clear hb2); (try clear hk); (try clear hi)))
    (try simp only [Act.put, List.setIfInBounds_toArray, List.set_cons_zero, List.set_cons_succ])
    go_cut [20] (fun v20 wc => ∃ (kq : Nat) (x20_4 : Bool), v20 = .bool x20_4 ∧ Aside0 (chalklinelaw35_FeedTakes.j0 kq x20_4 a0_0 l0_1 a1_0 a1_1 a1_2 a1_3 l1_4 l1_5 = some r) ∧ Aside0 (kq ≤ k) ∧ Aside0 (wc.heap[gb288]? = some (.cells #[.int .i64 a0_0, (.slice A0_1 l0_1.length c0_1)] 27 (0, 0))) ∧ Aside0 (wc.heap[gb289]? = some (.cells #[.int .i64 a1_0, .int .i64 a1_1, .int .i64 a1_2, .int .i64 a1_3, (.slice A1_4 l1_4.length c1_4), (.slice A1_5 l1_5.length c1_5)] 32 (0, 0))) ∧ Aside0 (Below w.heap.size w wc))
    case first =>
      have H := HC5.out
      clear HC5
      by_cases c9 : (l0_1.length : Int) > 70
      · rw [if_pos c9] at H
        have c9b0 : decide (70 < (l0_1.length : Int)) = true := decide_eq_true c9
        have c9b1 : decide (70 < l0_1.length) = true := decide_eq_true (by omega)
        clear c9
        (first | rw [c9b0] | (simp only [i64_w, i32_w]; rw [c9b0]) | skip)
        have H' := Aside0.mk H
        clear H
        have hnb10 := NB288_289.out
        have hnc10 := NB289_288.out
        have hcz11_0 : w8.cell? ⟨gb288, 0, none⟩ = some (.int .i64 a0_0) := (blk_cell BK288.out 0).trans rfl
        have hcz11_1 : w8.cell? ⟨gb288, 1, none⟩ = some (.slice A0_1 l0_1.length c0_1) := (blk_cell BK288.out 1).trans rfl
        have hfz11_0 := blk_frozen BK288.out 0
        have hfz11_1 := blk_frozen BK288.out 1
        go_wp2
        go_meet
        case rel => exact ⟨_, (true), (by first | rfl | (simp; done) | (simp [*]; done)), H', ⟨by first | omega | exact Nat.le_refl _⟩, ⟨by (with_reducible repeat (first | refine blk_drewN ?_ _ | refine blk_drew ?_ | refine blk_alloc ?_ _)); exact BK288.out⟩, ⟨by (with_reducible repeat (first | refine blk_drewN ?_ _ | refine blk_drew ?_ | refine blk_alloc ?_ _)); exact BK289.out⟩, ⟨by repeat (first | (with_reducible first | exact HB.out | apply below_alloc | apply pw_below_drewN | apply below_drew1 | refine below_set ?_ GE288.out | refine below_set ?_ GE289.out) | exact HB.out)⟩⟩
      · rw [if_neg c9] at H
        have c9b0 : decide (70 < (l0_1.length : Int)) = false := decide_eq_false c9
        have c9b1 : decide (70 < l0_1.length) = false := decide_eq_false (by omega)
        clear c9
        (first | rw [c9b0] | (simp only [i64_w, i32_w]; rw [c9b0]) | skip)
        replace H := Option.bind_eq_some_iff.mp H
        obtain ⟨t291, A120, H⟩ := H
        replace H : (chalklinelaw35_FeedTakes.j0 k (!t291) a0_0 l0_1 a1_0 a1_1 a1_2 a1_3 l1_4 l1_5) = some r := H
        have A12 := Aside0.mk A120
        clear A120
        have H' := Aside0.mk H
        clear H
        have hnb13 := NB288_289.out
        have hnc13 := NB289_288.out
        have hcz14_0 : w8.cell? ⟨gb288, 0, none⟩ = some (.int .i64 a0_0) := (blk_cell BK288.out 0).trans rfl
        have hcz14_1 : w8.cell? ⟨gb288, 1, none⟩ = some (.slice A0_1 l0_1.length c0_1) := (blk_cell BK288.out 1).trans rfl
        have hfz14_0 := blk_frozen BK288.out 0
        have hfz14_1 := blk_frozen BK288.out 1
        have hcz15_0 : w8.cell? ⟨gb289, 0, none⟩ = some (.int .i64 a1_0) := (blk_cell BK289.out 0).trans rfl
        have hcz15_1 : w8.cell? ⟨gb289, 1, none⟩ = some (.int .i64 a1_1) := (blk_cell BK289.out 1).trans rfl
        have hcz15_2 : w8.cell? ⟨gb289, 2, none⟩ = some (.int .i64 a1_2) := (blk_cell BK289.out 2).trans rfl
        have hcz15_3 : w8.cell? ⟨gb289, 3, none⟩ = some (.int .i64 a1_3) := (blk_cell BK289.out 3).trans rfl
        have hcz15_4 : w8.cell? ⟨gb289, 4, none⟩ = some (.slice A1_4 l1_4.length c1_4) := (blk_cell BK289.out 4).trans rfl
        have hcz15_5 : w8.cell? ⟨gb289, 5, none⟩ = some (.slice A1_5 l1_5.length c1_5) := (blk_cell BK289.out 5).trans rfl
        have hfz15_0 := blk_frozen BK289.out 0
        have hfz15_1 := blk_frozen BK289.out 1
        have hfz15_2 := blk_frozen BK289.out 2
        have hfz15_3 := blk_frozen BK289.out 3
        have hfz15_4 := blk_frozen BK289.out 4
        have hfz15_5 := blk_frozen BK289.out 5
        go_wp2_with (first | (go_at_call 20; (with_reducible refine (chalklinelaw35_fewMsg.calls a1_0 a1_1 a1_2 a1_3 _ _ l1_4 _ _ l1_5 t291 _ ?side1 ?side2 ?side3 ?side4 A12.out).mono ?_); (case side1 => repeat (first | exact (Kd.C_below HR1_4.out HB.out) | (with_reducible refine Kd.C_alloc ?_ _) | (with_reducible refine Kd.C_drewN ?_ _) | (with_reducible refine Kd.C_drew ?_))); (case side2 => exact HC1_4.out); (case side3 => repeat (first | exact (Kd.C_below HR1_5.out HB.out) | (with_reducible refine Kd.C_alloc ?_ _) | (with_reducible refine Kd.C_drewN ?_ _) | (with_reducible refine Kd.C_drew ?_))); (case side4 => exact HC1_5.out); rintro e w16 ⟨rfl, hb⟩; have n0_ := Aside0.mk (blk_below (g := gb288) (o := .cells #[.int .i64 a0_0, .slice A0_1 l0_1.length c0_1] 27 (0, 0)) (by (with_reducible repeat (first | refine blk_drewN ?_ _ | refine blk_drew ?_ | refine blk_alloc ?_ _)); exact BK288.out) hb); have n1_ := Aside0.mk (blk_below (g := gb289) (o := .cells #[.int .i64 a1_0, .int .i64 a1_1, .int .i64 a1_2, .int .i64 a1_3, .slice A1_4 l1_4.length c1_4, .slice A1_5 l1_5.length c1_5] 32 (0, 0)) (by (with_reducible repeat (first | refine blk_drewN ?_ _ | refine blk_drew ?_ | refine blk_alloc ?_ _)); exact BK289.out) hb); have n2_ := Aside0.mk (below_step (by repeat (first | (with_reducible first | exact HB.out | apply below_alloc | apply pw_below_drewN | apply below_drew1 | refine below_set ?_ GE288.out | refine below_set ?_ GE289.out) | exact HB.out)) hb); clear BK288; clear BK289; clear HB; have BK288 := n0_; have BK289 := n1_; have HB := n2_; clear n0_ n1_ n2_; (try clear hb); (try clear hb2); (try clear hk); (try clear hi)))
        go_meet
        case rel => exact ⟨_, (!t291), (by first | rfl | (simp; done) | (simp [*]; done)), H', ⟨by first | omega | exact Nat.le_refl _⟩, ⟨by (with_reducible repeat (first | refine blk_drewN ?_ _ | refine blk_drew ?_ | refine blk_alloc ?_ _)); exact BK288.out⟩, ⟨by (with_reducible repeat (first | refine blk_drewN ?_ _ | refine blk_drew ?_ | refine blk_alloc ?_ _)); exact BK289.out⟩, ⟨by repeat (first | (with_reducible first | exact HB.out | apply below_alloc | apply pw_below_drewN | apply below_drew1 | refine below_set ?_ GE288.out | refine below_set ?_ GE289.out) | exact HB.out)⟩⟩
    case rest =>
      clear HC5
      try clear c1
      try clear p2
      try clear c4
      try clear c9
      try clear c9b0
      try clear c9b1
      try clear c10
      try clear c11
      try clear c13
      try clear hcz11_0
      try clear hcz11_1
      try clear hcz14_0
      try clear hcz14_1
      try clear hcz15_0
      try clear hcz15_1
      try clear hcz15_2
      try clear hcz15_3
      try clear hcz15_4
      try clear hcz15_5
      try clear hfz11_0
      try clear hfz11_1
      try clear hfz14_0
      try clear hfz14_1
      try clear hfz15_0
      try clear hfz15_1
      try clear hfz15_2
      try clear hfz15_3
      try clear hfz15_4
      try clear hfz15_5
      obtain ⟨kq, x20_4, rfl, HA, HJ4, BK288, BK289, HB⟩ := hcut
      cases kq with
      | zero => exact absurd HA.out (by simp [chalklinelaw35_FeedTakes.j0])
      | succ kj4 =>
        have H := HA.out
        clear HA
        simp only [chalklinelaw35_FeedTakes.j0] at H
        by_cases c17 : x20_4 = true
        · subst c17
          have H1 : (some true) = some r := by rw [if_pos rfl] at H; exact H
          clear H
          have H := H1
          clear H1
          obtain rfl := Option.some.inj H
          go_wp2
          go_ret
          exact ⟨by first | rfl | (simp [errW_none, errW_some] <;> rfl) | (simp [*, errW_none, errW_some] <;> rfl), by repeat (first | (with_reducible first | exact HB.out | apply below_alloc | apply pw_below_drewN | apply below_drew1 | refine below_set ?_ GE288.out | refine below_set ?_ GE289.out) | exact HB.out)⟩
        · replace c17 := Bool.eq_false_iff.mpr c17
          subst c17
          have H1 : ((feed_Take.f kj4 a0_0 l0_1 a1_0 a1_1 a1_2 a1_3 l1_4 l1_5).bind fun bt292 => ((chalklineref35_Take.f kj4 a0_0 l0_1 a1_0 a1_1 a1_2 a1_3 l1_4 l1_5).bind fun bt298 => ((chalklineref35_Clients.f kj4 bt292.1 bt292.2.1 bt298.1 bt298.2.1).bind fun t304 => (if t304 = true then (some (bt292.2.2 == bt298.2.2)) else (some false))))) = some r := by rw [if_neg (show ¬ (false = true) by decide)] at H; exact H
          clear H
          have H := H1
          clear H1
          replace H := Option.bind_eq_some_iff.mp H
          obtain ⟨⟨t292, t293, t296⟩, A180, H⟩ := H
          replace H : ((chalklineref35_Take.f kj4 a0_0 l0_1 a1_0 a1_1 a1_2 a1_3 l1_4 l1_5).bind fun bt298 => ((chalklineref35_Clients.f kj4 t292 t293 bt298.1 bt298.2.1).bind fun t304 => (if t304 = true then (some (t296 == bt298.2.2)) else (some false)))) = some r := H
          have A18 := Aside0.mk A180
          clear A180
          replace H := Option.bind_eq_some_iff.mp H
          obtain ⟨⟨t298, t299, t302⟩, A190, H⟩ := H
          replace H : ((chalklineref35_Clients.f kj4 t292 t293 t298 t299).bind fun t304 => (if t304 = true then (some (t296 == t302)) else (some false))) = some r := H
          have A19 := Aside0.mk A190
          clear A190
          replace H := Option.bind_eq_some_iff.mp H
          obtain ⟨t304, A200, H⟩ := H
          replace H : (if t304 = true then (some (t296 == t302)) else (some false)) = some r := H
          have A20 := Aside0.mk A200
          clear A200
          by_cases c21 : t304 = true
          · subst c21
            have H1 : (some (t296 == t302)) = some r := by rw [if_pos rfl] at H; exact H
            clear H
            have H := H1
            clear H1
            obtain rfl := Option.some.inj H
            have hnb22 := NB288_289.out
            have hnc22 := NB289_288.out
            have hcz23_0 : wc.cell? ⟨gb288, 0, none⟩ = some (.int .i64 a0_0) := (blk_cell BK288.out 0).trans rfl
            have hcz23_1 : wc.cell? ⟨gb288, 1, none⟩ = some (.slice A0_1 l0_1.length c0_1) := (blk_cell BK288.out 1).trans rfl
            have hfz23_0 := blk_frozen BK288.out 0
            have hfz23_1 := blk_frozen BK288.out 1
            have hcz24_0 : wc.cell? ⟨gb289, 0, none⟩ = some (.int .i64 a1_0) := (blk_cell BK289.out 0).trans rfl
            have hcz24_1 : wc.cell? ⟨gb289, 1, none⟩ = some (.int .i64 a1_1) := (blk_cell BK289.out 1).trans rfl
            have hcz24_2 : wc.cell? ⟨gb289, 2, none⟩ = some (.int .i64 a1_2) := (blk_cell BK289.out 2).trans rfl
            have hcz24_3 : wc.cell? ⟨gb289, 3, none⟩ = some (.int .i64 a1_3) := (blk_cell BK289.out 3).trans rfl
            have hcz24_4 : wc.cell? ⟨gb289, 4, none⟩ = some (.slice A1_4 l1_4.length c1_4) := (blk_cell BK289.out 4).trans rfl
            have hcz24_5 : wc.cell? ⟨gb289, 5, none⟩ = some (.slice A1_5 l1_5.length c1_5) := (blk_cell BK289.out 5).trans rfl
            have hfz24_0 := blk_frozen BK289.out 0
            have hfz24_1 := blk_frozen BK289.out 1
            have hfz24_2 := blk_frozen BK289.out 2
            have hfz24_3 := blk_frozen BK289.out 3
            have hfz24_4 := blk_frozen BK289.out 4
            have hfz24_5 := blk_frozen BK289.out 5
            go_wp2_with (first | ((with_reducible refine gate_callee (f := 21) rfl ?_); refine goesL_ (some 24) rfl rfl Try.func21 (by kernel_rfl) rfl #[.agg #[.int .i64 a0_0, .slice A0_1 l0_1.length c0_1], .agg #[.int .i64 a1_0, .int .i64 a1_1, .int .i64 a1_2, .int .i64 a1_3, .slice A1_4 l1_4.length c1_4, .slice A1_5 l1_5.length c1_5]] rfl (by (try simp only [List.map_toArray, List.map_cons, List.map_nil]); first | done | rfl | (simp only [List.length_drop, List.length_take]; rfl)) ?_; (with_reducible refine (feed_Take.calls kj4 a0_0 _ _ l0_1 a1_0 a1_1 a1_2 a1_3 _ _ l1_4 _ _ l1_5 t292 t293 t296 _ ?side1 ?side2 ?side3 ?side4 ?side5 ?side6 A18.out).mono ?_); (case side1 => repeat (first | exact (Kd.C_below HR0_1.out HB.out) | (with_reducible refine Kd.C_alloc ?_ _) | (with_reducible refine Kd.C_drewN ?_ _) | (with_reducible refine Kd.C_drew ?_))); (case side2 => exact HC0_1.out); (case side3 => repeat (first | exact (Kd.C_below HR1_4.out HB.out) | (with_reducible refine Kd.C_alloc ?_ _) | (with_reducible refine Kd.C_drewN ?_ _) | (with_reducible refine Kd.C_drew ?_))); (case side4 => exact HC1_4.out); (case side5 => repeat (first | exact (Kd.C_below HR1_5.out HB.out) | (with_reducible refine Kd.C_alloc ?_ _) | (with_reducible refine Kd.C_drewN ?_ _) | (with_reducible refine Kd.C_drew ?_))); (case side6 => exact HC1_5.out); rintro e w25 ⟨v294, rfl, ho0, hb⟩; refine ⟨_, rfl, ?_⟩; have n0_ := Aside0.mk (Kd.R_lower ho0 (below_size (by repeat (first | (with_reducible first | exact HB.out | apply below_alloc | apply pw_below_drewN | apply below_drew1 | refine below_set ?_ GE288.out | refine below_set ?_ GE289.out) | exact HB.out)))); have n1_ := Aside0.mk (blk_below (g := gb288) (o := .cells #[.int .i64 a0_0, .slice A0_1 l0_1.length c0_1] 27 (0, 0)) (by (with_reducible repeat (first | refine blk_drewN ?_ _ | refine blk_drew ?_ | refine blk_alloc ?_ _)); exact BK288.out) hb); have n2_ := Aside0.mk (blk_below (g := gb289) (o := .cells #[.int .i64 a1_0, .int .i64 a1_1, .int .i64 a1_2, .int .i64 a1_3, .slice A1_4 l1_4.length c1_4, .slice A1_5 l1_5.length c1_5] 32 (0, 0)) (by (with_reducible repeat (first | refine blk_drewN ?_ _ | refine blk_drew ?_ | refine blk_alloc ?_ _)); exact BK289.out) hb); have n3_ := Aside0.mk (below_step (by repeat (first | (with_reducible first | exact HB.out | apply below_alloc | apply pw_below_drewN | apply below_drew1 | refine below_set ?_ GE288.out | refine below_set ?_ GE289.out) | exact HB.out)) hb); clear BK288; clear BK289; clear HB; have HO295 := n0_; have BK288 := n1_; have BK289 := n2_; have HB := n3_; clear n0_ n1_ n2_ n3_; (try clear hb); (try clear hb2); (try clear hk); (try clear hi); (try clear ho0)) | ((with_reducible refine gate_dst (N := 5) rfl ?_); refine box_event ?hg (N := 5) ?hd (cs := #[.int .i64 0, .slice none 0 0]) (t := 27) ?hr ?_; (case hd => rfl); (case hg => rfl); (case hr => first | (go_simp; done) | (go_simp; rfl)); intro gb297 hg w26 hbox hb; have n0_ := Aside0.mk (Kd.R_below (by (with_reducible repeat (first | apply Kd.R_alloc | apply Kd.R_drewN | apply Kd.R_drew)); exact HO295.out) hb); have n1_ := Aside0.mk (blk_below (g := gb288) (o := .cells #[.int .i64 a0_0, .slice A0_1 l0_1.length c0_1] 27 (0, 0)) (by (with_reducible repeat (first | refine blk_drewN ?_ _ | refine blk_drew ?_ | refine blk_alloc ?_ _)); exact BK288.out) hb); have n2_ := Aside0.mk (blk_below (g := gb289) (o := .cells #[.int .i64 a1_0, .int .i64 a1_1, .int .i64 a1_2, .int .i64 a1_3, .slice A1_4 l1_4.length c1_4, .slice A1_5 l1_5.length c1_5] 32 (0, 0)) (by (with_reducible repeat (first | refine blk_drewN ?_ _ | refine blk_drew ?_ | refine blk_alloc ?_ _)); exact BK289.out) hb); have n3_ := Aside0.mk (below_step (by repeat (first | (with_reducible first | exact HB.out | apply below_alloc | apply pw_below_drewN | apply below_drew1 | refine below_set ?_ GE288.out | refine below_set ?_ GE289.out) | exact HB.out)) hb); have n4_ := Aside0.mk (hbox); have n5_ := Aside0.mk ((by rw [hg]; exact (below_size (by repeat (first | (with_reducible first | exact HB.out | apply below_alloc | apply pw_below_drewN | apply below_drew1 | refine below_set ?_ GE288.out | refine below_set ?_ GE289.out) | exact HB.out))) : w.heap.size ≤ gb297)); have n6_ := Aside0.mk ((by rw [hg]; exact (below_size (by repeat (first | (with_reducible first | exact HB.out | apply below_alloc | apply pw_below_drewN | apply below_drew1 | refine below_set ?_ GE288.out | refine below_set ?_ GE289.out) | exact HB.out))) : w.heap.size ≤ gb297)); have n7_ := Aside0.mk ((by rw [hg]; exact Nat.ne_of_lt (blk_lt (g := gb288) (o := .cells #[.int .i64 a0_0, .slice A0_1 l0_1.length c0_1] 27 (0, 0)) (by (with_reducible repeat (first | refine blk_drewN ?_ _ | refine blk_drew ?_ | refine blk_alloc ?_ _)); exact BK288.out)) : gb288 ≠ gb297)); have n8_ := Aside0.mk ((by rw [hg]; exact Nat.ne_of_gt (blk_lt (g := gb288) (o := .cells #[.int .i64 a0_0, .slice A0_1 l0_1.length c0_1] 27 (0, 0)) (by (with_reducible repeat (first | refine blk_drewN ?_ _ | refine blk_drew ?_ | refine blk_alloc ?_ _)); exact BK288.out)) : gb297 ≠ gb288)); have n9_ := Aside0.mk ((by rw [hg]; exact Nat.ne_of_lt (blk_lt (g := gb289) (o := .cells #[.int .i64 a1_0, .int .i64 a1_1, .int .i64 a1_2, .int .i64 a1_3, .slice A1_4 l1_4.length c1_4, .slice A1_5 l1_5.length c1_5] 32 (0, 0)) (by (with_reducible repeat (first | refine blk_drewN ?_ _ | refine blk_drew ?_ | refine blk_alloc ?_ _)); exact BK289.out)) : gb289 ≠ gb297)); have n10_ := Aside0.mk ((by rw [hg]; exact Nat.ne_of_gt (blk_lt (g := gb289) (o := .cells #[.int .i64 a1_0, .int .i64 a1_1, .int .i64 a1_2, .int .i64 a1_3, .slice A1_4 l1_4.length c1_4, .slice A1_5 l1_5.length c1_5] 32 (0, 0)) (by (with_reducible repeat (first | refine blk_drewN ?_ _ | refine blk_drew ?_ | refine blk_alloc ?_ _)); exact BK289.out)) : gb297 ≠ gb289)); clear HO295; clear BK288; clear BK289; clear HB; have HO295 := n0_; have BK288 := n1_; have BK289 := n2_; have HB := n3_; have BK297 := n4_; have GW297 := n5_; have GE297 := n6_; have NB288_297 := n7_; have NB297_288 := n8_; have NB289_297 := n9_; have NB297_289 := n10_; clear n0_ n1_ n2_ n3_ n4_ n5_ n6_ n7_ n8_ n9_ n10_; clear hb hbox hg; have hnb27 := NB297_288.out; have hnc27 := NB288_297.out; have hnb28 := NB297_289.out; have hnc28 := NB289_297.out; have hcz29_0 : w26.cell? ⟨gb297, 0, none⟩ = some (.int .i64 0) := (blk_cell BK297.out 0).trans rfl; have hcz29_1 : w26.cell? ⟨gb297, 1, none⟩ = some (.slice none 0 0) := (blk_cell BK297.out 1).trans rfl; have hfz29_0 := blk_frozen BK297.out 0; have hfz29_1 := blk_frozen BK297.out 1; obtain ⟨Ao30, co30, eo30⟩ := Kd.R_slice HO295.out; subst eo30; have hcz31_0 : w26.cell? ⟨gb288, 0, none⟩ = some (.int .i64 a0_0) := (blk_cell BK288.out 0).trans rfl; have hcz31_1 : w26.cell? ⟨gb288, 1, none⟩ = some (.slice A0_1 l0_1.length c0_1) := (blk_cell BK288.out 1).trans rfl; have hfz31_0 := blk_frozen BK288.out 0; have hfz31_1 := blk_frozen BK288.out 1; have hcz32_0 : w26.cell? ⟨gb289, 0, none⟩ = some (.int .i64 a1_0) := (blk_cell BK289.out 0).trans rfl; have hcz32_1 : w26.cell? ⟨gb289, 1, none⟩ = some (.int .i64 a1_1) := (blk_cell BK289.out 1).trans rfl; have hcz32_2 : w26.cell? ⟨gb289, 2, none⟩ = some (.int .i64 a1_2) := (blk_cell BK289.out 2).trans rfl; have hcz32_3 : w26.cell? ⟨gb289, 3, none⟩ = some (.int .i64 a1_3) := (blk_cell BK289.out 3).trans rfl; have hcz32_4 : w26.cell? ⟨gb289, 4, none⟩ = some (.slice A1_4 l1_4.length c1_4) := (blk_cell BK289.out 4).trans rfl; have hcz32_5 : w26.cell? ⟨gb289, 5, none⟩ = some (.slice A1_5 l1_5.length c1_5) := (blk_cell BK289.out 5).trans rfl; have hfz32_0 := blk_frozen BK289.out 0; have hfz32_1 := blk_frozen BK289.out 1; have hfz32_2 := blk_frozen BK289.out 2; have hfz32_3 := blk_frozen BK289.out 3; have hfz32_4 := blk_frozen BK289.out 4; have hfz32_5 := blk_frozen BK289.out 5) | ((with_reducible refine gate_callee (f := 22) rfl ?_); refine goesL_ (some 30) rfl rfl Try.func22 (by kernel_rfl) rfl #[.agg #[.int .i64 a0_0, .slice A0_1 l0_1.length c0_1], .agg #[.int .i64 a1_0, .int .i64 a1_1, .int .i64 a1_2, .int .i64 a1_3, .slice A1_4 l1_4.length c1_4, .slice A1_5 l1_5.length c1_5]] rfl (by (try simp only [List.map_toArray, List.map_cons, List.map_nil]); first | done | rfl | (simp only [List.length_drop, List.length_take]; rfl)) ?_; (with_reducible refine (chalklineref35_Take.calls kj4 a0_0 _ _ l0_1 a1_0 a1_1 a1_2 a1_3 _ _ l1_4 _ _ l1_5 t298 t299 t302 _ ?side1 ?side2 ?side3 ?side4 ?side5 ?side6 A19.out).mono ?_); (case side1 => exact Kd.C_below HR0_1.out (by repeat (first | (with_reducible first | exact HB.out | apply below_alloc | apply pw_below_drewN | apply below_drew1 | refine below_set ?_ GE288.out | refine below_set ?_ GE289.out | refine below_set ?_ GE297.out) | exact HB.out))); (case side2 => exact HC0_1.out); (case side3 => exact Kd.C_below HR1_4.out (by repeat (first | (with_reducible first | exact HB.out | apply below_alloc | apply pw_below_drewN | apply below_drew1 | refine below_set ?_ GE288.out | refine below_set ?_ GE289.out | refine below_set ?_ GE297.out) | exact HB.out))); (case side4 => exact HC1_4.out); (case side5 => exact Kd.C_below HR1_5.out (by repeat (first | (with_reducible first | exact HB.out | apply below_alloc | apply pw_below_drewN | apply below_drew1 | refine below_set ?_ GE288.out | refine below_set ?_ GE289.out | refine below_set ?_ GE297.out) | exact HB.out))); (case side6 => exact HC1_5.out); rintro e w33 ⟨v300, rfl, ho0, hb⟩; refine ⟨_, rfl, ?_⟩; have n0_ := Aside0.mk (Kd.R_elder' (by (with_reducible repeat (first | apply Kd.R_alloc | apply Kd.R_drewN | apply Kd.R_drew)); exact (Kd.R_mono (Kd.R_far (p := ⟨gb297, 1, none⟩) (Kd.R_far (p := ⟨gb297, 0, none⟩) (Kd.R_types HO295.out BK297.out (by decide)) (fun _ hk => hk.2) (.int .i64 t292)) (fun _ hk => hk.2) (.slice Ao30 t293.length co30)) (fun _ h_ => h_.1))) (Kd.R_base ho0) hb); have n1_ := Aside0.mk (Kd.R_lower (Kd.R_new' ho0 (Kd.R_lt (by (with_reducible repeat (first | apply Kd.R_alloc | apply Kd.R_drewN | apply Kd.R_drew)); exact (Kd.R_mono (Kd.R_far (p := ⟨gb297, 1, none⟩) (Kd.R_far (p := ⟨gb297, 0, none⟩) (Kd.R_types HO295.out BK297.out (by decide)) (fun _ hk => hk.2) (.int .i64 t292)) (fun _ hk => hk.2) (.slice Ao30 t293.length co30)) (fun _ h_ => h_.1))))) (below_size (by repeat (first | (with_reducible first | exact HB.out | apply below_alloc | apply pw_below_drewN | apply below_drew1 | refine below_set ?_ GE288.out | refine below_set ?_ GE289.out | refine below_set ?_ GE297.out) | exact HB.out)))); have n2_ := Aside0.mk (blk_below (g := gb288) (o := .cells #[.int .i64 a0_0, .slice A0_1 l0_1.length c0_1] 27 (0, 0)) (by (with_reducible repeat (first | refine blk_drewN ?_ _ | refine blk_drew ?_ | refine blk_alloc ?_ _)); refine blk_far ?_ NB288_297.out _; (with_reducible repeat (first | refine blk_drewN ?_ _ | refine blk_drew ?_ | refine blk_alloc ?_ _)); refine blk_far ?_ NB288_297.out _; (with_reducible repeat (first | refine blk_drewN ?_ _ | refine blk_drew ?_ | refine blk_alloc ?_ _)); exact BK288.out) hb); have n3_ := Aside0.mk (blk_below (g := gb289) (o := .cells #[.int .i64 a1_0, .int .i64 a1_1, .int .i64 a1_2, .int .i64 a1_3, .slice A1_4 l1_4.length c1_4, .slice A1_5 l1_5.length c1_5] 32 (0, 0)) (by (with_reducible repeat (first | refine blk_drewN ?_ _ | refine blk_drew ?_ | refine blk_alloc ?_ _)); refine blk_far ?_ NB289_297.out _; (with_reducible repeat (first | refine blk_drewN ?_ _ | refine blk_drew ?_ | refine blk_alloc ?_ _)); refine blk_far ?_ NB289_297.out _; (with_reducible repeat (first | refine blk_drewN ?_ _ | refine blk_drew ?_ | refine blk_alloc ?_ _)); exact BK289.out) hb); have n4_ := Aside0.mk (blk_below (g := gb297) (o := .cells #[.int .i64 t292, .slice Ao30 t293.length co30] 27 (0, 0)) (by (with_reducible repeat (first | refine blk_drewN ?_ _ | refine blk_drew ?_ | refine blk_alloc ?_ _)); refine blk_put (cs := #[.int .i64 t292, .slice none 0 0]) ?_ 1 _ rfl; (with_reducible repeat (first | refine blk_drewN ?_ _ | refine blk_drew ?_ | refine blk_alloc ?_ _)); refine blk_put (cs := #[.int .i64 0, .slice none 0 0]) ?_ 0 _ rfl; (with_reducible repeat (first | refine blk_drewN ?_ _ | refine blk_drew ?_ | refine blk_alloc ?_ _)); exact BK297.out) hb); have n5_ := Aside0.mk (below_step (by repeat (first | (with_reducible first | exact HB.out | apply below_alloc | apply pw_below_drewN | apply below_drew1 | refine below_set ?_ GE288.out | refine below_set ?_ GE289.out | refine below_set ?_ GE297.out) | exact HB.out)) hb); clear HO295; clear BK288; clear BK289; clear BK297; clear HB; have HO295 := n0_; have HO301 := n1_; have BK288 := n2_; have BK289 := n3_; have BK297 := n4_; have HB := n5_; clear n0_ n1_ n2_ n3_ n4_ n5_; (try clear hb); (try clear hb2); (try clear hk); (try clear hi); (try clear ho0)) | ((with_reducible refine gate_dst (N := 7) rfl ?_); refine box_event ?hg (N := 7) ?hd (cs := #[.int .i64 0, .slice none 0 0]) (t := 27) ?hr ?_; (case hd => rfl); (case hg => rfl); (case hr => first | (go_simp; done) | (go_simp; rfl)); intro gb303 hg w34 hbox hb; have n0_ := Aside0.mk (Kd.R_below (by (with_reducible repeat (first | apply Kd.R_alloc | apply Kd.R_drewN | apply Kd.R_drew)); exact HO295.out) hb); have n1_ := Aside0.mk (Kd.R_below (by (with_reducible repeat (first | apply Kd.R_alloc | apply Kd.R_drewN | apply Kd.R_drew)); exact HO301.out) hb); have n2_ := Aside0.mk (blk_below (g := gb288) (o := .cells #[.int .i64 a0_0, .slice A0_1 l0_1.length c0_1] 27 (0, 0)) (by (with_reducible repeat (first | refine blk_drewN ?_ _ | refine blk_drew ?_ | refine blk_alloc ?_ _)); exact BK288.out) hb); have n3_ := Aside0.mk (blk_below (g := gb289) (o := .cells #[.int .i64 a1_0, .int .i64 a1_1, .int .i64 a1_2, .int .i64 a1_3, .slice A1_4 l1_4.length c1_4, .slice A1_5 l1_5.length c1_5] 32 (0, 0)) (by (with_reducible repeat (first | refine blk_drewN ?_ _ | refine blk_drew ?_ | refine blk_alloc ?_ _)); exact BK289.out) hb); have n4_ := Aside0.mk (blk_below (g := gb297) (o := .cells #[.int .i64 t292, .slice Ao30 t293.length co30] 27 (0, 0)) (by (with_reducible repeat (first | refine blk_drewN ?_ _ | refine blk_drew ?_ | refine blk_alloc ?_ _)); exact BK297.out) hb); have n5_ := Aside0.mk (below_step (by repeat (first | (with_reducible first | exact HB.out | apply below_alloc | apply pw_below_drewN | apply below_drew1 | refine below_set ?_ GE288.out | refine below_set ?_ GE289.out | refine below_set ?_ GE297.out) | exact HB.out)) hb); have n6_ := Aside0.mk (hbox); have n7_ := Aside0.mk ((by rw [hg]; exact (below_size (by repeat (first | (with_reducible first | exact HB.out | apply below_alloc | apply pw_below_drewN | apply below_drew1 | refine below_set ?_ GE288.out | refine below_set ?_ GE289.out | refine below_set ?_ GE297.out) | exact HB.out))) : w.heap.size ≤ gb303)); have n8_ := Aside0.mk ((by rw [hg]; exact (below_size (by repeat (first | (with_reducible first | exact HB.out | apply below_alloc | apply pw_below_drewN | apply below_drew1 | refine below_set ?_ GE288.out | refine below_set ?_ GE289.out | refine below_set ?_ GE297.out) | exact HB.out))) : w.heap.size ≤ gb303)); have n9_ := Aside0.mk ((by rw [hg]; exact Nat.ne_of_lt (blk_lt (g := gb288) (o := .cells #[.int .i64 a0_0, .slice A0_1 l0_1.length c0_1] 27 (0, 0)) (by (with_reducible repeat (first | refine blk_drewN ?_ _ | refine blk_drew ?_ | refine blk_alloc ?_ _)); exact BK288.out)) : gb288 ≠ gb303)); have n10_ := Aside0.mk ((by rw [hg]; exact Nat.ne_of_gt (blk_lt (g := gb288) (o := .cells #[.int .i64 a0_0, .slice A0_1 l0_1.length c0_1] 27 (0, 0)) (by (with_reducible repeat (first | refine blk_drewN ?_ _ | refine blk_drew ?_ | refine blk_alloc ?_ _)); exact BK288.out)) : gb303 ≠ gb288)); have n11_ := Aside0.mk ((by rw [hg]; exact Nat.ne_of_lt (blk_lt (g := gb289) (o := .cells #[.int .i64 a1_0, .int .i64 a1_1, .int .i64 a1_2, .int .i64 a1_3, .slice A1_4 l1_4.length c1_4, .slice A1_5 l1_5.length c1_5] 32 (0, 0)) (by (with_reducible repeat (first | refine blk_drewN ?_ _ | refine blk_drew ?_ | refine blk_alloc ?_ _)); exact BK289.out)) : gb289 ≠ gb303)); have n12_ := Aside0.mk ((by rw [hg]; exact Nat.ne_of_gt (blk_lt (g := gb289) (o := .cells #[.int .i64 a1_0, .int .i64 a1_1, .int .i64 a1_2, .int .i64 a1_3, .slice A1_4 l1_4.length c1_4, .slice A1_5 l1_5.length c1_5] 32 (0, 0)) (by (with_reducible repeat (first | refine blk_drewN ?_ _ | refine blk_drew ?_ | refine blk_alloc ?_ _)); exact BK289.out)) : gb303 ≠ gb289)); have n13_ := Aside0.mk ((by rw [hg]; exact Nat.ne_of_lt (blk_lt (g := gb297) (o := .cells #[.int .i64 t292, .slice Ao30 t293.length co30] 27 (0, 0)) (by (with_reducible repeat (first | refine blk_drewN ?_ _ | refine blk_drew ?_ | refine blk_alloc ?_ _)); exact BK297.out)) : gb297 ≠ gb303)); have n14_ := Aside0.mk ((by rw [hg]; exact Nat.ne_of_gt (blk_lt (g := gb297) (o := .cells #[.int .i64 t292, .slice Ao30 t293.length co30] 27 (0, 0)) (by (with_reducible repeat (first | refine blk_drewN ?_ _ | refine blk_drew ?_ | refine blk_alloc ?_ _)); exact BK297.out)) : gb303 ≠ gb297)); clear HO295; clear HO301; clear BK288; clear BK289; clear BK297; clear HB; have HO295 := n0_; have HO301 := n1_; have BK288 := n2_; have BK289 := n3_; have BK297 := n4_; have HB := n5_; have BK303 := n6_; have GW303 := n7_; have GE303 := n8_; have NB288_303 := n9_; have NB303_288 := n10_; have NB289_303 := n11_; have NB303_289 := n12_; have NB297_303 := n13_; have NB303_297 := n14_; clear n0_ n1_ n2_ n3_ n4_ n5_ n6_ n7_ n8_ n9_ n10_ n11_ n12_ n13_ n14_; clear hb hbox hg; have hnb35 := NB303_288.out; have hnc35 := NB288_303.out; have hnb36 := NB303_289.out; have hnc36 := NB289_303.out; have hnb37 := NB303_297.out; have hnc37 := NB297_303.out; have hcz38_0 : w34.cell? ⟨gb303, 0, none⟩ = some (.int .i64 0) := (blk_cell BK303.out 0).trans rfl; have hcz38_1 : w34.cell? ⟨gb303, 1, none⟩ = some (.slice none 0 0) := (blk_cell BK303.out 1).trans rfl; have hfz38_0 := blk_frozen BK303.out 0; have hfz38_1 := blk_frozen BK303.out 1; obtain ⟨Ao39, co39, eo39⟩ := Kd.R_slice HO301.out; subst eo39; have hcz40_0 : w34.cell? ⟨gb297, 0, none⟩ = some (.int .i64 t292) := (blk_cell BK297.out 0).trans rfl; have hcz40_1 : w34.cell? ⟨gb297, 1, none⟩ = some (.slice Ao30 t293.length co30) := (blk_cell BK297.out 1).trans rfl; have hfz40_0 := blk_frozen BK297.out 0; have hfz40_1 := blk_frozen BK297.out 1) | ((with_reducible refine gate_callee (f := 23) rfl ?_); refine goesL_ (some 35) rfl rfl Try.func23 (by kernel_rfl) rfl #[.agg #[.int .i64 t292, .slice Ao30 t293.length co30], .agg #[.int .i64 t298, .slice Ao39 t299.length co39]] rfl (by (try simp only [List.map_toArray, List.map_cons, List.map_nil]); first | done | rfl | (simp only [List.length_drop, List.length_take]; rfl)) ?_; (with_reducible refine (chalklineref35_Clients.calls kj4 t292 _ _ t293 t298 _ _ t299 true _ ?side1 ?side2 ?side3 ?side4 A20.out).mono ?_); (case side1 => refine (Kd.R_reads' (e := 60) (base := w.heap.size) (ok := fun k_ => (True ∧ some k_ ≠ (.slice Ao39 t299.length co39 : Value).ownBlock)) (n := t293.length) (c := co30) ?_).2.2; exact (by (with_reducible repeat (first | apply Kd.R_alloc | apply Kd.R_drewN | apply Kd.R_drew)); exact (Kd.R_mono (Kd.R_far (p := ⟨gb303, 1, none⟩) (Kd.R_far (p := ⟨gb303, 0, none⟩) (Kd.R_types HO295.out BK303.out (by decide)) (fun _ hk => hk.2) (.int .i64 t298)) (fun _ hk => hk.2) (.slice Ao39 t299.length co39)) (fun _ h_ => h_.1)))); (case side2 => exact (Kd.R_reads' HO295.out).2.1); (case side3 => refine (Kd.R_reads' (e := 60) (base := w.heap.size) (ok := fun k_ => (True ∧ some k_ ≠ (.slice Ao30 t293.length co30 : Value).ownBlock)) (n := t299.length) (c := co39) ?_).2.2; exact (by (with_reducible repeat (first | apply Kd.R_alloc | apply Kd.R_drewN | apply Kd.R_drew)); exact (Kd.R_mono (Kd.R_far (p := ⟨gb303, 1, none⟩) (Kd.R_far (p := ⟨gb303, 0, none⟩) (Kd.R_types HO301.out BK303.out (by decide)) (fun _ hk => hk.2) (.int .i64 t298)) (fun _ hk => hk.2) (.slice Ao39 t299.length co39)) (fun _ h_ => h_.1)))); (case side4 => exact (Kd.R_reads' HO301.out).2.1); rintro e w41 ⟨rfl, hb⟩; refine ⟨_, rfl, ?_⟩; have n0_ := Aside0.mk (Kd.R_below (by (with_reducible repeat (first | apply Kd.R_alloc | apply Kd.R_drewN | apply Kd.R_drew)); exact (Kd.R_mono (Kd.R_far (p := ⟨gb303, 1, none⟩) (Kd.R_far (p := ⟨gb303, 0, none⟩) (Kd.R_types HO295.out BK303.out (by decide)) (fun _ hk => hk.2) (.int .i64 t298)) (fun _ hk => hk.2) (.slice Ao39 t299.length co39)) (fun _ h_ => h_.1))) hb); have n1_ := Aside0.mk (Kd.R_below (by (with_reducible repeat (first | apply Kd.R_alloc | apply Kd.R_drewN | apply Kd.R_drew)); exact (Kd.R_mono (Kd.R_far (p := ⟨gb303, 1, none⟩) (Kd.R_far (p := ⟨gb303, 0, none⟩) (Kd.R_types HO301.out BK303.out (by decide)) (fun _ hk => hk.2) (.int .i64 t298)) (fun _ hk => hk.2) (.slice Ao39 t299.length co39)) (fun _ h_ => h_.1))) hb); have n2_ := Aside0.mk (blk_below (g := gb288) (o := .cells #[.int .i64 a0_0, .slice A0_1 l0_1.length c0_1] 27 (0, 0)) (by (with_reducible repeat (first | refine blk_drewN ?_ _ | refine blk_drew ?_ | refine blk_alloc ?_ _)); refine blk_far ?_ NB288_303.out _; (with_reducible repeat (first | refine blk_drewN ?_ _ | refine blk_drew ?_ | refine blk_alloc ?_ _)); refine blk_far ?_ NB288_303.out _; (with_reducible repeat (first | refine blk_drewN ?_ _ | refine blk_drew ?_ | refine blk_alloc ?_ _)); exact BK288.out) hb); have n3_ := Aside0.mk (blk_below (g := gb289) (o := .cells #[.int .i64 a1_0, .int .i64 a1_1, .int .i64 a1_2, .int .i64 a1_3, .slice A1_4 l1_4.length c1_4, .slice A1_5 l1_5.length c1_5] 32 (0, 0)) (by (with_reducible repeat (first | refine blk_drewN ?_ _ | refine blk_drew ?_ | refine blk_alloc ?_ _)); refine blk_far ?_ NB289_303.out _; (with_reducible repeat (first | refine blk_drewN ?_ _ | refine blk_drew ?_ | refine blk_alloc ?_ _)); refine blk_far ?_ NB289_303.out _; (with_reducible repeat (first | refine blk_drewN ?_ _ | refine blk_drew ?_ | refine blk_alloc ?_ _)); exact BK289.out) hb); have n4_ := Aside0.mk (blk_below (g := gb297) (o := .cells #[.int .i64 t292, .slice Ao30 t293.length co30] 27 (0, 0)) (by (with_reducible repeat (first | refine blk_drewN ?_ _ | refine blk_drew ?_ | refine blk_alloc ?_ _)); refine blk_far ?_ NB297_303.out _; (with_reducible repeat (first | refine blk_drewN ?_ _ | refine blk_drew ?_ | refine blk_alloc ?_ _)); refine blk_far ?_ NB297_303.out _; (with_reducible repeat (first | refine blk_drewN ?_ _ | refine blk_drew ?_ | refine blk_alloc ?_ _)); exact BK297.out) hb); have n5_ := Aside0.mk (blk_below (g := gb303) (o := .cells #[.int .i64 t298, .slice Ao39 t299.length co39] 27 (0, 0)) (by (with_reducible repeat (first | refine blk_drewN ?_ _ | refine blk_drew ?_ | refine blk_alloc ?_ _)); refine blk_put (cs := #[.int .i64 t298, .slice none 0 0]) ?_ 1 _ rfl; (with_reducible repeat (first | refine blk_drewN ?_ _ | refine blk_drew ?_ | refine blk_alloc ?_ _)); refine blk_put (cs := #[.int .i64 0, .slice none 0 0]) ?_ 0 _ rfl; (with_reducible repeat (first | refine blk_drewN ?_ _ | refine blk_drew ?_ | refine blk_alloc ?_ _)); exact BK303.out) hb); have n6_ := Aside0.mk (below_step (by repeat (first | (with_reducible first | exact HB.out | apply below_alloc | apply pw_below_drewN | apply below_drew1 | refine below_set ?_ GE288.out | refine below_set ?_ GE289.out | refine below_set ?_ GE297.out | refine below_set ?_ GE303.out) | exact HB.out)) hb); clear HO295; clear HO301; clear BK288; clear BK289; clear BK297; clear BK303; clear HB; have HO295 := n0_; have HO301 := n1_; have BK288 := n2_; have BK289 := n3_; have BK297 := n4_; have BK303 := n5_; have HB := n6_; clear n0_ n1_ n2_ n3_ n4_ n5_ n6_; (try clear hb); (try clear hb2); (try clear hk); (try clear hi)))
            go_ret
            exact ⟨by first | rfl | (simp [errW_none, errW_some] <;> rfl) | (simp [*, errW_none, errW_some] <;> rfl), by repeat (first | (with_reducible first | exact HB.out | apply below_alloc | apply pw_below_drewN | apply below_drew1 | refine below_set ?_ GE288.out | refine below_set ?_ GE289.out | refine below_set ?_ GE297.out | refine below_set ?_ GE303.out) | exact HB.out)⟩
          · replace c21 := Bool.eq_false_iff.mpr c21
            subst c21
            have H1 : (some false) = some r := by rw [if_neg (show ¬ (false = true) by decide)] at H; exact H
            clear H
            have H := H1
            clear H1
            obtain rfl := Option.some.inj H
            have hnb42 := NB288_289.out
            have hnc42 := NB289_288.out
            have hcz43_0 : wc.cell? ⟨gb288, 0, none⟩ = some (.int .i64 a0_0) := (blk_cell BK288.out 0).trans rfl
            have hcz43_1 : wc.cell? ⟨gb288, 1, none⟩ = some (.slice A0_1 l0_1.length c0_1) := (blk_cell BK288.out 1).trans rfl
            have hfz43_0 := blk_frozen BK288.out 0
            have hfz43_1 := blk_frozen BK288.out 1
            have hcz44_0 : wc.cell? ⟨gb289, 0, none⟩ = some (.int .i64 a1_0) := (blk_cell BK289.out 0).trans rfl
            have hcz44_1 : wc.cell? ⟨gb289, 1, none⟩ = some (.int .i64 a1_1) := (blk_cell BK289.out 1).trans rfl
            have hcz44_2 : wc.cell? ⟨gb289, 2, none⟩ = some (.int .i64 a1_2) := (blk_cell BK289.out 2).trans rfl
            have hcz44_3 : wc.cell? ⟨gb289, 3, none⟩ = some (.int .i64 a1_3) := (blk_cell BK289.out 3).trans rfl
            have hcz44_4 : wc.cell? ⟨gb289, 4, none⟩ = some (.slice A1_4 l1_4.length c1_4) := (blk_cell BK289.out 4).trans rfl
            have hcz44_5 : wc.cell? ⟨gb289, 5, none⟩ = some (.slice A1_5 l1_5.length c1_5) := (blk_cell BK289.out 5).trans rfl
            have hfz44_0 := blk_frozen BK289.out 0
            have hfz44_1 := blk_frozen BK289.out 1
            have hfz44_2 := blk_frozen BK289.out 2
            have hfz44_3 := blk_frozen BK289.out 3
            have hfz44_4 := blk_frozen BK289.out 4
            have hfz44_5 := blk_frozen BK289.out 5
            go_wp2_with (first | ((with_reducible refine gate_callee (f := 21) rfl ?_); refine goesL_ (some 24) rfl rfl Try.func21 (by kernel_rfl) rfl #[.agg #[.int .i64 a0_0, .slice A0_1 l0_1.length c0_1], .agg #[.int .i64 a1_0, .int .i64 a1_1, .int .i64 a1_2, .int .i64 a1_3, .slice A1_4 l1_4.length c1_4, .slice A1_5 l1_5.length c1_5]] rfl (by (try simp only [List.map_toArray, List.map_cons, List.map_nil]); first | done | rfl | (simp only [List.length_drop, List.length_take]; rfl)) ?_; (with_reducible refine (feed_Take.calls kj4 a0_0 _ _ l0_1 a1_0 a1_1 a1_2 a1_3 _ _ l1_4 _ _ l1_5 t292 t293 t296 _ ?side1 ?side2 ?side3 ?side4 ?side5 ?side6 A18.out).mono ?_); (case side1 => repeat (first | exact (Kd.C_below HR0_1.out HB.out) | (with_reducible refine Kd.C_alloc ?_ _) | (with_reducible refine Kd.C_drewN ?_ _) | (with_reducible refine Kd.C_drew ?_))); (case side2 => exact HC0_1.out); (case side3 => repeat (first | exact (Kd.C_below HR1_4.out HB.out) | (with_reducible refine Kd.C_alloc ?_ _) | (with_reducible refine Kd.C_drewN ?_ _) | (with_reducible refine Kd.C_drew ?_))); (case side4 => exact HC1_4.out); (case side5 => repeat (first | exact (Kd.C_below HR1_5.out HB.out) | (with_reducible refine Kd.C_alloc ?_ _) | (with_reducible refine Kd.C_drewN ?_ _) | (with_reducible refine Kd.C_drew ?_))); (case side6 => exact HC1_5.out); rintro e w45 ⟨v294, rfl, ho0, hb⟩; refine ⟨_, rfl, ?_⟩; have n0_ := Aside0.mk (Kd.R_lower ho0 (below_size (by repeat (first | (with_reducible first | exact HB.out | apply below_alloc | apply pw_below_drewN | apply below_drew1 | refine below_set ?_ GE288.out | refine below_set ?_ GE289.out) | exact HB.out)))); have n1_ := Aside0.mk (blk_below (g := gb288) (o := .cells #[.int .i64 a0_0, .slice A0_1 l0_1.length c0_1] 27 (0, 0)) (by (with_reducible repeat (first | refine blk_drewN ?_ _ | refine blk_drew ?_ | refine blk_alloc ?_ _)); exact BK288.out) hb); have n2_ := Aside0.mk (blk_below (g := gb289) (o := .cells #[.int .i64 a1_0, .int .i64 a1_1, .int .i64 a1_2, .int .i64 a1_3, .slice A1_4 l1_4.length c1_4, .slice A1_5 l1_5.length c1_5] 32 (0, 0)) (by (with_reducible repeat (first | refine blk_drewN ?_ _ | refine blk_drew ?_ | refine blk_alloc ?_ _)); exact BK289.out) hb); have n3_ := Aside0.mk (below_step (by repeat (first | (with_reducible first | exact HB.out | apply below_alloc | apply pw_below_drewN | apply below_drew1 | refine below_set ?_ GE288.out | refine below_set ?_ GE289.out) | exact HB.out)) hb); clear BK288; clear BK289; clear HB; have HO295 := n0_; have BK288 := n1_; have BK289 := n2_; have HB := n3_; clear n0_ n1_ n2_ n3_; (try clear hb); (try clear hb2); (try clear hk); (try clear hi); (try clear ho0)) | ((with_reducible refine gate_dst (N := 5) rfl ?_); refine box_event ?hg (N := 5) ?hd (cs := #[.int .i64 0, .slice none 0 0]) (t := 27) ?hr ?_; (case hd => rfl); (case hg => rfl); (case hr => first | (go_simp; done) | (go_simp; rfl)); intro gb297 hg w46 hbox hb; have n0_ := Aside0.mk (Kd.R_below (by (with_reducible repeat (first | apply Kd.R_alloc | apply Kd.R_drewN | apply Kd.R_drew)); exact HO295.out) hb); have n1_ := Aside0.mk (blk_below (g := gb288) (o := .cells #[.int .i64 a0_0, .slice A0_1 l0_1.length c0_1] 27 (0, 0)) (by (with_reducible repeat (first | refine blk_drewN ?_ _ | refine blk_drew ?_ | refine blk_alloc ?_ _)); exact BK288.out) hb); have n2_ := Aside0.mk (blk_below (g := gb289) (o := .cells #[.int .i64 a1_0, .int .i64 a1_1, .int .i64 a1_2, .int .i64 a1_3, .slice A1_4 l1_4.length c1_4, .slice A1_5 l1_5.length c1_5] 32 (0, 0)) (by (with_reducible repeat (first | refine blk_drewN ?_ _ | refine blk_drew ?_ | refine blk_alloc ?_ _)); exact BK289.out) hb); have n3_ := Aside0.mk (below_step (by repeat (first | (with_reducible first | exact HB.out | apply below_alloc | apply pw_below_drewN | apply below_drew1 | refine below_set ?_ GE288.out | refine below_set ?_ GE289.out) | exact HB.out)) hb); have n4_ := Aside0.mk (hbox); have n5_ := Aside0.mk ((by rw [hg]; exact (below_size (by repeat (first | (with_reducible first | exact HB.out | apply below_alloc | apply pw_below_drewN | apply below_drew1 | refine below_set ?_ GE288.out | refine below_set ?_ GE289.out) | exact HB.out))) : w.heap.size ≤ gb297)); have n6_ := Aside0.mk ((by rw [hg]; exact (below_size (by repeat (first | (with_reducible first | exact HB.out | apply below_alloc | apply pw_below_drewN | apply below_drew1 | refine below_set ?_ GE288.out | refine below_set ?_ GE289.out) | exact HB.out))) : w.heap.size ≤ gb297)); have n7_ := Aside0.mk ((by rw [hg]; exact Nat.ne_of_lt (blk_lt (g := gb288) (o := .cells #[.int .i64 a0_0, .slice A0_1 l0_1.length c0_1] 27 (0, 0)) (by (with_reducible repeat (first | refine blk_drewN ?_ _ | refine blk_drew ?_ | refine blk_alloc ?_ _)); exact BK288.out)) : gb288 ≠ gb297)); have n8_ := Aside0.mk ((by rw [hg]; exact Nat.ne_of_gt (blk_lt (g := gb288) (o := .cells #[.int .i64 a0_0, .slice A0_1 l0_1.length c0_1] 27 (0, 0)) (by (with_reducible repeat (first | refine blk_drewN ?_ _ | refine blk_drew ?_ | refine blk_alloc ?_ _)); exact BK288.out)) : gb297 ≠ gb288)); have n9_ := Aside0.mk ((by rw [hg]; exact Nat.ne_of_lt (blk_lt (g := gb289) (o := .cells #[.int .i64 a1_0, .int .i64 a1_1, .int .i64 a1_2, .int .i64 a1_3, .slice A1_4 l1_4.length c1_4, .slice A1_5 l1_5.length c1_5] 32 (0, 0)) (by (with_reducible repeat (first | refine blk_drewN ?_ _ | refine blk_drew ?_ | refine blk_alloc ?_ _)); exact BK289.out)) : gb289 ≠ gb297)); have n10_ := Aside0.mk ((by rw [hg]; exact Nat.ne_of_gt (blk_lt (g := gb289) (o := .cells #[.int .i64 a1_0, .int .i64 a1_1, .int .i64 a1_2, .int .i64 a1_3, .slice A1_4 l1_4.length c1_4, .slice A1_5 l1_5.length c1_5] 32 (0, 0)) (by (with_reducible repeat (first | refine blk_drewN ?_ _ | refine blk_drew ?_ | refine blk_alloc ?_ _)); exact BK289.out)) : gb297 ≠ gb289)); clear HO295; clear BK288; clear BK289; clear HB; have HO295 := n0_; have BK288 := n1_; have BK289 := n2_; have HB := n3_; have BK297 := n4_; have GW297 := n5_; have GE297 := n6_; have NB288_297 := n7_; have NB297_288 := n8_; have NB289_297 := n9_; have NB297_289 := n10_; clear n0_ n1_ n2_ n3_ n4_ n5_ n6_ n7_ n8_ n9_ n10_; clear hb hbox hg; have hnb47 := NB297_288.out; have hnc47 := NB288_297.out; have hnb48 := NB297_289.out; have hnc48 := NB289_297.out; have hcz49_0 : w46.cell? ⟨gb297, 0, none⟩ = some (.int .i64 0) := (blk_cell BK297.out 0).trans rfl; have hcz49_1 : w46.cell? ⟨gb297, 1, none⟩ = some (.slice none 0 0) := (blk_cell BK297.out 1).trans rfl; have hfz49_0 := blk_frozen BK297.out 0; have hfz49_1 := blk_frozen BK297.out 1; obtain ⟨Ao50, co50, eo50⟩ := Kd.R_slice HO295.out; subst eo50; have hcz51_0 : w46.cell? ⟨gb288, 0, none⟩ = some (.int .i64 a0_0) := (blk_cell BK288.out 0).trans rfl; have hcz51_1 : w46.cell? ⟨gb288, 1, none⟩ = some (.slice A0_1 l0_1.length c0_1) := (blk_cell BK288.out 1).trans rfl; have hfz51_0 := blk_frozen BK288.out 0; have hfz51_1 := blk_frozen BK288.out 1; have hcz52_0 : w46.cell? ⟨gb289, 0, none⟩ = some (.int .i64 a1_0) := (blk_cell BK289.out 0).trans rfl; have hcz52_1 : w46.cell? ⟨gb289, 1, none⟩ = some (.int .i64 a1_1) := (blk_cell BK289.out 1).trans rfl; have hcz52_2 : w46.cell? ⟨gb289, 2, none⟩ = some (.int .i64 a1_2) := (blk_cell BK289.out 2).trans rfl; have hcz52_3 : w46.cell? ⟨gb289, 3, none⟩ = some (.int .i64 a1_3) := (blk_cell BK289.out 3).trans rfl; have hcz52_4 : w46.cell? ⟨gb289, 4, none⟩ = some (.slice A1_4 l1_4.length c1_4) := (blk_cell BK289.out 4).trans rfl; have hcz52_5 : w46.cell? ⟨gb289, 5, none⟩ = some (.slice A1_5 l1_5.length c1_5) := (blk_cell BK289.out 5).trans rfl; have hfz52_0 := blk_frozen BK289.out 0; have hfz52_1 := blk_frozen BK289.out 1; have hfz52_2 := blk_frozen BK289.out 2; have hfz52_3 := blk_frozen BK289.out 3; have hfz52_4 := blk_frozen BK289.out 4; have hfz52_5 := blk_frozen BK289.out 5) | ((with_reducible refine gate_callee (f := 22) rfl ?_); refine goesL_ (some 30) rfl rfl Try.func22 (by kernel_rfl) rfl #[.agg #[.int .i64 a0_0, .slice A0_1 l0_1.length c0_1], .agg #[.int .i64 a1_0, .int .i64 a1_1, .int .i64 a1_2, .int .i64 a1_3, .slice A1_4 l1_4.length c1_4, .slice A1_5 l1_5.length c1_5]] rfl (by (try simp only [List.map_toArray, List.map_cons, List.map_nil]); first | done | rfl | (simp only [List.length_drop, List.length_take]; rfl)) ?_; (with_reducible refine (chalklineref35_Take.calls kj4 a0_0 _ _ l0_1 a1_0 a1_1 a1_2 a1_3 _ _ l1_4 _ _ l1_5 t298 t299 t302 _ ?side1 ?side2 ?side3 ?side4 ?side5 ?side6 A19.out).mono ?_); (case side1 => exact Kd.C_below HR0_1.out (by repeat (first | (with_reducible first | exact HB.out | apply below_alloc | apply pw_below_drewN | apply below_drew1 | refine below_set ?_ GE288.out | refine below_set ?_ GE289.out | refine below_set ?_ GE297.out) | exact HB.out))); (case side2 => exact HC0_1.out); (case side3 => exact Kd.C_below HR1_4.out (by repeat (first | (with_reducible first | exact HB.out | apply below_alloc | apply pw_below_drewN | apply below_drew1 | refine below_set ?_ GE288.out | refine below_set ?_ GE289.out | refine below_set ?_ GE297.out) | exact HB.out))); (case side4 => exact HC1_4.out); (case side5 => exact Kd.C_below HR1_5.out (by repeat (first | (with_reducible first | exact HB.out | apply below_alloc | apply pw_below_drewN | apply below_drew1 | refine below_set ?_ GE288.out | refine below_set ?_ GE289.out | refine below_set ?_ GE297.out) | exact HB.out))); (case side6 => exact HC1_5.out); rintro e w53 ⟨v300, rfl, ho0, hb⟩; refine ⟨_, rfl, ?_⟩; have n0_ := Aside0.mk (Kd.R_elder' (by (with_reducible repeat (first | apply Kd.R_alloc | apply Kd.R_drewN | apply Kd.R_drew)); exact (Kd.R_mono (Kd.R_far (p := ⟨gb297, 1, none⟩) (Kd.R_far (p := ⟨gb297, 0, none⟩) (Kd.R_types HO295.out BK297.out (by decide)) (fun _ hk => hk.2) (.int .i64 t292)) (fun _ hk => hk.2) (.slice Ao50 t293.length co50)) (fun _ h_ => h_.1))) (Kd.R_base ho0) hb); have n1_ := Aside0.mk (Kd.R_lower (Kd.R_new' ho0 (Kd.R_lt (by (with_reducible repeat (first | apply Kd.R_alloc | apply Kd.R_drewN | apply Kd.R_drew)); exact (Kd.R_mono (Kd.R_far (p := ⟨gb297, 1, none⟩) (Kd.R_far (p := ⟨gb297, 0, none⟩) (Kd.R_types HO295.out BK297.out (by decide)) (fun _ hk => hk.2) (.int .i64 t292)) (fun _ hk => hk.2) (.slice Ao50 t293.length co50)) (fun _ h_ => h_.1))))) (below_size (by repeat (first | (with_reducible first | exact HB.out | apply below_alloc | apply pw_below_drewN | apply below_drew1 | refine below_set ?_ GE288.out | refine below_set ?_ GE289.out | refine below_set ?_ GE297.out) | exact HB.out)))); have n2_ := Aside0.mk (blk_below (g := gb288) (o := .cells #[.int .i64 a0_0, .slice A0_1 l0_1.length c0_1] 27 (0, 0)) (by (with_reducible repeat (first | refine blk_drewN ?_ _ | refine blk_drew ?_ | refine blk_alloc ?_ _)); refine blk_far ?_ NB288_297.out _; (with_reducible repeat (first | refine blk_drewN ?_ _ | refine blk_drew ?_ | refine blk_alloc ?_ _)); refine blk_far ?_ NB288_297.out _; (with_reducible repeat (first | refine blk_drewN ?_ _ | refine blk_drew ?_ | refine blk_alloc ?_ _)); exact BK288.out) hb); have n3_ := Aside0.mk (blk_below (g := gb289) (o := .cells #[.int .i64 a1_0, .int .i64 a1_1, .int .i64 a1_2, .int .i64 a1_3, .slice A1_4 l1_4.length c1_4, .slice A1_5 l1_5.length c1_5] 32 (0, 0)) (by (with_reducible repeat (first | refine blk_drewN ?_ _ | refine blk_drew ?_ | refine blk_alloc ?_ _)); refine blk_far ?_ NB289_297.out _; (with_reducible repeat (first | refine blk_drewN ?_ _ | refine blk_drew ?_ | refine blk_alloc ?_ _)); refine blk_far ?_ NB289_297.out _; (with_reducible repeat (first | refine blk_drewN ?_ _ | refine blk_drew ?_ | refine blk_alloc ?_ _)); exact BK289.out) hb); have n4_ := Aside0.mk (blk_below (g := gb297) (o := .cells #[.int .i64 t292, .slice Ao50 t293.length co50] 27 (0, 0)) (by (with_reducible repeat (first | refine blk_drewN ?_ _ | refine blk_drew ?_ | refine blk_alloc ?_ _)); refine blk_put (cs := #[.int .i64 t292, .slice none 0 0]) ?_ 1 _ rfl; (with_reducible repeat (first | refine blk_drewN ?_ _ | refine blk_drew ?_ | refine blk_alloc ?_ _)); refine blk_put (cs := #[.int .i64 0, .slice none 0 0]) ?_ 0 _ rfl; (with_reducible repeat (first | refine blk_drewN ?_ _ | refine blk_drew ?_ | refine blk_alloc ?_ _)); exact BK297.out) hb); have n5_ := Aside0.mk (below_step (by repeat (first | (with_reducible first | exact HB.out | apply below_alloc | apply pw_below_drewN | apply below_drew1 | refine below_set ?_ GE288.out | refine below_set ?_ GE289.out | refine below_set ?_ GE297.out) | exact HB.out)) hb); clear HO295; clear BK288; clear BK289; clear BK297; clear HB; have HO295 := n0_; have HO301 := n1_; have BK288 := n2_; have BK289 := n3_; have BK297 := n4_; have HB := n5_; clear n0_ n1_ n2_ n3_ n4_ n5_; (try clear hb); (try clear hb2); (try clear hk); (try clear hi); (try clear ho0)) | ((with_reducible refine gate_dst (N := 7) rfl ?_); refine box_event ?hg (N := 7) ?hd (cs := #[.int .i64 0, .slice none 0 0]) (t := 27) ?hr ?_; (case hd => rfl); (case hg => rfl); (case hr => first | (go_simp; done) | (go_simp; rfl)); intro gb303 hg w54 hbox hb; have n0_ := Aside0.mk (Kd.R_below (by (with_reducible repeat (first | apply Kd.R_alloc | apply Kd.R_drewN | apply Kd.R_drew)); exact HO295.out) hb); have n1_ := Aside0.mk (Kd.R_below (by (with_reducible repeat (first | apply Kd.R_alloc | apply Kd.R_drewN | apply Kd.R_drew)); exact HO301.out) hb); have n2_ := Aside0.mk (blk_below (g := gb288) (o := .cells #[.int .i64 a0_0, .slice A0_1 l0_1.length c0_1] 27 (0, 0)) (by (with_reducible repeat (first | refine blk_drewN ?_ _ | refine blk_drew ?_ | refine blk_alloc ?_ _)); exact BK288.out) hb); have n3_ := Aside0.mk (blk_below (g := gb289) (o := .cells #[.int .i64 a1_0, .int .i64 a1_1, .int .i64 a1_2, .int .i64 a1_3, .slice A1_4 l1_4.length c1_4, .slice A1_5 l1_5.length c1_5] 32 (0, 0)) (by (with_reducible repeat (first | refine blk_drewN ?_ _ | refine blk_drew ?_ | refine blk_alloc ?_ _)); exact BK289.out) hb); have n4_ := Aside0.mk (blk_below (g := gb297) (o := .cells #[.int .i64 t292, .slice Ao50 t293.length co50] 27 (0, 0)) (by (with_reducible repeat (first | refine blk_drewN ?_ _ | refine blk_drew ?_ | refine blk_alloc ?_ _)); exact BK297.out) hb); have n5_ := Aside0.mk (below_step (by repeat (first | (with_reducible first | exact HB.out | apply below_alloc | apply pw_below_drewN | apply below_drew1 | refine below_set ?_ GE288.out | refine below_set ?_ GE289.out | refine below_set ?_ GE297.out) | exact HB.out)) hb); have n6_ := Aside0.mk (hbox); have n7_ := Aside0.mk ((by rw [hg]; exact (below_size (by repeat (first | (with_reducible first | exact HB.out | apply below_alloc | apply pw_below_drewN | apply below_drew1 | refine below_set ?_ GE288.out | refine below_set ?_ GE289.out | refine below_set ?_ GE297.out) | exact HB.out))) : w.heap.size ≤ gb303)); have n8_ := Aside0.mk ((by rw [hg]; exact (below_size (by repeat (first | (with_reducible first | exact HB.out | apply below_alloc | apply pw_below_drewN | apply below_drew1 | refine below_set ?_ GE288.out | refine below_set ?_ GE289.out | refine below_set ?_ GE297.out) | exact HB.out))) : w.heap.size ≤ gb303)); have n9_ := Aside0.mk ((by rw [hg]; exact Nat.ne_of_lt (blk_lt (g := gb288) (o := .cells #[.int .i64 a0_0, .slice A0_1 l0_1.length c0_1] 27 (0, 0)) (by (with_reducible repeat (first | refine blk_drewN ?_ _ | refine blk_drew ?_ | refine blk_alloc ?_ _)); exact BK288.out)) : gb288 ≠ gb303)); have n10_ := Aside0.mk ((by rw [hg]; exact Nat.ne_of_gt (blk_lt (g := gb288) (o := .cells #[.int .i64 a0_0, .slice A0_1 l0_1.length c0_1] 27 (0, 0)) (by (with_reducible repeat (first | refine blk_drewN ?_ _ | refine blk_drew ?_ | refine blk_alloc ?_ _)); exact BK288.out)) : gb303 ≠ gb288)); have n11_ := Aside0.mk ((by rw [hg]; exact Nat.ne_of_lt (blk_lt (g := gb289) (o := .cells #[.int .i64 a1_0, .int .i64 a1_1, .int .i64 a1_2, .int .i64 a1_3, .slice A1_4 l1_4.length c1_4, .slice A1_5 l1_5.length c1_5] 32 (0, 0)) (by (with_reducible repeat (first | refine blk_drewN ?_ _ | refine blk_drew ?_ | refine blk_alloc ?_ _)); exact BK289.out)) : gb289 ≠ gb303)); have n12_ := Aside0.mk ((by rw [hg]; exact Nat.ne_of_gt (blk_lt (g := gb289) (o := .cells #[.int .i64 a1_0, .int .i64 a1_1, .int .i64 a1_2, .int .i64 a1_3, .slice A1_4 l1_4.length c1_4, .slice A1_5 l1_5.length c1_5] 32 (0, 0)) (by (with_reducible repeat (first | refine blk_drewN ?_ _ | refine blk_drew ?_ | refine blk_alloc ?_ _)); exact BK289.out)) : gb303 ≠ gb289)); have n13_ := Aside0.mk ((by rw [hg]; exact Nat.ne_of_lt (blk_lt (g := gb297) (o := .cells #[.int .i64 t292, .slice Ao50 t293.length co50] 27 (0, 0)) (by (with_reducible repeat (first | refine blk_drewN ?_ _ | refine blk_drew ?_ | refine blk_alloc ?_ _)); exact BK297.out)) : gb297 ≠ gb303)); have n14_ := Aside0.mk ((by rw [hg]; exact Nat.ne_of_gt (blk_lt (g := gb297) (o := .cells #[.int .i64 t292, .slice Ao50 t293.length co50] 27 (0, 0)) (by (with_reducible repeat (first | refine blk_drewN ?_ _ | refine blk_drew ?_ | refine blk_alloc ?_ _)); exact BK297.out)) : gb303 ≠ gb297)); clear HO295; clear HO301; clear BK288; clear BK289; clear BK297; clear HB; have HO295 := n0_; have HO301 := n1_; have BK288 := n2_; have BK289 := n3_; have BK297 := n4_; have HB := n5_; have BK303 := n6_; have GW303 := n7_; have GE303 := n8_; have NB288_303 := n9_; have NB303_288 := n10_; have NB289_303 := n11_; have NB303_289 := n12_; have NB297_303 := n13_; have NB303_297 := n14_; clear n0_ n1_ n2_ n3_ n4_ n5_ n6_ n7_ n8_ n9_ n10_ n11_ n12_ n13_ n14_; clear hb hbox hg; have hnb55 := NB303_288.out; have hnc55 := NB288_303.out; have hnb56 := NB303_289.out; have hnc56 := NB289_303.out; have hnb57 := NB303_297.out; have hnc57 := NB297_303.out; have hcz58_0 : w54.cell? ⟨gb303, 0, none⟩ = some (.int .i64 0) := (blk_cell BK303.out 0).trans rfl; have hcz58_1 : w54.cell? ⟨gb303, 1, none⟩ = some (.slice none 0 0) := (blk_cell BK303.out 1).trans rfl; have hfz58_0 := blk_frozen BK303.out 0; have hfz58_1 := blk_frozen BK303.out 1; obtain ⟨Ao59, co59, eo59⟩ := Kd.R_slice HO301.out; subst eo59; have hcz60_0 : w54.cell? ⟨gb297, 0, none⟩ = some (.int .i64 t292) := (blk_cell BK297.out 0).trans rfl; have hcz60_1 : w54.cell? ⟨gb297, 1, none⟩ = some (.slice Ao50 t293.length co50) := (blk_cell BK297.out 1).trans rfl; have hfz60_0 := blk_frozen BK297.out 0; have hfz60_1 := blk_frozen BK297.out 1) | ((with_reducible refine gate_callee (f := 23) rfl ?_); refine goesL_ (some 35) rfl rfl Try.func23 (by kernel_rfl) rfl #[.agg #[.int .i64 t292, .slice Ao50 t293.length co50], .agg #[.int .i64 t298, .slice Ao59 t299.length co59]] rfl (by (try simp only [List.map_toArray, List.map_cons, List.map_nil]); first | done | rfl | (simp only [List.length_drop, List.length_take]; rfl)) ?_; (with_reducible refine (chalklineref35_Clients.calls kj4 t292 _ _ t293 t298 _ _ t299 false _ ?side1 ?side2 ?side3 ?side4 A20.out).mono ?_); (case side1 => refine (Kd.R_reads' (e := 60) (base := w.heap.size) (ok := fun k_ => (True ∧ some k_ ≠ (.slice Ao59 t299.length co59 : Value).ownBlock)) (n := t293.length) (c := co50) ?_).2.2; exact (by (with_reducible repeat (first | apply Kd.R_alloc | apply Kd.R_drewN | apply Kd.R_drew)); exact (Kd.R_mono (Kd.R_far (p := ⟨gb303, 1, none⟩) (Kd.R_far (p := ⟨gb303, 0, none⟩) (Kd.R_types HO295.out BK303.out (by decide)) (fun _ hk => hk.2) (.int .i64 t298)) (fun _ hk => hk.2) (.slice Ao59 t299.length co59)) (fun _ h_ => h_.1)))); (case side2 => exact (Kd.R_reads' HO295.out).2.1); (case side3 => refine (Kd.R_reads' (e := 60) (base := w.heap.size) (ok := fun k_ => (True ∧ some k_ ≠ (.slice Ao50 t293.length co50 : Value).ownBlock)) (n := t299.length) (c := co59) ?_).2.2; exact (by (with_reducible repeat (first | apply Kd.R_alloc | apply Kd.R_drewN | apply Kd.R_drew)); exact (Kd.R_mono (Kd.R_far (p := ⟨gb303, 1, none⟩) (Kd.R_far (p := ⟨gb303, 0, none⟩) (Kd.R_types HO301.out BK303.out (by decide)) (fun _ hk => hk.2) (.int .i64 t298)) (fun _ hk => hk.2) (.slice Ao59 t299.length co59)) (fun _ h_ => h_.1)))); (case side4 => exact (Kd.R_reads' HO301.out).2.1); rintro e w61 ⟨rfl, hb⟩; refine ⟨_, rfl, ?_⟩; have n0_ := Aside0.mk (Kd.R_below (by (with_reducible repeat (first | apply Kd.R_alloc | apply Kd.R_drewN | apply Kd.R_drew)); exact (Kd.R_mono (Kd.R_far (p := ⟨gb303, 1, none⟩) (Kd.R_far (p := ⟨gb303, 0, none⟩) (Kd.R_types HO295.out BK303.out (by decide)) (fun _ hk => hk.2) (.int .i64 t298)) (fun _ hk => hk.2) (.slice Ao59 t299.length co59)) (fun _ h_ => h_.1))) hb); have n1_ := Aside0.mk (Kd.R_below (by (with_reducible repeat (first | apply Kd.R_alloc | apply Kd.R_drewN | apply Kd.R_drew)); exact (Kd.R_mono (Kd.R_far (p := ⟨gb303, 1, none⟩) (Kd.R_far (p := ⟨gb303, 0, none⟩) (Kd.R_types HO301.out BK303.out (by decide)) (fun _ hk => hk.2) (.int .i64 t298)) (fun _ hk => hk.2) (.slice Ao59 t299.length co59)) (fun _ h_ => h_.1))) hb); have n2_ := Aside0.mk (blk_below (g := gb288) (o := .cells #[.int .i64 a0_0, .slice A0_1 l0_1.length c0_1] 27 (0, 0)) (by (with_reducible repeat (first | refine blk_drewN ?_ _ | refine blk_drew ?_ | refine blk_alloc ?_ _)); refine blk_far ?_ NB288_303.out _; (with_reducible repeat (first | refine blk_drewN ?_ _ | refine blk_drew ?_ | refine blk_alloc ?_ _)); refine blk_far ?_ NB288_303.out _; (with_reducible repeat (first | refine blk_drewN ?_ _ | refine blk_drew ?_ | refine blk_alloc ?_ _)); exact BK288.out) hb); have n3_ := Aside0.mk (blk_below (g := gb289) (o := .cells #[.int .i64 a1_0, .int .i64 a1_1, .int .i64 a1_2, .int .i64 a1_3, .slice A1_4 l1_4.length c1_4, .slice A1_5 l1_5.length c1_5] 32 (0, 0)) (by (with_reducible repeat (first | refine blk_drewN ?_ _ | refine blk_drew ?_ | refine blk_alloc ?_ _)); refine blk_far ?_ NB289_303.out _; (with_reducible repeat (first | refine blk_drewN ?_ _ | refine blk_drew ?_ | refine blk_alloc ?_ _)); refine blk_far ?_ NB289_303.out _; (with_reducible repeat (first | refine blk_drewN ?_ _ | refine blk_drew ?_ | refine blk_alloc ?_ _)); exact BK289.out) hb); have n4_ := Aside0.mk (blk_below (g := gb297) (o := .cells #[.int .i64 t292, .slice Ao50 t293.length co50] 27 (0, 0)) (by (with_reducible repeat (first | refine blk_drewN ?_ _ | refine blk_drew ?_ | refine blk_alloc ?_ _)); refine blk_far ?_ NB297_303.out _; (with_reducible repeat (first | refine blk_drewN ?_ _ | refine blk_drew ?_ | refine blk_alloc ?_ _)); refine blk_far ?_ NB297_303.out _; (with_reducible repeat (first | refine blk_drewN ?_ _ | refine blk_drew ?_ | refine blk_alloc ?_ _)); exact BK297.out) hb); have n5_ := Aside0.mk (blk_below (g := gb303) (o := .cells #[.int .i64 t298, .slice Ao59 t299.length co59] 27 (0, 0)) (by (with_reducible repeat (first | refine blk_drewN ?_ _ | refine blk_drew ?_ | refine blk_alloc ?_ _)); refine blk_put (cs := #[.int .i64 t298, .slice none 0 0]) ?_ 1 _ rfl; (with_reducible repeat (first | refine blk_drewN ?_ _ | refine blk_drew ?_ | refine blk_alloc ?_ _)); refine blk_put (cs := #[.int .i64 0, .slice none 0 0]) ?_ 0 _ rfl; (with_reducible repeat (first | refine blk_drewN ?_ _ | refine blk_drew ?_ | refine blk_alloc ?_ _)); exact BK303.out) hb); have n6_ := Aside0.mk (below_step (by repeat (first | (with_reducible first | exact HB.out | apply below_alloc | apply pw_below_drewN | apply below_drew1 | refine below_set ?_ GE288.out | refine below_set ?_ GE289.out | refine below_set ?_ GE297.out | refine below_set ?_ GE303.out) | exact HB.out)) hb); clear HO295; clear HO301; clear BK288; clear BK289; clear BK297; clear BK303; clear HB; have HO295 := n0_; have HO301 := n1_; have BK288 := n2_; have BK289 := n3_; have BK297 := n4_; have BK303 := n5_; have HB := n6_; clear n0_ n1_ n2_ n3_ n4_ n5_ n6_; (try clear hb); (try clear hb2); (try clear hk); (try clear hi)))
            go_ret
            exact ⟨by first | rfl | (simp [errW_none, errW_some] <;> rfl) | (simp [*, errW_none, errW_some] <;> rfl), by repeat (first | (with_reducible first | exact HB.out | apply below_alloc | apply pw_below_drewN | apply below_drew1 | refine below_set ?_ GE288.out | refine below_set ?_ GE289.out | refine below_set ?_ GE297.out | refine below_set ?_ GE303.out) | exact HB.out)⟩
  · replace c4 := Bool.eq_false_iff.mpr c4
    subst c4
    have H1 : (some false) = some r := by rw [if_neg (show ¬ (false = true) by decide)] at H; exact H
    clear H
    have H := H1
    clear H1
    obtain rfl := Option.some.inj H
    go_enter Try.func4, Try.ntmps4
    go_wp2_with (first | ((with_reducible refine gate_dst (N := 2) rfl ?_); refine box_event ?hg (N := 2) ?hd (cs := #[.int .i64 a0_0, .slice A0_1 l0_1.length c0_1]) (t := 27) ?hr ?_; (case hd => rfl); (case hg => rfl); (case hr => first | (go_simp; done) | (go_simp; rfl)); intro gb288 hg w62 hbox hb; have n0_ := Aside0.mk (below_step (by repeat (first | (with_reducible first | exact HB.out | apply below_alloc | apply pw_below_drewN | apply below_drew1) | exact HB.out)) hb); have n1_ := Aside0.mk (hbox); have n2_ := Aside0.mk ((by rw [hg]; exact (below_size (by repeat (first | (with_reducible first | exact HB.out | apply below_alloc | apply pw_below_drewN | apply below_drew1) | exact HB.out))) : w.heap.size ≤ gb288)); have n3_ := Aside0.mk ((by rw [hg]; exact (below_size (by repeat (first | (with_reducible first | exact HB.out | apply below_alloc | apply pw_below_drewN | apply below_drew1) | exact HB.out))) : w.heap.size ≤ gb288)); clear HB; have HB := n0_; have BK288 := n1_; have GW288 := n2_; have GE288 := n3_; clear n0_ n1_ n2_ n3_; clear hb hbox hg) | ((with_reducible refine gate_dst (N := 3) rfl ?_); refine box_event ?hg (N := 3) ?hd (cs := #[.int .i64 a1_0, .int .i64 a1_1, .int .i64 a1_2, .int .i64 a1_3, .slice A1_4 l1_4.length c1_4, .slice A1_5 l1_5.length c1_5]) (t := 32) ?hr ?_; (case hd => rfl); (case hg => rfl); (case hr => first | (go_simp; done) | (go_simp; rfl)); intro gb289 hg w63 hbox hb; have n0_ := Aside0.mk (blk_below (g := gb288) (o := .cells #[.int .i64 a0_0, .slice A0_1 l0_1.length c0_1] 27 (0, 0)) (by (with_reducible repeat (first | refine blk_drewN ?_ _ | refine blk_drew ?_ | refine blk_alloc ?_ _)); exact BK288.out) hb); have n1_ := Aside0.mk (below_step (by repeat (first | (with_reducible first | exact HB.out | apply below_alloc | apply pw_below_drewN | apply below_drew1 | refine below_set ?_ GE288.out) | exact HB.out)) hb); have n2_ := Aside0.mk (hbox); have n3_ := Aside0.mk ((by rw [hg]; exact (below_size (by repeat (first | (with_reducible first | exact HB.out | apply below_alloc | apply pw_below_drewN | apply below_drew1 | refine below_set ?_ GE288.out) | exact HB.out))) : w.heap.size ≤ gb289)); have n4_ := Aside0.mk ((by rw [hg]; exact (below_size (by repeat (first | (with_reducible first | exact HB.out | apply below_alloc | apply pw_below_drewN | apply below_drew1 | refine below_set ?_ GE288.out) | exact HB.out))) : w.heap.size ≤ gb289)); have n5_ := Aside0.mk ((by rw [hg]; exact Nat.ne_of_lt (blk_lt (g := gb288) (o := .cells #[.int .i64 a0_0, .slice A0_1 l0_1.length c0_1] 27 (0, 0)) (by (with_reducible repeat (first | refine blk_drewN ?_ _ | refine blk_drew ?_ | refine blk_alloc ?_ _)); exact BK288.out)) : gb288 ≠ gb289)); have n6_ := Aside0.mk ((by rw [hg]; exact Nat.ne_of_gt (blk_lt (g := gb288) (o := .cells #[.int .i64 a0_0, .slice A0_1 l0_1.length c0_1] 27 (0, 0)) (by (with_reducible repeat (first | refine blk_drewN ?_ _ | refine blk_drew ?_ | refine blk_alloc ?_ _)); exact BK288.out)) : gb289 ≠ gb288)); clear BK288; clear HB; have BK288 := n0_; have HB := n1_; have BK289 := n2_; have GW289 := n3_; have GE289 := n4_; have NB288_289 := n5_; have NB289_288 := n6_; clear n0_ n1_ n2_ n3_ n4_ n5_ n6_; clear hb hbox hg) | ((with_reducible refine gate_callee (f := 11) rfl ?_); refine goesL_ (some 9) rfl rfl Try.func11 (by kernel_rfl) rfl #[] rfl (by (try simp only [List.map_toArray, List.map_cons, List.map_nil]); first | done | rfl | (simp only [List.length_drop, List.length_take]; rfl)) ?_; (with_reducible refine (chalklinelaw35_live.calls  false _ A3.out).mono ?_); rintro e w64 ⟨rfl, hb⟩; refine ⟨_, rfl, ?_⟩; have n0_ := Aside0.mk (blk_below (g := gb288) (o := .cells #[.int .i64 a0_0, .slice A0_1 l0_1.length c0_1] 27 (0, 0)) (by (with_reducible repeat (first | refine blk_drewN ?_ _ | refine blk_drew ?_ | refine blk_alloc ?_ _)); exact BK288.out) hb); have n1_ := Aside0.mk (blk_below (g := gb289) (o := .cells #[.int .i64 a1_0, .int .i64 a1_1, .int .i64 a1_2, .int .i64 a1_3, .slice A1_4 l1_4.length c1_4, .slice A1_5 l1_5.length c1_5] 32 (0, 0)) (by (with_reducible repeat (first | refine blk_drewN ?_ _ | refine blk_drew ?_ | refine blk_alloc ?_ _)); exact BK289.out) hb); have n2_ := Aside0.mk (below_step (by repeat (first | (with_reducible first | exact HB.out | apply below_alloc | apply pw_below_drewN | apply below_drew1 | refine below_set ?_ GE288.out | refine below_set ?_ GE289.out) | exact HB.out)) hb); clear BK288; clear BK289; clear HB; have BK288 := n0_; have BK289 := n1_; have HB := n2_; clear n0_ n1_ n2_; (try clear hb); (try clear hb2); (try clear hk); (try clear hi)))
    go_ret
    exact ⟨by first | rfl | (simp [errW_none, errW_some] <;> rfl) | (simp [*, errW_none, errW_some] <;> rfl), by repeat (first | (with_reducible first | exact HB.out | apply below_alloc | apply pw_below_drewN | apply below_drew1 | refine below_set ?_ GE288.out | refine below_set ?_ GE289.out) | exact HB.out)⟩
end Go.Proofs.Ytfdhnmijaobbdaa.S
end
section
namespace Go.Proofs.YtfdhnmijaobbdaaW.PrintMore
open Go.RowKit Go.Proofs.YtfdhnmijaobbdaaW.PrintWords Go.Proofs.YtfdhnmijaobbdaaW.PrintLast Go.ChangeShapes Go.WideShapes
def Opens {α : Type} (P : Program) (t : TypeId) (d : Kd α) (wf : α → Prop) : Prop :=
  ∀ (H : Type) (enc : TypeId × Value → H) (w : World) (base : Nat) (spare : Nat → Bool) (held : Bool) (fuel : Nat) (cs : List Value) (x : DataW H × List MemPlace), DataW.trod enc P w base spare held fuel t cs = some x → ∃ y, d.K w y cs ∧ wf y
section
variable {P : Program} {t : TypeId}
theorem opens_int {k : IntKind} (ht : P.underlying t = some (.int k)) : Opens P t (Kd.int k) (fun n => (Lit.int k n).wf = true) := by
  intro H enc w base spare held fuel cs x h
  obtain ⟨n, rfl, _, hw⟩ := DataW.trod_int ht h
  exact ⟨n, rfl, hw⟩
theorem cells_cell {w : World} {base n : Nat} {a : Addr} {cs : List Value} (h : w.cells? base a n = some cs) : cs.length = n ∧ ∀ i u, cs[i]? = some u → w.cell? (a.add i) = some u := by
  obtain ⟨_, hl, hc⟩ := World.cells?_some h
  refine ⟨hl, fun i u hu => ?_⟩
  have hi : i < n := by rw [← hl]; exact (List.getElem?_eq_some_iff.1 hu).1
  rw [hc i hi, hu]
theorem opens_slice {α : Type} {e : TypeId} {d : Kd α} {wf : α → Prop} (ht : P.underlying t = some (.slice e)) (hsz : P.cellsOf e = d.sz) (h : Opens P e d wf) :
    Opens P t (Kd.slice e d) (fun l => l.length ≤ maxLen ∧ ∀ x ∈ l, wf x) := by
  intro H enc w base spare held fuel cs x hx
  rcases Deep.open_slice ht hx with ⟨rfl, _⟩ | ⟨a, len, cap, m, n, D, Pl, rfl, _, hl, hm, hmm, _, hel⟩
  · exact ⟨[], ⟨none, 0, rfl, Nat.le_refl _, Kd.C_nil _ _⟩, Nat.zero_le _, fun x hx => by cases hx⟩
  · have hlm : len ≤ m := by rw [hmm]; split <;> omega
    have hone : ∀ i, i < len → ∃ y : α, wf y ∧ ∃ c, c.length = d.sz ∧ d.K w y c ∧ ∀ j u, c[j]? = some u → w.cell? ((a.add (i * d.sz)).add j) = some u := by
      intro i hi
      obtain ⟨cs', hc, ht'⟩ := hel i (by omega)
      obtain ⟨y, hK, hw⟩ := h H enc w base spare held n cs' _ ht'
      rw [hsz] at hc
      obtain ⟨hlen, hcell⟩ := cells_cell hc
      exact ⟨y, hw, cs', hlen, hK, hcell⟩
    let f : Nat → Option α := fun i => if hi : i < len then some (Classical.choose (hone i hi)) else none
    have hf : ∀ i (hi : i < len), f i = some (Classical.choose (hone i hi)) := fun i hi => dif_pos hi
    let l : List α := (List.range len).filterMap f
    have hln : ∀ m, m ≤ len → ((List.range m).filterMap f).length = m ∧ ∀ i (hi : i < len), i < m → ((List.range m).filterMap f)[i]? = some (Classical.choose (hone i hi)) := by
      intro m
      induction m with
      | zero => exact fun _ => ⟨rfl, fun i _ h0 => absurd h0 (Nat.not_lt_zero _)⟩
      | succ m ih =>
        intro hm'
        obtain ⟨h1, h2⟩ := ih (by omega)
        rw [List.range_succ, List.filterMap_append]
        have he : [m].filterMap f = [Classical.choose (hone m (by omega))] := by simp [hf m (by omega)]
        rw [he]
        refine ⟨by simp [h1], fun i hi him => ?_⟩
        rcases Nat.lt_succ_iff_lt_or_eq.1 him with hlt | rfl
        · rw [List.getElem?_append_left (by omega)]
          exact h2 i hi hlt
        · rw [List.getElem?_append_right (by omega), h1]
          simp
    obtain ⟨hlen, hget⟩ := hln len (Nat.le_refl _)
    have hmax : cap ≤ 9223372036854775807 := by unfold maxLen at hm; omega
    refine ⟨l, ⟨some a, cap, ?_, ?_, ?_⟩, ?_, ?_⟩
    · show [Value.slice (some a) len cap] = _
      rw [hlen]
    · rw [hlen]; exact hl
    · refine ⟨rfl, by rw [hlen]; omega, fun _ => ⟨a, rfl, fun j p hp => ?_⟩⟩
      have hj : j < len := by rw [← hlen]; exact (List.getElem?_eq_some_iff.1 hp).1
      rw [hget j hj hj] at hp
      obtain rfl := Option.some.inj hp
      obtain ⟨_, c, hc1, hc2, hc3⟩ := Classical.choose_spec (hone j hj)
      exact ⟨c, hc1, hc2, fun i u hu => by rw [← Deep.add_add]; exact hc3 i u hu⟩
    · rw [hlen]; omega
    · intro x hx
      obtain ⟨j, hj⟩ := List.getElem?_of_mem hx
      have hj' : j < len := by rw [← hlen]; exact (List.getElem?_eq_some_iff.1 hj).1
      rw [hget j hj' hj'] at hj
      obtain rfl := Option.some.inj hj
      exact (Classical.choose_spec (hone j hj')).1
def OpensF {α : Type} (P : Program) (fs : List Field) (off : Nat) (d : Kd α) (wf : α → Prop) : Prop :=
  ∀ (H : Type) (enc : TypeId × Value → H) (w : World) (base : Nat) (spare : Nat → Bool) (held : Bool) (n : Nat) (cs : List Value), cs.length = off + d.sz →
    (∀ f ∈ fs, ∃ y, DataW.trod enc P w base spare held n f.type ((cs.drop f.offset).take (P.cellsOf f.type)) = some y) → ∃ y, d.K w y (cs.drop off) ∧ wf y
theorem opensF_one {α : Type} {f : Field} {d : Kd α} {wf : α → Prop} (hsz : P.cellsOf f.type = d.sz) (h : Opens P f.type d wf) : OpensF P [f] f.offset d wf := by
  intro H enc w base spare held n cs hl hf
  obtain ⟨y, hy⟩ := hf f (List.mem_singleton.2 rfl)
  rw [List.take_of_length_le (by rw [List.length_drop, hl, hsz]; omega)] at hy
  exact h H enc w base spare held n _ _ hy
theorem opensF_cons {α β : Type} {f : Field} {fs : List Field} {d : Kd α} {d' : Kd β} {wf : α → Prop} {wf' : β → Prop} (hsz : P.cellsOf f.type = d.sz) (h : Opens P f.type d wf) (h' : OpensF P fs (f.offset + d.sz) d' wf') :
    OpensF P (f :: fs) f.offset (Kd.pair d d') (fun x => wf x.1 ∧ wf' x.2) := by
  intro H enc w base spare held n cs hl hf
  have hl' : cs.length = f.offset + (d.sz + d'.sz) := hl
  obtain ⟨y, hy⟩ := hf f (List.mem_cons_self)
  rw [hsz] at hy
  obtain ⟨a, hK, hw⟩ := h H enc w base spare held n _ _ hy
  obtain ⟨b, hK', hw'⟩ := h' H enc w base spare held n cs (by rw [hl']; omega) (fun g hg => hf g (List.mem_cons_of_mem _ hg))
  refine ⟨(a, b), ⟨(cs.drop f.offset).take d.sz, cs.drop (f.offset + d.sz), ?_, hK, hK'⟩, hw, hw'⟩
  rw [← List.drop_drop, List.take_append_drop]
theorem opens_struct {α : Type} {fs : Array Field} {d : Kd α} {wf : α → Prop} (ht : P.underlying t = some (.struct fs)) (hsz : P.cellsOf t = d.sz) (h : OpensF P fs.toList 0 d wf) : Opens P t d wf := by
  intro H enc w base spare held fuel cs x hx
  obtain ⟨xs, n, _, _, hl, hlen, hf⟩ := DataW.trod_struct ht hx
  obtain ⟨y, hK, hw⟩ := h H enc w base spare held n cs (by rw [hl, hsz]; omega) (fun f hm => by
    obtain ⟨i, hi⟩ := List.getElem?_of_mem hm
    have hi' : fs[i]? = some f := by simpa using hi
    have hlt : i < xs.length := by rw [hlen]; exact (Array.getElem?_eq_some_iff.1 hi').1
    exact ⟨xs[i], by rw [hf i f hi', List.getElem?_eq_getElem hlt]⟩)
  exact ⟨y, by simpa using hK, hw⟩
theorem opens_iso {α β : Type} {d : Kd α} {wf : α → Prop} (f : β → α) (g : α → β) (hfg : ∀ a, f (g a) = a) (h : Opens P t d wf) : Opens P t (Kd.iso d f) (fun b => wf (f b)) := by
  intro H enc w base spare held fuel cs x hx
  obtain ⟨y, hK, hw⟩ := h H enc w base spare held fuel cs x hx
  exact ⟨g y, by show d.K w (f (g y)) cs; rw [hfg]; exact hK, by show wf (f (g y)); rw [hfg]; exact hw⟩
theorem arg_struct {α : Type} {fs : Array Field} {d : Kd α} {wf : α → Prop} {r : Reach} {W : World} {b0 : Nat} {v : Value} (ht : P.underlying t = some (.struct fs)) (ho : Opens P t d wf) (hv : Value.okWide P W r b0 t v)
    {H : Type} {enc : TypeId × Value → H} {base : Nat} {spare : Nat → Bool} {held : Bool} {dd : DataW H} {ps : List MemPlace} (h : DataW.Trod enc P W base spare held t v dd ps) :
    ∃ (x : α) (cs : List Value), v = .agg cs.toArray ∧ d.K W x cs ∧ wf x := by
  obtain ⟨cs, rfl, _⟩ := okWide_struct ht hv
  obtain ⟨fuel, hf⟩ := h
  obtain ⟨x, hK, hw⟩ := ho H enc W base spare held fuel _ _ hf
  exact ⟨x, cs.toList, by simp, by simpa [Value.cells] using hK, hw⟩
end
end Go.Proofs.YtfdhnmijaobbdaaW.PrintMore
namespace Go.Proofs.YtfdhnmijaobbdaaW.PrintMore
open Go.RowKit Go.ChangeShapes Go.WideShapes
end Go.Proofs.YtfdhnmijaobbdaaW.PrintMore
end
section
namespace Go.Proofs.Ytfdhnmijaobbdaa.S
open Go.RowKit Go.Proofs.YtfdhnmijaobbdaaW.PrintWords Go.Proofs.YtfdhnmijaobbdaaW.PrintLast Go.Proofs.YtfdhnmijaobbdaaW.PrintMore
set_option linter.unusedVariables false
def wf60 (x : S60) : Prop := (Lit.int .i64 x.f0).wf = true ∧ (Lit.int .i64 x.f1).wf = true
theorem opens60 : Opens Try.prog 60 k60 wf60 := opens_iso (fun x : S60 => (x.f0, x.f1)) (fun p => ⟨p.1, p.2⟩) (fun _ => rfl) (opens_struct Try.underlying60 (by kernel_rfl) (opensF_cons (by kernel_rfl) (opens_int Try.underlying3) (opensF_one (by kernel_rfl) (opens_int Try.underlying3))))
def wf25 (x : S25) : Prop := (x.f0.length ≤ maxLen ∧ ∀ z_ ∈ x.f0, wf60 z_)
theorem opens25 : Opens Try.prog 25 k25 wf25 := opens_iso (fun x : S25 => (x.f0)) (fun p => ⟨p⟩) (fun _ => rfl) (opens_struct Try.underlying25 (by kernel_rfl) (opensF_one (by kernel_rfl) (opens_slice Try.underlying23 (by kernel_rfl) opens60)))
def wf27 (x : S27) : Prop := (Lit.int .i64 x.f0).wf = true ∧ wf25 x.f1
theorem opens27 : Opens Try.prog 27 k27 wf27 := opens_iso (fun x : S27 => (x.f0, x.f1)) (fun p => ⟨p.1, p.2⟩) (fun _ => rfl) (opens_struct Try.underlying27 (by kernel_rfl) (opensF_cons (by kernel_rfl) (opens_int Try.underlying3) (opensF_one (by kernel_rfl) opens25)))
def wf64 (x : S64) : Prop := (Lit.int .i64 x.f0).wf = true ∧ wf60 x.f1
theorem opens64 : Opens Try.prog 64 k64 wf64 := opens_iso (fun x : S64 => (x.f0, x.f1)) (fun p => ⟨p.1, p.2⟩) (fun _ => rfl) (opens_struct Try.underlying64 (by kernel_rfl) (opensF_cons (by kernel_rfl) (opens_int Try.underlying3) (opensF_one (by kernel_rfl) opens60)))
def wf32 (x : S32) : Prop := (Lit.int .i64 x.f0).wf = true ∧ (Lit.int .i64 x.f1).wf = true ∧ (Lit.int .i64 x.f2).wf = true ∧ (Lit.int .i64 x.f3).wf = true ∧ wf25 x.f4 ∧ (x.f5.length ≤ maxLen ∧ ∀ z_ ∈ x.f5, wf64 z_)
theorem opens32 : Opens Try.prog 32 k32 wf32 := opens_iso (fun x : S32 => (x.f0, x.f1, x.f2, x.f3, x.f4, x.f5)) (fun p => ⟨p.1, p.2.1, p.2.2.1, p.2.2.2.1, p.2.2.2.2.1, p.2.2.2.2.2⟩) (fun _ => rfl) (opens_struct Try.underlying32 (by kernel_rfl) (opensF_cons (by kernel_rfl) (opens_int Try.underlying3) (opensF_cons (by kernel_rfl) (opens_int Try.underlying3) (opensF_cons (by kernel_rfl) (opens_int Try.underlying3) (opensF_cons (by kernel_rfl) (opens_int Try.underlying3) (opensF_cons (by kernel_rfl) opens25 (opensF_one (by kernel_rfl) (opens_slice Try.underlying30 (by kernel_rfl) opens64))))))))
end Go.Proofs.Ytfdhnmijaobbdaa.S
end
section
namespace Go.Proofs.Ytfdhnmijaobbdaa.S
open Go.RowKit Go.Proofs.YtfdhnmijaobbdaaW.PrintWords Go.Proofs.YtfdhnmijaobbdaaW.PrintLast Go.Proofs.YtfdhnmijaobbdaaW.PrintMore
theorem wrap_succ {i : Nat} (h : i < 9223372036854775807) : wrap64 ((i : Int) + 1) = ((i + 1 : Nat) : Int) := by
  unfold wrap64; omega
theorem wrap_pred {i : Int} (h0 : -9223372036854775807 ≤ i) (h : i ≤ 9223372036854775807) : wrap64 (i - 1) = i - 1 := by
  unfold wrap64; omega
theorem drop_cons {α : Type} {l s : List α} {x : α} {i : Nat} (h : l.drop i = x :: s) : i < l.length ∧ l[i]? = some x ∧ l.drop (i + 1) = s := by
  have h1 : i < l.length := by
    rcases Nat.lt_or_ge i l.length with h1 | h1
    · exact h1
    · rw [List.drop_eq_nil_of_le h1] at h; cases h
  refine ⟨h1, ?_, ?_⟩
  · rw [List.drop_eq_getElem_cons h1] at h
    injection h with h _
    rw [List.getElem?_eq_getElem h1, h]
  · rw [List.drop_eq_getElem_cons h1] at h
    injection h
theorem drop_nil {α : Type} {l : List α} {i : Nat} (h : l.drop i = []) : l.length ≤ i := by
  rcases Nat.lt_or_ge i l.length with h1 | h1
  · rw [List.drop_eq_getElem_cons h1] at h; cases h
  · exact h1
theorem rd60 {l : List S60} {i : Nat} {x : S60} (h : l[i]? = some x) : rd_T60 l (i : Int) = x := by
  unfold rd_T60; rw [Int.toNat_natCast, List.getD_eq_getElem?_getD, h]; rfl
theorem rd64 {l : List S64} {i : Nat} {x : S64} (h : l[i]? = some x) : rd_T64 l (i : Int) = x := by
  unfold rd_T64; rw [Int.toNat_natCast, List.getD_eq_getElem?_getD, h]; rfl
theorem succ_of {k n : Nat} (h : n < k) : ∃ m, k = m + 1 ∧ n ≤ m := ⟨k - 1, by omega, by omega⟩
def okP (p : S60) : Bool := decide (0 ≤ p.f0 ∧ p.f0 ≤ 49 ∧ 0 ≤ p.f1 ∧ p.f1 ≤ 31)
theorem place_ok (a x y : Int) : feed_Check_1_1.f a x y = some (okP ⟨x, y⟩) := by
  unfold feed_Check_1_1.f
  rw [feed_Take.bounds, feed_Take.bounds]
  simp only [Option.bind_some, okP]
  by_cases h : 0 ≤ x ∧ x ≤ 49
  · simp [h]
  · rw [decide_eq_false h]
    simp
    omega
theorem places_ok (l : List S60) (hl : l.length ≤ 9223372036854775806) : ∀ (s : List S60) (i k : Nat), l.drop i = s → s.length < k → feed_all_api_Place.l0 k l (l.length : Int) (i : Int) = some (s.all okP) := by
  intro s
  induction s with
  | nil =>
    intro i k hs hk
    obtain ⟨k, rfl, _⟩ := succ_of hk
    have := drop_nil hs
    simp only [feed_all_api_Place.l0]
    rw [if_neg (by omega)]
    rfl
  | cons x s ih =>
    intro i k hs hk
    obtain ⟨k, rfl, hk'⟩ := succ_of hk
    obtain ⟨h1, h2, h3⟩ := drop_cons hs
    have hk2 : s.length < k := by simp at hk'; omega
    simp only [feed_all_api_Place.l0]
    rw [if_pos (by omega), if_pos (by omega), if_pos (by omega), rd60 h2, place_ok]
    simp only [Option.bind_some]
    rw [wrap_succ (by omega), ih (i + 1) k h3 hk2]
    cases h : okP x <;> simp [h]
theorem same_refl (l : List S60) (hl : l.length ≤ 9223372036854775806) : ∀ (s : List S60) (i k : Nat), l.drop i = s → s.length < k → chalklineref04_Same.l0 k (i : Int) l l = some true := by
  intro s
  induction s with
  | nil =>
    intro i k hs hk
    obtain ⟨k, rfl, _⟩ := succ_of hk
    have := drop_nil hs
    simp only [chalklineref04_Same.l0]
    rw [if_neg (by omega)]
  | cons x s ih =>
    intro i k hs hk
    obtain ⟨k, rfl, hk'⟩ := succ_of hk
    obtain ⟨h1, h2, h3⟩ := drop_cons hs
    simp only [chalklineref04_Same.l0]
    rw [if_pos (by omega), if_pos (by omega), if_pos (by omega), wrap_succ (by omega), ih (i + 1) k h3 (by simp at hk'; omega)]
    simp
theorem same_eq (l : List S60) (hl : l.length ≤ 9223372036854775806) (k : Nat) (hk : l.length < k) : chalklineref04_Same.f k l l = some true := by
  unfold chalklineref04_Same.f
  rw [if_pos rfl]
  exact same_refl l hl l 0 k rfl hk
theorem clients_eq (a : Int) (l : List S60) (hl : l.length ≤ 9223372036854775806) (k : Nat) (hk : l.length < k) : chalklineref35_Clients.f k a l a l = some true := by
  unfold chalklineref35_Clients.f
  simp [same_eq l hl k hk]
def applyGo (n : Nat) (last : Int) : List S64 → List S60 → List S60 × Int
  | [], x => (x, 0)
  | m :: l, x => if m.f0 ≤ last ∨ m.f0 ≥ n then ([], 1) else applyGo n m.f0 l (x.set m.f0.toNat m.f1)
theorem apply_loop (w : List S60) (l : List S64) (hl : l.length ≤ 9223372036854775806) : ∀ (s : List S64) (i k : Nat) (last : Int) (x : List S60), l.drop i = s → -1 ≤ last → x.length = w.length → s.length < k →
    week_Apply.l0 k last l (l.length : Int) (i : Int) w x = some (applyGo w.length last s x) := by
  intro s
  induction s with
  | nil =>
    intro i k last x hs h0 hx hk
    obtain ⟨k, rfl, _⟩ := succ_of hk
    have := drop_nil hs
    simp only [week_Apply.l0]
    rw [if_neg (by omega)]
    rfl
  | cons y s ih =>
    intro i k last x hs h0 hx hk
    obtain ⟨k, rfl, hk'⟩ := succ_of hk
    obtain ⟨h1, h2, h3⟩ := drop_cons hs
    simp only [List.length_cons] at hk'
    simp only [week_Apply.l0]
    rw [if_pos (by omega), if_pos (by omega), if_pos (by omega), rd64 h2, wrap_succ (by omega)]
    simp only [applyGo]
    by_cases a : y.f0 ≤ last
    · rw [if_pos a, if_pos (.inl a)]
    · rw [if_neg a]
      by_cases b : y.f0 ≥ (w.length : Int)
      · rw [if_pos b, if_pos (.inr b)]
      · rw [if_neg b, if_pos (by omega), if_pos (by omega), if_neg (by omega)]
        exact ih (i + 1) k y.f0 _ h3 (by omega) (by rw [List.length_set]; exact hx) (by omega)
theorem apply_eq (w : List S60) (l : List S64) (hw : w.length < 8796093022208) (hl : l.length ≤ 9223372036854775806) (k : Nat) (hk : l.length < k) : week_Apply.f k w l = some (applyGo w.length (-1) l w) := by
  unfold week_Apply.f slices_Clone_api_Place_api_Place.f
  rw [if_pos hw]
  simp only [Option.bind_some]
  exact apply_loop w l hl l 0 k (-1) w rfl (by omega) rfl hk
theorem refApply_loop (w : List S60) (l : List S64) (hl : l.length ≤ 9223372036854775806) : ∀ (s : List S64) (i k : Nat) (last : Int) (x : List S60), l.drop i = s → (i = 0 → last = -1) → (∀ j, i = j + 1 → 0 ≤ last ∧ ∃ m, l[j]? = some m ∧ m.f0 = last) → x.length = w.length → s.length < k →
    chalklineref04_Apply.l0 k l (i : Int) w x = some (applyGo w.length last s x) := by
  intro s
  induction s with
  | nil =>
    intro i k last x hs h0 h0' hx hk
    obtain ⟨k, rfl, _⟩ := succ_of hk
    have := drop_nil hs
    simp only [chalklineref04_Apply.l0]
    rw [if_neg (by omega)]
    rfl
  | cons y s ih =>
    intro i k last x hs h0 h0' hx hk
    obtain ⟨k, rfl, hk'⟩ := succ_of hk
    obtain ⟨h1, h2, h3⟩ := drop_cons hs
    simp only [List.length_cons] at hk'
    simp only [chalklineref04_Apply.l0]
    rw [if_pos (by omega), if_pos (by omega), rd64 h2, wrap_succ (by omega)]
    simp only [applyGo]
    cases i with
    | zero =>
      obtain rfl := h0 rfl
      by_cases a : y.f0 < 0
      · rw [if_pos a, if_pos (.inl (by omega))]
      · rw [if_neg a]
        by_cases b : y.f0 ≥ (w.length : Int)
        · rw [if_pos b, if_pos (.inr b)]
        · rw [if_neg b, if_neg (by omega), if_pos (by omega), if_pos (by omega), if_neg (by omega)]
          exact ih 1 k y.f0 _ h3 (by omega) (fun j e => ⟨by omega, y, by rw [show j = 0 by omega]; exact h2, rfl⟩) (by rw [List.length_set]; exact hx) (by omega)
    | succ j =>
      obtain ⟨p0, m, hm, rfl⟩ := h0' j rfl
      have hp : wrap64 (((j + 1 : Nat) : Int) - 1) = (j : Int) := by rw [wrap_pred (by omega) (by omega)]; omega
      by_cases a : y.f0 < 0
      · rw [if_pos a, if_pos (.inl (by omega))]
      · rw [if_neg a]
        by_cases b : y.f0 ≥ (w.length : Int)
        · rw [if_pos b, if_pos (.inr b)]
        · rw [if_neg b, if_pos (by omega), hp, if_pos (by omega), if_pos (by omega), rd64 hm]
          by_cases c : y.f0 ≤ m.f0
          · rw [if_pos c, if_pos (.inl c)]
          · rw [if_neg c, if_pos (by omega), if_pos (by omega), if_neg (by omega)]
            exact ih (j + 1 + 1) k y.f0 _ h3 (by omega) (fun q e => ⟨by omega, y, by rw [show q = j + 1 by omega]; exact h2, rfl⟩) (by rw [List.length_set]; exact hx) (by omega)
theorem refApply_eq (w : List S60) (l : List S64) (hw : w.length < 8796093022208) (hl : l.length ≤ 9223372036854775806) (k : Nat) (hk : l.length < k) : chalklineref04_Apply.f k w l = some (applyGo w.length (-1) l w) := by
  unfold chalklineref04_Apply.f
  simp only [Option.bind_some]
  rw [if_pos (by simpa using hw)]
  exact refApply_loop w l hl l 0 k (-1) w rfl (fun _ => rfl) (fun j e => by omega) rfl hk
theorem applyGo_len (n : Nat) : ∀ (l : List S64) (last : Int) (x : List S60), (applyGo n last l x).1.length ≤ x.length
  | [], _, _ => Nat.le_refl _
  | m :: l, last, x => by
    simp only [applyGo]
    split
    · simp
    · have := applyGo_len n l m.f0 (x.set m.f0.toNat m.f1)
      rwa [List.length_set] at this
theorem refTake_eq (k : Nat) (n0 : Int) (l1 : List S60) (m0 m1 m2 m3 : Int) (l4 : List S60) (l5 : List S64) (h1 : l1.length < 8796093022208) (h4 : l4.length < 8796093022208) (h5 : l5.length ≤ 9223372036854775806) (hk : l5.length + 1 < k) :
    ∃ r, feed_Take.f k n0 l1 m0 m1 m2 m3 l4 l5 = some r ∧ chalklineref35_Take.f k n0 l1 m0 m1 m2 m3 l4 l5 = some r ∧ r.2.1.length ≤ max l1.length l4.length := by
  obtain ⟨q, rfl, hq⟩ := succ_of (show l5.length + 1 < k by omega)
  unfold feed_Take.f feed_Take.eff chalklineref35_Take.f
  rw [apply_eq l1 l5 h1 h5 (q + 1) (by omega)]
  simp only [chalklineref35_Take.j0, refApply_eq l1 l5 h1 h5 q (by omega), slices_Clone_api_Place_api_Place.f, if_pos h4, Option.bind_some, List.length_nil, Nat.zero_add, List.nil_append]
  have hlen := applyGo_len l1.length l5 (-1) l1
  generalize applyGo l1.length (-1) l5 l1 = z at hlen
  by_cases a : n0 < 0
  · refine ⟨_, ?_, by rw [if_pos a, if_pos trivial], by simp⟩
    rw [if_neg (show ¬ 0 ≤ n0 by omega)]; split <;> rfl
  · rw [if_neg a, if_pos (show 0 ≤ n0 by omega)]
    by_cases b : n0 > 1099511627776
    · refine ⟨_, ?_, by rw [if_pos b, if_pos trivial], by simp⟩
      rw [if_neg (show ¬ n0 ≤ 1099511627776 by omega)]; split <;> rfl
    · rw [if_neg b, if_pos (show n0 ≤ 1099511627776 by omega)]
      by_cases c : m3 < 1
      · refine ⟨_, ?_, by rw [if_pos c, if_pos trivial], by simp⟩
        rw [if_neg (show ¬ 1 ≤ m3 by omega)]; split <;> rfl
      · rw [if_neg c, if_pos (show 1 ≤ m3 by omega)]
        by_cases d : m3 > 1099511627776
        · refine ⟨_, ?_, by rw [if_pos d, if_pos trivial], by simp⟩
          rw [if_neg (show ¬ m3 ≤ 1099511627776 by omega)]; split <;> rfl
        · rw [if_neg d, if_pos (show m3 ≤ 1099511627776 by omega)]
          by_cases e : m0 = 1
          · subst e
            by_cases f : m3 ≤ n0
            · exact ⟨(0, [], 341), by simp [f], by simp [f], by simp⟩
            · exact ⟨(m3, l4, 0), by simp [f], by simp [f], Nat.le_max_right _ _⟩
          · by_cases g : m0 = 2
            · subst g
              by_cases f : m3 ≤ n0
              · exact ⟨(0, [], 341), by simp [f], by simp [f], by simp⟩
              · by_cases o : m2 = n0
                · by_cases hz : z.2 = 0
                  · exact ⟨(m3, z.1, 0), by simp [f, o, hz], by simp [f, o, hz], Nat.le_trans hlen (Nat.le_max_left _ _)⟩
                  · exact ⟨(0, [], z.2), by simp [f, o, hz], by simp [f, o, hz], by simp⟩
                · exact ⟨(0, [], 350), by simp [f, o], by simp [f, o], by simp⟩
            · exact ⟨(0, [], 1), by simp [e, g], by simp [e, g], by simp⟩
end Go.Proofs.Ytfdhnmijaobbdaa.S
end
section
namespace Go.Proofs.Ytfdhnmijaobbdaa.Pure
open Go.RowKit Go.Proofs.YtfdhnmijaobbdaaW.PrintWords Go.Proofs.YtfdhnmijaobbdaaW.PrintLast Go.Proofs.YtfdhnmijaobbdaaW.PrintMore Go.Proofs.Ytfdhnmijaobbdaa.S
theorem FeedTakes : ∀ (x0 : S27) (x1 : S32), wf27 x0 → wf32 x1 → ∃ k, chalklinelaw35_FeedTakes.f k x0.f0 x0.f1.f0 x1.f0 x1.f1 x1.f2 x1.f3 x1.f4.f0 x1.f5 = some true := by
  intro x0 x1 _ _
  refine ⟨x1.f5.length + 400, ?_⟩
  unfold chalklinelaw35_FeedTakes.f
  simp only [chalklinelaw35_live.f, Option.bind_some, if_true]
  by_cases h : (x0.f1.f0.length : Int) > 70
  · rw [if_pos h]; rfl
  · rw [if_neg h]
    unfold chalklinelaw35_fewMsg.f
    by_cases h4 : (x1.f4.f0.length : Int) ≤ 70
    · rw [if_pos h4]
      simp only [Option.bind_some]
      by_cases h5 : (x1.f5.length : Int) ≤ 70
      · rw [decide_eq_true h5]
        obtain ⟨r, hr1, hr2, hr3⟩ := refTake_eq (x1.f5.length + 399) x0.f0 x0.f1.f0 x1.f0 x1.f1 x1.f2 x1.f3 x1.f4.f0 x1.f5 (by omega) (by omega) (by omega) (by omega)
        rw [show x1.f5.length + 400 = (x1.f5.length + 399) + 1 from rfl]
        simp only [chalklinelaw35_FeedTakes.j0]
        rw [if_neg (by decide), hr1, hr2]
        simp only [Option.bind_some]
        rw [clients_eq r.1 r.2.1 (by omega) _ (by omega)]
        simp
      · rw [decide_eq_false h5]; rfl
    · rw [if_neg h4]; rfl
end Go.Proofs.Ytfdhnmijaobbdaa.Pure
end
section
namespace Go.Proofs.Ytfdhnmijaobbdaa.feedTakes
open Go.ChangeShapes Go.WideShapes Go.ChangeAt Go.RowKit Go.Proofs.YtfdhnmijaobbdaaW.PrintWords Go.Proofs.YtfdhnmijaobbdaaW.PrintLast Go.Proofs.YtfdhnmijaobbdaaW.PrintMore Go.Proofs.Ytfdhnmijaobbdaa.S
open Go.ChangeMaps (open_string shut_string)
set_option linter.unusedVariables false
theorem own : ownKnob Try.prog.godebug = none := by kernel_rfl
theorem laidOut : laidOutB Try.prog = true := by kernel_rfl
set_option maxRecDepth 100000 in
theorem lifted (os : Os) (started : os.Started) (H : Type) (enc : TypeId × Value → H) :
    ReturnsInHanded {} Try.checked os 4 .any (Rows.feedTakesSpec.pre6 enc Try.prog Try.f4 Rows.feedTakesRow.domain false) (Rows.feedTakesSpec.post enc Try.prog Try.f4 false true false false) := by
  refine returnsInHanded_of_change_sized (C := Try.checked) own started (by kernel_rfl) Try.func4
    (ChangeSpec.witness6 (enc := enc) (C := Try.checked) false ⟨#[], #[.agg #[.int .i64 0, .slice none 0 0], .agg #[.int .i64 0, .int .i64 0, .int .i64 0, .int .i64 0, .slice none 0 0, .slice none 0 0]], []⟩ 8 (by kernel_rfl) (by kernel_rfl) (by kernel_rfl) (by kernel_rfl)) ?_
  intro W base args ds gs before hval0 hW hcnd hsz0 _
  have hsz : (DataW.weightsEach Try.prog (Try.f4.params.toList ++ Rows.feedTakesSpec.plain.varTypes Try.prog) (ds ++ gs)).all (· ≤ reachBytes) = true := hsz0
  have hval : ∀ (j : Nat) t v, Try.f4.params[j]? = some t → args[j]? = some v → Value.okWide Try.prog W .any base t v := hval0
  have hW' := hW
  obtain ⟨p, q, hA0, hV, rfl, hfz, hnd⟩ := hW
  have hA : DataW.TrodAll enc Try.prog W 0 (fun _ => true) true Try.f4.params.toList args.toList ds p := hA0
  rw [Try.params4] at hA hval hsz
  obtain ⟨v0, vs0, d0, ds0, p0, q0, hargs, rfl, rfl, h0, r0⟩ := trodAll_cons hA
  obtain ⟨v1, vs1, d1, ds1, p1, q1, rfl, rfl, rfl, h1, r1⟩ := trodAll_cons r0
  obtain ⟨rfl, rfl, rfl⟩ := trodAll_nil r1
  obtain rfl : args = #[v0, v1] := by cases args; simp_all
  obtain ⟨rfl, rfl⟩ := trodVars_none hV
  have k0 := h0
  have lt0 : ∀ x ∈ p0, x.block < W.heap.size := by obtain ⟨m, hm⟩ := k0; exact DataW.trod_lt m _ _ _ hm
  obtain ⟨x0, cs0, rfl, hK0, w0⟩ := arg_struct Try.underlying27 opens27 (hval 0 27 v0 rfl rfl) h0
  obtain ⟨A0_1, c0_1, rfl, hc0_1, hr0_1⟩ := k27_open hK0
  have k1 := h1
  have lt1 : ∀ x ∈ p1, x.block < W.heap.size := by obtain ⟨m, hm⟩ := k1; exact DataW.trod_lt m _ _ _ hm
  obtain ⟨x1, cs1, rfl, hK1, w1⟩ := arg_struct Try.underlying32 opens32 (hval 1 32 v1 rfl rfl) h1
  obtain ⟨A1_4, c1_4, A1_5, c1_5, rfl, hc1_4, hr1_4, hc1_5, hr1_5⟩ := k32_open hK1
  clear hA0 hval0 hsz0 hsz
  obtain ⟨k, hp⟩ := Pure.FeedTakes x0 x1 w0 w1
  refine (chalklinelaw35_FeedTakes.calls k x0.f0 _ _ x0.f1.f0 x1.f0 x1.f1 x1.f2 x1.f3 _ _ x1.f4.f0 _ _ x1.f5 true W hr0_1 hc0_1 hr1_4 hc1_4 hr1_5 hc1_5 hp).mono fun e W' ⟨he, bel⟩ => ?_
  subst he
  exact ⟨_, rfl, _, _, _, [], _, [], hW', trodAll_mk1 (shut_bool Try.underlying4 _), (trodAll_cons_mk (Below.trod laidOut (by kernel_rfl) (of_decide_eq_true (by kernel_rfl)) k0 bel lt0) (trodAll_cons_mk (Below.trod laidOut (by kernel_rfl) (of_decide_eq_true (by kernel_rfl)) k1 bel lt1) trodAll_mk0)), rfl, bel.frame _, fun h => by cases h⟩
theorem over : Rows.feedTakesRow.holds Try.pinned (OpenSpec.ofChange Rows.feedTakesSpec) :=
  OpenClaim.holds_of_wide 4 Try.f4 rfl rfl rfl rfl rfl rfl rfl ⟨rfl, rfl, rfl, rfl, rfl⟩ rfl rfl rfl rfl rfl (by kernel_rfl) Try.func4 (by kernel_rfl)
    (of_decide_eq_true (by kernel_rfl)) (by unfold Func.isWrapper; first | (rw [if_pos (by decide +kernel)]; kernel_rfl) | (rw [if_neg (by decide +kernel)]; exact ⟨rfl, rfl⟩))
    (fun os started H enc _ => lifted os started H enc)
theorem proved : Rows.FeedTakesSaid := over
#print axioms proved
end Go.Proofs.Ytfdhnmijaobbdaa.feedTakes
namespace Go.Proofs.Ytfdhnmijaobbdaa
theorem feedTakes_holds : Rows.FeedTakesSaid := feedTakes.proved
end Go.Proofs.Ytfdhnmijaobbdaa
end
