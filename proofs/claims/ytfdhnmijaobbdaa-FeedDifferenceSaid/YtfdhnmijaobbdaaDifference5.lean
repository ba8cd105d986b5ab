/- feedDifference_holds: part 5 of the proof: the plain functions, the walks of the program's functions and the laws about them. Conditions: those that each theorem states. -/
import Derived.Deep.Slices
import Derived.ChangeSame
import Derived.WideShapes
import Derived.OpenShut
import Derived.SizedLaws
import Derived.ProofKit
import Derived.WalkKit
import Derived.ShutString
import Derived.ChangeOld
import Derived.Below
import Derived.Test.YtfdhnmijaobbdaaDifference1
import Derived.Test.YtfdhnmijaobbdaaDifference2
import Derived.Test.YtfdhnmijaobbdaaDifference3
import Derived.Test.YtfdhnmijaobbdaaDifference4
section
namespace Go.Proofs.Ytfdhnmijaobbdaa.S
open Go.RowKit Go.Proofs.YtfdhnmijaobbdaaW.PrintWords Go.Proofs.YtfdhnmijaobbdaaW.PrintLast Go.Proofs.YtfdhnmijaobbdaaW.PrintMore
attribute [local go_sem] max2_int min2_int max_two min_two max_three min_three max_four min_four   -- for this text's walks alone
set_option linter.unusedVariables false
set_option linter.unusedSimpArgs false
mutual
def chalklinelaw35_FeedDifference.j0 : Nat → List (S52) → Int → Bool → Option (Bool)
  | 0, _, _, _ => none
  | k + 1, x0, x1, x32 => if x32 = true then (some true) else (if (wrap64 ((x0.length : Int) - 1)) = 0 then (none) else (if 0 ≤ (wrap64 ((wrap64 (1 + (Int.tmod (wrap64 (x1)) (wrap64 ((x0.length : Int) - 1))))) - 1)) then (if (wrap64 ((wrap64 (1 + (Int.tmod (wrap64 (x1)) (wrap64 ((x0.length : Int) - 1))))) - 1)) < (x0.length : Int) then ((feed_Reply.f k x0 (wrap64 (1 + (Int.tmod (wrap64 (x1)) (wrap64 ((x0.length : Int) - 1))))) 0).bind fun bt382 => ((feed_Reply.f k x0 0 0).bind fun bt394 => ((feed_Take.f k (wrap64 (1 + (Int.tmod (wrap64 (x1)) (wrap64 ((x0.length : Int) - 1))))) ((rd_T52 x0 (wrap64 ((wrap64 (1 + (Int.tmod (wrap64 (x1)) (wrap64 ((x0.length : Int) - 1))))) - 1))).f1.f0) bt382.1 bt382.2.1 bt382.2.2.1 bt382.2.2.2.1 bt382.2.2.2.2.1 bt382.2.2.2.2.2.1).bind fun bt406 => ((feed_Take.f k (wrap64 (1 + (Int.tmod (wrap64 (x1)) (wrap64 ((x0.length : Int) - 1))))) ((rd_T52 x0 (wrap64 ((wrap64 (1 + (Int.tmod (wrap64 (x1)) (wrap64 ((x0.length : Int) - 1))))) - 1))).f1.f0) bt394.1 bt394.2.1 bt394.2.2.1 bt394.2.2.2.1 bt394.2.2.2.2.1 bt394.2.2.2.2.2.1).bind fun bt412 => (if bt382.2.2.2.2.2.2 = 0 then (if bt394.2.2.2.2.2.2 = 0 then (if bt406.2.2 = 0 then (if bt412.2.2 = 0 then ((chalklineref35_Clients.f k bt406.1 bt406.2.1 bt412.1 bt412.2.1).bind fun t418 => (chalklinelaw35_FeedDifference.j1 k x0 (wrap64 (1 + (Int.tmod (wrap64 (x1)) (wrap64 ((x0.length : Int) - 1))))) (!t418) ((rd_T52 x0 (wrap64 ((wrap64 (1 + (Int.tmod (wrap64 (x1)) (wrap64 ((x0.length : Int) - 1))))) - 1))).f1.f0) bt382.1 bt382.2.1 bt382.2.2.1 bt382.2.2.2.1 bt382.2.2.2.2.1 bt382.2.2.2.2.2.1)) else (chalklinelaw35_FeedDifference.j1 k x0 (wrap64 (1 + (Int.tmod (wrap64 (x1)) (wrap64 ((x0.length : Int) - 1))))) true ((rd_T52 x0 (wrap64 ((wrap64 (1 + (Int.tmod (wrap64 (x1)) (wrap64 ((x0.length : Int) - 1))))) - 1))).f1.f0) bt382.1 bt382.2.1 bt382.2.2.1 bt382.2.2.2.1 bt382.2.2.2.2.1 bt382.2.2.2.2.2.1)) else (chalklinelaw35_FeedDifference.j1 k x0 (wrap64 (1 + (Int.tmod (wrap64 (x1)) (wrap64 ((x0.length : Int) - 1))))) true ((rd_T52 x0 (wrap64 ((wrap64 (1 + (Int.tmod (wrap64 (x1)) (wrap64 ((x0.length : Int) - 1))))) - 1))).f1.f0) bt382.1 bt382.2.1 bt382.2.2.1 bt382.2.2.2.1 bt382.2.2.2.2.1 bt382.2.2.2.2.2.1)) else (chalklinelaw35_FeedDifference.j1 k x0 (wrap64 (1 + (Int.tmod (wrap64 (x1)) (wrap64 ((x0.length : Int) - 1))))) true ((rd_T52 x0 (wrap64 ((wrap64 (1 + (Int.tmod (wrap64 (x1)) (wrap64 ((x0.length : Int) - 1))))) - 1))).f1.f0) bt382.1 bt382.2.1 bt382.2.2.1 bt382.2.2.2.1 bt382.2.2.2.2.1 bt382.2.2.2.2.2.1)) else (chalklinelaw35_FeedDifference.j1 k x0 (wrap64 (1 + (Int.tmod (wrap64 (x1)) (wrap64 ((x0.length : Int) - 1))))) true ((rd_T52 x0 (wrap64 ((wrap64 (1 + (Int.tmod (wrap64 (x1)) (wrap64 ((x0.length : Int) - 1))))) - 1))).f1.f0) bt382.1 bt382.2.1 bt382.2.2.1 bt382.2.2.2.1 bt382.2.2.2.2.1 bt382.2.2.2.2.2.1)))))) else (none)) else (none)))
def chalklinelaw35_FeedDifference.j1 : Nat → List (S52) → Int → Bool → List (S60) → Int → Int → Int → Int → List (S60) → List (S64) → Option (Bool)
  | 0, _, _, _, _, _, _, _, _, _, _ => none
  | k + 1, x0, x5, x92, x382000, x394000, x394001, x394002, x394003, x394004, x394005 => if x92 = true then (some false) else (if 0 ≤ (wrap64 ((x0.length : Int) - 1)) then (if (wrap64 ((x0.length : Int) - 1)) < (x0.length : Int) then (if (x382000.length : Int) = (((rd_T52 x0 (wrap64 ((x0.length : Int) - 1))).f1.f0).length : Int) then ((week_Diff.f k x382000 ((rd_T52 x0 (wrap64 ((x0.length : Int) - 1))).f1.f0)).bind fun bt421 => (if x394000 = 2 then (if x394002 = x5 then (if bt421.2 = 0 then ((chalklineref04_Moves.f k x394005 bt421.1).bind fun t425 => (some t425)) else (some false)) else (some false)) else (some false))) else (some (x394000 == 1))) else (none)) else (none))
end
def chalklinelaw35_FeedDifference.f (k : Nat) (l0 : List (S52)) (a1 : Int) : Option (Bool) := (chalklinelaw35_live.f).bind fun t377 => (if t377 = true then ((chalklineref35_Few.f k l0).bind fun t378 => (if t378 = true then ((feed_Check.f k l0).bind fun t379 => (if t379 = 0 then (chalklinelaw35_FeedDifference.j0 k l0 a1 (decide ((l0.length : Int) < 2))) else (chalklinelaw35_FeedDifference.j0 k l0 a1 true))) else (chalklinelaw35_FeedDifference.j0 k l0 a1 true))) else (some false))
set_option maxHeartbeats 8000000 in
set_option maxRecDepth 100000 in
theorem chalklinelaw35_FeedDifference.calls (k : Nat) (A0 : Option Addr) (c0 : Nat) (l0 : List (S52)) (a1 : Int) (r : Bool) (w : World) (hr0 : Kd.C k52 w A0 l0.length l0) (hc0 : l0.length ≤ c0) (h : chalklinelaw35_FeedDifference.f k l0 a1 = some r) :
    Calls Try.prog 8 #[.slice A0 l0.length c0, .int .u8 a1] w fun e w' => e = .returned (.bool r) ∧ Below w.heap.size w w' := by
  have hu25 := Try.underlying25
  have hu32 := Try.underlying32
  have hu27 := Try.underlying27
  have HR0 := Aside0.mk hr0
  have HC0 := Aside0.mk hc0
  clear hr0 hc0
  have HB := Aside0.mk (Below.refl w.heap.size w)
  have H : ((chalklinelaw35_live.f).bind fun t377 => (if t377 = true then ((chalklineref35_Few.f k l0).bind fun t378 => (if t378 = true then ((feed_Check.f k l0).bind fun t379 => (if t379 = 0 then (chalklinelaw35_FeedDifference.j0 k l0 a1 (decide ((l0.length : Int) < 2))) else (chalklinelaw35_FeedDifference.j0 k l0 a1 true))) else (chalklinelaw35_FeedDifference.j0 k l0 a1 true))) else (some false))) = some r := h
  clear h
  replace H := Option.bind_eq_some_iff.mp H
  obtain ⟨t377, A30, H⟩ := H
  replace H : (if t377 = true then ((chalklineref35_Few.f k l0).bind fun t378 => (if t378 = true then ((feed_Check.f k l0).bind fun t379 => (if t379 = 0 then (chalklinelaw35_FeedDifference.j0 k l0 a1 (decide ((l0.length : Int) < 2))) else (chalklinelaw35_FeedDifference.j0 k l0 a1 true))) else (chalklinelaw35_FeedDifference.j0 k l0 a1 true))) else (some false)) = some r := H
  have A3 := Aside0.mk A30
  clear A30
  by_cases c4 : t377 = true
  · subst c4
    have H1 : ((chalklineref35_Few.f k l0).bind fun t378 => (if t378 = true then ((feed_Check.f k l0).bind fun t379 => (if t379 = 0 then (chalklinelaw35_FeedDifference.j0 k l0 a1 (decide ((l0.length : Int) < 2))) else (chalklinelaw35_FeedDifference.j0 k l0 a1 true))) else (chalklinelaw35_FeedDifference.j0 k l0 a1 true))) = some r := by rw [if_pos rfl] at H; exact H
    clear H
    have H := H1
    clear H1
    have HC5 := Aside0.mk H
    clear H
    go_enter Try.func8, Try.ntmps8
    go_upto_region 3 with (first | ((with_reducible refine gate_callee (f := 11) rfl ?_); refine goesL_ (some 18) rfl rfl Try.func11 (by kernel_rfl) rfl #[] rfl (by (try simp only [List.map_toArray, List.map_cons, List.map_nil]); first | done | rfl | (simp only [List.length_drop, List.length_take]; rfl)) ?_; (with_reducible refine (chalklinelaw35_live.calls  true _ A3.out).mono ?_); rintro e w6 ⟨rfl, hb⟩; refine ⟨_, rfl, ?_⟩; have n0_ := Aside0.mk (below_step (b_ HB) hb); clear HB; have HB := n0_; clear n0_; (try clear hb); (try clear hb2); (try clear hk); (try clear hi)))
    (try simp only [Act.put, List.setIfInBounds_toArray, List.set_cons_zero, List.set_cons_succ])
    go_cut [32] (fun v32 wc => ∃ (kq : Nat) (x32_4 : Bool), v32 = .bool x32_4 ∧ Aside0 (chalklinelaw35_FeedDifference.j0 kq l0 a1 x32_4 = some r) ∧ Aside0 (kq ≤ k) ∧ Aside0 (Below w.heap.size w wc))
    case first =>
      have H := HC5.out
      clear HC5
      replace H := Option.bind_eq_some_iff.mp H
      obtain ⟨t378, A70, H⟩ := H
      replace H : (if t378 = true then ((feed_Check.f k l0).bind fun t379 => (if t379 = 0 then (chalklinelaw35_FeedDifference.j0 k l0 a1 (decide ((l0.length : Int) < 2))) else (chalklinelaw35_FeedDifference.j0 k l0 a1 true))) else (chalklinelaw35_FeedDifference.j0 k l0 a1 true)) = some r := H
      have A7 := Aside0.mk A70
      clear A70
      by_cases c8 : t378 = true
      · subst c8
        have H1 : ((feed_Check.f k l0).bind fun t379 => (if t379 = 0 then (chalklinelaw35_FeedDifference.j0 k l0 a1 (decide ((l0.length : Int) < 2))) else (chalklinelaw35_FeedDifference.j0 k l0 a1 true))) = some r := by rw [if_pos rfl] at H; exact H
        clear H
        have H := H1
        clear H1
        replace H := Option.bind_eq_some_iff.mp H
        obtain ⟨t379, A90, H⟩ := H
        replace H : (if t379 = 0 then (chalklinelaw35_FeedDifference.j0 k l0 a1 (decide ((l0.length : Int) < 2))) else (chalklinelaw35_FeedDifference.j0 k l0 a1 true)) = some r := H
        have A9 := Aside0.mk A90
        clear A90
        by_cases c10 : t379 = 0
        · rw [if_pos c10] at H
          have c10b0 : (t379 == 0) = true := beq_iff_eq.mpr c10
          have c10b1 : (t379 != 0) = false := bne_eq_false_iff_eq.mpr c10
          clear c10
          (first | rw [c10b0] | (simp only [i64_w, i32_w]; rw [c10b0]) | skip)
          have H' := Aside0.mk H
          clear H
          go_wp2_with (first | ((with_reducible refine gate_callee (f := 12) rfl ?_); refine goesL_ (some 21) rfl rfl Try.func12 (by kernel_rfl) rfl #[.slice A0 l0.length c0] rfl (by (try simp only [List.map_toArray, List.map_cons, List.map_nil]); first | done | rfl | (simp only [List.length_drop, List.length_take]; rfl)) ?_; (with_reducible refine (chalklineref35_Few.calls k _ _ l0 true _ ?side1 ?side2 A7.out).mono ?_); (case side1 => repeat (first | exact (Kd.C_below HR0.out HB.out) | (with_reducible refine Kd.C_alloc ?_ _) | (with_reducible refine Kd.C_drewN ?_ _) | (with_reducible refine Kd.C_drew ?_))); (case side2 => exact HC0.out); rintro e w' ⟨rfl, ⟨nd, rfl⟩⟩; refine ⟨_, rfl, ?_⟩) | (go_at_call 16; (with_reducible refine (feed_Check.calls k _ _ l0 t379 _ ?side1 ?side2 A9.out).mono ?_); (case side1 => repeat (first | exact (Kd.C_below HR0.out (b_ HB)) | (with_reducible refine Kd.C_alloc ?_ _) | (with_reducible refine Kd.C_drewN ?_ _) | (with_reducible refine Kd.C_drew ?_))); (case side2 => exact HC0.out); rintro e w11 ⟨rfl, hb⟩; have n0_ := Aside0.mk (below_step (b_ HB) hb); clear HB; have HB := n0_; clear n0_; (try clear hb); (try clear hb2); (try clear hk); (try clear hi)))
          go_meet
          case rel => exact ⟨_, (decide ((l0.length : Int) < 2)), (by first | rfl | (simp; done) | (simp [*]; done)), H', ⟨by first | omega | exact Nat.le_refl _⟩, ⟨b_ HB⟩⟩
        · rw [if_neg c10] at H
          have c10b0 : (t379 == 0) = false := beq_eq_false_iff_ne.mpr c10
          have c10b1 : (t379 != 0) = true := bne_iff_ne.mpr c10
          (first | rw [c10b0] | (simp only [i64_w, i32_w]; rw [c10b0]) | skip)
          have H' := Aside0.mk H
          clear H
          go_wp2_with (first | ((with_reducible refine gate_callee (f := 12) rfl ?_); refine goesL_ (some 21) rfl rfl Try.func12 (by kernel_rfl) rfl #[.slice A0 l0.length c0] rfl (by (try simp only [List.map_toArray, List.map_cons, List.map_nil]); first | done | rfl | (simp only [List.length_drop, List.length_take]; rfl)) ?_; (with_reducible refine (chalklineref35_Few.calls k _ _ l0 true _ ?side1 ?side2 A7.out).mono ?_); (case side1 => repeat (first | exact (Kd.C_below HR0.out HB.out) | (with_reducible refine Kd.C_alloc ?_ _) | (with_reducible refine Kd.C_drewN ?_ _) | (with_reducible refine Kd.C_drew ?_))); (case side2 => exact HC0.out); rintro e w' ⟨rfl, ⟨nd, rfl⟩⟩; refine ⟨_, rfl, ?_⟩) | (go_at_call 16; (with_reducible refine (feed_Check.calls k _ _ l0 t379 _ ?side1 ?side2 A9.out).mono ?_); (case side1 => repeat (first | exact (Kd.C_below HR0.out (b_ HB)) | (with_reducible refine Kd.C_alloc ?_ _) | (with_reducible refine Kd.C_drewN ?_ _) | (with_reducible refine Kd.C_drew ?_))); (case side2 => exact HC0.out); rintro e w12 ⟨rfl, hb⟩; have n0_ := Aside0.mk (below_step (b_ HB) hb); clear HB; have HB := n0_; clear n0_; (try clear hb); (try clear hb2); (try clear hk); (try clear hi)))
          go_meet
          case rel => exact ⟨_, (true), (by first | rfl | (simp; done) | (simp [*]; done)), H', ⟨by first | omega | exact Nat.le_refl _⟩, ⟨b_ HB⟩⟩
      · replace c8 := Bool.eq_false_iff.mpr c8
        subst c8
        have H1 : (chalklinelaw35_FeedDifference.j0 k l0 a1 true) = some r := by rw [if_neg (show ¬ (false = true) by decide)] at H; exact H
        clear H
        have H := H1
        clear H1
        have H' := Aside0.mk H
        clear H
        go_wp2_with (first | ((with_reducible refine gate_callee (f := 12) rfl ?_); refine goesL_ (some 21) rfl rfl Try.func12 (by kernel_rfl) rfl #[.slice A0 l0.length c0] rfl (by (try simp only [List.map_toArray, List.map_cons, List.map_nil]); first | done | rfl | (simp only [List.length_drop, List.length_take]; rfl)) ?_; (with_reducible refine (chalklineref35_Few.calls k _ _ l0 false _ ?side1 ?side2 A7.out).mono ?_); (case side1 => repeat (first | exact (Kd.C_below HR0.out HB.out) | (with_reducible refine Kd.C_alloc ?_ _) | (with_reducible refine Kd.C_drewN ?_ _) | (with_reducible refine Kd.C_drew ?_))); (case side2 => exact HC0.out); rintro e w' ⟨rfl, ⟨nd, rfl⟩⟩; refine ⟨_, rfl, ?_⟩))
        go_meet
        case rel => exact ⟨_, (true), (by first | rfl | (simp; done) | (simp [*]; done)), H', ⟨by first | omega | exact Nat.le_refl _⟩, ⟨b_ HB⟩⟩
    case rest =>
      clear HC5
      try clear c1
      try clear p2
      try clear c4
      try clear c8
      try clear c10
      try clear c10b0
      try clear c10b1
      try clear c11
      try clear c12
      obtain ⟨kq, x32_4, rfl, HA, HJ4, HB⟩ := hcut
      cases kq with
      | zero => exact absurd HA.out (by simp [chalklinelaw35_FeedDifference.j0])
      | succ kj4 =>
        have H := HA.out
        clear HA
        simp only [chalklinelaw35_FeedDifference.j0] at H
        by_cases c13 : x32_4 = true
        · subst c13
          have H1 : (some true) = some r := by rw [if_pos rfl] at H; exact H
          clear H
          have H := H1
          clear H1
          obtain rfl := Option.some.inj H
          go_wp2
          go_ret
          exact ⟨by first | rfl | (simp [errW_none, errW_some] <;> rfl) | (simp [*, errW_none, errW_some] <;> rfl), b_ HB⟩
        · replace c13 := Bool.eq_false_iff.mpr c13
          subst c13
          have H1 : (if (wrap64 ((l0.length : Int) - 1)) = 0 then (none) else (if 0 ≤ (wrap64 ((wrap64 (1 + (Int.tmod (wrap64 (a1)) (wrap64 ((l0.length : Int) - 1))))) - 1)) then (if (wrap64 ((wrap64 (1 + (Int.tmod (wrap64 (a1)) (wrap64 ((l0.length : Int) - 1))))) - 1)) < (l0.length : Int) then ((feed_Reply.f kj4 l0 (wrap64 (1 + (Int.tmod (wrap64 (a1)) (wrap64 ((l0.length : Int) - 1))))) 0).bind fun bt382 => ((feed_Reply.f kj4 l0 0 0).bind fun bt394 => ((feed_Take.f kj4 (wrap64 (1 + (Int.tmod (wrap64 (a1)) (wrap64 ((l0.length : Int) - 1))))) ((rd_T52 l0 (wrap64 ((wrap64 (1 + (Int.tmod (wrap64 (a1)) (wrap64 ((l0.length : Int) - 1))))) - 1))).f1.f0) bt382.1 bt382.2.1 bt382.2.2.1 bt382.2.2.2.1 bt382.2.2.2.2.1 bt382.2.2.2.2.2.1).bind fun bt406 => ((feed_Take.f kj4 (wrap64 (1 + (Int.tmod (wrap64 (a1)) (wrap64 ((l0.length : Int) - 1))))) ((rd_T52 l0 (wrap64 ((wrap64 (1 + (Int.tmod (wrap64 (a1)) (wrap64 ((l0.length : Int) - 1))))) - 1))).f1.f0) bt394.1 bt394.2.1 bt394.2.2.1 bt394.2.2.2.1 bt394.2.2.2.2.1 bt394.2.2.2.2.2.1).bind fun bt412 => (if bt382.2.2.2.2.2.2 = 0 then (if bt394.2.2.2.2.2.2 = 0 then (if bt406.2.2 = 0 then (if bt412.2.2 = 0 then ((chalklineref35_Clients.f kj4 bt406.1 bt406.2.1 bt412.1 bt412.2.1).bind fun t418 => (chalklinelaw35_FeedDifference.j1 kj4 l0 (wrap64 (1 + (Int.tmod (wrap64 (a1)) (wrap64 ((l0.length : Int) - 1))))) (!t418) ((rd_T52 l0 (wrap64 ((wrap64 (1 + (Int.tmod (wrap64 (a1)) (wrap64 ((l0.length : Int) - 1))))) - 1))).f1.f0) bt382.1 bt382.2.1 bt382.2.2.1 bt382.2.2.2.1 bt382.2.2.2.2.1 bt382.2.2.2.2.2.1)) else (chalklinelaw35_FeedDifference.j1 kj4 l0 (wrap64 (1 + (Int.tmod (wrap64 (a1)) (wrap64 ((l0.length : Int) - 1))))) true ((rd_T52 l0 (wrap64 ((wrap64 (1 + (Int.tmod (wrap64 (a1)) (wrap64 ((l0.length : Int) - 1))))) - 1))).f1.f0) bt382.1 bt382.2.1 bt382.2.2.1 bt382.2.2.2.1 bt382.2.2.2.2.1 bt382.2.2.2.2.2.1)) else (chalklinelaw35_FeedDifference.j1 kj4 l0 (wrap64 (1 + (Int.tmod (wrap64 (a1)) (wrap64 ((l0.length : Int) - 1))))) true ((rd_T52 l0 (wrap64 ((wrap64 (1 + (Int.tmod (wrap64 (a1)) (wrap64 ((l0.length : Int) - 1))))) - 1))).f1.f0) bt382.1 bt382.2.1 bt382.2.2.1 bt382.2.2.2.1 bt382.2.2.2.2.1 bt382.2.2.2.2.2.1)) else (chalklinelaw35_FeedDifference.j1 kj4 l0 (wrap64 (1 + (Int.tmod (wrap64 (a1)) (wrap64 ((l0.length : Int) - 1))))) true ((rd_T52 l0 (wrap64 ((wrap64 (1 + (Int.tmod (wrap64 (a1)) (wrap64 ((l0.length : Int) - 1))))) - 1))).f1.f0) bt382.1 bt382.2.1 bt382.2.2.1 bt382.2.2.2.1 bt382.2.2.2.2.1 bt382.2.2.2.2.2.1)) else (chalklinelaw35_FeedDifference.j1 kj4 l0 (wrap64 (1 + (Int.tmod (wrap64 (a1)) (wrap64 ((l0.length : Int) - 1))))) true ((rd_T52 l0 (wrap64 ((wrap64 (1 + (Int.tmod (wrap64 (a1)) (wrap64 ((l0.length : Int) - 1))))) - 1))).f1.f0) bt382.1 bt382.2.1 bt382.2.2.1 bt382.2.2.2.1 bt382.2.2.2.2.1 bt382.2.2.2.2.2.1)))))) else (none)) else (none))) = some r := by rw [if_neg (show ¬ (false = true) by decide)] at H; exact H
          clear H
          have H := H1
          clear H1
          by_cases c14 : (wrap64 ((l0.length : Int) - 1)) = 0
          · rw [if_pos c14] at H
            exact absurd H (by simp)
          · rw [if_neg c14] at H
            have c14b0 : ((wrap64 ((l0.length : Int) - 1)) == 0) = false := beq_eq_false_iff_ne.mpr c14
            have c14b1 : ((wrap64 ((l0.length : Int) - 1)) != 0) = true := bne_iff_ne.mpr c14
            obtain ⟨ji15, hji15⟩ : ∃ j_ : Int, (wrap64 ((wrap64 (1 + (Int.tmod (wrap64 (a1)) (wrap64 ((l0.length : Int) - 1))))) - 1)) = j_ := ⟨_, rfl⟩
            replace H : (if 0 ≤ (ji15) then (if (ji15) < (l0.length : Int) then ((feed_Reply.f kj4 l0 (wrap64 (1 + (Int.tmod (wrap64 (a1)) (wrap64 ((l0.length : Int) - 1))))) 0).bind fun bt382 => ((feed_Reply.f kj4 l0 0 0).bind fun bt394 => ((feed_Take.f kj4 (wrap64 (1 + (Int.tmod (wrap64 (a1)) (wrap64 ((l0.length : Int) - 1))))) ((rd_T52 l0 (ji15)).f1.f0) bt382.1 bt382.2.1 bt382.2.2.1 bt382.2.2.2.1 bt382.2.2.2.2.1 bt382.2.2.2.2.2.1).bind fun bt406 => ((feed_Take.f kj4 (wrap64 (1 + (Int.tmod (wrap64 (a1)) (wrap64 ((l0.length : Int) - 1))))) ((rd_T52 l0 (ji15)).f1.f0) bt394.1 bt394.2.1 bt394.2.2.1 bt394.2.2.2.1 bt394.2.2.2.2.1 bt394.2.2.2.2.2.1).bind fun bt412 => (if bt382.2.2.2.2.2.2 = 0 then (if bt394.2.2.2.2.2.2 = 0 then (if bt406.2.2 = 0 then (if bt412.2.2 = 0 then ((chalklineref35_Clients.f kj4 bt406.1 bt406.2.1 bt412.1 bt412.2.1).bind fun t418 => (chalklinelaw35_FeedDifference.j1 kj4 l0 (wrap64 (1 + (Int.tmod (wrap64 (a1)) (wrap64 ((l0.length : Int) - 1))))) (!t418) ((rd_T52 l0 (ji15)).f1.f0) bt382.1 bt382.2.1 bt382.2.2.1 bt382.2.2.2.1 bt382.2.2.2.2.1 bt382.2.2.2.2.2.1)) else (chalklinelaw35_FeedDifference.j1 kj4 l0 (wrap64 (1 + (Int.tmod (wrap64 (a1)) (wrap64 ((l0.length : Int) - 1))))) true ((rd_T52 l0 (ji15)).f1.f0) bt382.1 bt382.2.1 bt382.2.2.1 bt382.2.2.2.1 bt382.2.2.2.2.1 bt382.2.2.2.2.2.1)) else (chalklinelaw35_FeedDifference.j1 kj4 l0 (wrap64 (1 + (Int.tmod (wrap64 (a1)) (wrap64 ((l0.length : Int) - 1))))) true ((rd_T52 l0 (ji15)).f1.f0) bt382.1 bt382.2.1 bt382.2.2.1 bt382.2.2.2.1 bt382.2.2.2.2.1 bt382.2.2.2.2.2.1)) else (chalklinelaw35_FeedDifference.j1 kj4 l0 (wrap64 (1 + (Int.tmod (wrap64 (a1)) (wrap64 ((l0.length : Int) - 1))))) true ((rd_T52 l0 (ji15)).f1.f0) bt382.1 bt382.2.1 bt382.2.2.1 bt382.2.2.2.1 bt382.2.2.2.2.1 bt382.2.2.2.2.2.1)) else (chalklinelaw35_FeedDifference.j1 kj4 l0 (wrap64 (1 + (Int.tmod (wrap64 (a1)) (wrap64 ((l0.length : Int) - 1))))) true ((rd_T52 l0 (ji15)).f1.f0) bt382.1 bt382.2.1 bt382.2.2.1 bt382.2.2.2.1 bt382.2.2.2.2.1 bt382.2.2.2.2.2.1)))))) else (none)) else (none)) = some r := by first | (rw [hji15] at H; exact H) | (simp only [hji15] at H ⊢; exact H)
            have hji15w : (IntKind.i64.wrap ((wrap64 (1 + (Int.tmod (wrap64 (a1)) (wrap64 ((l0.length : Int) - 1))))) - 1)) = ji15 := (i64_w _).trans hji15
            by_cases c16 : 0 ≤ (ji15)
            · rw [if_pos c16] at H
              have c16b0 : decide (0 ≤ (ji15)) = true := decide_eq_true c16
              clear c16
              by_cases c17 : (ji15) < (l0.length : Int)
              · rw [if_pos c17] at H
                have c17b0 : decide ((ji15) < (l0.length : Int)) = true := decide_eq_true c17
                clear c17
                replace H := Option.bind_eq_some_iff.mp H
                obtain ⟨⟨t382, t383, t384, t385, t386, t389, t392⟩, A180, H⟩ := H
                replace H : ((feed_Reply.f kj4 l0 0 0).bind fun bt394 => ((feed_Take.f kj4 (wrap64 (1 + (Int.tmod (wrap64 (a1)) (wrap64 ((l0.length : Int) - 1))))) ((rd_T52 l0 (ji15)).f1.f0) t382 t383 t384 t385 t386 t389).bind fun bt406 => ((feed_Take.f kj4 (wrap64 (1 + (Int.tmod (wrap64 (a1)) (wrap64 ((l0.length : Int) - 1))))) ((rd_T52 l0 (ji15)).f1.f0) bt394.1 bt394.2.1 bt394.2.2.1 bt394.2.2.2.1 bt394.2.2.2.2.1 bt394.2.2.2.2.2.1).bind fun bt412 => (if t392 = 0 then (if bt394.2.2.2.2.2.2 = 0 then (if bt406.2.2 = 0 then (if bt412.2.2 = 0 then ((chalklineref35_Clients.f kj4 bt406.1 bt406.2.1 bt412.1 bt412.2.1).bind fun t418 => (chalklinelaw35_FeedDifference.j1 kj4 l0 (wrap64 (1 + (Int.tmod (wrap64 (a1)) (wrap64 ((l0.length : Int) - 1))))) (!t418) ((rd_T52 l0 (ji15)).f1.f0) t382 t383 t384 t385 t386 t389)) else (chalklinelaw35_FeedDifference.j1 kj4 l0 (wrap64 (1 + (Int.tmod (wrap64 (a1)) (wrap64 ((l0.length : Int) - 1))))) true ((rd_T52 l0 (ji15)).f1.f0) t382 t383 t384 t385 t386 t389)) else (chalklinelaw35_FeedDifference.j1 kj4 l0 (wrap64 (1 + (Int.tmod (wrap64 (a1)) (wrap64 ((l0.length : Int) - 1))))) true ((rd_T52 l0 (ji15)).f1.f0) t382 t383 t384 t385 t386 t389)) else (chalklinelaw35_FeedDifference.j1 kj4 l0 (wrap64 (1 + (Int.tmod (wrap64 (a1)) (wrap64 ((l0.length : Int) - 1))))) true ((rd_T52 l0 (ji15)).f1.f0) t382 t383 t384 t385 t386 t389)) else (chalklinelaw35_FeedDifference.j1 kj4 l0 (wrap64 (1 + (Int.tmod (wrap64 (a1)) (wrap64 ((l0.length : Int) - 1))))) true ((rd_T52 l0 (ji15)).f1.f0) t382 t383 t384 t385 t386 t389))))) = some r := H
                have A18 := Aside0.mk A180
                clear A180
                replace H := Option.bind_eq_some_iff.mp H
                obtain ⟨⟨t394, t395, t396, t397, t398, t401, t404⟩, A190, H⟩ := H
                replace H : ((feed_Take.f kj4 (wrap64 (1 + (Int.tmod (wrap64 (a1)) (wrap64 ((l0.length : Int) - 1))))) ((rd_T52 l0 (ji15)).f1.f0) t382 t383 t384 t385 t386 t389).bind fun bt406 => ((feed_Take.f kj4 (wrap64 (1 + (Int.tmod (wrap64 (a1)) (wrap64 ((l0.length : Int) - 1))))) ((rd_T52 l0 (ji15)).f1.f0) t394 t395 t396 t397 t398 t401).bind fun bt412 => (if t392 = 0 then (if t404 = 0 then (if bt406.2.2 = 0 then (if bt412.2.2 = 0 then ((chalklineref35_Clients.f kj4 bt406.1 bt406.2.1 bt412.1 bt412.2.1).bind fun t418 => (chalklinelaw35_FeedDifference.j1 kj4 l0 (wrap64 (1 + (Int.tmod (wrap64 (a1)) (wrap64 ((l0.length : Int) - 1))))) (!t418) ((rd_T52 l0 (ji15)).f1.f0) t382 t383 t384 t385 t386 t389)) else (chalklinelaw35_FeedDifference.j1 kj4 l0 (wrap64 (1 + (Int.tmod (wrap64 (a1)) (wrap64 ((l0.length : Int) - 1))))) true ((rd_T52 l0 (ji15)).f1.f0) t382 t383 t384 t385 t386 t389)) else (chalklinelaw35_FeedDifference.j1 kj4 l0 (wrap64 (1 + (Int.tmod (wrap64 (a1)) (wrap64 ((l0.length : Int) - 1))))) true ((rd_T52 l0 (ji15)).f1.f0) t382 t383 t384 t385 t386 t389)) else (chalklinelaw35_FeedDifference.j1 kj4 l0 (wrap64 (1 + (Int.tmod (wrap64 (a1)) (wrap64 ((l0.length : Int) - 1))))) true ((rd_T52 l0 (ji15)).f1.f0) t382 t383 t384 t385 t386 t389)) else (chalklinelaw35_FeedDifference.j1 kj4 l0 (wrap64 (1 + (Int.tmod (wrap64 (a1)) (wrap64 ((l0.length : Int) - 1))))) true ((rd_T52 l0 (ji15)).f1.f0) t382 t383 t384 t385 t386 t389)))) = some r := H
                have A19 := Aside0.mk A190
                clear A190
                replace H := Option.bind_eq_some_iff.mp H
                obtain ⟨⟨t406, t407, t410⟩, A200, H⟩ := H
                replace H : ((feed_Take.f kj4 (wrap64 (1 + (Int.tmod (wrap64 (a1)) (wrap64 ((l0.length : Int) - 1))))) ((rd_T52 l0 (ji15)).f1.f0) t394 t395 t396 t397 t398 t401).bind fun bt412 => (if t392 = 0 then (if t404 = 0 then (if t410 = 0 then (if bt412.2.2 = 0 then ((chalklineref35_Clients.f kj4 t406 t407 bt412.1 bt412.2.1).bind fun t418 => (chalklinelaw35_FeedDifference.j1 kj4 l0 (wrap64 (1 + (Int.tmod (wrap64 (a1)) (wrap64 ((l0.length : Int) - 1))))) (!t418) ((rd_T52 l0 (ji15)).f1.f0) t382 t383 t384 t385 t386 t389)) else (chalklinelaw35_FeedDifference.j1 kj4 l0 (wrap64 (1 + (Int.tmod (wrap64 (a1)) (wrap64 ((l0.length : Int) - 1))))) true ((rd_T52 l0 (ji15)).f1.f0) t382 t383 t384 t385 t386 t389)) else (chalklinelaw35_FeedDifference.j1 kj4 l0 (wrap64 (1 + (Int.tmod (wrap64 (a1)) (wrap64 ((l0.length : Int) - 1))))) true ((rd_T52 l0 (ji15)).f1.f0) t382 t383 t384 t385 t386 t389)) else (chalklinelaw35_FeedDifference.j1 kj4 l0 (wrap64 (1 + (Int.tmod (wrap64 (a1)) (wrap64 ((l0.length : Int) - 1))))) true ((rd_T52 l0 (ji15)).f1.f0) t382 t383 t384 t385 t386 t389)) else (chalklinelaw35_FeedDifference.j1 kj4 l0 (wrap64 (1 + (Int.tmod (wrap64 (a1)) (wrap64 ((l0.length : Int) - 1))))) true ((rd_T52 l0 (ji15)).f1.f0) t382 t383 t384 t385 t386 t389))) = some r := H
                have A20 := Aside0.mk A200
                clear A200
                replace H := Option.bind_eq_some_iff.mp H
                obtain ⟨⟨t412, t413, t416⟩, A210, H⟩ := H
                replace H : (if t392 = 0 then (if t404 = 0 then (if t410 = 0 then (if t416 = 0 then ((chalklineref35_Clients.f kj4 t406 t407 t412 t413).bind fun t418 => (chalklinelaw35_FeedDifference.j1 kj4 l0 (wrap64 (1 + (Int.tmod (wrap64 (a1)) (wrap64 ((l0.length : Int) - 1))))) (!t418) ((rd_T52 l0 (ji15)).f1.f0) t382 t383 t384 t385 t386 t389)) else (chalklinelaw35_FeedDifference.j1 kj4 l0 (wrap64 (1 + (Int.tmod (wrap64 (a1)) (wrap64 ((l0.length : Int) - 1))))) true ((rd_T52 l0 (ji15)).f1.f0) t382 t383 t384 t385 t386 t389)) else (chalklinelaw35_FeedDifference.j1 kj4 l0 (wrap64 (1 + (Int.tmod (wrap64 (a1)) (wrap64 ((l0.length : Int) - 1))))) true ((rd_T52 l0 (ji15)).f1.f0) t382 t383 t384 t385 t386 t389)) else (chalklinelaw35_FeedDifference.j1 kj4 l0 (wrap64 (1 + (Int.tmod (wrap64 (a1)) (wrap64 ((l0.length : Int) - 1))))) true ((rd_T52 l0 (ji15)).f1.f0) t382 t383 t384 t385 t386 t389)) else (chalklinelaw35_FeedDifference.j1 kj4 l0 (wrap64 (1 + (Int.tmod (wrap64 (a1)) (wrap64 ((l0.length : Int) - 1))))) true ((rd_T52 l0 (ji15)).f1.f0) t382 t383 t384 t385 t386 t389)) = some r := H
                have A21 := Aside0.mk A210
                clear A210
                have HC22 := Aside0.mk H
                clear H
                have p380 : 0 ≤ ((ji15) : Int) := of_decide_eq_true (by first | (with_reducible assumption) | assumption)
                have q380 : (ji15) < (l0.length : Int) := of_decide_eq_true (by first | (with_reducible assumption) | assumption)
                obtain ⟨ad380, A380_1, c380_1, e380, hx380_0, hx380_1, hx380_2, hx380_3, hl380_1, hi380_1⟩ := at_T52 HR0.out (ji15) p380 q380
                cases e380
                replace hx380_0 := (HB.out.cell (World.block_lt_of_cell? w _ hx380_0)).trans hx380_0
                replace hx380_1 := (HB.out.cell (World.block_lt_of_cell? w _ hx380_1)).trans hx380_1
                replace hx380_2 := (HB.out.cell (World.block_lt_of_cell? w _ hx380_2)).trans hx380_2
                replace hx380_3 := (HB.out.cell (World.block_lt_of_cell? w _ hx380_3)).trans hx380_3
                have HR380_1 := Aside0.mk hi380_1
                have HC380_1 := Aside0.mk hl380_1
                clear hi380_1 hl380_1
                replace p380 := eq_true p380
                replace q380 := eq_true q380
                go_upto_region 11 with (first | ((with_reducible refine gate_dst (N := 6) rfl ?_); (try (refine gate_guard (by rfl) ?_; dsimp only)); refine box_event ?hg (N := 6) ?hd (cs := #[.slice none 0 0]) (t := 25) ?hr ?_; (case hd => rfl); (case hg => rfl); (case hr => first | (go_simp; done) | (go_simp; rfl)); intro gb381 hg w23 hbox hb; have n0_ := Aside0.mk (below_step (b_ HB) hb); have n1_ := Aside0.mk (hbox); have n2_ := Aside0.mk ((by rw [hg]; exact (below_size (b_ HB)) : w.heap.size ≤ gb381)); have n3_ := n2_; clear HB; have HB := n0_; have BK381 := n1_; have GW381 := n2_; have GE381 := n3_; clear n0_ n1_ n2_ n3_; clear hb hbox hg; have hcz24_0 : w23.cell? ⟨gb381, 0, none⟩ = some (.slice none 0 0) := (blk_cell BK381.out 0).trans rfl; have hfz24_0 := blk_frozen BK381.out 0) | ((with_reducible refine gate_callee (f := 13) rfl ?_); refine goesL_ (some 49) rfl rfl Try.func13 (by kernel_rfl) rfl #[.slice (some ad380) l0.length c0, .int .i64 (wrap64 (1 + (Int.tmod (wrap64 (a1)) (wrap64 ((l0.length : Int) - 1))))), .int .i64 0] rfl (by (try simp only [List.map_toArray, List.map_cons, List.map_nil]); first | done | rfl | (simp only [List.length_drop, List.length_take]; rfl)) ?_; (with_reducible refine (feed_Reply.calls kj4 _ _ l0 (wrap64 (1 + (Int.tmod (wrap64 (a1)) (wrap64 ((l0.length : Int) - 1))))) 0 t382 t383 t384 t385 t386 t389 t392 _ ?side1 ?side2 A18.out).mono ?_); (case side1 => exact Kd.C_below HR0.out (b_ HB)); (case side2 => exact HC0.out); rintro e w25 ⟨v387, v390, rfl, ho0, ho1, hb⟩; refine ⟨_, rfl, ?_⟩; have n0_ := Aside0.mk (Kd.R_lower ho0 (below_size (b_ HB))); have n1_ := Aside0.mk (Kd.R_lower ho1 (below_size (b_ HB))); have n2_ := Aside0.mk (blk_below (g := gb381) (o := .cells #[.slice A380_1 ((rd_T52 l0 (ji15)).f1.f0).length c380_1] 25 (0, 0)) (by (with_reducible repeat (first | refine blk_drewN ?_ _ | refine blk_drew ?_ | refine blk_alloc ?_ _)); refine blk_put (cs := #[.slice none 0 0]) ?_ 0 _ rfl; (with_reducible repeat (first | refine blk_drewN ?_ _ | refine blk_drew ?_ | refine blk_alloc ?_ _)); exact BK381.out) hb); have n3_ := Aside0.mk (below_step (b_ HB) hb); clear BK381; clear HB; have HO388 := n0_; have HO391 := n1_; have BK381 := n2_; have HB := n3_; clear n0_ n1_ n2_ n3_; (try clear hb); (try clear hb2); (try clear hk); (try clear hi); (try clear ho0); (try clear ho1)) | ((with_reducible refine gate_dst (N := 7) rfl ?_); (try (refine gate_guard (by rfl) ?_; dsimp only)); refine box_event ?hg (N := 7) ?hd (cs := #[.int .i64 0, .int .i64 0, .int .i64 0, .int .i64 0, .slice none 0 0, .slice none 0 0]) (t := 32) ?hr ?_; (case hd => rfl); (case hg => rfl); (case hr => first | (go_simp; done) | (go_simp; rfl)); intro gb393 hg w26 hbox hb; have n0_ := Aside0.mk (Kd.R_below (by (with_reducible repeat (first | apply Kd.R_alloc | apply Kd.R_drewN | apply Kd.R_drew)); exact HO388.out) hb); have n1_ := Aside0.mk (Kd.R_below (by (with_reducible repeat (first | apply Kd.R_alloc | apply Kd.R_drewN | apply Kd.R_drew)); exact HO391.out) hb); have n2_ := Aside0.mk (blk_below (k_ BK381) hb); have n3_ := Aside0.mk (below_step (b_ HB) hb); have n4_ := Aside0.mk (hbox); have n5_ := Aside0.mk ((by rw [hg]; exact (below_size (b_ HB)) : w.heap.size ≤ gb393)); have n6_ := n5_; have n7_ := Aside0.mk ((by rw [hg]; exact Nat.ne_of_lt (blk_lt (k_ BK381)) : gb381 ≠ gb393)); have n8_ := Aside0.mk ((by rw [hg]; exact Nat.ne_of_gt (blk_lt (k_ BK381)) : gb393 ≠ gb381)); clear HO388; clear HO391; clear BK381; clear HB; have HO388 := n0_; have HO391 := n1_; have BK381 := n2_; have HB := n3_; have BK393 := n4_; have GW393 := n5_; have GE393 := n6_; have NB381_393 := n7_; have NB393_381 := n8_; clear n0_ n1_ n2_ n3_ n4_ n5_ n6_ n7_ n8_; clear hb hbox hg; have hnb27 := NB393_381.out; have hnc27 := NB381_393.out; have hcz28_0 : w26.cell? ⟨gb393, 0, none⟩ = some (.int .i64 0) := (blk_cell BK393.out 0).trans rfl; have hcz28_1 : w26.cell? ⟨gb393, 1, none⟩ = some (.int .i64 0) := (blk_cell BK393.out 1).trans rfl; have hcz28_2 : w26.cell? ⟨gb393, 2, none⟩ = some (.int .i64 0) := (blk_cell BK393.out 2).trans rfl; have hcz28_3 : w26.cell? ⟨gb393, 3, none⟩ = some (.int .i64 0) := (blk_cell BK393.out 3).trans rfl; have hcz28_4 : w26.cell? ⟨gb393, 4, none⟩ = some (.slice none 0 0) := (blk_cell BK393.out 4).trans rfl; have hcz28_5 : w26.cell? ⟨gb393, 5, none⟩ = some (.slice none 0 0) := (blk_cell BK393.out 5).trans rfl; have hfz28_0 := blk_frozen BK393.out 0; have hfz28_1 := blk_frozen BK393.out 1; have hfz28_2 := blk_frozen BK393.out 2; have hfz28_3 := blk_frozen BK393.out 3; have hfz28_4 := blk_frozen BK393.out 4; have hfz28_5 := blk_frozen BK393.out 5; obtain ⟨Ao29, co29, eo29⟩ := Kd.R_slice HO388.out; subst eo29; obtain ⟨Ao30, co30, eo30⟩ := Kd.R_slice HO391.out; subst eo30) | ((with_reducible refine gate_callee (f := 13) rfl ?_); refine goesL_ (some 54) rfl rfl Try.func13 (by kernel_rfl) rfl #[.slice (some ad380) l0.length c0, .int .i64 0, .int .i64 0] rfl (by (try simp only [List.map_toArray, List.map_cons, List.map_nil]); first | done | rfl | (simp only [List.length_drop, List.length_take]; rfl)) ?_; (with_reducible refine (feed_Reply.calls kj4 _ _ l0 0 0 t394 t395 t396 t397 t398 t401 t404 _ ?side1 ?side2 A19.out).mono ?_); (case side1 => exact Kd.C_below HR0.out (b_ HB)); (case side2 => exact HC0.out); rintro e w31 ⟨v399, v402, rfl, ho0, ho1, hb⟩; refine ⟨_, rfl, ?_⟩; have n0_ := Aside0.mk (Kd.R_elder' (by (with_reducible repeat (first | apply Kd.R_alloc | apply Kd.R_drewN | apply Kd.R_drew)); exact (Kd.R_mono (Kd.R_far (p := ⟨gb393, 5, none⟩) (Kd.R_far (p := ⟨gb393, 4, none⟩) (Kd.R_far (p := ⟨gb393, 3, none⟩) (Kd.R_far (p := ⟨gb393, 2, none⟩) (Kd.R_far (p := ⟨gb393, 1, none⟩) (Kd.R_far (p := ⟨gb393, 0, none⟩) (Kd.R_types HO388.out BK393.out (by decide)) (fun _ hk => hk.2) (.int .i64 t382)) (fun _ hk => hk.2) (.int .i64 t383)) (fun _ hk => hk.2) (.int .i64 t384)) (fun _ hk => hk.2) (.int .i64 t385)) (fun _ hk => hk.2) (.slice Ao29 t386.length co29)) (fun _ hk => hk.2) (.slice Ao30 t389.length co30)) (fun _ h_ => h_.1))) (Kd.R_base ho0) hb); have n1_ := Aside0.mk (Kd.R_elder' (by (with_reducible repeat (first | apply Kd.R_alloc | apply Kd.R_drewN | apply Kd.R_drew)); exact (Kd.R_mono (Kd.R_far (p := ⟨gb393, 5, none⟩) (Kd.R_far (p := ⟨gb393, 4, none⟩) (Kd.R_far (p := ⟨gb393, 3, none⟩) (Kd.R_far (p := ⟨gb393, 2, none⟩) (Kd.R_far (p := ⟨gb393, 1, none⟩) (Kd.R_far (p := ⟨gb393, 0, none⟩) (Kd.R_types HO391.out BK393.out (by decide)) (fun _ hk => hk.2) (.int .i64 t382)) (fun _ hk => hk.2) (.int .i64 t383)) (fun _ hk => hk.2) (.int .i64 t384)) (fun _ hk => hk.2) (.int .i64 t385)) (fun _ hk => hk.2) (.slice Ao29 t386.length co29)) (fun _ hk => hk.2) (.slice Ao30 t389.length co30)) (fun _ h_ => h_.1))) (Kd.R_base ho1) hb); have n2_ := Aside0.mk (Kd.R_lower (Kd.R_new' ho0 (Kd.R_lt (by (with_reducible repeat (first | apply Kd.R_alloc | apply Kd.R_drewN | apply Kd.R_drew)); exact (Kd.R_mono (Kd.R_far (p := ⟨gb393, 5, none⟩) (Kd.R_far (p := ⟨gb393, 4, none⟩) (Kd.R_far (p := ⟨gb393, 3, none⟩) (Kd.R_far (p := ⟨gb393, 2, none⟩) (Kd.R_far (p := ⟨gb393, 1, none⟩) (Kd.R_far (p := ⟨gb393, 0, none⟩) (Kd.R_types HO388.out BK393.out (by decide)) (fun _ hk => hk.2) (.int .i64 t382)) (fun _ hk => hk.2) (.int .i64 t383)) (fun _ hk => hk.2) (.int .i64 t384)) (fun _ hk => hk.2) (.int .i64 t385)) (fun _ hk => hk.2) (.slice Ao29 t386.length co29)) (fun _ hk => hk.2) (.slice Ao30 t389.length co30)) (fun _ h_ => h_.1))))) (below_size (b_ HB))); have n3_ := Aside0.mk (Kd.R_lower (Kd.R_new' ho1 (Kd.R_lt (by (with_reducible repeat (first | apply Kd.R_alloc | apply Kd.R_drewN | apply Kd.R_drew)); exact (Kd.R_mono (Kd.R_far (p := ⟨gb393, 5, none⟩) (Kd.R_far (p := ⟨gb393, 4, none⟩) (Kd.R_far (p := ⟨gb393, 3, none⟩) (Kd.R_far (p := ⟨gb393, 2, none⟩) (Kd.R_far (p := ⟨gb393, 1, none⟩) (Kd.R_far (p := ⟨gb393, 0, none⟩) (Kd.R_types HO391.out BK393.out (by decide)) (fun _ hk => hk.2) (.int .i64 t382)) (fun _ hk => hk.2) (.int .i64 t383)) (fun _ hk => hk.2) (.int .i64 t384)) (fun _ hk => hk.2) (.int .i64 t385)) (fun _ hk => hk.2) (.slice Ao29 t386.length co29)) (fun _ hk => hk.2) (.slice Ao30 t389.length co30)) (fun _ h_ => h_.1))))) (below_size (b_ HB))); have n4_ := Aside0.mk (blk_below (g := gb381) (o := .cells #[.slice A380_1 ((rd_T52 l0 (ji15)).f1.f0).length c380_1] 25 (0, 0)) (by (with_reducible repeat (first | refine blk_drewN ?_ _ | refine blk_drew ?_ | refine blk_alloc ?_ _)); refine blk_far ?_ NB381_393.out _; (with_reducible repeat (first | refine blk_drewN ?_ _ | refine blk_drew ?_ | refine blk_alloc ?_ _)); refine blk_far ?_ NB381_393.out _; (with_reducible repeat (first | refine blk_drewN ?_ _ | refine blk_drew ?_ | refine blk_alloc ?_ _)); refine blk_far ?_ NB381_393.out _; (with_reducible repeat (first | refine blk_drewN ?_ _ | refine blk_drew ?_ | refine blk_alloc ?_ _)); refine blk_far ?_ NB381_393.out _; (with_reducible repeat (first | refine blk_drewN ?_ _ | refine blk_drew ?_ | refine blk_alloc ?_ _)); refine blk_far ?_ NB381_393.out _; (with_reducible repeat (first | refine blk_drewN ?_ _ | refine blk_drew ?_ | refine blk_alloc ?_ _)); refine blk_far ?_ NB381_393.out _; (with_reducible repeat (first | refine blk_drewN ?_ _ | refine blk_drew ?_ | refine blk_alloc ?_ _)); exact BK381.out) hb); have n5_ := Aside0.mk (blk_below (g := gb393) (o := .cells #[.int .i64 t382, .int .i64 t383, .int .i64 t384, .int .i64 t385, .slice Ao29 t386.length co29, .slice Ao30 t389.length co30] 32 (0, 0)) (by (with_reducible repeat (first | refine blk_drewN ?_ _ | refine blk_drew ?_ | refine blk_alloc ?_ _)); refine blk_put (cs := #[.int .i64 t382, .int .i64 t383, .int .i64 t384, .int .i64 t385, .slice Ao29 t386.length co29, .slice none 0 0]) ?_ 5 _ rfl; (with_reducible repeat (first | refine blk_drewN ?_ _ | refine blk_drew ?_ | refine blk_alloc ?_ _)); refine blk_put (cs := #[.int .i64 t382, .int .i64 t383, .int .i64 t384, .int .i64 t385, .slice none 0 0, .slice none 0 0]) ?_ 4 _ rfl; (with_reducible repeat (first | refine blk_drewN ?_ _ | refine blk_drew ?_ | refine blk_alloc ?_ _)); refine blk_put (cs := #[.int .i64 t382, .int .i64 t383, .int .i64 t384, .int .i64 0, .slice none 0 0, .slice none 0 0]) ?_ 3 _ rfl; (with_reducible repeat (first | refine blk_drewN ?_ _ | refine blk_drew ?_ | refine blk_alloc ?_ _)); refine blk_put (cs := #[.int .i64 t382, .int .i64 t383, .int .i64 0, .int .i64 0, .slice none 0 0, .slice none 0 0]) ?_ 2 _ rfl; (with_reducible repeat (first | refine blk_drewN ?_ _ | refine blk_drew ?_ | refine blk_alloc ?_ _)); refine blk_put (cs := #[.int .i64 t382, .int .i64 0, .int .i64 0, .int .i64 0, .slice none 0 0, .slice none 0 0]) ?_ 1 _ rfl; (with_reducible repeat (first | refine blk_drewN ?_ _ | refine blk_drew ?_ | refine blk_alloc ?_ _)); refine blk_put (cs := #[.int .i64 0, .int .i64 0, .int .i64 0, .int .i64 0, .slice none 0 0, .slice none 0 0]) ?_ 0 _ rfl; (with_reducible repeat (first | refine blk_drewN ?_ _ | refine blk_drew ?_ | refine blk_alloc ?_ _)); exact BK393.out) hb); have n6_ := Aside0.mk (below_step (b_ HB) hb); clear HO388; clear HO391; clear BK381; clear BK393; clear HB; have HO388 := n0_; have HO391 := n1_; have HO400 := n2_; have HO403 := n3_; have BK381 := n4_; have BK393 := n5_; have HB := n6_; clear n0_ n1_ n2_ n3_ n4_ n5_ n6_; (try clear hb); (try clear hb2); (try clear hk); (try clear hi); (try clear ho0); (try clear ho1)) | ((with_reducible refine gate_dst (N := 9) rfl ?_); (try (refine gate_guard (by rfl) ?_; dsimp only)); refine box_event ?hg (N := 9) ?hd (cs := #[.int .i64 0, .int .i64 0, .int .i64 0, .int .i64 0, .slice none 0 0, .slice none 0 0]) (t := 32) ?hr ?_; (case hd => rfl); (case hg => rfl); (case hr => first | (go_simp; done) | (go_simp; rfl)); intro gb405 hg w32 hbox hb; have n0_ := Aside0.mk (Kd.R_below (by (with_reducible repeat (first | apply Kd.R_alloc | apply Kd.R_drewN | apply Kd.R_drew)); exact HO388.out) hb); have n1_ := Aside0.mk (Kd.R_below (by (with_reducible repeat (first | apply Kd.R_alloc | apply Kd.R_drewN | apply Kd.R_drew)); exact HO391.out) hb); have n2_ := Aside0.mk (Kd.R_below (by (with_reducible repeat (first | apply Kd.R_alloc | apply Kd.R_drewN | apply Kd.R_drew)); exact HO400.out) hb); have n3_ := Aside0.mk (Kd.R_below (by (with_reducible repeat (first | apply Kd.R_alloc | apply Kd.R_drewN | apply Kd.R_drew)); exact HO403.out) hb); have n4_ := Aside0.mk (blk_below (k_ BK381) hb); have n5_ := Aside0.mk (blk_below (k_ BK393) hb); have n6_ := Aside0.mk (below_step (b_ HB) hb); have n7_ := Aside0.mk (hbox); have n8_ := Aside0.mk ((by rw [hg]; exact (below_size (b_ HB)) : w.heap.size ≤ gb405)); have n9_ := n8_; have n10_ := Aside0.mk ((by rw [hg]; exact Nat.ne_of_lt (blk_lt (k_ BK381)) : gb381 ≠ gb405)); have n11_ := Aside0.mk ((by rw [hg]; exact Nat.ne_of_gt (blk_lt (k_ BK381)) : gb405 ≠ gb381)); have n12_ := Aside0.mk ((by rw [hg]; exact Nat.ne_of_lt (blk_lt (k_ BK393)) : gb393 ≠ gb405)); have n13_ := Aside0.mk ((by rw [hg]; exact Nat.ne_of_gt (blk_lt (k_ BK393)) : gb405 ≠ gb393)); clear HO388; clear HO391; clear HO400; clear HO403; clear BK381; clear BK393; clear HB; have HO388 := n0_; have HO391 := n1_; have HO400 := n2_; have HO403 := n3_; have BK381 := n4_; have BK393 := n5_; have HB := n6_; have BK405 := n7_; have GW405 := n8_; have GE405 := n9_; have NB381_405 := n10_; have NB405_381 := n11_; have NB393_405 := n12_; have NB405_393 := n13_; clear n0_ n1_ n2_ n3_ n4_ n5_ n6_ n7_ n8_ n9_ n10_ n11_ n12_ n13_; clear hb hbox hg; have hnb33 := NB405_381.out; have hnc33 := NB381_405.out; have hnb34 := NB405_393.out; have hnc34 := NB393_405.out; have hcz35_0 : w32.cell? ⟨gb405, 0, none⟩ = some (.int .i64 0) := (blk_cell BK405.out 0).trans rfl; have hcz35_1 : w32.cell? ⟨gb405, 1, none⟩ = some (.int .i64 0) := (blk_cell BK405.out 1).trans rfl; have hcz35_2 : w32.cell? ⟨gb405, 2, none⟩ = some (.int .i64 0) := (blk_cell BK405.out 2).trans rfl; have hcz35_3 : w32.cell? ⟨gb405, 3, none⟩ = some (.int .i64 0) := (blk_cell BK405.out 3).trans rfl; have hcz35_4 : w32.cell? ⟨gb405, 4, none⟩ = some (.slice none 0 0) := (blk_cell BK405.out 4).trans rfl; have hcz35_5 : w32.cell? ⟨gb405, 5, none⟩ = some (.slice none 0 0) := (blk_cell BK405.out 5).trans rfl; have hfz35_0 := blk_frozen BK405.out 0; have hfz35_1 := blk_frozen BK405.out 1; have hfz35_2 := blk_frozen BK405.out 2; have hfz35_3 := blk_frozen BK405.out 3; have hfz35_4 := blk_frozen BK405.out 4; have hfz35_5 := blk_frozen BK405.out 5; obtain ⟨Ao36, co36, eo36⟩ := Kd.R_slice HO400.out; subst eo36; obtain ⟨Ao37, co37, eo37⟩ := Kd.R_slice HO403.out; subst eo37; have hcz38_0 : w32.cell? ⟨gb381, 0, none⟩ = some (.slice A380_1 ((rd_T52 l0 (ji15)).f1.f0).length c380_1) := (blk_cell BK381.out 0).trans rfl; have hfz38_0 := blk_frozen BK381.out 0; have hcz39_0 : w32.cell? ⟨gb393, 0, none⟩ = some (.int .i64 t382) := (blk_cell BK393.out 0).trans rfl; have hcz39_1 : w32.cell? ⟨gb393, 1, none⟩ = some (.int .i64 t383) := (blk_cell BK393.out 1).trans rfl; have hcz39_2 : w32.cell? ⟨gb393, 2, none⟩ = some (.int .i64 t384) := (blk_cell BK393.out 2).trans rfl; have hcz39_3 : w32.cell? ⟨gb393, 3, none⟩ = some (.int .i64 t385) := (blk_cell BK393.out 3).trans rfl; have hcz39_4 : w32.cell? ⟨gb393, 4, none⟩ = some (.slice Ao29 t386.length co29) := (blk_cell BK393.out 4).trans rfl; have hcz39_5 : w32.cell? ⟨gb393, 5, none⟩ = some (.slice Ao30 t389.length co30) := (blk_cell BK393.out 5).trans rfl; have hfz39_0 := blk_frozen BK393.out 0; have hfz39_1 := blk_frozen BK393.out 1; have hfz39_2 := blk_frozen BK393.out 2; have hfz39_3 := blk_frozen BK393.out 3; have hfz39_4 := blk_frozen BK393.out 4; have hfz39_5 := blk_frozen BK393.out 5) | ((with_reducible refine gate_callee (f := 21) rfl ?_); refine goesL_ (some 62) rfl rfl Try.func21 (by kernel_rfl) rfl #[.agg #[.int .i64 (wrap64 (1 + (Int.tmod (wrap64 (a1)) (wrap64 ((l0.length : Int) - 1))))), .slice A380_1 ((rd_T52 l0 (ji15)).f1.f0).length c380_1], .agg #[.int .i64 t382, .int .i64 t383, .int .i64 t384, .int .i64 t385, .slice Ao29 t386.length co29, .slice Ao30 t389.length co30]] rfl (by (try simp only [List.map_toArray, List.map_cons, List.map_nil]); first | done | (simp only [hji15]; rfl) | rfl | (simp only [List.length_drop, List.length_take]; rfl)) ?_; (with_reducible refine (feed_Take.calls kj4 (wrap64 (1 + (Int.tmod (wrap64 (a1)) (wrap64 ((l0.length : Int) - 1))))) _ _ ((rd_T52 l0 (ji15)).f1.f0) t382 t383 t384 t385 _ _ t386 _ _ t389 t406 t407 t410 _ ?side1 ?side2 ?side3 ?side4 ?side5 ?side6 A20.out).mono ?_); (case side1 => exact Kd.C_below HR380_1.out (b_ HB)); (case side2 => exact HC380_1.out); (case side3 => refine (Kd.R_reads' (e := 60) (base := w.heap.size) (ok := fun k_ => (True ∧ some k_ ≠ (.slice Ao36 t398.length co36 : Value).ownBlock)) (n := t386.length) (c := co29) ?_).2.2; exact (by (with_reducible repeat (first | apply Kd.R_alloc | apply Kd.R_drewN | apply Kd.R_drew)); exact (Kd.R_mono (Kd.R_far (p := ⟨gb405, 5, none⟩) (Kd.R_far (p := ⟨gb405, 4, none⟩) (Kd.R_far (p := ⟨gb405, 3, none⟩) (Kd.R_far (p := ⟨gb405, 2, none⟩) (Kd.R_far (p := ⟨gb405, 1, none⟩) (Kd.R_far (p := ⟨gb405, 0, none⟩) (Kd.R_types HO388.out BK405.out (by decide)) (fun _ hk => hk.2) (.int .i64 t394)) (fun _ hk => hk.2) (.int .i64 t395)) (fun _ hk => hk.2) (.int .i64 t396)) (fun _ hk => hk.2) (.int .i64 t397)) (fun _ hk => hk.2) (.slice Ao36 t398.length co36)) (fun _ hk => hk.2) (.slice Ao37 t401.length co37)) (fun _ h_ => h_.1)))); (case side4 => exact (Kd.R_reads' HO388.out).2.1); (case side5 => refine (Kd.R_reads' (e := 64) (base := w.heap.size) (ok := fun k_ => (True ∧ some k_ ≠ (.slice Ao37 t401.length co37 : Value).ownBlock)) (n := t389.length) (c := co30) ?_).2.2; exact (by (with_reducible repeat (first | apply Kd.R_alloc | apply Kd.R_drewN | apply Kd.R_drew)); exact (Kd.R_mono (Kd.R_far (p := ⟨gb405, 5, none⟩) (Kd.R_far (p := ⟨gb405, 4, none⟩) (Kd.R_far (p := ⟨gb405, 3, none⟩) (Kd.R_far (p := ⟨gb405, 2, none⟩) (Kd.R_far (p := ⟨gb405, 1, none⟩) (Kd.R_far (p := ⟨gb405, 0, none⟩) (Kd.R_types HO391.out BK405.out (by decide)) (fun _ hk => hk.2) (.int .i64 t394)) (fun _ hk => hk.2) (.int .i64 t395)) (fun _ hk => hk.2) (.int .i64 t396)) (fun _ hk => hk.2) (.int .i64 t397)) (fun _ hk => hk.2) (.slice Ao36 t398.length co36)) (fun _ hk => hk.2) (.slice Ao37 t401.length co37)) (fun _ h_ => h_.1)))); (case side6 => exact (Kd.R_reads' HO391.out).2.1); rintro e w40 ⟨v408, rfl, ho0, hb⟩; refine ⟨_, rfl, ?_⟩; have n0_ := Aside0.mk (Kd.R_elder' (by (with_reducible repeat (first | apply Kd.R_alloc | apply Kd.R_drewN | apply Kd.R_drew)); exact (Kd.R_mono (Kd.R_far (p := ⟨gb405, 5, none⟩) (Kd.R_far (p := ⟨gb405, 4, none⟩) (Kd.R_far (p := ⟨gb405, 3, none⟩) (Kd.R_far (p := ⟨gb405, 2, none⟩) (Kd.R_far (p := ⟨gb405, 1, none⟩) (Kd.R_far (p := ⟨gb405, 0, none⟩) (Kd.R_types HO388.out BK405.out (by decide)) (fun _ hk => hk.2) (.int .i64 t394)) (fun _ hk => hk.2) (.int .i64 t395)) (fun _ hk => hk.2) (.int .i64 t396)) (fun _ hk => hk.2) (.int .i64 t397)) (fun _ hk => hk.2) (.slice Ao36 t398.length co36)) (fun _ hk => hk.2) (.slice Ao37 t401.length co37)) (fun _ h_ => h_.1))) (Kd.R_base ho0) hb); have n1_ := Aside0.mk (Kd.R_below (by (with_reducible repeat (first | apply Kd.R_alloc | apply Kd.R_drewN | apply Kd.R_drew)); exact (Kd.R_mono (Kd.R_far (p := ⟨gb405, 5, none⟩) (Kd.R_far (p := ⟨gb405, 4, none⟩) (Kd.R_far (p := ⟨gb405, 3, none⟩) (Kd.R_far (p := ⟨gb405, 2, none⟩) (Kd.R_far (p := ⟨gb405, 1, none⟩) (Kd.R_far (p := ⟨gb405, 0, none⟩) (Kd.R_types HO391.out BK405.out (by decide)) (fun _ hk => hk.2) (.int .i64 t394)) (fun _ hk => hk.2) (.int .i64 t395)) (fun _ hk => hk.2) (.int .i64 t396)) (fun _ hk => hk.2) (.int .i64 t397)) (fun _ hk => hk.2) (.slice Ao36 t398.length co36)) (fun _ hk => hk.2) (.slice Ao37 t401.length co37)) (fun _ h_ => h_.1))) hb); have n2_ := Aside0.mk (Kd.R_elder' (by (with_reducible repeat (first | apply Kd.R_alloc | apply Kd.R_drewN | apply Kd.R_drew)); exact (Kd.R_mono (Kd.R_far (p := ⟨gb405, 5, none⟩) (Kd.R_far (p := ⟨gb405, 4, none⟩) (Kd.R_far (p := ⟨gb405, 3, none⟩) (Kd.R_far (p := ⟨gb405, 2, none⟩) (Kd.R_far (p := ⟨gb405, 1, none⟩) (Kd.R_far (p := ⟨gb405, 0, none⟩) (Kd.R_types HO400.out BK405.out (by decide)) (fun _ hk => hk.2) (.int .i64 t394)) (fun _ hk => hk.2) (.int .i64 t395)) (fun _ hk => hk.2) (.int .i64 t396)) (fun _ hk => hk.2) (.int .i64 t397)) (fun _ hk => hk.2) (.slice Ao36 t398.length co36)) (fun _ hk => hk.2) (.slice Ao37 t401.length co37)) (fun _ h_ => h_.1))) (Kd.R_base ho0) hb); have n3_ := Aside0.mk (Kd.R_below (by (with_reducible repeat (first | apply Kd.R_alloc | apply Kd.R_drewN | apply Kd.R_drew)); exact (Kd.R_mono (Kd.R_far (p := ⟨gb405, 5, none⟩) (Kd.R_far (p := ⟨gb405, 4, none⟩) (Kd.R_far (p := ⟨gb405, 3, none⟩) (Kd.R_far (p := ⟨gb405, 2, none⟩) (Kd.R_far (p := ⟨gb405, 1, none⟩) (Kd.R_far (p := ⟨gb405, 0, none⟩) (Kd.R_types HO403.out BK405.out (by decide)) (fun _ hk => hk.2) (.int .i64 t394)) (fun _ hk => hk.2) (.int .i64 t395)) (fun _ hk => hk.2) (.int .i64 t396)) (fun _ hk => hk.2) (.int .i64 t397)) (fun _ hk => hk.2) (.slice Ao36 t398.length co36)) (fun _ hk => hk.2) (.slice Ao37 t401.length co37)) (fun _ h_ => h_.1))) hb); have n4_ := Aside0.mk (Kd.R_lower (Kd.R_new' (Kd.R_new' ho0 (Kd.R_lt (by (with_reducible repeat (first | apply Kd.R_alloc | apply Kd.R_drewN | apply Kd.R_drew)); exact (Kd.R_mono (Kd.R_far (p := ⟨gb405, 5, none⟩) (Kd.R_far (p := ⟨gb405, 4, none⟩) (Kd.R_far (p := ⟨gb405, 3, none⟩) (Kd.R_far (p := ⟨gb405, 2, none⟩) (Kd.R_far (p := ⟨gb405, 1, none⟩) (Kd.R_far (p := ⟨gb405, 0, none⟩) (Kd.R_types HO388.out BK405.out (by decide)) (fun _ hk => hk.2) (.int .i64 t394)) (fun _ hk => hk.2) (.int .i64 t395)) (fun _ hk => hk.2) (.int .i64 t396)) (fun _ hk => hk.2) (.int .i64 t397)) (fun _ hk => hk.2) (.slice Ao36 t398.length co36)) (fun _ hk => hk.2) (.slice Ao37 t401.length co37)) (fun _ h_ => h_.1))))) (Kd.R_lt (by (with_reducible repeat (first | apply Kd.R_alloc | apply Kd.R_drewN | apply Kd.R_drew)); exact (Kd.R_mono (Kd.R_far (p := ⟨gb405, 5, none⟩) (Kd.R_far (p := ⟨gb405, 4, none⟩) (Kd.R_far (p := ⟨gb405, 3, none⟩) (Kd.R_far (p := ⟨gb405, 2, none⟩) (Kd.R_far (p := ⟨gb405, 1, none⟩) (Kd.R_far (p := ⟨gb405, 0, none⟩) (Kd.R_types HO400.out BK405.out (by decide)) (fun _ hk => hk.2) (.int .i64 t394)) (fun _ hk => hk.2) (.int .i64 t395)) (fun _ hk => hk.2) (.int .i64 t396)) (fun _ hk => hk.2) (.int .i64 t397)) (fun _ hk => hk.2) (.slice Ao36 t398.length co36)) (fun _ hk => hk.2) (.slice Ao37 t401.length co37)) (fun _ h_ => h_.1))))) (below_size (b_ HB))); have n5_ := Aside0.mk (blk_below (g := gb381) (o := .cells #[.slice A380_1 ((rd_T52 l0 (ji15)).f1.f0).length c380_1] 25 (0, 0)) (by (with_reducible repeat (first | refine blk_drewN ?_ _ | refine blk_drew ?_ | refine blk_alloc ?_ _)); refine blk_far ?_ NB381_405.out _; (with_reducible repeat (first | refine blk_drewN ?_ _ | refine blk_drew ?_ | refine blk_alloc ?_ _)); refine blk_far ?_ NB381_405.out _; (with_reducible repeat (first | refine blk_drewN ?_ _ | refine blk_drew ?_ | refine blk_alloc ?_ _)); refine blk_far ?_ NB381_405.out _; (with_reducible repeat (first | refine blk_drewN ?_ _ | refine blk_drew ?_ | refine blk_alloc ?_ _)); refine blk_far ?_ NB381_405.out _; (with_reducible repeat (first | refine blk_drewN ?_ _ | refine blk_drew ?_ | refine blk_alloc ?_ _)); refine blk_far ?_ NB381_405.out _; (with_reducible repeat (first | refine blk_drewN ?_ _ | refine blk_drew ?_ | refine blk_alloc ?_ _)); refine blk_far ?_ NB381_405.out _; (with_reducible repeat (first | refine blk_drewN ?_ _ | refine blk_drew ?_ | refine blk_alloc ?_ _)); exact BK381.out) hb); have n6_ := Aside0.mk (blk_below (g := gb393) (o := .cells #[.int .i64 t382, .int .i64 t383, .int .i64 t384, .int .i64 t385, .slice Ao29 t386.length co29, .slice Ao30 t389.length co30] 32 (0, 0)) (by (with_reducible repeat (first | refine blk_drewN ?_ _ | refine blk_drew ?_ | refine blk_alloc ?_ _)); refine blk_far ?_ NB393_405.out _; (with_reducible repeat (first | refine blk_drewN ?_ _ | refine blk_drew ?_ | refine blk_alloc ?_ _)); refine blk_far ?_ NB393_405.out _; (with_reducible repeat (first | refine blk_drewN ?_ _ | refine blk_drew ?_ | refine blk_alloc ?_ _)); refine blk_far ?_ NB393_405.out _; (with_reducible repeat (first | refine blk_drewN ?_ _ | refine blk_drew ?_ | refine blk_alloc ?_ _)); refine blk_far ?_ NB393_405.out _; (with_reducible repeat (first | refine blk_drewN ?_ _ | refine blk_drew ?_ | refine blk_alloc ?_ _)); refine blk_far ?_ NB393_405.out _; (with_reducible repeat (first | refine blk_drewN ?_ _ | refine blk_drew ?_ | refine blk_alloc ?_ _)); refine blk_far ?_ NB393_405.out _; (with_reducible repeat (first | refine blk_drewN ?_ _ | refine blk_drew ?_ | refine blk_alloc ?_ _)); exact BK393.out) hb); have n7_ := Aside0.mk (blk_below (g := gb405) (o := .cells #[.int .i64 t394, .int .i64 t395, .int .i64 t396, .int .i64 t397, .slice Ao36 t398.length co36, .slice Ao37 t401.length co37] 32 (0, 0)) (by (with_reducible repeat (first | refine blk_drewN ?_ _ | refine blk_drew ?_ | refine blk_alloc ?_ _)); refine blk_put (cs := #[.int .i64 t394, .int .i64 t395, .int .i64 t396, .int .i64 t397, .slice Ao36 t398.length co36, .slice none 0 0]) ?_ 5 _ rfl; (with_reducible repeat (first | refine blk_drewN ?_ _ | refine blk_drew ?_ | refine blk_alloc ?_ _)); refine blk_put (cs := #[.int .i64 t394, .int .i64 t395, .int .i64 t396, .int .i64 t397, .slice none 0 0, .slice none 0 0]) ?_ 4 _ rfl; (with_reducible repeat (first | refine blk_drewN ?_ _ | refine blk_drew ?_ | refine blk_alloc ?_ _)); refine blk_put (cs := #[.int .i64 t394, .int .i64 t395, .int .i64 t396, .int .i64 0, .slice none 0 0, .slice none 0 0]) ?_ 3 _ rfl; (with_reducible repeat (first | refine blk_drewN ?_ _ | refine blk_drew ?_ | refine blk_alloc ?_ _)); refine blk_put (cs := #[.int .i64 t394, .int .i64 t395, .int .i64 0, .int .i64 0, .slice none 0 0, .slice none 0 0]) ?_ 2 _ rfl; (with_reducible repeat (first | refine blk_drewN ?_ _ | refine blk_drew ?_ | refine blk_alloc ?_ _)); refine blk_put (cs := #[.int .i64 t394, .int .i64 0, .int .i64 0, .int .i64 0, .slice none 0 0, .slice none 0 0]) ?_ 1 _ rfl; (with_reducible repeat (first | refine blk_drewN ?_ _ | refine blk_drew ?_ | refine blk_alloc ?_ _)); refine blk_put (cs := #[.int .i64 0, .int .i64 0, .int .i64 0, .int .i64 0, .slice none 0 0, .slice none 0 0]) ?_ 0 _ rfl; (with_reducible repeat (first | refine blk_drewN ?_ _ | refine blk_drew ?_ | refine blk_alloc ?_ _)); exact BK405.out) hb); have n8_ := Aside0.mk (below_step (b_ HB) hb); clear HO388; clear HO391; clear HO400; clear HO403; clear BK381; clear BK393; clear BK405; clear HB; have HO388 := n0_; have HO391 := n1_; have HO400 := n2_; have HO403 := n3_; have HO409 := n4_; have BK381 := n5_; have BK393 := n6_; have BK405 := n7_; have HB := n8_; clear n0_ n1_ n2_ n3_ n4_ n5_ n6_ n7_ n8_; (try clear hb); (try clear hb2); (try clear hk); (try clear hi); (try clear ho0)) | ((with_reducible refine gate_dst (N := 11) rfl ?_); (try (refine gate_guard (by rfl) ?_; dsimp only)); refine box_event ?hg (N := 11) ?hd (cs := #[.int .i64 0, .slice none 0 0]) (t := 27) ?hr ?_; (case hd => rfl); (case hg => rfl); (case hr => first | (go_simp; done) | (go_simp; rfl)); intro gb411 hg w41 hbox hb; have n0_ := Aside0.mk (Kd.R_below (by (with_reducible repeat (first | apply Kd.R_alloc | apply Kd.R_drewN | apply Kd.R_drew)); exact HO388.out) hb); have n1_ := Aside0.mk (Kd.R_below (by (with_reducible repeat (first | apply Kd.R_alloc | apply Kd.R_drewN | apply Kd.R_drew)); exact HO391.out) hb); have n2_ := Aside0.mk (Kd.R_below (by (with_reducible repeat (first | apply Kd.R_alloc | apply Kd.R_drewN | apply Kd.R_drew)); exact HO400.out) hb); have n3_ := Aside0.mk (Kd.R_below (by (with_reducible repeat (first | apply Kd.R_alloc | apply Kd.R_drewN | apply Kd.R_drew)); exact HO403.out) hb); have n4_ := Aside0.mk (Kd.R_below (by (with_reducible repeat (first | apply Kd.R_alloc | apply Kd.R_drewN | apply Kd.R_drew)); exact HO409.out) hb); have n5_ := Aside0.mk (blk_below (k_ BK381) hb); have n6_ := Aside0.mk (blk_below (k_ BK393) hb); have n7_ := Aside0.mk (blk_below (k_ BK405) hb); have n8_ := Aside0.mk (below_step (b_ HB) hb); have n9_ := Aside0.mk (hbox); have n10_ := Aside0.mk ((by rw [hg]; exact (below_size (b_ HB)) : w.heap.size ≤ gb411)); have n11_ := n10_; have n12_ := Aside0.mk ((by rw [hg]; exact Nat.ne_of_lt (blk_lt (k_ BK381)) : gb381 ≠ gb411)); have n13_ := Aside0.mk ((by rw [hg]; exact Nat.ne_of_gt (blk_lt (k_ BK381)) : gb411 ≠ gb381)); have n14_ := Aside0.mk ((by rw [hg]; exact Nat.ne_of_lt (blk_lt (k_ BK393)) : gb393 ≠ gb411)); have n15_ := Aside0.mk ((by rw [hg]; exact Nat.ne_of_gt (blk_lt (k_ BK393)) : gb411 ≠ gb393)); have n16_ := Aside0.mk ((by rw [hg]; exact Nat.ne_of_lt (blk_lt (k_ BK405)) : gb405 ≠ gb411)); have n17_ := Aside0.mk ((by rw [hg]; exact Nat.ne_of_gt (blk_lt (k_ BK405)) : gb411 ≠ gb405)); clear HO388; clear HO391; clear HO400; clear HO403; clear HO409; clear BK381; clear BK393; clear BK405; clear HB; have HO388 := n0_; have HO391 := n1_; have HO400 := n2_; have HO403 := n3_; have HO409 := n4_; have BK381 := n5_; have BK393 := n6_; have BK405 := n7_; have HB := n8_; have BK411 := n9_; have GW411 := n10_; have GE411 := n11_; have NB381_411 := n12_; have NB411_381 := n13_; have NB393_411 := n14_; have NB411_393 := n15_; have NB405_411 := n16_; have NB411_405 := n17_; clear n0_ n1_ n2_ n3_ n4_ n5_ n6_ n7_ n8_ n9_ n10_ n11_ n12_ n13_ n14_ n15_ n16_ n17_; clear hb hbox hg; have hnb42 := NB411_381.out; have hnc42 := NB381_411.out; have hnb43 := NB411_393.out; have hnc43 := NB393_411.out; have hnb44 := NB411_405.out; have hnc44 := NB405_411.out; have hcz45_0 : w41.cell? ⟨gb411, 0, none⟩ = some (.int .i64 0) := (blk_cell BK411.out 0).trans rfl; have hcz45_1 : w41.cell? ⟨gb411, 1, none⟩ = some (.slice none 0 0) := (blk_cell BK411.out 1).trans rfl; have hfz45_0 := blk_frozen BK411.out 0; have hfz45_1 := blk_frozen BK411.out 1; obtain ⟨Ao46, co46, eo46⟩ := Kd.R_slice HO409.out; subst eo46; have hcz47_0 : w41.cell? ⟨gb381, 0, none⟩ = some (.slice A380_1 ((rd_T52 l0 (ji15)).f1.f0).length c380_1) := (blk_cell BK381.out 0).trans rfl; have hfz47_0 := blk_frozen BK381.out 0; have hcz48_0 : w41.cell? ⟨gb405, 0, none⟩ = some (.int .i64 t394) := (blk_cell BK405.out 0).trans rfl; have hcz48_1 : w41.cell? ⟨gb405, 1, none⟩ = some (.int .i64 t395) := (blk_cell BK405.out 1).trans rfl; have hcz48_2 : w41.cell? ⟨gb405, 2, none⟩ = some (.int .i64 t396) := (blk_cell BK405.out 2).trans rfl; have hcz48_3 : w41.cell? ⟨gb405, 3, none⟩ = some (.int .i64 t397) := (blk_cell BK405.out 3).trans rfl; have hcz48_4 : w41.cell? ⟨gb405, 4, none⟩ = some (.slice Ao36 t398.length co36) := (blk_cell BK405.out 4).trans rfl; have hcz48_5 : w41.cell? ⟨gb405, 5, none⟩ = some (.slice Ao37 t401.length co37) := (blk_cell BK405.out 5).trans rfl; have hfz48_0 := blk_frozen BK405.out 0; have hfz48_1 := blk_frozen BK405.out 1; have hfz48_2 := blk_frozen BK405.out 2; have hfz48_3 := blk_frozen BK405.out 3; have hfz48_4 := blk_frozen BK405.out 4; have hfz48_5 := blk_frozen BK405.out 5) | ((with_reducible refine gate_callee (f := 21) rfl ?_); refine goesL_ (some 70) rfl rfl Try.func21 (by kernel_rfl) rfl #[.agg #[.int .i64 (wrap64 (1 + (Int.tmod (wrap64 (a1)) (wrap64 ((l0.length : Int) - 1))))), .slice A380_1 ((rd_T52 l0 (ji15)).f1.f0).length c380_1], .agg #[.int .i64 t394, .int .i64 t395, .int .i64 t396, .int .i64 t397, .slice Ao36 t398.length co36, .slice Ao37 t401.length co37]] rfl (by (try simp only [List.map_toArray, List.map_cons, List.map_nil]); first | done | (simp only [hji15]; rfl) | rfl | (simp only [List.length_drop, List.length_take]; rfl)) ?_; (with_reducible refine (feed_Take.calls kj4 (wrap64 (1 + (Int.tmod (wrap64 (a1)) (wrap64 ((l0.length : Int) - 1))))) _ _ ((rd_T52 l0 (ji15)).f1.f0) t394 t395 t396 t397 _ _ t398 _ _ t401 t412 t413 t416 _ ?side1 ?side2 ?side3 ?side4 ?side5 ?side6 A21.out).mono ?_); (case side1 => exact Kd.C_below HR380_1.out (b_ HB)); (case side2 => exact HC380_1.out); (case side3 => refine (Kd.R_reads' (e := 60) (base := w.heap.size) (ok := fun k_ => ((True ∧ some k_ ≠ (.slice Ao29 t386.length co29 : Value).ownBlock) ∧ some k_ ≠ (.slice Ao46 t407.length co46 : Value).ownBlock)) (n := t398.length) (c := co36) ?_).2.2; exact (by (with_reducible repeat (first | apply Kd.R_alloc | apply Kd.R_drewN | apply Kd.R_drew)); exact (Kd.R_mono (Kd.R_far (p := ⟨gb411, 1, none⟩) (Kd.R_far (p := ⟨gb411, 0, none⟩) (Kd.R_types HO400.out BK411.out (by decide)) (fun _ hk => hk.2) (.int .i64 t406)) (fun _ hk => hk.2) (.slice Ao46 t407.length co46)) (fun _ h_ => h_.1)))); (case side4 => exact (Kd.R_reads' HO400.out).2.1); (case side5 => refine (Kd.R_reads' (e := 64) (base := w.heap.size) (ok := fun k_ => (True ∧ some k_ ≠ (.slice Ao30 t389.length co30 : Value).ownBlock)) (n := t401.length) (c := co37) ?_).2.2; exact (by (with_reducible repeat (first | apply Kd.R_alloc | apply Kd.R_drewN | apply Kd.R_drew)); exact (Kd.R_mono (Kd.R_far (p := ⟨gb411, 1, none⟩) (Kd.R_far (p := ⟨gb411, 0, none⟩) (Kd.R_types HO403.out BK411.out (by decide)) (fun _ hk => hk.2) (.int .i64 t406)) (fun _ hk => hk.2) (.slice Ao46 t407.length co46)) (fun _ h_ => h_.1)))); (case side6 => exact (Kd.R_reads' HO403.out).2.1); rintro e w49 ⟨v414, rfl, ho0, hb⟩; refine ⟨_, rfl, ?_⟩; have n0_ := Aside0.mk (Kd.R_elder' (by (with_reducible repeat (first | apply Kd.R_alloc | apply Kd.R_drewN | apply Kd.R_drew)); exact (Kd.R_mono (Kd.R_far (p := ⟨gb411, 1, none⟩) (Kd.R_far (p := ⟨gb411, 0, none⟩) (Kd.R_types HO388.out BK411.out (by decide)) (fun _ hk => hk.2) (.int .i64 t406)) (fun _ hk => hk.2) (.slice Ao46 t407.length co46)) (fun _ h_ => h_.1))) (Kd.R_base ho0) hb); have n1_ := Aside0.mk (Kd.R_below (by (with_reducible repeat (first | apply Kd.R_alloc | apply Kd.R_drewN | apply Kd.R_drew)); exact (Kd.R_mono (Kd.R_far (p := ⟨gb411, 1, none⟩) (Kd.R_far (p := ⟨gb411, 0, none⟩) (Kd.R_types HO391.out BK411.out (by decide)) (fun _ hk => hk.2) (.int .i64 t406)) (fun _ hk => hk.2) (.slice Ao46 t407.length co46)) (fun _ h_ => h_.1))) hb); have n2_ := Aside0.mk (Kd.R_elder' (by (with_reducible repeat (first | apply Kd.R_alloc | apply Kd.R_drewN | apply Kd.R_drew)); exact (Kd.R_mono (Kd.R_far (p := ⟨gb411, 1, none⟩) (Kd.R_far (p := ⟨gb411, 0, none⟩) (Kd.R_types HO400.out BK411.out (by decide)) (fun _ hk => hk.2) (.int .i64 t406)) (fun _ hk => hk.2) (.slice Ao46 t407.length co46)) (fun _ h_ => h_.1))) (Kd.R_base ho0) hb); have n3_ := Aside0.mk (Kd.R_below (by (with_reducible repeat (first | apply Kd.R_alloc | apply Kd.R_drewN | apply Kd.R_drew)); exact (Kd.R_mono (Kd.R_far (p := ⟨gb411, 1, none⟩) (Kd.R_far (p := ⟨gb411, 0, none⟩) (Kd.R_types HO403.out BK411.out (by decide)) (fun _ hk => hk.2) (.int .i64 t406)) (fun _ hk => hk.2) (.slice Ao46 t407.length co46)) (fun _ h_ => h_.1))) hb); have n4_ := Aside0.mk (Kd.R_elder' (by (with_reducible repeat (first | apply Kd.R_alloc | apply Kd.R_drewN | apply Kd.R_drew)); exact (Kd.R_mono (Kd.R_far (p := ⟨gb411, 1, none⟩) (Kd.R_far (p := ⟨gb411, 0, none⟩) (Kd.R_types HO409.out BK411.out (by decide)) (fun _ hk => hk.2) (.int .i64 t406)) (fun _ hk => hk.2) (.slice Ao46 t407.length co46)) (fun _ h_ => h_.1))) (Kd.R_base ho0) hb); have n5_ := Aside0.mk (Kd.R_lower (Kd.R_new' (Kd.R_new' (Kd.R_new' ho0 (Kd.R_lt (by (with_reducible repeat (first | apply Kd.R_alloc | apply Kd.R_drewN | apply Kd.R_drew)); exact (Kd.R_mono (Kd.R_far (p := ⟨gb411, 1, none⟩) (Kd.R_far (p := ⟨gb411, 0, none⟩) (Kd.R_types HO388.out BK411.out (by decide)) (fun _ hk => hk.2) (.int .i64 t406)) (fun _ hk => hk.2) (.slice Ao46 t407.length co46)) (fun _ h_ => h_.1))))) (Kd.R_lt (by (with_reducible repeat (first | apply Kd.R_alloc | apply Kd.R_drewN | apply Kd.R_drew)); exact (Kd.R_mono (Kd.R_far (p := ⟨gb411, 1, none⟩) (Kd.R_far (p := ⟨gb411, 0, none⟩) (Kd.R_types HO400.out BK411.out (by decide)) (fun _ hk => hk.2) (.int .i64 t406)) (fun _ hk => hk.2) (.slice Ao46 t407.length co46)) (fun _ h_ => h_.1))))) (Kd.R_lt (by (with_reducible repeat (first | apply Kd.R_alloc | apply Kd.R_drewN | apply Kd.R_drew)); exact (Kd.R_mono (Kd.R_far (p := ⟨gb411, 1, none⟩) (Kd.R_far (p := ⟨gb411, 0, none⟩) (Kd.R_types HO409.out BK411.out (by decide)) (fun _ hk => hk.2) (.int .i64 t406)) (fun _ hk => hk.2) (.slice Ao46 t407.length co46)) (fun _ h_ => h_.1))))) (below_size (b_ HB))); have n6_ := Aside0.mk (blk_below (g := gb381) (o := .cells #[.slice A380_1 ((rd_T52 l0 (ji15)).f1.f0).length c380_1] 25 (0, 0)) (by (with_reducible repeat (first | refine blk_drewN ?_ _ | refine blk_drew ?_ | refine blk_alloc ?_ _)); refine blk_far ?_ NB381_411.out _; (with_reducible repeat (first | refine blk_drewN ?_ _ | refine blk_drew ?_ | refine blk_alloc ?_ _)); refine blk_far ?_ NB381_411.out _; (with_reducible repeat (first | refine blk_drewN ?_ _ | refine blk_drew ?_ | refine blk_alloc ?_ _)); exact BK381.out) hb); have n7_ := Aside0.mk (blk_below (g := gb393) (o := .cells #[.int .i64 t382, .int .i64 t383, .int .i64 t384, .int .i64 t385, .slice Ao29 t386.length co29, .slice Ao30 t389.length co30] 32 (0, 0)) (by (with_reducible repeat (first | refine blk_drewN ?_ _ | refine blk_drew ?_ | refine blk_alloc ?_ _)); refine blk_far ?_ NB393_411.out _; (with_reducible repeat (first | refine blk_drewN ?_ _ | refine blk_drew ?_ | refine blk_alloc ?_ _)); refine blk_far ?_ NB393_411.out _; (with_reducible repeat (first | refine blk_drewN ?_ _ | refine blk_drew ?_ | refine blk_alloc ?_ _)); exact BK393.out) hb); have n8_ := Aside0.mk (blk_below (g := gb405) (o := .cells #[.int .i64 t394, .int .i64 t395, .int .i64 t396, .int .i64 t397, .slice Ao36 t398.length co36, .slice Ao37 t401.length co37] 32 (0, 0)) (by (with_reducible repeat (first | refine blk_drewN ?_ _ | refine blk_drew ?_ | refine blk_alloc ?_ _)); refine blk_far ?_ NB405_411.out _; (with_reducible repeat (first | refine blk_drewN ?_ _ | refine blk_drew ?_ | refine blk_alloc ?_ _)); refine blk_far ?_ NB405_411.out _; (with_reducible repeat (first | refine blk_drewN ?_ _ | refine blk_drew ?_ | refine blk_alloc ?_ _)); exact BK405.out) hb); have n9_ := Aside0.mk (blk_below (g := gb411) (o := .cells #[.int .i64 t406, .slice Ao46 t407.length co46] 27 (0, 0)) (by (with_reducible repeat (first | refine blk_drewN ?_ _ | refine blk_drew ?_ | refine blk_alloc ?_ _)); refine blk_put (cs := #[.int .i64 t406, .slice none 0 0]) ?_ 1 _ rfl; (with_reducible repeat (first | refine blk_drewN ?_ _ | refine blk_drew ?_ | refine blk_alloc ?_ _)); refine blk_put (cs := #[.int .i64 0, .slice none 0 0]) ?_ 0 _ rfl; (with_reducible repeat (first | refine blk_drewN ?_ _ | refine blk_drew ?_ | refine blk_alloc ?_ _)); exact BK411.out) hb); have n10_ := Aside0.mk (below_step (b_ HB) hb); clear HO388; clear HO391; clear HO400; clear HO403; clear HO409; clear BK381; clear BK393; clear BK405; clear BK411; clear HB; have HO388 := n0_; have HO391 := n1_; have HO400 := n2_; have HO403 := n3_; have HO409 := n4_; have HO415 := n5_; have BK381 := n6_; have BK393 := n7_; have BK405 := n8_; have BK411 := n9_; have HB := n10_; clear n0_ n1_ n2_ n3_ n4_ n5_ n6_ n7_ n8_ n9_ n10_; (try clear hb); (try clear hb2); (try clear hk); (try clear hi); (try clear ho0)) | ((with_reducible refine gate_dst (N := 13) rfl ?_); (try (refine gate_guard (by rfl) ?_; dsimp only)); refine box_event ?hg (N := 13) ?hd (cs := #[.int .i64 0, .slice none 0 0]) (t := 27) ?hr ?_; (case hd => rfl); (case hg => rfl); (case hr => first | (go_simp; done) | (go_simp; rfl)); intro gb417 hg w50 hbox hb; have n0_ := Aside0.mk (Kd.R_below (by (with_reducible repeat (first | apply Kd.R_alloc | apply Kd.R_drewN | apply Kd.R_drew)); exact HO388.out) hb); have n1_ := Aside0.mk (Kd.R_below (by (with_reducible repeat (first | apply Kd.R_alloc | apply Kd.R_drewN | apply Kd.R_drew)); exact HO391.out) hb); have n2_ := Aside0.mk (Kd.R_below (by (with_reducible repeat (first | apply Kd.R_alloc | apply Kd.R_drewN | apply Kd.R_drew)); exact HO400.out) hb); have n3_ := Aside0.mk (Kd.R_below (by (with_reducible repeat (first | apply Kd.R_alloc | apply Kd.R_drewN | apply Kd.R_drew)); exact HO403.out) hb); have n4_ := Aside0.mk (Kd.R_below (by (with_reducible repeat (first | apply Kd.R_alloc | apply Kd.R_drewN | apply Kd.R_drew)); exact HO409.out) hb); have n5_ := Aside0.mk (Kd.R_below (by (with_reducible repeat (first | apply Kd.R_alloc | apply Kd.R_drewN | apply Kd.R_drew)); exact HO415.out) hb); have n6_ := Aside0.mk (blk_below (k_ BK381) hb); have n7_ := Aside0.mk (blk_below (k_ BK393) hb); have n8_ := Aside0.mk (blk_below (k_ BK405) hb); have n9_ := Aside0.mk (blk_below (k_ BK411) hb); have n10_ := Aside0.mk (below_step (b_ HB) hb); have n11_ := Aside0.mk (hbox); have n12_ := Aside0.mk ((by rw [hg]; exact (below_size (b_ HB)) : w.heap.size ≤ gb417)); have n13_ := n12_; have n14_ := Aside0.mk ((by rw [hg]; exact Nat.ne_of_lt (blk_lt (k_ BK381)) : gb381 ≠ gb417)); have n15_ := Aside0.mk ((by rw [hg]; exact Nat.ne_of_gt (blk_lt (k_ BK381)) : gb417 ≠ gb381)); have n16_ := Aside0.mk ((by rw [hg]; exact Nat.ne_of_lt (blk_lt (k_ BK393)) : gb393 ≠ gb417)); have n17_ := Aside0.mk ((by rw [hg]; exact Nat.ne_of_gt (blk_lt (k_ BK393)) : gb417 ≠ gb393)); have n18_ := Aside0.mk ((by rw [hg]; exact Nat.ne_of_lt (blk_lt (k_ BK405)) : gb405 ≠ gb417)); have n19_ := Aside0.mk ((by rw [hg]; exact Nat.ne_of_gt (blk_lt (k_ BK405)) : gb417 ≠ gb405)); have n20_ := Aside0.mk ((by rw [hg]; exact Nat.ne_of_lt (blk_lt (k_ BK411)) : gb411 ≠ gb417)); have n21_ := Aside0.mk ((by rw [hg]; exact Nat.ne_of_gt (blk_lt (k_ BK411)) : gb417 ≠ gb411)); clear HO388; clear HO391; clear HO400; clear HO403; clear HO409; clear HO415; clear BK381; clear BK393; clear BK405; clear BK411; clear HB; have HO388 := n0_; have HO391 := n1_; have HO400 := n2_; have HO403 := n3_; have HO409 := n4_; have HO415 := n5_; have BK381 := n6_; have BK393 := n7_; have BK405 := n8_; have BK411 := n9_; have HB := n10_; have BK417 := n11_; have GW417 := n12_; have GE417 := n13_; have NB381_417 := n14_; have NB417_381 := n15_; have NB393_417 := n16_; have NB417_393 := n17_; have NB405_417 := n18_; have NB417_405 := n19_; have NB411_417 := n20_; have NB417_411 := n21_; clear n0_ n1_ n2_ n3_ n4_ n5_ n6_ n7_ n8_ n9_ n10_ n11_ n12_ n13_ n14_ n15_ n16_ n17_ n18_ n19_ n20_ n21_; clear hb hbox hg; have hnb51 := NB417_381.out; have hnc51 := NB381_417.out; have hnb52 := NB417_393.out; have hnc52 := NB393_417.out; have hnb53 := NB417_405.out; have hnc53 := NB405_417.out; have hnb54 := NB417_411.out; have hnc54 := NB411_417.out; have hcz55_0 : w50.cell? ⟨gb417, 0, none⟩ = some (.int .i64 0) := (blk_cell BK417.out 0).trans rfl; have hcz55_1 : w50.cell? ⟨gb417, 1, none⟩ = some (.slice none 0 0) := (blk_cell BK417.out 1).trans rfl; have hfz55_0 := blk_frozen BK417.out 0; have hfz55_1 := blk_frozen BK417.out 1; obtain ⟨Ao56, co56, eo56⟩ := Kd.R_slice HO415.out; subst eo56))
                (try simp only [Act.put, List.setIfInBounds_toArray, List.set_cons_zero, List.set_cons_succ])
                go_cut [92] (fun v92 wc => ∃ (kq : Nat) (x92_21 : Bool), v92 = .bool x92_21 ∧ Aside0 (chalklinelaw35_FeedDifference.j1 kq l0 (wrap64 (1 + (Int.tmod (wrap64 (a1)) (wrap64 ((l0.length : Int) - 1))))) x92_21 ((rd_T52 l0 (ji15)).f1.f0) t382 t383 t384 t385 t386 t389 = some r) ∧ Aside0 (kq ≤ kj4) ∧ Aside0 (Kd.R k60 60 wc w.heap.size (fun k_ => some k_ ≠ ((.slice Ao36 t398.length co36) : Value).ownBlock ∧ some k_ ≠ ((.slice Ao46 t407.length co46) : Value).ownBlock ∧ some k_ ≠ ((.slice Ao56 t413.length co56) : Value).ownBlock) (.slice Ao29 t386.length co29) t386) ∧ Aside0 (Kd.R k64 64 wc w.heap.size (fun k_ => some k_ ≠ ((.slice Ao37 t401.length co37) : Value).ownBlock) (.slice Ao30 t389.length co30) t389) ∧ Aside0 (Kd.R k60 60 wc w.heap.size (fun k_ => some k_ ≠ ((.slice Ao29 t386.length co29) : Value).ownBlock ∧ some k_ ≠ ((.slice Ao46 t407.length co46) : Value).ownBlock ∧ some k_ ≠ ((.slice Ao56 t413.length co56) : Value).ownBlock) (.slice Ao36 t398.length co36) t398) ∧ Aside0 (Kd.R k64 64 wc w.heap.size (fun k_ => some k_ ≠ ((.slice Ao30 t389.length co30) : Value).ownBlock) (.slice Ao37 t401.length co37) t401) ∧ Aside0 (Kd.R k60 60 wc w.heap.size (fun k_ => some k_ ≠ ((.slice Ao29 t386.length co29) : Value).ownBlock ∧ some k_ ≠ ((.slice Ao36 t398.length co36) : Value).ownBlock ∧ some k_ ≠ ((.slice Ao56 t413.length co56) : Value).ownBlock) (.slice Ao46 t407.length co46) t407) ∧ Aside0 (Kd.R k60 60 wc w.heap.size (fun k_ => some k_ ≠ ((.slice Ao29 t386.length co29) : Value).ownBlock ∧ some k_ ≠ ((.slice Ao36 t398.length co36) : Value).ownBlock ∧ some k_ ≠ ((.slice Ao46 t407.length co46) : Value).ownBlock) (.slice Ao56 t413.length co56) t413) ∧ Aside0 (wc.heap[gb381]? = some (.cells #[(.slice A380_1 ((rd_T52 l0 (ji15)).f1.f0).length c380_1)] 25 (0, 0))) ∧ Aside0 (wc.heap[gb393]? = some (.cells #[.int .i64 t382, .int .i64 t383, .int .i64 t384, .int .i64 t385, (.slice Ao29 t386.length co29), (.slice Ao30 t389.length co30)] 32 (0, 0))) ∧ Aside0 (wc.heap[gb405]? = some (.cells #[.int .i64 t394, .int .i64 t395, .int .i64 t396, .int .i64 t397, (.slice Ao36 t398.length co36), (.slice Ao37 t401.length co37)] 32 (0, 0))) ∧ Aside0 (wc.heap[gb411]? = some (.cells #[.int .i64 t406, (.slice Ao46 t407.length co46)] 27 (0, 0))) ∧ Aside0 (wc.heap[gb417]? = some (.cells #[.int .i64 t412, (.slice Ao56 t413.length co56)] 27 (0, 0))) ∧ Aside0 (Below w.heap.size w wc))
                case first =>
                  have H := HC22.out
                  clear HC22
                  by_cases c57 : t392 = 0
                  · rw [if_pos c57] at H
                    have c57b0 : (t392 == 0) = true := beq_iff_eq.mpr c57
                    have c57b1 : (t392 != 0) = false := bne_eq_false_iff_eq.mpr c57
                    clear c57
                    (first | rw [c57b0] | (simp only [i64_w, i32_w]; rw [c57b0]) | skip)
                    by_cases c58 : t404 = 0
                    · rw [if_pos c58] at H
                      have c58b0 : (t404 == 0) = true := beq_iff_eq.mpr c58
                      have c58b1 : (t404 != 0) = false := bne_eq_false_iff_eq.mpr c58
                      clear c58
                      by_cases c59 : t410 = 0
                      · rw [if_pos c59] at H
                        have c59b0 : (t410 == 0) = true := beq_iff_eq.mpr c59
                        have c59b1 : (t410 != 0) = false := bne_eq_false_iff_eq.mpr c59
                        clear c59
                        by_cases c60 : t416 = 0
                        · rw [if_pos c60] at H
                          have c60b0 : (t416 == 0) = true := beq_iff_eq.mpr c60
                          have c60b1 : (t416 != 0) = false := bne_eq_false_iff_eq.mpr c60
                          clear c60
                          replace H := Option.bind_eq_some_iff.mp H
                          obtain ⟨t418, A610, H⟩ := H
                          replace H : (chalklinelaw35_FeedDifference.j1 kj4 l0 (wrap64 (1 + (Int.tmod (wrap64 (a1)) (wrap64 ((l0.length : Int) - 1))))) (!t418) ((rd_T52 l0 (ji15)).f1.f0) t382 t383 t384 t385 t386 t389) = some r := H
                          have A61 := Aside0.mk A610
                          clear A610
                          have H' := Aside0.mk H
                          clear H
                          have hnb62 := NB411_381.out
                          have hnc62 := NB381_411.out
                          have hnb63 := NB411_393.out
                          have hnc63 := NB393_411.out
                          have hnb64 := NB411_405.out
                          have hnc64 := NB405_411.out
                          have hnb65 := NB411_417.out
                          have hnc65 := NB417_411.out
                          have hcz66_0 : w50.cell? ⟨gb411, 0, none⟩ = some (.int .i64 t406) := (blk_cell BK411.out 0).trans rfl
                          have hcz66_1 : w50.cell? ⟨gb411, 1, none⟩ = some (.slice Ao46 t407.length co46) := (blk_cell BK411.out 1).trans rfl
                          have hfz66_0 := blk_frozen BK411.out 0
                          have hfz66_1 := blk_frozen BK411.out 1
                          have hnb67 := NB417_381.out
                          have hnc67 := NB381_417.out
                          have hnb68 := NB417_393.out
                          have hnc68 := NB393_417.out
                          have hnb69 := NB417_405.out
                          have hnc69 := NB405_417.out
                          have hcz70_0 : w50.cell? ⟨gb417, 0, none⟩ = some (.int .i64 0) := (blk_cell BK417.out 0).trans rfl
                          have hcz70_1 : w50.cell? ⟨gb417, 1, none⟩ = some (.slice none 0 0) := (blk_cell BK417.out 1).trans rfl
                          have hfz70_0 := blk_frozen BK417.out 0
                          have hfz70_1 := blk_frozen BK417.out 1
                          go_wp2_with (first | (go_at_call 23; (with_reducible refine (chalklineref35_Clients.calls kj4 t406 _ _ t407 t412 _ _ t413 t418 _ ?side1 ?side2 ?side3 ?side4 A61.out).mono ?_); (case side1 => refine (Kd.R_reads' (e := 60) (base := w.heap.size) (ok := fun k_ => (((True ∧ some k_ ≠ (.slice Ao29 t386.length co29 : Value).ownBlock) ∧ some k_ ≠ (.slice Ao36 t398.length co36 : Value).ownBlock) ∧ some k_ ≠ (.slice Ao56 t413.length co56 : Value).ownBlock)) (n := t407.length) (c := co46) ?_).2.2; exact (by (with_reducible repeat (first | apply Kd.R_alloc | apply Kd.R_drewN | apply Kd.R_drew)); exact (Kd.R_mono (Kd.R_far (p := ⟨gb417, 1, none⟩) (Kd.R_far (p := ⟨gb417, 0, none⟩) (Kd.R_types HO409.out BK417.out (by decide)) (fun _ hk => hk.2) (.int .i64 t412)) (fun _ hk => hk.2) (.slice Ao56 t413.length co56)) (fun _ h_ => h_.1)))); (case side2 => exact (Kd.R_reads' HO409.out).2.1); (case side3 => refine (Kd.R_reads' (e := 60) (base := w.heap.size) (ok := fun k_ => (((True ∧ some k_ ≠ (.slice Ao29 t386.length co29 : Value).ownBlock) ∧ some k_ ≠ (.slice Ao36 t398.length co36 : Value).ownBlock) ∧ some k_ ≠ (.slice Ao46 t407.length co46 : Value).ownBlock)) (n := t413.length) (c := co56) ?_).2.2; exact (by (with_reducible repeat (first | apply Kd.R_alloc | apply Kd.R_drewN | apply Kd.R_drew)); exact (Kd.R_mono (Kd.R_far (p := ⟨gb417, 1, none⟩) (Kd.R_far (p := ⟨gb417, 0, none⟩) (Kd.R_types HO415.out BK417.out (by decide)) (fun _ hk => hk.2) (.int .i64 t412)) (fun _ hk => hk.2) (.slice Ao56 t413.length co56)) (fun _ h_ => h_.1)))); (case side4 => exact (Kd.R_reads' HO415.out).2.1); rintro e w71 ⟨rfl, hb⟩; have n0_ := Aside0.mk (Kd.R_below (by (with_reducible repeat (first | apply Kd.R_alloc | apply Kd.R_drewN | apply Kd.R_drew)); exact (Kd.R_mono (Kd.R_far (p := ⟨gb417, 1, none⟩) (Kd.R_far (p := ⟨gb417, 0, none⟩) (Kd.R_types HO388.out BK417.out (by decide)) (fun _ hk => hk.2) (.int .i64 t412)) (fun _ hk => hk.2) (.slice Ao56 t413.length co56)) (fun _ h_ => h_.1))) hb); have n1_ := Aside0.mk (Kd.R_below (by (with_reducible repeat (first | apply Kd.R_alloc | apply Kd.R_drewN | apply Kd.R_drew)); exact (Kd.R_mono (Kd.R_far (p := ⟨gb417, 1, none⟩) (Kd.R_far (p := ⟨gb417, 0, none⟩) (Kd.R_types HO391.out BK417.out (by decide)) (fun _ hk => hk.2) (.int .i64 t412)) (fun _ hk => hk.2) (.slice Ao56 t413.length co56)) (fun _ h_ => h_.1))) hb); have n2_ := Aside0.mk (Kd.R_below (by (with_reducible repeat (first | apply Kd.R_alloc | apply Kd.R_drewN | apply Kd.R_drew)); exact (Kd.R_mono (Kd.R_far (p := ⟨gb417, 1, none⟩) (Kd.R_far (p := ⟨gb417, 0, none⟩) (Kd.R_types HO400.out BK417.out (by decide)) (fun _ hk => hk.2) (.int .i64 t412)) (fun _ hk => hk.2) (.slice Ao56 t413.length co56)) (fun _ h_ => h_.1))) hb); have n3_ := Aside0.mk (Kd.R_below (by (with_reducible repeat (first | apply Kd.R_alloc | apply Kd.R_drewN | apply Kd.R_drew)); exact (Kd.R_mono (Kd.R_far (p := ⟨gb417, 1, none⟩) (Kd.R_far (p := ⟨gb417, 0, none⟩) (Kd.R_types HO403.out BK417.out (by decide)) (fun _ hk => hk.2) (.int .i64 t412)) (fun _ hk => hk.2) (.slice Ao56 t413.length co56)) (fun _ h_ => h_.1))) hb); have n4_ := Aside0.mk (Kd.R_below (by (with_reducible repeat (first | apply Kd.R_alloc | apply Kd.R_drewN | apply Kd.R_drew)); exact (Kd.R_mono (Kd.R_far (p := ⟨gb417, 1, none⟩) (Kd.R_far (p := ⟨gb417, 0, none⟩) (Kd.R_types HO409.out BK417.out (by decide)) (fun _ hk => hk.2) (.int .i64 t412)) (fun _ hk => hk.2) (.slice Ao56 t413.length co56)) (fun _ h_ => h_.1))) hb); have n5_ := Aside0.mk (Kd.R_below (by (with_reducible repeat (first | apply Kd.R_alloc | apply Kd.R_drewN | apply Kd.R_drew)); exact (Kd.R_mono (Kd.R_far (p := ⟨gb417, 1, none⟩) (Kd.R_far (p := ⟨gb417, 0, none⟩) (Kd.R_types HO415.out BK417.out (by decide)) (fun _ hk => hk.2) (.int .i64 t412)) (fun _ hk => hk.2) (.slice Ao56 t413.length co56)) (fun _ h_ => h_.1))) hb); have n6_ := Aside0.mk (blk_below (g := gb381) (o := .cells #[.slice A380_1 ((rd_T52 l0 (ji15)).f1.f0).length c380_1] 25 (0, 0)) (by (with_reducible repeat (first | refine blk_drewN ?_ _ | refine blk_drew ?_ | refine blk_alloc ?_ _)); refine blk_far ?_ NB381_417.out _; (with_reducible repeat (first | refine blk_drewN ?_ _ | refine blk_drew ?_ | refine blk_alloc ?_ _)); refine blk_far ?_ NB381_417.out _; (with_reducible repeat (first | refine blk_drewN ?_ _ | refine blk_drew ?_ | refine blk_alloc ?_ _)); exact BK381.out) hb); have n7_ := Aside0.mk (blk_below (g := gb393) (o := .cells #[.int .i64 t382, .int .i64 t383, .int .i64 t384, .int .i64 t385, .slice Ao29 t386.length co29, .slice Ao30 t389.length co30] 32 (0, 0)) (by (with_reducible repeat (first | refine blk_drewN ?_ _ | refine blk_drew ?_ | refine blk_alloc ?_ _)); refine blk_far ?_ NB393_417.out _; (with_reducible repeat (first | refine blk_drewN ?_ _ | refine blk_drew ?_ | refine blk_alloc ?_ _)); refine blk_far ?_ NB393_417.out _; (with_reducible repeat (first | refine blk_drewN ?_ _ | refine blk_drew ?_ | refine blk_alloc ?_ _)); exact BK393.out) hb); have n8_ := Aside0.mk (blk_below (g := gb405) (o := .cells #[.int .i64 t394, .int .i64 t395, .int .i64 t396, .int .i64 t397, .slice Ao36 t398.length co36, .slice Ao37 t401.length co37] 32 (0, 0)) (by (with_reducible repeat (first | refine blk_drewN ?_ _ | refine blk_drew ?_ | refine blk_alloc ?_ _)); refine blk_far ?_ NB405_417.out _; (with_reducible repeat (first | refine blk_drewN ?_ _ | refine blk_drew ?_ | refine blk_alloc ?_ _)); refine blk_far ?_ NB405_417.out _; (with_reducible repeat (first | refine blk_drewN ?_ _ | refine blk_drew ?_ | refine blk_alloc ?_ _)); exact BK405.out) hb); have n9_ := Aside0.mk (blk_below (g := gb411) (o := .cells #[.int .i64 t406, .slice Ao46 t407.length co46] 27 (0, 0)) (by (with_reducible repeat (first | refine blk_drewN ?_ _ | refine blk_drew ?_ | refine blk_alloc ?_ _)); refine blk_far ?_ NB411_417.out _; (with_reducible repeat (first | refine blk_drewN ?_ _ | refine blk_drew ?_ | refine blk_alloc ?_ _)); refine blk_far ?_ NB411_417.out _; (with_reducible repeat (first | refine blk_drewN ?_ _ | refine blk_drew ?_ | refine blk_alloc ?_ _)); exact BK411.out) hb); have n10_ := Aside0.mk (blk_below (g := gb417) (o := .cells #[.int .i64 t412, .slice Ao56 t413.length co56] 27 (0, 0)) (by (with_reducible repeat (first | refine blk_drewN ?_ _ | refine blk_drew ?_ | refine blk_alloc ?_ _)); refine blk_put (cs := #[.int .i64 t412, .slice none 0 0]) ?_ 1 _ rfl; (with_reducible repeat (first | refine blk_drewN ?_ _ | refine blk_drew ?_ | refine blk_alloc ?_ _)); refine blk_put (cs := #[.int .i64 0, .slice none 0 0]) ?_ 0 _ rfl; (with_reducible repeat (first | refine blk_drewN ?_ _ | refine blk_drew ?_ | refine blk_alloc ?_ _)); exact BK417.out) hb); have n11_ := Aside0.mk (below_step (b_ HB) hb); clear HO388; clear HO391; clear HO400; clear HO403; clear HO409; clear HO415; clear BK381; clear BK393; clear BK405; clear BK411; clear BK417; clear HB; have HO388 := n0_; have HO391 := n1_; have HO400 := n2_; have HO403 := n3_; have HO409 := n4_; have HO415 := n5_; have BK381 := n6_; have BK393 := n7_; have BK405 := n8_; have BK411 := n9_; have BK417 := n10_; have HB := n11_; clear n0_ n1_ n2_ n3_ n4_ n5_ n6_ n7_ n8_ n9_ n10_ n11_; (try clear hb); (try clear hb2); (try clear hk); (try clear hi)))
                          go_meet
                          case rel => exact ⟨_, (!t418), (by first | rfl | (simp; done) | (simp [*]; done)), H', ⟨by have := HJ4.out; first | omega | exact Nat.le_refl _⟩, ⟨by (with_reducible repeat (first | apply Kd.R_alloc | apply Kd.R_drewN | apply Kd.R_drew)); exact Kd.R_mono HO388.out (fun _ hk => ⟨hk.1.1.2, ⟨hk.1.2, hk.2⟩⟩)⟩, ⟨by (with_reducible repeat (first | apply Kd.R_alloc | apply Kd.R_drewN | apply Kd.R_drew)); exact Kd.R_mono HO391.out (fun _ hk => hk.2)⟩, ⟨by (with_reducible repeat (first | apply Kd.R_alloc | apply Kd.R_drewN | apply Kd.R_drew)); exact Kd.R_mono HO400.out (fun _ hk => ⟨hk.1.1.2, ⟨hk.1.2, hk.2⟩⟩)⟩, ⟨by (with_reducible repeat (first | apply Kd.R_alloc | apply Kd.R_drewN | apply Kd.R_drew)); exact Kd.R_mono HO403.out (fun _ hk => hk.2)⟩, ⟨by (with_reducible repeat (first | apply Kd.R_alloc | apply Kd.R_drewN | apply Kd.R_drew)); exact Kd.R_mono HO409.out (fun _ hk => ⟨hk.1.1.2, ⟨hk.1.2, hk.2⟩⟩)⟩, ⟨by (with_reducible repeat (first | apply Kd.R_alloc | apply Kd.R_drewN | apply Kd.R_drew)); exact Kd.R_mono HO415.out (fun _ hk => ⟨hk.1.1.2, ⟨hk.1.2, hk.2⟩⟩)⟩, ⟨k_ BK381⟩, ⟨k_ BK393⟩, ⟨k_ BK405⟩, ⟨k_ BK411⟩, ⟨k_ BK417⟩, ⟨b_ HB⟩⟩
                        · rw [if_neg c60] at H
                          have c60b0 : (t416 == 0) = false := beq_eq_false_iff_ne.mpr c60
                          have c60b1 : (t416 != 0) = true := bne_iff_ne.mpr c60
                          have H' := Aside0.mk H
                          clear H
                          go_wp2
                          go_meet
                          case rel => exact ⟨_, (true), (by first | rfl | (simp; done) | (simp [*]; done)), H', ⟨by have := HJ4.out; first | omega | exact Nat.le_refl _⟩, ⟨by (with_reducible repeat (first | apply Kd.R_alloc | apply Kd.R_drewN | apply Kd.R_drew)); exact Kd.R_mono (Kd.R_far (p := ⟨gb417, 1, none⟩) (Kd.R_far (p := ⟨gb417, 0, none⟩) (Kd.R_types HO388.out BK417.out (by decide)) (fun _ hk => hk.2) (.int .i64 t412)) (fun _ hk => hk.2) (.slice Ao56 t413.length co56)) (fun _ hk => ⟨hk.1.1.1.2, ⟨hk.1.1.2, hk.1.2⟩⟩)⟩, ⟨by (with_reducible repeat (first | apply Kd.R_alloc | apply Kd.R_drewN | apply Kd.R_drew)); exact Kd.R_mono (Kd.R_far (p := ⟨gb417, 1, none⟩) (Kd.R_far (p := ⟨gb417, 0, none⟩) (Kd.R_types HO391.out BK417.out (by decide)) (fun _ hk => hk.2) (.int .i64 t412)) (fun _ hk => hk.2) (.slice Ao56 t413.length co56)) (fun _ hk => hk.1.2)⟩, ⟨by (with_reducible repeat (first | apply Kd.R_alloc | apply Kd.R_drewN | apply Kd.R_drew)); exact Kd.R_mono (Kd.R_far (p := ⟨gb417, 1, none⟩) (Kd.R_far (p := ⟨gb417, 0, none⟩) (Kd.R_types HO400.out BK417.out (by decide)) (fun _ hk => hk.2) (.int .i64 t412)) (fun _ hk => hk.2) (.slice Ao56 t413.length co56)) (fun _ hk => ⟨hk.1.1.1.2, ⟨hk.1.1.2, hk.1.2⟩⟩)⟩, ⟨by (with_reducible repeat (first | apply Kd.R_alloc | apply Kd.R_drewN | apply Kd.R_drew)); exact Kd.R_mono (Kd.R_far (p := ⟨gb417, 1, none⟩) (Kd.R_far (p := ⟨gb417, 0, none⟩) (Kd.R_types HO403.out BK417.out (by decide)) (fun _ hk => hk.2) (.int .i64 t412)) (fun _ hk => hk.2) (.slice Ao56 t413.length co56)) (fun _ hk => hk.1.2)⟩, ⟨by (with_reducible repeat (first | apply Kd.R_alloc | apply Kd.R_drewN | apply Kd.R_drew)); exact Kd.R_mono (Kd.R_far (p := ⟨gb417, 1, none⟩) (Kd.R_far (p := ⟨gb417, 0, none⟩) (Kd.R_types HO409.out BK417.out (by decide)) (fun _ hk => hk.2) (.int .i64 t412)) (fun _ hk => hk.2) (.slice Ao56 t413.length co56)) (fun _ hk => ⟨hk.1.1.1.2, ⟨hk.1.1.2, hk.1.2⟩⟩)⟩, ⟨by (with_reducible repeat (first | apply Kd.R_alloc | apply Kd.R_drewN | apply Kd.R_drew)); exact Kd.R_mono (Kd.R_far (p := ⟨gb417, 1, none⟩) (Kd.R_far (p := ⟨gb417, 0, none⟩) (Kd.R_types HO415.out BK417.out (by decide)) (fun _ hk => hk.2) (.int .i64 t412)) (fun _ hk => hk.2) (.slice Ao56 t413.length co56)) (fun _ hk => ⟨hk.1.1.1.2, ⟨hk.1.1.2, hk.1.2⟩⟩)⟩, ⟨by (with_reducible repeat (first | refine blk_drewN ?_ _ | refine blk_drew ?_ | refine blk_alloc ?_ _)); refine blk_far ?_ NB381_417.out _; (with_reducible repeat (first | refine blk_drewN ?_ _ | refine blk_drew ?_ | refine blk_alloc ?_ _)); refine blk_far ?_ NB381_417.out _; (with_reducible repeat (first | refine blk_drewN ?_ _ | refine blk_drew ?_ | refine blk_alloc ?_ _)); exact BK381.out⟩, ⟨by (with_reducible repeat (first | refine blk_drewN ?_ _ | refine blk_drew ?_ | refine blk_alloc ?_ _)); refine blk_far ?_ NB393_417.out _; (with_reducible repeat (first | refine blk_drewN ?_ _ | refine blk_drew ?_ | refine blk_alloc ?_ _)); refine blk_far ?_ NB393_417.out _; (with_reducible repeat (first | refine blk_drewN ?_ _ | refine blk_drew ?_ | refine blk_alloc ?_ _)); exact BK393.out⟩, ⟨by (with_reducible repeat (first | refine blk_drewN ?_ _ | refine blk_drew ?_ | refine blk_alloc ?_ _)); refine blk_far ?_ NB405_417.out _; (with_reducible repeat (first | refine blk_drewN ?_ _ | refine blk_drew ?_ | refine blk_alloc ?_ _)); refine blk_far ?_ NB405_417.out _; (with_reducible repeat (first | refine blk_drewN ?_ _ | refine blk_drew ?_ | refine blk_alloc ?_ _)); exact BK405.out⟩, ⟨by (with_reducible repeat (first | refine blk_drewN ?_ _ | refine blk_drew ?_ | refine blk_alloc ?_ _)); refine blk_far ?_ NB411_417.out _; (with_reducible repeat (first | refine blk_drewN ?_ _ | refine blk_drew ?_ | refine blk_alloc ?_ _)); refine blk_far ?_ NB411_417.out _; (with_reducible repeat (first | refine blk_drewN ?_ _ | refine blk_drew ?_ | refine blk_alloc ?_ _)); exact BK411.out⟩, ⟨by (with_reducible repeat (first | refine blk_drewN ?_ _ | refine blk_drew ?_ | refine blk_alloc ?_ _)); refine blk_put (cs := #[.int .i64 t412, .slice none 0 0]) ?_ 1 _ rfl; (with_reducible repeat (first | refine blk_drewN ?_ _ | refine blk_drew ?_ | refine blk_alloc ?_ _)); refine blk_put (cs := #[.int .i64 0, .slice none 0 0]) ?_ 0 _ rfl; (with_reducible repeat (first | refine blk_drewN ?_ _ | refine blk_drew ?_ | refine blk_alloc ?_ _)); exact BK417.out⟩, ⟨b_ HB⟩⟩
                      · rw [if_neg c59] at H
                        have c59b0 : (t410 == 0) = false := beq_eq_false_iff_ne.mpr c59
                        have c59b1 : (t410 != 0) = true := bne_iff_ne.mpr c59
                        have H' := Aside0.mk H
                        clear H
                        go_wp2
                        go_meet
                        case rel => exact ⟨_, (true), (by first | rfl | (simp; done) | (simp [*]; done)), H', ⟨by have := HJ4.out; first | omega | exact Nat.le_refl _⟩, ⟨by (with_reducible repeat (first | apply Kd.R_alloc | apply Kd.R_drewN | apply Kd.R_drew)); exact Kd.R_mono (Kd.R_far (p := ⟨gb417, 1, none⟩) (Kd.R_far (p := ⟨gb417, 0, none⟩) (Kd.R_types HO388.out BK417.out (by decide)) (fun _ hk => hk.2) (.int .i64 t412)) (fun _ hk => hk.2) (.slice Ao56 t413.length co56)) (fun _ hk => ⟨hk.1.1.1.2, ⟨hk.1.1.2, hk.1.2⟩⟩)⟩, ⟨by (with_reducible repeat (first | apply Kd.R_alloc | apply Kd.R_drewN | apply Kd.R_drew)); exact Kd.R_mono (Kd.R_far (p := ⟨gb417, 1, none⟩) (Kd.R_far (p := ⟨gb417, 0, none⟩) (Kd.R_types HO391.out BK417.out (by decide)) (fun _ hk => hk.2) (.int .i64 t412)) (fun _ hk => hk.2) (.slice Ao56 t413.length co56)) (fun _ hk => hk.1.2)⟩, ⟨by (with_reducible repeat (first | apply Kd.R_alloc | apply Kd.R_drewN | apply Kd.R_drew)); exact Kd.R_mono (Kd.R_far (p := ⟨gb417, 1, none⟩) (Kd.R_far (p := ⟨gb417, 0, none⟩) (Kd.R_types HO400.out BK417.out (by decide)) (fun _ hk => hk.2) (.int .i64 t412)) (fun _ hk => hk.2) (.slice Ao56 t413.length co56)) (fun _ hk => ⟨hk.1.1.1.2, ⟨hk.1.1.2, hk.1.2⟩⟩)⟩, ⟨by (with_reducible repeat (first | apply Kd.R_alloc | apply Kd.R_drewN | apply Kd.R_drew)); exact Kd.R_mono (Kd.R_far (p := ⟨gb417, 1, none⟩) (Kd.R_far (p := ⟨gb417, 0, none⟩) (Kd.R_types HO403.out BK417.out (by decide)) (fun _ hk => hk.2) (.int .i64 t412)) (fun _ hk => hk.2) (.slice Ao56 t413.length co56)) (fun _ hk => hk.1.2)⟩, ⟨by (with_reducible repeat (first | apply Kd.R_alloc | apply Kd.R_drewN | apply Kd.R_drew)); exact Kd.R_mono (Kd.R_far (p := ⟨gb417, 1, none⟩) (Kd.R_far (p := ⟨gb417, 0, none⟩) (Kd.R_types HO409.out BK417.out (by decide)) (fun _ hk => hk.2) (.int .i64 t412)) (fun _ hk => hk.2) (.slice Ao56 t413.length co56)) (fun _ hk => ⟨hk.1.1.1.2, ⟨hk.1.1.2, hk.1.2⟩⟩)⟩, ⟨by (with_reducible repeat (first | apply Kd.R_alloc | apply Kd.R_drewN | apply Kd.R_drew)); exact Kd.R_mono (Kd.R_far (p := ⟨gb417, 1, none⟩) (Kd.R_far (p := ⟨gb417, 0, none⟩) (Kd.R_types HO415.out BK417.out (by decide)) (fun _ hk => hk.2) (.int .i64 t412)) (fun _ hk => hk.2) (.slice Ao56 t413.length co56)) (fun _ hk => ⟨hk.1.1.1.2, ⟨hk.1.1.2, hk.1.2⟩⟩)⟩, ⟨by (with_reducible repeat (first | refine blk_drewN ?_ _ | refine blk_drew ?_ | refine blk_alloc ?_ _)); refine blk_far ?_ NB381_417.out _; (with_reducible repeat (first | refine blk_drewN ?_ _ | refine blk_drew ?_ | refine blk_alloc ?_ _)); refine blk_far ?_ NB381_417.out _; (with_reducible repeat (first | refine blk_drewN ?_ _ | refine blk_drew ?_ | refine blk_alloc ?_ _)); exact BK381.out⟩, ⟨by (with_reducible repeat (first | refine blk_drewN ?_ _ | refine blk_drew ?_ | refine blk_alloc ?_ _)); refine blk_far ?_ NB393_417.out _; (with_reducible repeat (first | refine blk_drewN ?_ _ | refine blk_drew ?_ | refine blk_alloc ?_ _)); refine blk_far ?_ NB393_417.out _; (with_reducible repeat (first | refine blk_drewN ?_ _ | refine blk_drew ?_ | refine blk_alloc ?_ _)); exact BK393.out⟩, ⟨by (with_reducible repeat (first | refine blk_drewN ?_ _ | refine blk_drew ?_ | refine blk_alloc ?_ _)); refine blk_far ?_ NB405_417.out _; (with_reducible repeat (first | refine blk_drewN ?_ _ | refine blk_drew ?_ | refine blk_alloc ?_ _)); refine blk_far ?_ NB405_417.out _; (with_reducible repeat (first | refine blk_drewN ?_ _ | refine blk_drew ?_ | refine blk_alloc ?_ _)); exact BK405.out⟩, ⟨by (with_reducible repeat (first | refine blk_drewN ?_ _ | refine blk_drew ?_ | refine blk_alloc ?_ _)); refine blk_far ?_ NB411_417.out _; (with_reducible repeat (first | refine blk_drewN ?_ _ | refine blk_drew ?_ | refine blk_alloc ?_ _)); refine blk_far ?_ NB411_417.out _; (with_reducible repeat (first | refine blk_drewN ?_ _ | refine blk_drew ?_ | refine blk_alloc ?_ _)); exact BK411.out⟩, ⟨by (with_reducible repeat (first | refine blk_drewN ?_ _ | refine blk_drew ?_ | refine blk_alloc ?_ _)); refine blk_put (cs := #[.int .i64 t412, .slice none 0 0]) ?_ 1 _ rfl; (with_reducible repeat (first | refine blk_drewN ?_ _ | refine blk_drew ?_ | refine blk_alloc ?_ _)); refine blk_put (cs := #[.int .i64 0, .slice none 0 0]) ?_ 0 _ rfl; (with_reducible repeat (first | refine blk_drewN ?_ _ | refine blk_drew ?_ | refine blk_alloc ?_ _)); exact BK417.out⟩, ⟨b_ HB⟩⟩
                    · rw [if_neg c58] at H
                      have c58b0 : (t404 == 0) = false := beq_eq_false_iff_ne.mpr c58
                      have c58b1 : (t404 != 0) = true := bne_iff_ne.mpr c58
                      have H' := Aside0.mk H
                      clear H
                      go_wp2
                      go_meet
                      case rel => exact ⟨_, (true), (by first | rfl | (simp; done) | (simp [*]; done)), H', ⟨by have := HJ4.out; first | omega | exact Nat.le_refl _⟩, ⟨by (with_reducible repeat (first | apply Kd.R_alloc | apply Kd.R_drewN | apply Kd.R_drew)); exact Kd.R_mono (Kd.R_far (p := ⟨gb417, 1, none⟩) (Kd.R_far (p := ⟨gb417, 0, none⟩) (Kd.R_types HO388.out BK417.out (by decide)) (fun _ hk => hk.2) (.int .i64 t412)) (fun _ hk => hk.2) (.slice Ao56 t413.length co56)) (fun _ hk => ⟨hk.1.1.1.2, ⟨hk.1.1.2, hk.1.2⟩⟩)⟩, ⟨by (with_reducible repeat (first | apply Kd.R_alloc | apply Kd.R_drewN | apply Kd.R_drew)); exact Kd.R_mono (Kd.R_far (p := ⟨gb417, 1, none⟩) (Kd.R_far (p := ⟨gb417, 0, none⟩) (Kd.R_types HO391.out BK417.out (by decide)) (fun _ hk => hk.2) (.int .i64 t412)) (fun _ hk => hk.2) (.slice Ao56 t413.length co56)) (fun _ hk => hk.1.2)⟩, ⟨by (with_reducible repeat (first | apply Kd.R_alloc | apply Kd.R_drewN | apply Kd.R_drew)); exact Kd.R_mono (Kd.R_far (p := ⟨gb417, 1, none⟩) (Kd.R_far (p := ⟨gb417, 0, none⟩) (Kd.R_types HO400.out BK417.out (by decide)) (fun _ hk => hk.2) (.int .i64 t412)) (fun _ hk => hk.2) (.slice Ao56 t413.length co56)) (fun _ hk => ⟨hk.1.1.1.2, ⟨hk.1.1.2, hk.1.2⟩⟩)⟩, ⟨by (with_reducible repeat (first | apply Kd.R_alloc | apply Kd.R_drewN | apply Kd.R_drew)); exact Kd.R_mono (Kd.R_far (p := ⟨gb417, 1, none⟩) (Kd.R_far (p := ⟨gb417, 0, none⟩) (Kd.R_types HO403.out BK417.out (by decide)) (fun _ hk => hk.2) (.int .i64 t412)) (fun _ hk => hk.2) (.slice Ao56 t413.length co56)) (fun _ hk => hk.1.2)⟩, ⟨by (with_reducible repeat (first | apply Kd.R_alloc | apply Kd.R_drewN | apply Kd.R_drew)); exact Kd.R_mono (Kd.R_far (p := ⟨gb417, 1, none⟩) (Kd.R_far (p := ⟨gb417, 0, none⟩) (Kd.R_types HO409.out BK417.out (by decide)) (fun _ hk => hk.2) (.int .i64 t412)) (fun _ hk => hk.2) (.slice Ao56 t413.length co56)) (fun _ hk => ⟨hk.1.1.1.2, ⟨hk.1.1.2, hk.1.2⟩⟩)⟩, ⟨by (with_reducible repeat (first | apply Kd.R_alloc | apply Kd.R_drewN | apply Kd.R_drew)); exact Kd.R_mono (Kd.R_far (p := ⟨gb417, 1, none⟩) (Kd.R_far (p := ⟨gb417, 0, none⟩) (Kd.R_types HO415.out BK417.out (by decide)) (fun _ hk => hk.2) (.int .i64 t412)) (fun _ hk => hk.2) (.slice Ao56 t413.length co56)) (fun _ hk => ⟨hk.1.1.1.2, ⟨hk.1.1.2, hk.1.2⟩⟩)⟩, ⟨by (with_reducible repeat (first | refine blk_drewN ?_ _ | refine blk_drew ?_ | refine blk_alloc ?_ _)); refine blk_far ?_ NB381_417.out _; (with_reducible repeat (first | refine blk_drewN ?_ _ | refine blk_drew ?_ | refine blk_alloc ?_ _)); refine blk_far ?_ NB381_417.out _; (with_reducible repeat (first | refine blk_drewN ?_ _ | refine blk_drew ?_ | refine blk_alloc ?_ _)); exact BK381.out⟩, ⟨by (with_reducible repeat (first | refine blk_drewN ?_ _ | refine blk_drew ?_ | refine blk_alloc ?_ _)); refine blk_far ?_ NB393_417.out _; (with_reducible repeat (first | refine blk_drewN ?_ _ | refine blk_drew ?_ | refine blk_alloc ?_ _)); refine blk_far ?_ NB393_417.out _; (with_reducible repeat (first | refine blk_drewN ?_ _ | refine blk_drew ?_ | refine blk_alloc ?_ _)); exact BK393.out⟩, ⟨by (with_reducible repeat (first | refine blk_drewN ?_ _ | refine blk_drew ?_ | refine blk_alloc ?_ _)); refine blk_far ?_ NB405_417.out _; (with_reducible repeat (first | refine blk_drewN ?_ _ | refine blk_drew ?_ | refine blk_alloc ?_ _)); refine blk_far ?_ NB405_417.out _; (with_reducible repeat (first | refine blk_drewN ?_ _ | refine blk_drew ?_ | refine blk_alloc ?_ _)); exact BK405.out⟩, ⟨by (with_reducible repeat (first | refine blk_drewN ?_ _ | refine blk_drew ?_ | refine blk_alloc ?_ _)); refine blk_far ?_ NB411_417.out _; (with_reducible repeat (first | refine blk_drewN ?_ _ | refine blk_drew ?_ | refine blk_alloc ?_ _)); refine blk_far ?_ NB411_417.out _; (with_reducible repeat (first | refine blk_drewN ?_ _ | refine blk_drew ?_ | refine blk_alloc ?_ _)); exact BK411.out⟩, ⟨by (with_reducible repeat (first | refine blk_drewN ?_ _ | refine blk_drew ?_ | refine blk_alloc ?_ _)); refine blk_put (cs := #[.int .i64 t412, .slice none 0 0]) ?_ 1 _ rfl; (with_reducible repeat (first | refine blk_drewN ?_ _ | refine blk_drew ?_ | refine blk_alloc ?_ _)); refine blk_put (cs := #[.int .i64 0, .slice none 0 0]) ?_ 0 _ rfl; (with_reducible repeat (first | refine blk_drewN ?_ _ | refine blk_drew ?_ | refine blk_alloc ?_ _)); exact BK417.out⟩, ⟨b_ HB⟩⟩
                  · rw [if_neg c57] at H
                    have c57b0 : (t392 == 0) = false := beq_eq_false_iff_ne.mpr c57
                    have c57b1 : (t392 != 0) = true := bne_iff_ne.mpr c57
                    (first | rw [c57b0] | (simp only [i64_w, i32_w]; rw [c57b0]) | skip)
                    have H' := Aside0.mk H
                    clear H
                    go_wp2
                    go_meet
                    case rel => exact ⟨_, (true), (by first | rfl | (simp; done) | (simp [*]; done)), H', ⟨by have := HJ4.out; first | omega | exact Nat.le_refl _⟩, ⟨by (with_reducible repeat (first | apply Kd.R_alloc | apply Kd.R_drewN | apply Kd.R_drew)); exact Kd.R_mono (Kd.R_far (p := ⟨gb417, 1, none⟩) (Kd.R_far (p := ⟨gb417, 0, none⟩) (Kd.R_types HO388.out BK417.out (by decide)) (fun _ hk => hk.2) (.int .i64 t412)) (fun _ hk => hk.2) (.slice Ao56 t413.length co56)) (fun _ hk => ⟨hk.1.1.1.2, ⟨hk.1.1.2, hk.1.2⟩⟩)⟩, ⟨by (with_reducible repeat (first | apply Kd.R_alloc | apply Kd.R_drewN | apply Kd.R_drew)); exact Kd.R_mono (Kd.R_far (p := ⟨gb417, 1, none⟩) (Kd.R_far (p := ⟨gb417, 0, none⟩) (Kd.R_types HO391.out BK417.out (by decide)) (fun _ hk => hk.2) (.int .i64 t412)) (fun _ hk => hk.2) (.slice Ao56 t413.length co56)) (fun _ hk => hk.1.2)⟩, ⟨by (with_reducible repeat (first | apply Kd.R_alloc | apply Kd.R_drewN | apply Kd.R_drew)); exact Kd.R_mono (Kd.R_far (p := ⟨gb417, 1, none⟩) (Kd.R_far (p := ⟨gb417, 0, none⟩) (Kd.R_types HO400.out BK417.out (by decide)) (fun _ hk => hk.2) (.int .i64 t412)) (fun _ hk => hk.2) (.slice Ao56 t413.length co56)) (fun _ hk => ⟨hk.1.1.1.2, ⟨hk.1.1.2, hk.1.2⟩⟩)⟩, ⟨by (with_reducible repeat (first | apply Kd.R_alloc | apply Kd.R_drewN | apply Kd.R_drew)); exact Kd.R_mono (Kd.R_far (p := ⟨gb417, 1, none⟩) (Kd.R_far (p := ⟨gb417, 0, none⟩) (Kd.R_types HO403.out BK417.out (by decide)) (fun _ hk => hk.2) (.int .i64 t412)) (fun _ hk => hk.2) (.slice Ao56 t413.length co56)) (fun _ hk => hk.1.2)⟩, ⟨by (with_reducible repeat (first | apply Kd.R_alloc | apply Kd.R_drewN | apply Kd.R_drew)); exact Kd.R_mono (Kd.R_far (p := ⟨gb417, 1, none⟩) (Kd.R_far (p := ⟨gb417, 0, none⟩) (Kd.R_types HO409.out BK417.out (by decide)) (fun _ hk => hk.2) (.int .i64 t412)) (fun _ hk => hk.2) (.slice Ao56 t413.length co56)) (fun _ hk => ⟨hk.1.1.1.2, ⟨hk.1.1.2, hk.1.2⟩⟩)⟩, ⟨by (with_reducible repeat (first | apply Kd.R_alloc | apply Kd.R_drewN | apply Kd.R_drew)); exact Kd.R_mono (Kd.R_far (p := ⟨gb417, 1, none⟩) (Kd.R_far (p := ⟨gb417, 0, none⟩) (Kd.R_types HO415.out BK417.out (by decide)) (fun _ hk => hk.2) (.int .i64 t412)) (fun _ hk => hk.2) (.slice Ao56 t413.length co56)) (fun _ hk => ⟨hk.1.1.1.2, ⟨hk.1.1.2, hk.1.2⟩⟩)⟩, ⟨by (with_reducible repeat (first | refine blk_drewN ?_ _ | refine blk_drew ?_ | refine blk_alloc ?_ _)); refine blk_far ?_ NB381_417.out _; (with_reducible repeat (first | refine blk_drewN ?_ _ | refine blk_drew ?_ | refine blk_alloc ?_ _)); refine blk_far ?_ NB381_417.out _; (with_reducible repeat (first | refine blk_drewN ?_ _ | refine blk_drew ?_ | refine blk_alloc ?_ _)); exact BK381.out⟩, ⟨by (with_reducible repeat (first | refine blk_drewN ?_ _ | refine blk_drew ?_ | refine blk_alloc ?_ _)); refine blk_far ?_ NB393_417.out _; (with_reducible repeat (first | refine blk_drewN ?_ _ | refine blk_drew ?_ | refine blk_alloc ?_ _)); refine blk_far ?_ NB393_417.out _; (with_reducible repeat (first | refine blk_drewN ?_ _ | refine blk_drew ?_ | refine blk_alloc ?_ _)); exact BK393.out⟩, ⟨by (with_reducible repeat (first | refine blk_drewN ?_ _ | refine blk_drew ?_ | refine blk_alloc ?_ _)); refine blk_far ?_ NB405_417.out _; (with_reducible repeat (first | refine blk_drewN ?_ _ | refine blk_drew ?_ | refine blk_alloc ?_ _)); refine blk_far ?_ NB405_417.out _; (with_reducible repeat (first | refine blk_drewN ?_ _ | refine blk_drew ?_ | refine blk_alloc ?_ _)); exact BK405.out⟩, ⟨by (with_reducible repeat (first | refine blk_drewN ?_ _ | refine blk_drew ?_ | refine blk_alloc ?_ _)); refine blk_far ?_ NB411_417.out _; (with_reducible repeat (first | refine blk_drewN ?_ _ | refine blk_drew ?_ | refine blk_alloc ?_ _)); refine blk_far ?_ NB411_417.out _; (with_reducible repeat (first | refine blk_drewN ?_ _ | refine blk_drew ?_ | refine blk_alloc ?_ _)); exact BK411.out⟩, ⟨by (with_reducible repeat (first | refine blk_drewN ?_ _ | refine blk_drew ?_ | refine blk_alloc ?_ _)); refine blk_put (cs := #[.int .i64 t412, .slice none 0 0]) ?_ 1 _ rfl; (with_reducible repeat (first | refine blk_drewN ?_ _ | refine blk_drew ?_ | refine blk_alloc ?_ _)); refine blk_put (cs := #[.int .i64 0, .slice none 0 0]) ?_ 0 _ rfl; (with_reducible repeat (first | refine blk_drewN ?_ _ | refine blk_drew ?_ | refine blk_alloc ?_ _)); exact BK417.out⟩, ⟨b_ HB⟩⟩
                case rest =>
                  clear HC22
                  try clear c1
                  try clear c2
                  try clear p2
                  try clear c3
                  try clear p3
                  try clear q3
                  try clear hx3
                  try clear c4
                  try clear c5
                  try clear c6
                  try clear p6
                  try clear c8
                  try clear c10
                  try clear c10b0
                  try clear c10b1
                  try clear c11
                  try clear c12
                  try clear c13
                  try clear c14
                  try clear c14b0
                  try clear c14b1
                  try clear c16
                  try clear c16b0
                  try clear c17
                  try clear c17b0
                  try clear c21
                  try clear c27
                  try clear c33
                  try clear c34
                  try clear c38
                  try clear p38
                  try clear q38
                  try clear hx38
                  try clear c42
                  try clear c43
                  try clear c44
                  try clear c51
                  try clear c52
                  try clear c53
                  try clear c54
                  try clear c57
                  try clear c57b0
                  try clear c57b1
                  try clear c58
                  try clear c58b0
                  try clear c58b1
                  try clear c59
                  try clear c59b0
                  try clear c59b1
                  try clear c60
                  try clear c60b0
                  try clear c60b1
                  try clear c62
                  try clear c63
                  try clear c64
                  try clear p64
                  try clear c65
                  try clear c67
                  try clear c68
                  try clear c69
                  try clear hcz24_0
                  try clear hcz28_0
                  try clear hcz28_1
                  try clear hcz28_2
                  try clear hcz28_3
                  try clear hcz28_4
                  try clear hcz28_5
                  try clear hcz35_0
                  try clear hcz35_1
                  try clear hcz35_2
                  try clear hcz35_3
                  try clear hcz35_4
                  try clear hcz35_5
                  try clear hcz38_0
                  try clear hcz39_0
                  try clear hcz39_1
                  try clear hcz39_2
                  try clear hcz39_3
                  try clear hcz39_4
                  try clear hcz39_5
                  try clear hcz45_0
                  try clear hcz45_1
                  try clear hcz47_0
                  try clear hcz48_0
                  try clear hcz48_1
                  try clear hcz48_2
                  try clear hcz48_3
                  try clear hcz48_4
                  try clear hcz48_5
                  try clear hcz55_0
                  try clear hcz55_1
                  try clear hcz66_0
                  try clear hcz66_1
                  try clear hcz70_0
                  try clear hcz70_1
                  try clear hfz24_0
                  try clear hfz28_0
                  try clear hfz28_1
                  try clear hfz28_2
                  try clear hfz28_3
                  try clear hfz28_4
                  try clear hfz28_5
                  try clear hfz35_0
                  try clear hfz35_1
                  try clear hfz35_2
                  try clear hfz35_3
                  try clear hfz35_4
                  try clear hfz35_5
                  try clear hfz38_0
                  try clear hfz39_0
                  try clear hfz39_1
                  try clear hfz39_2
                  try clear hfz39_3
                  try clear hfz39_4
                  try clear hfz39_5
                  try clear hfz45_0
                  try clear hfz45_1
                  try clear hfz47_0
                  try clear hfz48_0
                  try clear hfz48_1
                  try clear hfz48_2
                  try clear hfz48_3
                  try clear hfz48_4
                  try clear hfz48_5
                  try clear hfz55_0
                  try clear hfz55_1
                  try clear hfz66_0
                  try clear hfz66_1
                  try clear hfz70_0
                  try clear hfz70_1
                  try clear hx380_0
                  try clear hx380_1
                  try clear hx380_2
                  try clear hx380_3
                  try clear p2
                  try clear p380
                  try clear q380
                  obtain ⟨kq, x92_21, rfl, HA, HJ21, HO_394004, HO_394005, HO_406004, HO_406005, HO_412001, HO_418001, BK381, BK393, BK405, BK411, BK417, HB⟩ := hcut
                  cases kq with
                  | zero => exact absurd HA.out (by simp [chalklinelaw35_FeedDifference.j1])
                  | succ kj21 =>
                    have H := HA.out
                    clear HA
                    simp only [chalklinelaw35_FeedDifference.j1] at H
                    by_cases c72 : x92_21 = true
                    · subst c72
                      have H1 : (some false) = some r := by rw [if_pos rfl] at H; exact H
                      clear H
                      have H := H1
                      clear H1
                      obtain rfl := Option.some.inj H
                      go_wp2
                      go_ret
                      exact ⟨by first | rfl | (simp [errW_none, errW_some] <;> rfl) | (simp only [← hji15]; first | rfl | (simp [errW_none, errW_some] <;> rfl)) | (simp [*, errW_none, errW_some] <;> rfl), b_ HB⟩
                    · replace c72 := Bool.eq_false_iff.mpr c72
                      subst c72
                      have H1 : (if 0 ≤ (wrap64 ((l0.length : Int) - 1)) then (if (wrap64 ((l0.length : Int) - 1)) < (l0.length : Int) then (if (((rd_T52 l0 (ji15)).f1.f0).length : Int) = (((rd_T52 l0 (wrap64 ((l0.length : Int) - 1))).f1.f0).length : Int) then ((week_Diff.f kj21 ((rd_T52 l0 (ji15)).f1.f0) ((rd_T52 l0 (wrap64 ((l0.length : Int) - 1))).f1.f0)).bind fun bt421 => (if t382 = 2 then (if t384 = (wrap64 (1 + (Int.tmod (wrap64 (a1)) (wrap64 ((l0.length : Int) - 1))))) then (if bt421.2 = 0 then ((chalklineref04_Moves.f kj21 t389 bt421.1).bind fun t425 => (some t425)) else (some false)) else (some false)) else (some false))) else (some (t382 == 1))) else (none)) else (none)) = some r := by rw [if_neg (show ¬ (false = true) by decide)] at H; exact H
                      clear H
                      have H := H1
                      clear H1
                      obtain ⟨ji73, hji73⟩ : ∃ j_ : Int, (wrap64 ((l0.length : Int) - 1)) = j_ := ⟨_, rfl⟩
                      replace H : (if 0 ≤ (ji73) then (if (ji73) < (l0.length : Int) then (if (((rd_T52 l0 (ji15)).f1.f0).length : Int) = (((rd_T52 l0 (ji73)).f1.f0).length : Int) then ((week_Diff.f kj21 ((rd_T52 l0 (ji15)).f1.f0) ((rd_T52 l0 (ji73)).f1.f0)).bind fun bt421 => (if t382 = 2 then (if t384 = (wrap64 (1 + (Int.tmod (wrap64 (a1)) (ji73)))) then (if bt421.2 = 0 then ((chalklineref04_Moves.f kj21 t389 bt421.1).bind fun t425 => (some t425)) else (some false)) else (some false)) else (some false))) else (some (t382 == 1))) else (none)) else (none)) = some r := by first | (rw [hji73] at H; exact H) | (simp only [hji73] at H ⊢; exact H)
                      (try rw [hji73] at c14b0)
                      (try rw [hji73] at c14b1)
                      have hji73w : (IntKind.i64.wrap ((l0.length : Int) - 1)) = ji73 := (i64_w _).trans hji73
                      by_cases c74 : 0 ≤ (ji73)
                      · rw [if_pos c74] at H
                        have c74b0 : decide (0 ≤ (ji73)) = true := decide_eq_true c74
                        clear c74
                        by_cases c75 : (ji73) < (l0.length : Int)
                        · rw [if_pos c75] at H
                          have c75b0 : decide ((ji73) < (l0.length : Int)) = true := decide_eq_true c75
                          clear c75
                          by_cases c76 : (((rd_T52 l0 (ji15)).f1.f0).length : Int) = (((rd_T52 l0 (ji73)).f1.f0).length : Int)
                          · rw [if_pos c76] at H
                            have c76b0 : ((((rd_T52 l0 (ji15)).f1.f0).length : Int) == (((rd_T52 l0 (ji73)).f1.f0).length : Int)) = true := beq_iff_eq.mpr c76
                            have c76b1 : ((((rd_T52 l0 (ji15)).f1.f0).length : Int) != (((rd_T52 l0 (ji73)).f1.f0).length : Int)) = false := bne_eq_false_iff_eq.mpr c76
                            have c76b2 : (((rd_T52 l0 (ji15)).f1.f0).length == ((rd_T52 l0 (ji73)).f1.f0).length) = true := by first | simpa using c76 | (simp at c76 ⊢; omega)
                            clear c76
                            replace H := Option.bind_eq_some_iff.mp H
                            obtain ⟨⟨t421, t424⟩, A770, H⟩ := H
                            replace H : (if t382 = 2 then (if t384 = (wrap64 (1 + (Int.tmod (wrap64 (a1)) (ji73)))) then (if t424 = 0 then ((chalklineref04_Moves.f kj21 t389 t421).bind fun t425 => (some t425)) else (some false)) else (some false)) else (some false)) = some r := H
                            have A77 := Aside0.mk A770
                            clear A770
                            by_cases c78 : t382 = 2
                            · rw [if_pos c78] at H
                              have c78b0 : (t382 == 2) = true := beq_iff_eq.mpr c78
                              have c78b1 : (t382 != 2) = false := bne_eq_false_iff_eq.mpr c78
                              clear c78
                              by_cases c79 : t384 = (wrap64 (1 + (Int.tmod (wrap64 (a1)) (ji73))))
                              · rw [if_pos c79] at H
                                have c79b0 : (t384 == (wrap64 (1 + (Int.tmod (wrap64 (a1)) (ji73))))) = true := beq_iff_eq.mpr c79
                                have c79b1 : (t384 != (wrap64 (1 + (Int.tmod (wrap64 (a1)) (ji73))))) = false := bne_eq_false_iff_eq.mpr c79
                                clear c79
                                by_cases c80 : t424 = 0
                                · rw [if_pos c80] at H
                                  have c80b0 : (t424 == 0) = true := beq_iff_eq.mpr c80
                                  have c80b1 : (t424 != 0) = false := bne_eq_false_iff_eq.mpr c80
                                  clear c80
                                  replace H := Option.bind_eq_some_iff.mp H
                                  obtain ⟨t425, A810, H⟩ := H
                                  replace H : (some t425) = some r := H
                                  have A81 := Aside0.mk A810
                                  clear A810
                                  obtain rfl := Option.some.inj H
                                  have p419 : 0 ≤ ((ji73) : Int) := of_decide_eq_true (by first | (with_reducible assumption) | assumption)
                                  have q419 : (ji73) < (l0.length : Int) := of_decide_eq_true (by first | (with_reducible assumption) | assumption)
                                  obtain ⟨ad419, A419_1, c419_1, e419, hx419_0, hx419_1, hx419_2, hx419_3, hl419_1, hi419_1⟩ := at_T52 HR0.out (ji73) p419 q419
                                  obtain rfl : ad380 = ad419 := (by injection e419)
                                  replace hx419_0 := (HB.out.cell (World.block_lt_of_cell? w _ hx419_0)).trans hx419_0
                                  replace hx419_1 := (HB.out.cell (World.block_lt_of_cell? w _ hx419_1)).trans hx419_1
                                  replace hx419_2 := (HB.out.cell (World.block_lt_of_cell? w _ hx419_2)).trans hx419_2
                                  replace hx419_3 := (HB.out.cell (World.block_lt_of_cell? w _ hx419_3)).trans hx419_3
                                  have HR419_1 := Aside0.mk hi419_1
                                  have HC419_1 := Aside0.mk hl419_1
                                  clear hi419_1 hl419_1
                                  replace p419 := eq_true p419
                                  replace q419 := eq_true q419
                                  go_wp2_with (first | ((with_reducible refine gate_dst (N := 15) rfl ?_); (try (refine gate_guard (by rfl) ?_; dsimp only)); refine box_event ?hg (N := 15) ?hd (cs := #[.slice none 0 0]) (t := 25) ?hr ?_; (case hd => rfl); (case hg => rfl); (case hr => first | (go_simp; done) | (go_simp; rfl)); intro gb420 hg w82 hbox hb; have n0_ := Aside0.mk (Kd.R_below (by (with_reducible repeat (first | apply Kd.R_alloc | apply Kd.R_drewN | apply Kd.R_drew)); exact HO_394004.out) hb); have n1_ := Aside0.mk (Kd.R_below (by (with_reducible repeat (first | apply Kd.R_alloc | apply Kd.R_drewN | apply Kd.R_drew)); exact HO_394005.out) hb); have n2_ := Aside0.mk (Kd.R_below (by (with_reducible repeat (first | apply Kd.R_alloc | apply Kd.R_drewN | apply Kd.R_drew)); exact HO_406004.out) hb); have n3_ := Aside0.mk (Kd.R_below (by (with_reducible repeat (first | apply Kd.R_alloc | apply Kd.R_drewN | apply Kd.R_drew)); exact HO_406005.out) hb); have n4_ := Aside0.mk (Kd.R_below (by (with_reducible repeat (first | apply Kd.R_alloc | apply Kd.R_drewN | apply Kd.R_drew)); exact HO_412001.out) hb); have n5_ := Aside0.mk (Kd.R_below (by (with_reducible repeat (first | apply Kd.R_alloc | apply Kd.R_drewN | apply Kd.R_drew)); exact HO_418001.out) hb); have n6_ := Aside0.mk (blk_below (k_ BK381) hb); have n7_ := Aside0.mk (blk_below (k_ BK393) hb); have n8_ := Aside0.mk (blk_below (k_ BK405) hb); have n9_ := Aside0.mk (blk_below (k_ BK411) hb); have n10_ := Aside0.mk (blk_below (k_ BK417) hb); have n11_ := Aside0.mk (below_step (b_ HB) hb); have n12_ := Aside0.mk (hbox); have n13_ := Aside0.mk ((by rw [hg]; exact (below_size (b_ HB)) : w.heap.size ≤ gb420)); have n14_ := n13_; have n15_ := Aside0.mk ((by rw [hg]; exact Nat.ne_of_lt (blk_lt (k_ BK381)) : gb381 ≠ gb420)); have n16_ := Aside0.mk ((by rw [hg]; exact Nat.ne_of_gt (blk_lt (k_ BK381)) : gb420 ≠ gb381)); have n17_ := Aside0.mk ((by rw [hg]; exact Nat.ne_of_lt (blk_lt (k_ BK393)) : gb393 ≠ gb420)); have n18_ := Aside0.mk ((by rw [hg]; exact Nat.ne_of_gt (blk_lt (k_ BK393)) : gb420 ≠ gb393)); have n19_ := Aside0.mk ((by rw [hg]; exact Nat.ne_of_lt (blk_lt (k_ BK405)) : gb405 ≠ gb420)); have n20_ := Aside0.mk ((by rw [hg]; exact Nat.ne_of_gt (blk_lt (k_ BK405)) : gb420 ≠ gb405)); have n21_ := Aside0.mk ((by rw [hg]; exact Nat.ne_of_lt (blk_lt (k_ BK411)) : gb411 ≠ gb420)); have n22_ := Aside0.mk ((by rw [hg]; exact Nat.ne_of_gt (blk_lt (k_ BK411)) : gb420 ≠ gb411)); have n23_ := Aside0.mk ((by rw [hg]; exact Nat.ne_of_lt (blk_lt (k_ BK417)) : gb417 ≠ gb420)); have n24_ := Aside0.mk ((by rw [hg]; exact Nat.ne_of_gt (blk_lt (k_ BK417)) : gb420 ≠ gb417)); clear HO_394004; clear HO_394005; clear HO_406004; clear HO_406005; clear HO_412001; clear HO_418001; clear BK381; clear BK393; clear BK405; clear BK411; clear BK417; clear HB; have HO_394004 := n0_; have HO_394005 := n1_; have HO_406004 := n2_; have HO_406005 := n3_; have HO_412001 := n4_; have HO_418001 := n5_; have BK381 := n6_; have BK393 := n7_; have BK405 := n8_; have BK411 := n9_; have BK417 := n10_; have HB := n11_; have BK420 := n12_; have GW420 := n13_; have GE420 := n14_; have NB381_420 := n15_; have NB420_381 := n16_; have NB393_420 := n17_; have NB420_393 := n18_; have NB405_420 := n19_; have NB420_405 := n20_; have NB411_420 := n21_; have NB420_411 := n22_; have NB417_420 := n23_; have NB420_417 := n24_; clear n0_ n1_ n2_ n3_ n4_ n5_ n6_ n7_ n8_ n9_ n10_ n11_ n12_ n13_ n14_ n15_ n16_ n17_ n18_ n19_ n20_ n21_ n22_ n23_ n24_; clear hb hbox hg; have hnb83 := NB420_381.out; have hnc83 := NB381_420.out; have hnb84 := NB420_393.out; have hnc84 := NB393_420.out; have hnb85 := NB420_405.out; have hnc85 := NB405_420.out; have hnb86 := NB420_411.out; have hnc86 := NB411_420.out; have hnb87 := NB420_417.out; have hnc87 := NB417_420.out; have hcz88_0 : w82.cell? ⟨gb420, 0, none⟩ = some (.slice none 0 0) := (blk_cell BK420.out 0).trans rfl; have hfz88_0 := blk_frozen BK420.out 0; have hnb89 := NB381_393.out; have hnc89 := NB393_381.out; have hnb90 := NB381_405.out; have hnc90 := NB405_381.out; have hnb91 := NB381_411.out; have hnc91 := NB411_381.out; have hnb92 := NB381_417.out; have hnc92 := NB417_381.out; have hcz93_0 : w82.cell? ⟨gb381, 0, none⟩ = some (.slice A380_1 ((rd_T52 l0 (ji15)).f1.f0).length c380_1) := (blk_cell BK381.out 0).trans rfl; have hfz93_0 := blk_frozen BK381.out 0) | ((with_reducible refine gate_callee (f := 25) rfl ?_); refine goesL_ (some 113) rfl rfl Try.func25 (by kernel_rfl) rfl #[.agg #[.slice A380_1 ((rd_T52 l0 (ji15)).f1.f0).length c380_1], .agg #[.slice A419_1 ((rd_T52 l0 (ji73)).f1.f0).length c419_1]] rfl (by (try simp only [List.map_toArray, List.map_cons, List.map_nil]); first | done | (simp only [hji73]; rfl) | rfl | (simp only [List.length_drop, List.length_take]; rfl)) ?_; (with_reducible refine (week_Diff.calls kj21 _ _ ((rd_T52 l0 (ji15)).f1.f0) _ _ ((rd_T52 l0 (ji73)).f1.f0) t421 t424 _ ?side1 ?side2 ?side3 ?side4 A77.out).mono ?_); (case side1 => exact Kd.C_below HR380_1.out (b_ HB)); (case side2 => exact HC380_1.out); (case side3 => exact Kd.C_below HR419_1.out (b_ HB)); (case side4 => exact HC419_1.out); rintro e w94 ⟨v422, rfl, ho0, hb⟩; refine ⟨_, rfl, ?_⟩; have n0_ := Aside0.mk (Kd.R_below (by (with_reducible repeat (first | apply Kd.R_alloc | apply Kd.R_drewN | apply Kd.R_drew)); exact (Kd.R_mono (Kd.R_far (p := ⟨gb420, 0, none⟩) (Kd.R_types HO_394004.out BK420.out (by decide)) (fun _ hk => hk.2) (.slice A419_1 ((rd_T52 l0 (ji73)).f1.f0).length c419_1)) (fun _ h_ => h_.1))) hb); have n1_ := Aside0.mk (Kd.R_elder' (by (with_reducible repeat (first | apply Kd.R_alloc | apply Kd.R_drewN | apply Kd.R_drew)); exact (Kd.R_mono (Kd.R_far (p := ⟨gb420, 0, none⟩) (Kd.R_types HO_394005.out BK420.out (by decide)) (fun _ hk => hk.2) (.slice A419_1 ((rd_T52 l0 (ji73)).f1.f0).length c419_1)) (fun _ h_ => h_.1))) (Kd.R_base ho0) hb); have n2_ := Aside0.mk (Kd.R_below (by (with_reducible repeat (first | apply Kd.R_alloc | apply Kd.R_drewN | apply Kd.R_drew)); exact (Kd.R_mono (Kd.R_far (p := ⟨gb420, 0, none⟩) (Kd.R_types HO_406004.out BK420.out (by decide)) (fun _ hk => hk.2) (.slice A419_1 ((rd_T52 l0 (ji73)).f1.f0).length c419_1)) (fun _ h_ => h_.1))) hb); have n3_ := Aside0.mk (Kd.R_elder' (by (with_reducible repeat (first | apply Kd.R_alloc | apply Kd.R_drewN | apply Kd.R_drew)); exact (Kd.R_mono (Kd.R_far (p := ⟨gb420, 0, none⟩) (Kd.R_types HO_406005.out BK420.out (by decide)) (fun _ hk => hk.2) (.slice A419_1 ((rd_T52 l0 (ji73)).f1.f0).length c419_1)) (fun _ h_ => h_.1))) (Kd.R_base ho0) hb); have n4_ := Aside0.mk (Kd.R_below (by (with_reducible repeat (first | apply Kd.R_alloc | apply Kd.R_drewN | apply Kd.R_drew)); exact (Kd.R_mono (Kd.R_far (p := ⟨gb420, 0, none⟩) (Kd.R_types HO_412001.out BK420.out (by decide)) (fun _ hk => hk.2) (.slice A419_1 ((rd_T52 l0 (ji73)).f1.f0).length c419_1)) (fun _ h_ => h_.1))) hb); have n5_ := Aside0.mk (Kd.R_below (by (with_reducible repeat (first | apply Kd.R_alloc | apply Kd.R_drewN | apply Kd.R_drew)); exact (Kd.R_mono (Kd.R_far (p := ⟨gb420, 0, none⟩) (Kd.R_types HO_418001.out BK420.out (by decide)) (fun _ hk => hk.2) (.slice A419_1 ((rd_T52 l0 (ji73)).f1.f0).length c419_1)) (fun _ h_ => h_.1))) hb); have n6_ := Aside0.mk (Kd.R_lower (Kd.R_new' (Kd.R_new' ho0 (Kd.R_lt (by (with_reducible repeat (first | apply Kd.R_alloc | apply Kd.R_drewN | apply Kd.R_drew)); exact (Kd.R_mono (Kd.R_far (p := ⟨gb420, 0, none⟩) (Kd.R_types HO_394005.out BK420.out (by decide)) (fun _ hk => hk.2) (.slice A419_1 ((rd_T52 l0 (ji73)).f1.f0).length c419_1)) (fun _ h_ => h_.1))))) (Kd.R_lt (by (with_reducible repeat (first | apply Kd.R_alloc | apply Kd.R_drewN | apply Kd.R_drew)); exact (Kd.R_mono (Kd.R_far (p := ⟨gb420, 0, none⟩) (Kd.R_types HO_406005.out BK420.out (by decide)) (fun _ hk => hk.2) (.slice A419_1 ((rd_T52 l0 (ji73)).f1.f0).length c419_1)) (fun _ h_ => h_.1))))) (below_size (b_ HB))); have n7_ := Aside0.mk (blk_below (g := gb381) (o := .cells #[.slice A380_1 ((rd_T52 l0 (ji15)).f1.f0).length c380_1] 25 (0, 0)) (by (with_reducible repeat (first | refine blk_drewN ?_ _ | refine blk_drew ?_ | refine blk_alloc ?_ _)); refine blk_far ?_ NB381_420.out _; (with_reducible repeat (first | refine blk_drewN ?_ _ | refine blk_drew ?_ | refine blk_alloc ?_ _)); exact BK381.out) hb); have n8_ := Aside0.mk (blk_below (g := gb393) (o := .cells #[.int .i64 t382, .int .i64 t383, .int .i64 t384, .int .i64 t385, .slice Ao29 t386.length co29, .slice Ao30 t389.length co30] 32 (0, 0)) (by (with_reducible repeat (first | refine blk_drewN ?_ _ | refine blk_drew ?_ | refine blk_alloc ?_ _)); refine blk_far ?_ NB393_420.out _; (with_reducible repeat (first | refine blk_drewN ?_ _ | refine blk_drew ?_ | refine blk_alloc ?_ _)); exact BK393.out) hb); have n9_ := Aside0.mk (blk_below (g := gb405) (o := .cells #[.int .i64 t394, .int .i64 t395, .int .i64 t396, .int .i64 t397, .slice Ao36 t398.length co36, .slice Ao37 t401.length co37] 32 (0, 0)) (by (with_reducible repeat (first | refine blk_drewN ?_ _ | refine blk_drew ?_ | refine blk_alloc ?_ _)); refine blk_far ?_ NB405_420.out _; (with_reducible repeat (first | refine blk_drewN ?_ _ | refine blk_drew ?_ | refine blk_alloc ?_ _)); exact BK405.out) hb); have n10_ := Aside0.mk (blk_below (g := gb411) (o := .cells #[.int .i64 t406, .slice Ao46 t407.length co46] 27 (0, 0)) (by (with_reducible repeat (first | refine blk_drewN ?_ _ | refine blk_drew ?_ | refine blk_alloc ?_ _)); refine blk_far ?_ NB411_420.out _; (with_reducible repeat (first | refine blk_drewN ?_ _ | refine blk_drew ?_ | refine blk_alloc ?_ _)); exact BK411.out) hb); have n11_ := Aside0.mk (blk_below (g := gb417) (o := .cells #[.int .i64 t412, .slice Ao56 t413.length co56] 27 (0, 0)) (by (with_reducible repeat (first | refine blk_drewN ?_ _ | refine blk_drew ?_ | refine blk_alloc ?_ _)); refine blk_far ?_ NB417_420.out _; (with_reducible repeat (first | refine blk_drewN ?_ _ | refine blk_drew ?_ | refine blk_alloc ?_ _)); exact BK417.out) hb); have n12_ := Aside0.mk (blk_below (g := gb420) (o := .cells #[.slice A419_1 ((rd_T52 l0 (ji73)).f1.f0).length c419_1] 25 (0, 0)) (by (with_reducible repeat (first | refine blk_drewN ?_ _ | refine blk_drew ?_ | refine blk_alloc ?_ _)); refine blk_put (cs := #[.slice none 0 0]) ?_ 0 _ rfl; (with_reducible repeat (first | refine blk_drewN ?_ _ | refine blk_drew ?_ | refine blk_alloc ?_ _)); exact BK420.out) hb); have n13_ := Aside0.mk (below_step (b_ HB) hb); clear HO_394004; clear HO_394005; clear HO_406004; clear HO_406005; clear HO_412001; clear HO_418001; clear BK381; clear BK393; clear BK405; clear BK411; clear BK417; clear BK420; clear HB; have HO_394004 := n0_; have HO_394005 := n1_; have HO_406004 := n2_; have HO_406005 := n3_; have HO_412001 := n4_; have HO_418001 := n5_; have HO423 := n6_; have BK381 := n7_; have BK393 := n8_; have BK405 := n9_; have BK411 := n10_; have BK417 := n11_; have BK420 := n12_; have HB := n13_; clear n0_ n1_ n2_ n3_ n4_ n5_ n6_ n7_ n8_ n9_ n10_ n11_ n12_ n13_; (try clear hb); (try clear hb2); (try clear hk); (try clear hi); (try clear ho0); have hnb95 := NB393_405.out; have hnc95 := NB405_393.out; have hnb96 := NB393_411.out; have hnc96 := NB411_393.out; have hnb97 := NB393_417.out; have hnc97 := NB417_393.out; have hcz98_0 : w94.cell? ⟨gb393, 0, none⟩ = some (.int .i64 t382) := (blk_cell BK393.out 0).trans rfl; have hcz98_1 : w94.cell? ⟨gb393, 1, none⟩ = some (.int .i64 t383) := (blk_cell BK393.out 1).trans rfl; have hcz98_2 : w94.cell? ⟨gb393, 2, none⟩ = some (.int .i64 t384) := (blk_cell BK393.out 2).trans rfl; have hcz98_3 : w94.cell? ⟨gb393, 3, none⟩ = some (.int .i64 t385) := (blk_cell BK393.out 3).trans rfl; have hcz98_4 : w94.cell? ⟨gb393, 4, none⟩ = some (.slice Ao29 t386.length co29) := (blk_cell BK393.out 4).trans rfl; have hcz98_5 : w94.cell? ⟨gb393, 5, none⟩ = some (.slice Ao30 t389.length co30) := (blk_cell BK393.out 5).trans rfl; have hfz98_0 := blk_frozen BK393.out 0; have hfz98_1 := blk_frozen BK393.out 1; have hfz98_2 := blk_frozen BK393.out 2; have hfz98_3 := blk_frozen BK393.out 3; have hfz98_4 := blk_frozen BK393.out 4; have hfz98_5 := blk_frozen BK393.out 5; obtain ⟨Ao99, co99, eo99⟩ := Kd.R_slice HO423.out; subst eo99) | (go_at_call 26; (with_reducible refine (chalklineref04_Moves.calls kj21 _ _ t389 _ _ t421 t425 _ ?side1 ?side2 ?side3 ?side4 A81.out).mono ?_); (case side1 => repeat (first | exact (Kd.R_reads' HO_394005.out).2.2 | (with_reducible refine Kd.C_alloc ?_ _) | (with_reducible refine Kd.C_drewN ?_ _) | (with_reducible refine Kd.C_drew ?_))); (case side2 => exact (Kd.R_reads' HO_394005.out).2.1); (case side3 => repeat (first | exact (Kd.R_reads' HO423.out).2.2 | (with_reducible refine Kd.C_alloc ?_ _) | (with_reducible refine Kd.C_drewN ?_ _) | (with_reducible refine Kd.C_drew ?_))); (case side4 => exact (Kd.R_reads' HO423.out).2.1); rintro e w' ⟨rfl, ⟨nd, rfl⟩⟩))
                                  go_ret
                                  exact ⟨by first | rfl | (simp [errW_none, errW_some] <;> rfl) | (simp only [← hji15, ← hji73]; first | rfl | (simp [errW_none, errW_some] <;> rfl)) | (simp [*, errW_none, errW_some] <;> rfl), b_ HB⟩
                                · rw [if_neg c80] at H
                                  have c80b0 : (t424 == 0) = false := beq_eq_false_iff_ne.mpr c80
                                  have c80b1 : (t424 != 0) = true := bne_iff_ne.mpr c80
                                  obtain rfl := Option.some.inj H
                                  have p419 : 0 ≤ ((ji73) : Int) := of_decide_eq_true (by first | (with_reducible assumption) | assumption)
                                  have q419 : (ji73) < (l0.length : Int) := of_decide_eq_true (by first | (with_reducible assumption) | assumption)
                                  obtain ⟨ad419, A419_1, c419_1, e419, hx419_0, hx419_1, hx419_2, hx419_3, hl419_1, hi419_1⟩ := at_T52 HR0.out (ji73) p419 q419
                                  obtain rfl : ad380 = ad419 := (by injection e419)
                                  replace hx419_0 := (HB.out.cell (World.block_lt_of_cell? w _ hx419_0)).trans hx419_0
                                  replace hx419_1 := (HB.out.cell (World.block_lt_of_cell? w _ hx419_1)).trans hx419_1
                                  replace hx419_2 := (HB.out.cell (World.block_lt_of_cell? w _ hx419_2)).trans hx419_2
                                  replace hx419_3 := (HB.out.cell (World.block_lt_of_cell? w _ hx419_3)).trans hx419_3
                                  have HR419_1 := Aside0.mk hi419_1
                                  have HC419_1 := Aside0.mk hl419_1
                                  clear hi419_1 hl419_1
                                  replace p419 := eq_true p419
                                  replace q419 := eq_true q419
                                  go_wp2_with (first | ((with_reducible refine gate_dst (N := 15) rfl ?_); (try (refine gate_guard (by rfl) ?_; dsimp only)); refine box_event ?hg (N := 15) ?hd (cs := #[.slice none 0 0]) (t := 25) ?hr ?_; (case hd => rfl); (case hg => rfl); (case hr => first | (go_simp; done) | (go_simp; rfl)); intro gb420 hg w100 hbox hb; have n0_ := Aside0.mk (Kd.R_below (by (with_reducible repeat (first | apply Kd.R_alloc | apply Kd.R_drewN | apply Kd.R_drew)); exact HO_394004.out) hb); have n1_ := Aside0.mk (Kd.R_below (by (with_reducible repeat (first | apply Kd.R_alloc | apply Kd.R_drewN | apply Kd.R_drew)); exact HO_394005.out) hb); have n2_ := Aside0.mk (Kd.R_below (by (with_reducible repeat (first | apply Kd.R_alloc | apply Kd.R_drewN | apply Kd.R_drew)); exact HO_406004.out) hb); have n3_ := Aside0.mk (Kd.R_below (by (with_reducible repeat (first | apply Kd.R_alloc | apply Kd.R_drewN | apply Kd.R_drew)); exact HO_406005.out) hb); have n4_ := Aside0.mk (Kd.R_below (by (with_reducible repeat (first | apply Kd.R_alloc | apply Kd.R_drewN | apply Kd.R_drew)); exact HO_412001.out) hb); have n5_ := Aside0.mk (Kd.R_below (by (with_reducible repeat (first | apply Kd.R_alloc | apply Kd.R_drewN | apply Kd.R_drew)); exact HO_418001.out) hb); have n6_ := Aside0.mk (blk_below (k_ BK381) hb); have n7_ := Aside0.mk (blk_below (k_ BK393) hb); have n8_ := Aside0.mk (blk_below (k_ BK405) hb); have n9_ := Aside0.mk (blk_below (k_ BK411) hb); have n10_ := Aside0.mk (blk_below (k_ BK417) hb); have n11_ := Aside0.mk (below_step (b_ HB) hb); have n12_ := Aside0.mk (hbox); have n13_ := Aside0.mk ((by rw [hg]; exact (below_size (b_ HB)) : w.heap.size ≤ gb420)); have n14_ := n13_; have n15_ := Aside0.mk ((by rw [hg]; exact Nat.ne_of_lt (blk_lt (k_ BK381)) : gb381 ≠ gb420)); have n16_ := Aside0.mk ((by rw [hg]; exact Nat.ne_of_gt (blk_lt (k_ BK381)) : gb420 ≠ gb381)); have n17_ := Aside0.mk ((by rw [hg]; exact Nat.ne_of_lt (blk_lt (k_ BK393)) : gb393 ≠ gb420)); have n18_ := Aside0.mk ((by rw [hg]; exact Nat.ne_of_gt (blk_lt (k_ BK393)) : gb420 ≠ gb393)); have n19_ := Aside0.mk ((by rw [hg]; exact Nat.ne_of_lt (blk_lt (k_ BK405)) : gb405 ≠ gb420)); have n20_ := Aside0.mk ((by rw [hg]; exact Nat.ne_of_gt (blk_lt (k_ BK405)) : gb420 ≠ gb405)); have n21_ := Aside0.mk ((by rw [hg]; exact Nat.ne_of_lt (blk_lt (k_ BK411)) : gb411 ≠ gb420)); have n22_ := Aside0.mk ((by rw [hg]; exact Nat.ne_of_gt (blk_lt (k_ BK411)) : gb420 ≠ gb411)); have n23_ := Aside0.mk ((by rw [hg]; exact Nat.ne_of_lt (blk_lt (k_ BK417)) : gb417 ≠ gb420)); have n24_ := Aside0.mk ((by rw [hg]; exact Nat.ne_of_gt (blk_lt (k_ BK417)) : gb420 ≠ gb417)); clear HO_394004; clear HO_394005; clear HO_406004; clear HO_406005; clear HO_412001; clear HO_418001; clear BK381; clear BK393; clear BK405; clear BK411; clear BK417; clear HB; have HO_394004 := n0_; have HO_394005 := n1_; have HO_406004 := n2_; have HO_406005 := n3_; have HO_412001 := n4_; have HO_418001 := n5_; have BK381 := n6_; have BK393 := n7_; have BK405 := n8_; have BK411 := n9_; have BK417 := n10_; have HB := n11_; have BK420 := n12_; have GW420 := n13_; have GE420 := n14_; have NB381_420 := n15_; have NB420_381 := n16_; have NB393_420 := n17_; have NB420_393 := n18_; have NB405_420 := n19_; have NB420_405 := n20_; have NB411_420 := n21_; have NB420_411 := n22_; have NB417_420 := n23_; have NB420_417 := n24_; clear n0_ n1_ n2_ n3_ n4_ n5_ n6_ n7_ n8_ n9_ n10_ n11_ n12_ n13_ n14_ n15_ n16_ n17_ n18_ n19_ n20_ n21_ n22_ n23_ n24_; clear hb hbox hg; have hnb101 := NB420_381.out; have hnc101 := NB381_420.out; have hnb102 := NB420_393.out; have hnc102 := NB393_420.out; have hnb103 := NB420_405.out; have hnc103 := NB405_420.out; have hnb104 := NB420_411.out; have hnc104 := NB411_420.out; have hnb105 := NB420_417.out; have hnc105 := NB417_420.out; have hcz106_0 : w100.cell? ⟨gb420, 0, none⟩ = some (.slice none 0 0) := (blk_cell BK420.out 0).trans rfl; have hfz106_0 := blk_frozen BK420.out 0; have hnb107 := NB381_393.out; have hnc107 := NB393_381.out; have hnb108 := NB381_405.out; have hnc108 := NB405_381.out; have hnb109 := NB381_411.out; have hnc109 := NB411_381.out; have hnb110 := NB381_417.out; have hnc110 := NB417_381.out; have hcz111_0 : w100.cell? ⟨gb381, 0, none⟩ = some (.slice A380_1 ((rd_T52 l0 (ji15)).f1.f0).length c380_1) := (blk_cell BK381.out 0).trans rfl; have hfz111_0 := blk_frozen BK381.out 0) | ((with_reducible refine gate_callee (f := 25) rfl ?_); refine goesL_ (some 113) rfl rfl Try.func25 (by kernel_rfl) rfl #[.agg #[.slice A380_1 ((rd_T52 l0 (ji15)).f1.f0).length c380_1], .agg #[.slice A419_1 ((rd_T52 l0 (ji73)).f1.f0).length c419_1]] rfl (by (try simp only [List.map_toArray, List.map_cons, List.map_nil]); first | done | (simp only [hji73]; rfl) | rfl | (simp only [List.length_drop, List.length_take]; rfl)) ?_; (with_reducible refine (week_Diff.calls kj21 _ _ ((rd_T52 l0 (ji15)).f1.f0) _ _ ((rd_T52 l0 (ji73)).f1.f0) t421 t424 _ ?side1 ?side2 ?side3 ?side4 A77.out).mono ?_); (case side1 => exact Kd.C_below HR380_1.out (b_ HB)); (case side2 => exact HC380_1.out); (case side3 => exact Kd.C_below HR419_1.out (b_ HB)); (case side4 => exact HC419_1.out); rintro e w112 ⟨v422, rfl, ho0, hb⟩; refine ⟨_, rfl, ?_⟩; have n0_ := Aside0.mk (Kd.R_below (by (with_reducible repeat (first | apply Kd.R_alloc | apply Kd.R_drewN | apply Kd.R_drew)); exact (Kd.R_mono (Kd.R_far (p := ⟨gb420, 0, none⟩) (Kd.R_types HO_394004.out BK420.out (by decide)) (fun _ hk => hk.2) (.slice A419_1 ((rd_T52 l0 (ji73)).f1.f0).length c419_1)) (fun _ h_ => h_.1))) hb); have n1_ := Aside0.mk (Kd.R_elder' (by (with_reducible repeat (first | apply Kd.R_alloc | apply Kd.R_drewN | apply Kd.R_drew)); exact (Kd.R_mono (Kd.R_far (p := ⟨gb420, 0, none⟩) (Kd.R_types HO_394005.out BK420.out (by decide)) (fun _ hk => hk.2) (.slice A419_1 ((rd_T52 l0 (ji73)).f1.f0).length c419_1)) (fun _ h_ => h_.1))) (Kd.R_base ho0) hb); have n2_ := Aside0.mk (Kd.R_below (by (with_reducible repeat (first | apply Kd.R_alloc | apply Kd.R_drewN | apply Kd.R_drew)); exact (Kd.R_mono (Kd.R_far (p := ⟨gb420, 0, none⟩) (Kd.R_types HO_406004.out BK420.out (by decide)) (fun _ hk => hk.2) (.slice A419_1 ((rd_T52 l0 (ji73)).f1.f0).length c419_1)) (fun _ h_ => h_.1))) hb); have n3_ := Aside0.mk (Kd.R_elder' (by (with_reducible repeat (first | apply Kd.R_alloc | apply Kd.R_drewN | apply Kd.R_drew)); exact (Kd.R_mono (Kd.R_far (p := ⟨gb420, 0, none⟩) (Kd.R_types HO_406005.out BK420.out (by decide)) (fun _ hk => hk.2) (.slice A419_1 ((rd_T52 l0 (ji73)).f1.f0).length c419_1)) (fun _ h_ => h_.1))) (Kd.R_base ho0) hb); have n4_ := Aside0.mk (Kd.R_below (by (with_reducible repeat (first | apply Kd.R_alloc | apply Kd.R_drewN | apply Kd.R_drew)); exact (Kd.R_mono (Kd.R_far (p := ⟨gb420, 0, none⟩) (Kd.R_types HO_412001.out BK420.out (by decide)) (fun _ hk => hk.2) (.slice A419_1 ((rd_T52 l0 (ji73)).f1.f0).length c419_1)) (fun _ h_ => h_.1))) hb); have n5_ := Aside0.mk (Kd.R_below (by (with_reducible repeat (first | apply Kd.R_alloc | apply Kd.R_drewN | apply Kd.R_drew)); exact (Kd.R_mono (Kd.R_far (p := ⟨gb420, 0, none⟩) (Kd.R_types HO_418001.out BK420.out (by decide)) (fun _ hk => hk.2) (.slice A419_1 ((rd_T52 l0 (ji73)).f1.f0).length c419_1)) (fun _ h_ => h_.1))) hb); have n6_ := Aside0.mk (Kd.R_lower (Kd.R_new' (Kd.R_new' ho0 (Kd.R_lt (by (with_reducible repeat (first | apply Kd.R_alloc | apply Kd.R_drewN | apply Kd.R_drew)); exact (Kd.R_mono (Kd.R_far (p := ⟨gb420, 0, none⟩) (Kd.R_types HO_394005.out BK420.out (by decide)) (fun _ hk => hk.2) (.slice A419_1 ((rd_T52 l0 (ji73)).f1.f0).length c419_1)) (fun _ h_ => h_.1))))) (Kd.R_lt (by (with_reducible repeat (first | apply Kd.R_alloc | apply Kd.R_drewN | apply Kd.R_drew)); exact (Kd.R_mono (Kd.R_far (p := ⟨gb420, 0, none⟩) (Kd.R_types HO_406005.out BK420.out (by decide)) (fun _ hk => hk.2) (.slice A419_1 ((rd_T52 l0 (ji73)).f1.f0).length c419_1)) (fun _ h_ => h_.1))))) (below_size (b_ HB))); have n7_ := Aside0.mk (blk_below (g := gb381) (o := .cells #[.slice A380_1 ((rd_T52 l0 (ji15)).f1.f0).length c380_1] 25 (0, 0)) (by (with_reducible repeat (first | refine blk_drewN ?_ _ | refine blk_drew ?_ | refine blk_alloc ?_ _)); refine blk_far ?_ NB381_420.out _; (with_reducible repeat (first | refine blk_drewN ?_ _ | refine blk_drew ?_ | refine blk_alloc ?_ _)); exact BK381.out) hb); have n8_ := Aside0.mk (blk_below (g := gb393) (o := .cells #[.int .i64 t382, .int .i64 t383, .int .i64 t384, .int .i64 t385, .slice Ao29 t386.length co29, .slice Ao30 t389.length co30] 32 (0, 0)) (by (with_reducible repeat (first | refine blk_drewN ?_ _ | refine blk_drew ?_ | refine blk_alloc ?_ _)); refine blk_far ?_ NB393_420.out _; (with_reducible repeat (first | refine blk_drewN ?_ _ | refine blk_drew ?_ | refine blk_alloc ?_ _)); exact BK393.out) hb); have n9_ := Aside0.mk (blk_below (g := gb405) (o := .cells #[.int .i64 t394, .int .i64 t395, .int .i64 t396, .int .i64 t397, .slice Ao36 t398.length co36, .slice Ao37 t401.length co37] 32 (0, 0)) (by (with_reducible repeat (first | refine blk_drewN ?_ _ | refine blk_drew ?_ | refine blk_alloc ?_ _)); refine blk_far ?_ NB405_420.out _; (with_reducible repeat (first | refine blk_drewN ?_ _ | refine blk_drew ?_ | refine blk_alloc ?_ _)); exact BK405.out) hb); have n10_ := Aside0.mk (blk_below (g := gb411) (o := .cells #[.int .i64 t406, .slice Ao46 t407.length co46] 27 (0, 0)) (by (with_reducible repeat (first | refine blk_drewN ?_ _ | refine blk_drew ?_ | refine blk_alloc ?_ _)); refine blk_far ?_ NB411_420.out _; (with_reducible repeat (first | refine blk_drewN ?_ _ | refine blk_drew ?_ | refine blk_alloc ?_ _)); exact BK411.out) hb); have n11_ := Aside0.mk (blk_below (g := gb417) (o := .cells #[.int .i64 t412, .slice Ao56 t413.length co56] 27 (0, 0)) (by (with_reducible repeat (first | refine blk_drewN ?_ _ | refine blk_drew ?_ | refine blk_alloc ?_ _)); refine blk_far ?_ NB417_420.out _; (with_reducible repeat (first | refine blk_drewN ?_ _ | refine blk_drew ?_ | refine blk_alloc ?_ _)); exact BK417.out) hb); have n12_ := Aside0.mk (blk_below (g := gb420) (o := .cells #[.slice A419_1 ((rd_T52 l0 (ji73)).f1.f0).length c419_1] 25 (0, 0)) (by (with_reducible repeat (first | refine blk_drewN ?_ _ | refine blk_drew ?_ | refine blk_alloc ?_ _)); refine blk_put (cs := #[.slice none 0 0]) ?_ 0 _ rfl; (with_reducible repeat (first | refine blk_drewN ?_ _ | refine blk_drew ?_ | refine blk_alloc ?_ _)); exact BK420.out) hb); have n13_ := Aside0.mk (below_step (b_ HB) hb); clear HO_394004; clear HO_394005; clear HO_406004; clear HO_406005; clear HO_412001; clear HO_418001; clear BK381; clear BK393; clear BK405; clear BK411; clear BK417; clear BK420; clear HB; have HO_394004 := n0_; have HO_394005 := n1_; have HO_406004 := n2_; have HO_406005 := n3_; have HO_412001 := n4_; have HO_418001 := n5_; have HO423 := n6_; have BK381 := n7_; have BK393 := n8_; have BK405 := n9_; have BK411 := n10_; have BK417 := n11_; have BK420 := n12_; have HB := n13_; clear n0_ n1_ n2_ n3_ n4_ n5_ n6_ n7_ n8_ n9_ n10_ n11_ n12_ n13_; (try clear hb); (try clear hb2); (try clear hk); (try clear hi); (try clear ho0); have hnb113 := NB393_405.out; have hnc113 := NB405_393.out; have hnb114 := NB393_411.out; have hnc114 := NB411_393.out; have hnb115 := NB393_417.out; have hnc115 := NB417_393.out; have hcz116_0 : w112.cell? ⟨gb393, 0, none⟩ = some (.int .i64 t382) := (blk_cell BK393.out 0).trans rfl; have hcz116_1 : w112.cell? ⟨gb393, 1, none⟩ = some (.int .i64 t383) := (blk_cell BK393.out 1).trans rfl; have hcz116_2 : w112.cell? ⟨gb393, 2, none⟩ = some (.int .i64 t384) := (blk_cell BK393.out 2).trans rfl; have hcz116_3 : w112.cell? ⟨gb393, 3, none⟩ = some (.int .i64 t385) := (blk_cell BK393.out 3).trans rfl; have hcz116_4 : w112.cell? ⟨gb393, 4, none⟩ = some (.slice Ao29 t386.length co29) := (blk_cell BK393.out 4).trans rfl; have hcz116_5 : w112.cell? ⟨gb393, 5, none⟩ = some (.slice Ao30 t389.length co30) := (blk_cell BK393.out 5).trans rfl; have hfz116_0 := blk_frozen BK393.out 0; have hfz116_1 := blk_frozen BK393.out 1; have hfz116_2 := blk_frozen BK393.out 2; have hfz116_3 := blk_frozen BK393.out 3; have hfz116_4 := blk_frozen BK393.out 4; have hfz116_5 := blk_frozen BK393.out 5))
                                  go_ret
                                  exact ⟨by first | rfl | (simp [errW_none, errW_some] <;> rfl) | (simp only [← hji15, ← hji73]; first | rfl | (simp [errW_none, errW_some] <;> rfl)) | (simp [*, errW_none, errW_some] <;> rfl), b_ HB⟩
                              · rw [if_neg c79] at H
                                have c79b0 : (t384 == (wrap64 (1 + (Int.tmod (wrap64 (a1)) (ji73))))) = false := beq_eq_false_iff_ne.mpr c79
                                have c79b1 : (t384 != (wrap64 (1 + (Int.tmod (wrap64 (a1)) (ji73))))) = true := bne_iff_ne.mpr c79
                                obtain rfl := Option.some.inj H
                                have p419 : 0 ≤ ((ji73) : Int) := of_decide_eq_true (by first | (with_reducible assumption) | assumption)
                                have q419 : (ji73) < (l0.length : Int) := of_decide_eq_true (by first | (with_reducible assumption) | assumption)
                                obtain ⟨ad419, A419_1, c419_1, e419, hx419_0, hx419_1, hx419_2, hx419_3, hl419_1, hi419_1⟩ := at_T52 HR0.out (ji73) p419 q419
                                obtain rfl : ad380 = ad419 := (by injection e419)
                                replace hx419_0 := (HB.out.cell (World.block_lt_of_cell? w _ hx419_0)).trans hx419_0
                                replace hx419_1 := (HB.out.cell (World.block_lt_of_cell? w _ hx419_1)).trans hx419_1
                                replace hx419_2 := (HB.out.cell (World.block_lt_of_cell? w _ hx419_2)).trans hx419_2
                                replace hx419_3 := (HB.out.cell (World.block_lt_of_cell? w _ hx419_3)).trans hx419_3
                                have HR419_1 := Aside0.mk hi419_1
                                have HC419_1 := Aside0.mk hl419_1
                                clear hi419_1 hl419_1
                                replace p419 := eq_true p419
                                replace q419 := eq_true q419
                                go_wp2_with (first | ((with_reducible refine gate_dst (N := 15) rfl ?_); (try (refine gate_guard (by rfl) ?_; dsimp only)); refine box_event ?hg (N := 15) ?hd (cs := #[.slice none 0 0]) (t := 25) ?hr ?_; (case hd => rfl); (case hg => rfl); (case hr => first | (go_simp; done) | (go_simp; rfl)); intro gb420 hg w117 hbox hb; have n0_ := Aside0.mk (Kd.R_below (by (with_reducible repeat (first | apply Kd.R_alloc | apply Kd.R_drewN | apply Kd.R_drew)); exact HO_394004.out) hb); have n1_ := Aside0.mk (Kd.R_below (by (with_reducible repeat (first | apply Kd.R_alloc | apply Kd.R_drewN | apply Kd.R_drew)); exact HO_394005.out) hb); have n2_ := Aside0.mk (Kd.R_below (by (with_reducible repeat (first | apply Kd.R_alloc | apply Kd.R_drewN | apply Kd.R_drew)); exact HO_406004.out) hb); have n3_ := Aside0.mk (Kd.R_below (by (with_reducible repeat (first | apply Kd.R_alloc | apply Kd.R_drewN | apply Kd.R_drew)); exact HO_406005.out) hb); have n4_ := Aside0.mk (Kd.R_below (by (with_reducible repeat (first | apply Kd.R_alloc | apply Kd.R_drewN | apply Kd.R_drew)); exact HO_412001.out) hb); have n5_ := Aside0.mk (Kd.R_below (by (with_reducible repeat (first | apply Kd.R_alloc | apply Kd.R_drewN | apply Kd.R_drew)); exact HO_418001.out) hb); have n6_ := Aside0.mk (blk_below (k_ BK381) hb); have n7_ := Aside0.mk (blk_below (k_ BK393) hb); have n8_ := Aside0.mk (blk_below (k_ BK405) hb); have n9_ := Aside0.mk (blk_below (k_ BK411) hb); have n10_ := Aside0.mk (blk_below (k_ BK417) hb); have n11_ := Aside0.mk (below_step (b_ HB) hb); have n12_ := Aside0.mk (hbox); have n13_ := Aside0.mk ((by rw [hg]; exact (below_size (b_ HB)) : w.heap.size ≤ gb420)); have n14_ := n13_; have n15_ := Aside0.mk ((by rw [hg]; exact Nat.ne_of_lt (blk_lt (k_ BK381)) : gb381 ≠ gb420)); have n16_ := Aside0.mk ((by rw [hg]; exact Nat.ne_of_gt (blk_lt (k_ BK381)) : gb420 ≠ gb381)); have n17_ := Aside0.mk ((by rw [hg]; exact Nat.ne_of_lt (blk_lt (k_ BK393)) : gb393 ≠ gb420)); have n18_ := Aside0.mk ((by rw [hg]; exact Nat.ne_of_gt (blk_lt (k_ BK393)) : gb420 ≠ gb393)); have n19_ := Aside0.mk ((by rw [hg]; exact Nat.ne_of_lt (blk_lt (k_ BK405)) : gb405 ≠ gb420)); have n20_ := Aside0.mk ((by rw [hg]; exact Nat.ne_of_gt (blk_lt (k_ BK405)) : gb420 ≠ gb405)); have n21_ := Aside0.mk ((by rw [hg]; exact Nat.ne_of_lt (blk_lt (k_ BK411)) : gb411 ≠ gb420)); have n22_ := Aside0.mk ((by rw [hg]; exact Nat.ne_of_gt (blk_lt (k_ BK411)) : gb420 ≠ gb411)); have n23_ := Aside0.mk ((by rw [hg]; exact Nat.ne_of_lt (blk_lt (k_ BK417)) : gb417 ≠ gb420)); have n24_ := Aside0.mk ((by rw [hg]; exact Nat.ne_of_gt (blk_lt (k_ BK417)) : gb420 ≠ gb417)); clear HO_394004; clear HO_394005; clear HO_406004; clear HO_406005; clear HO_412001; clear HO_418001; clear BK381; clear BK393; clear BK405; clear BK411; clear BK417; clear HB; have HO_394004 := n0_; have HO_394005 := n1_; have HO_406004 := n2_; have HO_406005 := n3_; have HO_412001 := n4_; have HO_418001 := n5_; have BK381 := n6_; have BK393 := n7_; have BK405 := n8_; have BK411 := n9_; have BK417 := n10_; have HB := n11_; have BK420 := n12_; have GW420 := n13_; have GE420 := n14_; have NB381_420 := n15_; have NB420_381 := n16_; have NB393_420 := n17_; have NB420_393 := n18_; have NB405_420 := n19_; have NB420_405 := n20_; have NB411_420 := n21_; have NB420_411 := n22_; have NB417_420 := n23_; have NB420_417 := n24_; clear n0_ n1_ n2_ n3_ n4_ n5_ n6_ n7_ n8_ n9_ n10_ n11_ n12_ n13_ n14_ n15_ n16_ n17_ n18_ n19_ n20_ n21_ n22_ n23_ n24_; clear hb hbox hg; have hnb118 := NB420_381.out; have hnc118 := NB381_420.out; have hnb119 := NB420_393.out; have hnc119 := NB393_420.out; have hnb120 := NB420_405.out; have hnc120 := NB405_420.out; have hnb121 := NB420_411.out; have hnc121 := NB411_420.out; have hnb122 := NB420_417.out; have hnc122 := NB417_420.out; have hcz123_0 : w117.cell? ⟨gb420, 0, none⟩ = some (.slice none 0 0) := (blk_cell BK420.out 0).trans rfl; have hfz123_0 := blk_frozen BK420.out 0; have hnb124 := NB381_393.out; have hnc124 := NB393_381.out; have hnb125 := NB381_405.out; have hnc125 := NB405_381.out; have hnb126 := NB381_411.out; have hnc126 := NB411_381.out; have hnb127 := NB381_417.out; have hnc127 := NB417_381.out; have hcz128_0 : w117.cell? ⟨gb381, 0, none⟩ = some (.slice A380_1 ((rd_T52 l0 (ji15)).f1.f0).length c380_1) := (blk_cell BK381.out 0).trans rfl; have hfz128_0 := blk_frozen BK381.out 0) | ((with_reducible refine gate_callee (f := 25) rfl ?_); refine goesL_ (some 113) rfl rfl Try.func25 (by kernel_rfl) rfl #[.agg #[.slice A380_1 ((rd_T52 l0 (ji15)).f1.f0).length c380_1], .agg #[.slice A419_1 ((rd_T52 l0 (ji73)).f1.f0).length c419_1]] rfl (by (try simp only [List.map_toArray, List.map_cons, List.map_nil]); first | done | (simp only [hji73]; rfl) | rfl | (simp only [List.length_drop, List.length_take]; rfl)) ?_; (with_reducible refine (week_Diff.calls kj21 _ _ ((rd_T52 l0 (ji15)).f1.f0) _ _ ((rd_T52 l0 (ji73)).f1.f0) t421 t424 _ ?side1 ?side2 ?side3 ?side4 A77.out).mono ?_); (case side1 => exact Kd.C_below HR380_1.out (b_ HB)); (case side2 => exact HC380_1.out); (case side3 => exact Kd.C_below HR419_1.out (b_ HB)); (case side4 => exact HC419_1.out); rintro e w129 ⟨v422, rfl, ho0, hb⟩; refine ⟨_, rfl, ?_⟩; have n0_ := Aside0.mk (Kd.R_below (by (with_reducible repeat (first | apply Kd.R_alloc | apply Kd.R_drewN | apply Kd.R_drew)); exact (Kd.R_mono (Kd.R_far (p := ⟨gb420, 0, none⟩) (Kd.R_types HO_394004.out BK420.out (by decide)) (fun _ hk => hk.2) (.slice A419_1 ((rd_T52 l0 (ji73)).f1.f0).length c419_1)) (fun _ h_ => h_.1))) hb); have n1_ := Aside0.mk (Kd.R_elder' (by (with_reducible repeat (first | apply Kd.R_alloc | apply Kd.R_drewN | apply Kd.R_drew)); exact (Kd.R_mono (Kd.R_far (p := ⟨gb420, 0, none⟩) (Kd.R_types HO_394005.out BK420.out (by decide)) (fun _ hk => hk.2) (.slice A419_1 ((rd_T52 l0 (ji73)).f1.f0).length c419_1)) (fun _ h_ => h_.1))) (Kd.R_base ho0) hb); have n2_ := Aside0.mk (Kd.R_below (by (with_reducible repeat (first | apply Kd.R_alloc | apply Kd.R_drewN | apply Kd.R_drew)); exact (Kd.R_mono (Kd.R_far (p := ⟨gb420, 0, none⟩) (Kd.R_types HO_406004.out BK420.out (by decide)) (fun _ hk => hk.2) (.slice A419_1 ((rd_T52 l0 (ji73)).f1.f0).length c419_1)) (fun _ h_ => h_.1))) hb); have n3_ := Aside0.mk (Kd.R_elder' (by (with_reducible repeat (first | apply Kd.R_alloc | apply Kd.R_drewN | apply Kd.R_drew)); exact (Kd.R_mono (Kd.R_far (p := ⟨gb420, 0, none⟩) (Kd.R_types HO_406005.out BK420.out (by decide)) (fun _ hk => hk.2) (.slice A419_1 ((rd_T52 l0 (ji73)).f1.f0).length c419_1)) (fun _ h_ => h_.1))) (Kd.R_base ho0) hb); have n4_ := Aside0.mk (Kd.R_below (by (with_reducible repeat (first | apply Kd.R_alloc | apply Kd.R_drewN | apply Kd.R_drew)); exact (Kd.R_mono (Kd.R_far (p := ⟨gb420, 0, none⟩) (Kd.R_types HO_412001.out BK420.out (by decide)) (fun _ hk => hk.2) (.slice A419_1 ((rd_T52 l0 (ji73)).f1.f0).length c419_1)) (fun _ h_ => h_.1))) hb); have n5_ := Aside0.mk (Kd.R_below (by (with_reducible repeat (first | apply Kd.R_alloc | apply Kd.R_drewN | apply Kd.R_drew)); exact (Kd.R_mono (Kd.R_far (p := ⟨gb420, 0, none⟩) (Kd.R_types HO_418001.out BK420.out (by decide)) (fun _ hk => hk.2) (.slice A419_1 ((rd_T52 l0 (ji73)).f1.f0).length c419_1)) (fun _ h_ => h_.1))) hb); have n6_ := Aside0.mk (Kd.R_lower (Kd.R_new' (Kd.R_new' ho0 (Kd.R_lt (by (with_reducible repeat (first | apply Kd.R_alloc | apply Kd.R_drewN | apply Kd.R_drew)); exact (Kd.R_mono (Kd.R_far (p := ⟨gb420, 0, none⟩) (Kd.R_types HO_394005.out BK420.out (by decide)) (fun _ hk => hk.2) (.slice A419_1 ((rd_T52 l0 (ji73)).f1.f0).length c419_1)) (fun _ h_ => h_.1))))) (Kd.R_lt (by (with_reducible repeat (first | apply Kd.R_alloc | apply Kd.R_drewN | apply Kd.R_drew)); exact (Kd.R_mono (Kd.R_far (p := ⟨gb420, 0, none⟩) (Kd.R_types HO_406005.out BK420.out (by decide)) (fun _ hk => hk.2) (.slice A419_1 ((rd_T52 l0 (ji73)).f1.f0).length c419_1)) (fun _ h_ => h_.1))))) (below_size (b_ HB))); have n7_ := Aside0.mk (blk_below (g := gb381) (o := .cells #[.slice A380_1 ((rd_T52 l0 (ji15)).f1.f0).length c380_1] 25 (0, 0)) (by (with_reducible repeat (first | refine blk_drewN ?_ _ | refine blk_drew ?_ | refine blk_alloc ?_ _)); refine blk_far ?_ NB381_420.out _; (with_reducible repeat (first | refine blk_drewN ?_ _ | refine blk_drew ?_ | refine blk_alloc ?_ _)); exact BK381.out) hb); have n8_ := Aside0.mk (blk_below (g := gb393) (o := .cells #[.int .i64 t382, .int .i64 t383, .int .i64 t384, .int .i64 t385, .slice Ao29 t386.length co29, .slice Ao30 t389.length co30] 32 (0, 0)) (by (with_reducible repeat (first | refine blk_drewN ?_ _ | refine blk_drew ?_ | refine blk_alloc ?_ _)); refine blk_far ?_ NB393_420.out _; (with_reducible repeat (first | refine blk_drewN ?_ _ | refine blk_drew ?_ | refine blk_alloc ?_ _)); exact BK393.out) hb); have n9_ := Aside0.mk (blk_below (g := gb405) (o := .cells #[.int .i64 t394, .int .i64 t395, .int .i64 t396, .int .i64 t397, .slice Ao36 t398.length co36, .slice Ao37 t401.length co37] 32 (0, 0)) (by (with_reducible repeat (first | refine blk_drewN ?_ _ | refine blk_drew ?_ | refine blk_alloc ?_ _)); refine blk_far ?_ NB405_420.out _; (with_reducible repeat (first | refine blk_drewN ?_ _ | refine blk_drew ?_ | refine blk_alloc ?_ _)); exact BK405.out) hb); have n10_ := Aside0.mk (blk_below (g := gb411) (o := .cells #[.int .i64 t406, .slice Ao46 t407.length co46] 27 (0, 0)) (by (with_reducible repeat (first | refine blk_drewN ?_ _ | refine blk_drew ?_ | refine blk_alloc ?_ _)); refine blk_far ?_ NB411_420.out _; (with_reducible repeat (first | refine blk_drewN ?_ _ | refine blk_drew ?_ | refine blk_alloc ?_ _)); exact BK411.out) hb); have n11_ := Aside0.mk (blk_below (g := gb417) (o := .cells #[.int .i64 t412, .slice Ao56 t413.length co56] 27 (0, 0)) (by (with_reducible repeat (first | refine blk_drewN ?_ _ | refine blk_drew ?_ | refine blk_alloc ?_ _)); refine blk_far ?_ NB417_420.out _; (with_reducible repeat (first | refine blk_drewN ?_ _ | refine blk_drew ?_ | refine blk_alloc ?_ _)); exact BK417.out) hb); have n12_ := Aside0.mk (blk_below (g := gb420) (o := .cells #[.slice A419_1 ((rd_T52 l0 (ji73)).f1.f0).length c419_1] 25 (0, 0)) (by (with_reducible repeat (first | refine blk_drewN ?_ _ | refine blk_drew ?_ | refine blk_alloc ?_ _)); refine blk_put (cs := #[.slice none 0 0]) ?_ 0 _ rfl; (with_reducible repeat (first | refine blk_drewN ?_ _ | refine blk_drew ?_ | refine blk_alloc ?_ _)); exact BK420.out) hb); have n13_ := Aside0.mk (below_step (b_ HB) hb); clear HO_394004; clear HO_394005; clear HO_406004; clear HO_406005; clear HO_412001; clear HO_418001; clear BK381; clear BK393; clear BK405; clear BK411; clear BK417; clear BK420; clear HB; have HO_394004 := n0_; have HO_394005 := n1_; have HO_406004 := n2_; have HO_406005 := n3_; have HO_412001 := n4_; have HO_418001 := n5_; have HO423 := n6_; have BK381 := n7_; have BK393 := n8_; have BK405 := n9_; have BK411 := n10_; have BK417 := n11_; have BK420 := n12_; have HB := n13_; clear n0_ n1_ n2_ n3_ n4_ n5_ n6_ n7_ n8_ n9_ n10_ n11_ n12_ n13_; (try clear hb); (try clear hb2); (try clear hk); (try clear hi); (try clear ho0); have hnb130 := NB393_405.out; have hnc130 := NB405_393.out; have hnb131 := NB393_411.out; have hnc131 := NB411_393.out; have hnb132 := NB393_417.out; have hnc132 := NB417_393.out; have hcz133_0 : w129.cell? ⟨gb393, 0, none⟩ = some (.int .i64 t382) := (blk_cell BK393.out 0).trans rfl; have hcz133_1 : w129.cell? ⟨gb393, 1, none⟩ = some (.int .i64 t383) := (blk_cell BK393.out 1).trans rfl; have hcz133_2 : w129.cell? ⟨gb393, 2, none⟩ = some (.int .i64 t384) := (blk_cell BK393.out 2).trans rfl; have hcz133_3 : w129.cell? ⟨gb393, 3, none⟩ = some (.int .i64 t385) := (blk_cell BK393.out 3).trans rfl; have hcz133_4 : w129.cell? ⟨gb393, 4, none⟩ = some (.slice Ao29 t386.length co29) := (blk_cell BK393.out 4).trans rfl; have hcz133_5 : w129.cell? ⟨gb393, 5, none⟩ = some (.slice Ao30 t389.length co30) := (blk_cell BK393.out 5).trans rfl; have hfz133_0 := blk_frozen BK393.out 0; have hfz133_1 := blk_frozen BK393.out 1; have hfz133_2 := blk_frozen BK393.out 2; have hfz133_3 := blk_frozen BK393.out 3; have hfz133_4 := blk_frozen BK393.out 4; have hfz133_5 := blk_frozen BK393.out 5))
                                go_ret
                                exact ⟨by first | rfl | (simp [errW_none, errW_some] <;> rfl) | (simp only [← hji15, ← hji73]; first | rfl | (simp [errW_none, errW_some] <;> rfl)) | (simp [*, errW_none, errW_some] <;> rfl), b_ HB⟩
                            · rw [if_neg c78] at H
                              have c78b0 : (t382 == 2) = false := beq_eq_false_iff_ne.mpr c78
                              have c78b1 : (t382 != 2) = true := bne_iff_ne.mpr c78
                              obtain rfl := Option.some.inj H
                              have p419 : 0 ≤ ((ji73) : Int) := of_decide_eq_true (by first | (with_reducible assumption) | assumption)
                              have q419 : (ji73) < (l0.length : Int) := of_decide_eq_true (by first | (with_reducible assumption) | assumption)
                              obtain ⟨ad419, A419_1, c419_1, e419, hx419_0, hx419_1, hx419_2, hx419_3, hl419_1, hi419_1⟩ := at_T52 HR0.out (ji73) p419 q419
                              obtain rfl : ad380 = ad419 := (by injection e419)
                              replace hx419_0 := (HB.out.cell (World.block_lt_of_cell? w _ hx419_0)).trans hx419_0
                              replace hx419_1 := (HB.out.cell (World.block_lt_of_cell? w _ hx419_1)).trans hx419_1
                              replace hx419_2 := (HB.out.cell (World.block_lt_of_cell? w _ hx419_2)).trans hx419_2
                              replace hx419_3 := (HB.out.cell (World.block_lt_of_cell? w _ hx419_3)).trans hx419_3
                              have HR419_1 := Aside0.mk hi419_1
                              have HC419_1 := Aside0.mk hl419_1
                              clear hi419_1 hl419_1
                              replace p419 := eq_true p419
                              replace q419 := eq_true q419
                              go_wp2_with (first | ((with_reducible refine gate_dst (N := 15) rfl ?_); (try (refine gate_guard (by rfl) ?_; dsimp only)); refine box_event ?hg (N := 15) ?hd (cs := #[.slice none 0 0]) (t := 25) ?hr ?_; (case hd => rfl); (case hg => rfl); (case hr => first | (go_simp; done) | (go_simp; rfl)); intro gb420 hg w134 hbox hb; have n0_ := Aside0.mk (Kd.R_below (by (with_reducible repeat (first | apply Kd.R_alloc | apply Kd.R_drewN | apply Kd.R_drew)); exact HO_394004.out) hb); have n1_ := Aside0.mk (Kd.R_below (by (with_reducible repeat (first | apply Kd.R_alloc | apply Kd.R_drewN | apply Kd.R_drew)); exact HO_394005.out) hb); have n2_ := Aside0.mk (Kd.R_below (by (with_reducible repeat (first | apply Kd.R_alloc | apply Kd.R_drewN | apply Kd.R_drew)); exact HO_406004.out) hb); have n3_ := Aside0.mk (Kd.R_below (by (with_reducible repeat (first | apply Kd.R_alloc | apply Kd.R_drewN | apply Kd.R_drew)); exact HO_406005.out) hb); have n4_ := Aside0.mk (Kd.R_below (by (with_reducible repeat (first | apply Kd.R_alloc | apply Kd.R_drewN | apply Kd.R_drew)); exact HO_412001.out) hb); have n5_ := Aside0.mk (Kd.R_below (by (with_reducible repeat (first | apply Kd.R_alloc | apply Kd.R_drewN | apply Kd.R_drew)); exact HO_418001.out) hb); have n6_ := Aside0.mk (blk_below (k_ BK381) hb); have n7_ := Aside0.mk (blk_below (k_ BK393) hb); have n8_ := Aside0.mk (blk_below (k_ BK405) hb); have n9_ := Aside0.mk (blk_below (k_ BK411) hb); have n10_ := Aside0.mk (blk_below (k_ BK417) hb); have n11_ := Aside0.mk (below_step (b_ HB) hb); have n12_ := Aside0.mk (hbox); have n13_ := Aside0.mk ((by rw [hg]; exact (below_size (b_ HB)) : w.heap.size ≤ gb420)); have n14_ := n13_; have n15_ := Aside0.mk ((by rw [hg]; exact Nat.ne_of_lt (blk_lt (k_ BK381)) : gb381 ≠ gb420)); have n16_ := Aside0.mk ((by rw [hg]; exact Nat.ne_of_gt (blk_lt (k_ BK381)) : gb420 ≠ gb381)); have n17_ := Aside0.mk ((by rw [hg]; exact Nat.ne_of_lt (blk_lt (k_ BK393)) : gb393 ≠ gb420)); have n18_ := Aside0.mk ((by rw [hg]; exact Nat.ne_of_gt (blk_lt (k_ BK393)) : gb420 ≠ gb393)); have n19_ := Aside0.mk ((by rw [hg]; exact Nat.ne_of_lt (blk_lt (k_ BK405)) : gb405 ≠ gb420)); have n20_ := Aside0.mk ((by rw [hg]; exact Nat.ne_of_gt (blk_lt (k_ BK405)) : gb420 ≠ gb405)); have n21_ := Aside0.mk ((by rw [hg]; exact Nat.ne_of_lt (blk_lt (k_ BK411)) : gb411 ≠ gb420)); have n22_ := Aside0.mk ((by rw [hg]; exact Nat.ne_of_gt (blk_lt (k_ BK411)) : gb420 ≠ gb411)); have n23_ := Aside0.mk ((by rw [hg]; exact Nat.ne_of_lt (blk_lt (k_ BK417)) : gb417 ≠ gb420)); have n24_ := Aside0.mk ((by rw [hg]; exact Nat.ne_of_gt (blk_lt (k_ BK417)) : gb420 ≠ gb417)); clear HO_394004; clear HO_394005; clear HO_406004; clear HO_406005; clear HO_412001; clear HO_418001; clear BK381; clear BK393; clear BK405; clear BK411; clear BK417; clear HB; have HO_394004 := n0_; have HO_394005 := n1_; have HO_406004 := n2_; have HO_406005 := n3_; have HO_412001 := n4_; have HO_418001 := n5_; have BK381 := n6_; have BK393 := n7_; have BK405 := n8_; have BK411 := n9_; have BK417 := n10_; have HB := n11_; have BK420 := n12_; have GW420 := n13_; have GE420 := n14_; have NB381_420 := n15_; have NB420_381 := n16_; have NB393_420 := n17_; have NB420_393 := n18_; have NB405_420 := n19_; have NB420_405 := n20_; have NB411_420 := n21_; have NB420_411 := n22_; have NB417_420 := n23_; have NB420_417 := n24_; clear n0_ n1_ n2_ n3_ n4_ n5_ n6_ n7_ n8_ n9_ n10_ n11_ n12_ n13_ n14_ n15_ n16_ n17_ n18_ n19_ n20_ n21_ n22_ n23_ n24_; clear hb hbox hg; have hnb135 := NB420_381.out; have hnc135 := NB381_420.out; have hnb136 := NB420_393.out; have hnc136 := NB393_420.out; have hnb137 := NB420_405.out; have hnc137 := NB405_420.out; have hnb138 := NB420_411.out; have hnc138 := NB411_420.out; have hnb139 := NB420_417.out; have hnc139 := NB417_420.out; have hcz140_0 : w134.cell? ⟨gb420, 0, none⟩ = some (.slice none 0 0) := (blk_cell BK420.out 0).trans rfl; have hfz140_0 := blk_frozen BK420.out 0; have hnb141 := NB381_393.out; have hnc141 := NB393_381.out; have hnb142 := NB381_405.out; have hnc142 := NB405_381.out; have hnb143 := NB381_411.out; have hnc143 := NB411_381.out; have hnb144 := NB381_417.out; have hnc144 := NB417_381.out; have hcz145_0 : w134.cell? ⟨gb381, 0, none⟩ = some (.slice A380_1 ((rd_T52 l0 (ji15)).f1.f0).length c380_1) := (blk_cell BK381.out 0).trans rfl; have hfz145_0 := blk_frozen BK381.out 0) | ((with_reducible refine gate_callee (f := 25) rfl ?_); refine goesL_ (some 113) rfl rfl Try.func25 (by kernel_rfl) rfl #[.agg #[.slice A380_1 ((rd_T52 l0 (ji15)).f1.f0).length c380_1], .agg #[.slice A419_1 ((rd_T52 l0 (ji73)).f1.f0).length c419_1]] rfl (by (try simp only [List.map_toArray, List.map_cons, List.map_nil]); first | done | (simp only [hji73]; rfl) | rfl | (simp only [List.length_drop, List.length_take]; rfl)) ?_; (with_reducible refine (week_Diff.calls kj21 _ _ ((rd_T52 l0 (ji15)).f1.f0) _ _ ((rd_T52 l0 (ji73)).f1.f0) t421 t424 _ ?side1 ?side2 ?side3 ?side4 A77.out).mono ?_); (case side1 => exact Kd.C_below HR380_1.out (b_ HB)); (case side2 => exact HC380_1.out); (case side3 => exact Kd.C_below HR419_1.out (b_ HB)); (case side4 => exact HC419_1.out); rintro e w146 ⟨v422, rfl, ho0, hb⟩; refine ⟨_, rfl, ?_⟩; have n0_ := Aside0.mk (Kd.R_below (by (with_reducible repeat (first | apply Kd.R_alloc | apply Kd.R_drewN | apply Kd.R_drew)); exact (Kd.R_mono (Kd.R_far (p := ⟨gb420, 0, none⟩) (Kd.R_types HO_394004.out BK420.out (by decide)) (fun _ hk => hk.2) (.slice A419_1 ((rd_T52 l0 (ji73)).f1.f0).length c419_1)) (fun _ h_ => h_.1))) hb); have n1_ := Aside0.mk (Kd.R_elder' (by (with_reducible repeat (first | apply Kd.R_alloc | apply Kd.R_drewN | apply Kd.R_drew)); exact (Kd.R_mono (Kd.R_far (p := ⟨gb420, 0, none⟩) (Kd.R_types HO_394005.out BK420.out (by decide)) (fun _ hk => hk.2) (.slice A419_1 ((rd_T52 l0 (ji73)).f1.f0).length c419_1)) (fun _ h_ => h_.1))) (Kd.R_base ho0) hb); have n2_ := Aside0.mk (Kd.R_below (by (with_reducible repeat (first | apply Kd.R_alloc | apply Kd.R_drewN | apply Kd.R_drew)); exact (Kd.R_mono (Kd.R_far (p := ⟨gb420, 0, none⟩) (Kd.R_types HO_406004.out BK420.out (by decide)) (fun _ hk => hk.2) (.slice A419_1 ((rd_T52 l0 (ji73)).f1.f0).length c419_1)) (fun _ h_ => h_.1))) hb); have n3_ := Aside0.mk (Kd.R_elder' (by (with_reducible repeat (first | apply Kd.R_alloc | apply Kd.R_drewN | apply Kd.R_drew)); exact (Kd.R_mono (Kd.R_far (p := ⟨gb420, 0, none⟩) (Kd.R_types HO_406005.out BK420.out (by decide)) (fun _ hk => hk.2) (.slice A419_1 ((rd_T52 l0 (ji73)).f1.f0).length c419_1)) (fun _ h_ => h_.1))) (Kd.R_base ho0) hb); have n4_ := Aside0.mk (Kd.R_below (by (with_reducible repeat (first | apply Kd.R_alloc | apply Kd.R_drewN | apply Kd.R_drew)); exact (Kd.R_mono (Kd.R_far (p := ⟨gb420, 0, none⟩) (Kd.R_types HO_412001.out BK420.out (by decide)) (fun _ hk => hk.2) (.slice A419_1 ((rd_T52 l0 (ji73)).f1.f0).length c419_1)) (fun _ h_ => h_.1))) hb); have n5_ := Aside0.mk (Kd.R_below (by (with_reducible repeat (first | apply Kd.R_alloc | apply Kd.R_drewN | apply Kd.R_drew)); exact (Kd.R_mono (Kd.R_far (p := ⟨gb420, 0, none⟩) (Kd.R_types HO_418001.out BK420.out (by decide)) (fun _ hk => hk.2) (.slice A419_1 ((rd_T52 l0 (ji73)).f1.f0).length c419_1)) (fun _ h_ => h_.1))) hb); have n6_ := Aside0.mk (Kd.R_lower (Kd.R_new' (Kd.R_new' ho0 (Kd.R_lt (by (with_reducible repeat (first | apply Kd.R_alloc | apply Kd.R_drewN | apply Kd.R_drew)); exact (Kd.R_mono (Kd.R_far (p := ⟨gb420, 0, none⟩) (Kd.R_types HO_394005.out BK420.out (by decide)) (fun _ hk => hk.2) (.slice A419_1 ((rd_T52 l0 (ji73)).f1.f0).length c419_1)) (fun _ h_ => h_.1))))) (Kd.R_lt (by (with_reducible repeat (first | apply Kd.R_alloc | apply Kd.R_drewN | apply Kd.R_drew)); exact (Kd.R_mono (Kd.R_far (p := ⟨gb420, 0, none⟩) (Kd.R_types HO_406005.out BK420.out (by decide)) (fun _ hk => hk.2) (.slice A419_1 ((rd_T52 l0 (ji73)).f1.f0).length c419_1)) (fun _ h_ => h_.1))))) (below_size (b_ HB))); have n7_ := Aside0.mk (blk_below (g := gb381) (o := .cells #[.slice A380_1 ((rd_T52 l0 (ji15)).f1.f0).length c380_1] 25 (0, 0)) (by (with_reducible repeat (first | refine blk_drewN ?_ _ | refine blk_drew ?_ | refine blk_alloc ?_ _)); refine blk_far ?_ NB381_420.out _; (with_reducible repeat (first | refine blk_drewN ?_ _ | refine blk_drew ?_ | refine blk_alloc ?_ _)); exact BK381.out) hb); have n8_ := Aside0.mk (blk_below (g := gb393) (o := .cells #[.int .i64 t382, .int .i64 t383, .int .i64 t384, .int .i64 t385, .slice Ao29 t386.length co29, .slice Ao30 t389.length co30] 32 (0, 0)) (by (with_reducible repeat (first | refine blk_drewN ?_ _ | refine blk_drew ?_ | refine blk_alloc ?_ _)); refine blk_far ?_ NB393_420.out _; (with_reducible repeat (first | refine blk_drewN ?_ _ | refine blk_drew ?_ | refine blk_alloc ?_ _)); exact BK393.out) hb); have n9_ := Aside0.mk (blk_below (g := gb405) (o := .cells #[.int .i64 t394, .int .i64 t395, .int .i64 t396, .int .i64 t397, .slice Ao36 t398.length co36, .slice Ao37 t401.length co37] 32 (0, 0)) (by (with_reducible repeat (first | refine blk_drewN ?_ _ | refine blk_drew ?_ | refine blk_alloc ?_ _)); refine blk_far ?_ NB405_420.out _; (with_reducible repeat (first | refine blk_drewN ?_ _ | refine blk_drew ?_ | refine blk_alloc ?_ _)); exact BK405.out) hb); have n10_ := Aside0.mk (blk_below (g := gb411) (o := .cells #[.int .i64 t406, .slice Ao46 t407.length co46] 27 (0, 0)) (by (with_reducible repeat (first | refine blk_drewN ?_ _ | refine blk_drew ?_ | refine blk_alloc ?_ _)); refine blk_far ?_ NB411_420.out _; (with_reducible repeat (first | refine blk_drewN ?_ _ | refine blk_drew ?_ | refine blk_alloc ?_ _)); exact BK411.out) hb); have n11_ := Aside0.mk (blk_below (g := gb417) (o := .cells #[.int .i64 t412, .slice Ao56 t413.length co56] 27 (0, 0)) (by (with_reducible repeat (first | refine blk_drewN ?_ _ | refine blk_drew ?_ | refine blk_alloc ?_ _)); refine blk_far ?_ NB417_420.out _; (with_reducible repeat (first | refine blk_drewN ?_ _ | refine blk_drew ?_ | refine blk_alloc ?_ _)); exact BK417.out) hb); have n12_ := Aside0.mk (blk_below (g := gb420) (o := .cells #[.slice A419_1 ((rd_T52 l0 (ji73)).f1.f0).length c419_1] 25 (0, 0)) (by (with_reducible repeat (first | refine blk_drewN ?_ _ | refine blk_drew ?_ | refine blk_alloc ?_ _)); refine blk_put (cs := #[.slice none 0 0]) ?_ 0 _ rfl; (with_reducible repeat (first | refine blk_drewN ?_ _ | refine blk_drew ?_ | refine blk_alloc ?_ _)); exact BK420.out) hb); have n13_ := Aside0.mk (below_step (b_ HB) hb); clear HO_394004; clear HO_394005; clear HO_406004; clear HO_406005; clear HO_412001; clear HO_418001; clear BK381; clear BK393; clear BK405; clear BK411; clear BK417; clear BK420; clear HB; have HO_394004 := n0_; have HO_394005 := n1_; have HO_406004 := n2_; have HO_406005 := n3_; have HO_412001 := n4_; have HO_418001 := n5_; have HO423 := n6_; have BK381 := n7_; have BK393 := n8_; have BK405 := n9_; have BK411 := n10_; have BK417 := n11_; have BK420 := n12_; have HB := n13_; clear n0_ n1_ n2_ n3_ n4_ n5_ n6_ n7_ n8_ n9_ n10_ n11_ n12_ n13_; (try clear hb); (try clear hb2); (try clear hk); (try clear hi); (try clear ho0); have hnb147 := NB393_405.out; have hnc147 := NB405_393.out; have hnb148 := NB393_411.out; have hnc148 := NB411_393.out; have hnb149 := NB393_417.out; have hnc149 := NB417_393.out; have hcz150_0 : w146.cell? ⟨gb393, 0, none⟩ = some (.int .i64 t382) := (blk_cell BK393.out 0).trans rfl; have hcz150_1 : w146.cell? ⟨gb393, 1, none⟩ = some (.int .i64 t383) := (blk_cell BK393.out 1).trans rfl; have hcz150_2 : w146.cell? ⟨gb393, 2, none⟩ = some (.int .i64 t384) := (blk_cell BK393.out 2).trans rfl; have hcz150_3 : w146.cell? ⟨gb393, 3, none⟩ = some (.int .i64 t385) := (blk_cell BK393.out 3).trans rfl; have hcz150_4 : w146.cell? ⟨gb393, 4, none⟩ = some (.slice Ao29 t386.length co29) := (blk_cell BK393.out 4).trans rfl; have hcz150_5 : w146.cell? ⟨gb393, 5, none⟩ = some (.slice Ao30 t389.length co30) := (blk_cell BK393.out 5).trans rfl; have hfz150_0 := blk_frozen BK393.out 0; have hfz150_1 := blk_frozen BK393.out 1; have hfz150_2 := blk_frozen BK393.out 2; have hfz150_3 := blk_frozen BK393.out 3; have hfz150_4 := blk_frozen BK393.out 4; have hfz150_5 := blk_frozen BK393.out 5))
                              go_ret
                              exact ⟨by first | rfl | (simp [errW_none, errW_some] <;> rfl) | (simp only [← hji15, ← hji73]; first | rfl | (simp [errW_none, errW_some] <;> rfl)) | (simp [*, errW_none, errW_some] <;> rfl), b_ HB⟩
                          · rw [if_neg c76] at H
                            have c76b0 : ((((rd_T52 l0 (ji15)).f1.f0).length : Int) == (((rd_T52 l0 (ji73)).f1.f0).length : Int)) = false := beq_eq_false_iff_ne.mpr c76
                            have c76b1 : ((((rd_T52 l0 (ji15)).f1.f0).length : Int) != (((rd_T52 l0 (ji73)).f1.f0).length : Int)) = true := bne_iff_ne.mpr c76
                            have c76b2 : (((rd_T52 l0 (ji15)).f1.f0).length == ((rd_T52 l0 (ji73)).f1.f0).length) = false := by first | simpa using c76 | (simp at c76 ⊢; omega)
                            obtain rfl := Option.some.inj H
                            have p419 : 0 ≤ ((ji73) : Int) := of_decide_eq_true (by first | (with_reducible assumption) | assumption)
                            have q419 : (ji73) < (l0.length : Int) := of_decide_eq_true (by first | (with_reducible assumption) | assumption)
                            obtain ⟨ad419, A419_1, c419_1, e419, hx419_0, hx419_1, hx419_2, hx419_3, hl419_1, hi419_1⟩ := at_T52 HR0.out (ji73) p419 q419
                            obtain rfl : ad380 = ad419 := (by injection e419)
                            replace hx419_0 := (HB.out.cell (World.block_lt_of_cell? w _ hx419_0)).trans hx419_0
                            replace hx419_1 := (HB.out.cell (World.block_lt_of_cell? w _ hx419_1)).trans hx419_1
                            replace hx419_2 := (HB.out.cell (World.block_lt_of_cell? w _ hx419_2)).trans hx419_2
                            replace hx419_3 := (HB.out.cell (World.block_lt_of_cell? w _ hx419_3)).trans hx419_3
                            have HR419_1 := Aside0.mk hi419_1
                            have HC419_1 := Aside0.mk hl419_1
                            clear hi419_1 hl419_1
                            replace p419 := eq_true p419
                            replace q419 := eq_true q419
                            go_wp2_with (first | ((with_reducible refine gate_dst (N := 15) rfl ?_); (try (refine gate_guard (by rfl) ?_; dsimp only)); refine box_event ?hg (N := 15) ?hd (cs := #[.slice none 0 0]) (t := 25) ?hr ?_; (case hd => rfl); (case hg => rfl); (case hr => first | (go_simp; done) | (go_simp; rfl)); intro gb420 hg w151 hbox hb; have n0_ := Aside0.mk (Kd.R_below (by (with_reducible repeat (first | apply Kd.R_alloc | apply Kd.R_drewN | apply Kd.R_drew)); exact HO_394004.out) hb); have n1_ := Aside0.mk (Kd.R_below (by (with_reducible repeat (first | apply Kd.R_alloc | apply Kd.R_drewN | apply Kd.R_drew)); exact HO_394005.out) hb); have n2_ := Aside0.mk (Kd.R_below (by (with_reducible repeat (first | apply Kd.R_alloc | apply Kd.R_drewN | apply Kd.R_drew)); exact HO_406004.out) hb); have n3_ := Aside0.mk (Kd.R_below (by (with_reducible repeat (first | apply Kd.R_alloc | apply Kd.R_drewN | apply Kd.R_drew)); exact HO_406005.out) hb); have n4_ := Aside0.mk (Kd.R_below (by (with_reducible repeat (first | apply Kd.R_alloc | apply Kd.R_drewN | apply Kd.R_drew)); exact HO_412001.out) hb); have n5_ := Aside0.mk (Kd.R_below (by (with_reducible repeat (first | apply Kd.R_alloc | apply Kd.R_drewN | apply Kd.R_drew)); exact HO_418001.out) hb); have n6_ := Aside0.mk (blk_below (k_ BK381) hb); have n7_ := Aside0.mk (blk_below (k_ BK393) hb); have n8_ := Aside0.mk (blk_below (k_ BK405) hb); have n9_ := Aside0.mk (blk_below (k_ BK411) hb); have n10_ := Aside0.mk (blk_below (k_ BK417) hb); have n11_ := Aside0.mk (below_step (b_ HB) hb); have n12_ := Aside0.mk (hbox); have n13_ := Aside0.mk ((by rw [hg]; exact (below_size (b_ HB)) : w.heap.size ≤ gb420)); have n14_ := n13_; have n15_ := Aside0.mk ((by rw [hg]; exact Nat.ne_of_lt (blk_lt (k_ BK381)) : gb381 ≠ gb420)); have n16_ := Aside0.mk ((by rw [hg]; exact Nat.ne_of_gt (blk_lt (k_ BK381)) : gb420 ≠ gb381)); have n17_ := Aside0.mk ((by rw [hg]; exact Nat.ne_of_lt (blk_lt (k_ BK393)) : gb393 ≠ gb420)); have n18_ := Aside0.mk ((by rw [hg]; exact Nat.ne_of_gt (blk_lt (k_ BK393)) : gb420 ≠ gb393)); have n19_ := Aside0.mk ((by rw [hg]; exact Nat.ne_of_lt (blk_lt (k_ BK405)) : gb405 ≠ gb420)); have n20_ := Aside0.mk ((by rw [hg]; exact Nat.ne_of_gt (blk_lt (k_ BK405)) : gb420 ≠ gb405)); have n21_ := Aside0.mk ((by rw [hg]; exact Nat.ne_of_lt (blk_lt (k_ BK411)) : gb411 ≠ gb420)); have n22_ := Aside0.mk ((by rw [hg]; exact Nat.ne_of_gt (blk_lt (k_ BK411)) : gb420 ≠ gb411)); have n23_ := Aside0.mk ((by rw [hg]; exact Nat.ne_of_lt (blk_lt (k_ BK417)) : gb417 ≠ gb420)); have n24_ := Aside0.mk ((by rw [hg]; exact Nat.ne_of_gt (blk_lt (k_ BK417)) : gb420 ≠ gb417)); clear HO_394004; clear HO_394005; clear HO_406004; clear HO_406005; clear HO_412001; clear HO_418001; clear BK381; clear BK393; clear BK405; clear BK411; clear BK417; clear HB; have HO_394004 := n0_; have HO_394005 := n1_; have HO_406004 := n2_; have HO_406005 := n3_; have HO_412001 := n4_; have HO_418001 := n5_; have BK381 := n6_; have BK393 := n7_; have BK405 := n8_; have BK411 := n9_; have BK417 := n10_; have HB := n11_; have BK420 := n12_; have GW420 := n13_; have GE420 := n14_; have NB381_420 := n15_; have NB420_381 := n16_; have NB393_420 := n17_; have NB420_393 := n18_; have NB405_420 := n19_; have NB420_405 := n20_; have NB411_420 := n21_; have NB420_411 := n22_; have NB417_420 := n23_; have NB420_417 := n24_; clear n0_ n1_ n2_ n3_ n4_ n5_ n6_ n7_ n8_ n9_ n10_ n11_ n12_ n13_ n14_ n15_ n16_ n17_ n18_ n19_ n20_ n21_ n22_ n23_ n24_; clear hb hbox hg; have hnb152 := NB420_381.out; have hnc152 := NB381_420.out; have hnb153 := NB420_393.out; have hnc153 := NB393_420.out; have hnb154 := NB420_405.out; have hnc154 := NB405_420.out; have hnb155 := NB420_411.out; have hnc155 := NB411_420.out; have hnb156 := NB420_417.out; have hnc156 := NB417_420.out; have hcz157_0 : w151.cell? ⟨gb420, 0, none⟩ = some (.slice none 0 0) := (blk_cell BK420.out 0).trans rfl; have hfz157_0 := blk_frozen BK420.out 0; have hnb158 := NB381_393.out; have hnc158 := NB393_381.out; have hnb159 := NB381_405.out; have hnc159 := NB405_381.out; have hnb160 := NB381_411.out; have hnc160 := NB411_381.out; have hnb161 := NB381_417.out; have hnc161 := NB417_381.out; have hcz162_0 : w151.cell? ⟨gb381, 0, none⟩ = some (.slice A380_1 ((rd_T52 l0 (ji15)).f1.f0).length c380_1) := (blk_cell BK381.out 0).trans rfl; have hfz162_0 := blk_frozen BK381.out 0; have hnb163 := NB393_405.out; have hnc163 := NB405_393.out; have hnb164 := NB393_411.out; have hnc164 := NB411_393.out; have hnb165 := NB393_417.out; have hnc165 := NB417_393.out; have hcz166_0 : w151.cell? ⟨gb393, 0, none⟩ = some (.int .i64 t382) := (blk_cell BK393.out 0).trans rfl; have hcz166_1 : w151.cell? ⟨gb393, 1, none⟩ = some (.int .i64 t383) := (blk_cell BK393.out 1).trans rfl; have hcz166_2 : w151.cell? ⟨gb393, 2, none⟩ = some (.int .i64 t384) := (blk_cell BK393.out 2).trans rfl; have hcz166_3 : w151.cell? ⟨gb393, 3, none⟩ = some (.int .i64 t385) := (blk_cell BK393.out 3).trans rfl; have hcz166_4 : w151.cell? ⟨gb393, 4, none⟩ = some (.slice Ao29 t386.length co29) := (blk_cell BK393.out 4).trans rfl; have hcz166_5 : w151.cell? ⟨gb393, 5, none⟩ = some (.slice Ao30 t389.length co30) := (blk_cell BK393.out 5).trans rfl; have hfz166_0 := blk_frozen BK393.out 0; have hfz166_1 := blk_frozen BK393.out 1; have hfz166_2 := blk_frozen BK393.out 2; have hfz166_3 := blk_frozen BK393.out 3; have hfz166_4 := blk_frozen BK393.out 4; have hfz166_5 := blk_frozen BK393.out 5))
                            go_ret
                            exact ⟨by first | rfl | (simp [errW_none, errW_some] <;> rfl) | (simp only [← hji15, ← hji73]; first | rfl | (simp [errW_none, errW_some] <;> rfl)) | (simp [*, errW_none, errW_some] <;> rfl), b_ HB⟩
                        · rw [if_neg c75] at H
                          exact absurd H (by simp)
                      · rw [if_neg c74] at H
                        exact absurd H (by simp)
              · rw [if_neg c17] at H
                exact absurd H (by simp)
            · rw [if_neg c16] at H
              exact absurd H (by simp)
  · replace c4 := Bool.eq_false_iff.mpr c4
    subst c4
    have H1 : (some false) = some r := by rw [if_neg (show ¬ (false = true) by decide)] at H; exact H
    clear H
    have H := H1
    clear H1
    obtain rfl := Option.some.inj H
    go_enter Try.func8, Try.ntmps8
    go_wp2_with (first | ((with_reducible refine gate_callee (f := 11) rfl ?_); refine goesL_ (some 18) rfl rfl Try.func11 (by kernel_rfl) rfl #[] rfl (by (try simp only [List.map_toArray, List.map_cons, List.map_nil]); first | done | rfl | (simp only [List.length_drop, List.length_take]; rfl)) ?_; (with_reducible refine (chalklinelaw35_live.calls  false _ A3.out).mono ?_); rintro e w167 ⟨rfl, hb⟩; refine ⟨_, rfl, ?_⟩; have n0_ := Aside0.mk (below_step (b_ HB) hb); clear HB; have HB := n0_; clear n0_; (try clear hb); (try clear hb2); (try clear hk); (try clear hi)))
    go_ret
    exact ⟨by first | rfl | (simp [errW_none, errW_some] <;> rfl) | (simp [*, errW_none, errW_some] <;> rfl), b_ HB⟩
end Go.Proofs.Ytfdhnmijaobbdaa.S
end
section
namespace Go.Proofs.YtfdhnmijaobbdaaW.PrintMore
open Go.RowKit Go.Proofs.YtfdhnmijaobbdaaW.PrintWords Go.Proofs.YtfdhnmijaobbdaaW.PrintLast Go.ChangeShapes Go.WideShapes
def Opens {α : Type} (P : Program) (t : TypeId) (d : Kd α) (wf : α → Prop) : Prop :=
  ∀ (H : Type) (enc : TypeId × Value → H) (w : World) (base : Nat) (spare : Nat → Bool) (held : Bool) (fuel : Nat) (cs : List Value) (x : DataW H × List MemPlace), DataW.trod enc P w base spare held fuel t cs = some x → ∃ y, d.K w y cs ∧ wf y
section
variable {P : Program} {t : TypeId}
theorem opens_int {k : IntKind} (ht : P.underlying t = some (.int k)) : Opens P t (Kd.int k) (fun n => (Lit.int k n).wf = true) := by
  intro H enc w base spare held fuel cs x h
  obtain ⟨n, rfl, _, hw⟩ := DataW.trod_int ht h
  exact ⟨n, rfl, hw⟩
theorem opens_bool (ht : P.underlying t = some .bool) : Opens P t Kd.bool (fun _ => True) := by
  intro H enc w base spare held fuel cs x h
  cases fuel with
  | zero => simp [DataW.trod] at h
  | succ n =>
    unfold DataW.trod at h
    rw [ht] at h
    split at h
    case h_1 => exact ⟨_, rfl, trivial⟩
    all_goals simp_all
theorem cells_cell {w : World} {base n : Nat} {a : Addr} {cs : List Value} (h : w.cells? base a n = some cs) : cs.length = n ∧ ∀ i u, cs[i]? = some u → w.cell? (a.add i) = some u := by
  obtain ⟨_, hl, hc⟩ := World.cells?_some h
  refine ⟨hl, fun i u hu => ?_⟩
  have hi : i < n := by rw [← hl]; exact (List.getElem?_eq_some_iff.1 hu).1
  rw [hc i hi, hu]
theorem opens_slice {α : Type} {e : TypeId} {d : Kd α} {wf : α → Prop} (ht : P.underlying t = some (.slice e)) (hsz : P.cellsOf e = d.sz) (h : Opens P e d wf) :
    Opens P t (Kd.slice e d) (fun l => l.length ≤ maxLen ∧ ∀ x ∈ l, wf x) := by
  intro H enc w base spare held fuel cs x hx
  rcases Deep.open_slice ht hx with ⟨rfl, _⟩ | ⟨a, len, cap, m, n, D, Pl, rfl, _, hl, hm, hmm, _, hel⟩
  · exact ⟨[], ⟨none, 0, rfl, Nat.le_refl _, Kd.C_nil _ _⟩, Nat.zero_le _, fun x hx => by cases hx⟩
  · have hlm : len ≤ m := by rw [hmm]; split <;> omega
    have hone : ∀ i, i < len → ∃ y : α, wf y ∧ ∃ c, c.length = d.sz ∧ d.K w y c ∧ ∀ j u, c[j]? = some u → w.cell? ((a.add (i * d.sz)).add j) = some u := by
      intro i hi
      obtain ⟨cs', hc, ht'⟩ := hel i (by omega)
      obtain ⟨y, hK, hw⟩ := h H enc w base spare held n cs' _ ht'
      rw [hsz] at hc
      obtain ⟨hlen, hcell⟩ := cells_cell hc
      exact ⟨y, hw, cs', hlen, hK, hcell⟩
    let f : Nat → Option α := fun i => if hi : i < len then some (Classical.choose (hone i hi)) else none
    have hf : ∀ i (hi : i < len), f i = some (Classical.choose (hone i hi)) := fun i hi => dif_pos hi
    let l : List α := (List.range len).filterMap f
    have hln : ∀ m, m ≤ len → ((List.range m).filterMap f).length = m ∧ ∀ i (hi : i < len), i < m → ((List.range m).filterMap f)[i]? = some (Classical.choose (hone i hi)) := by
      intro m
      induction m with
      | zero => exact fun _ => ⟨rfl, fun i _ h0 => absurd h0 (Nat.not_lt_zero _)⟩
      | succ m ih =>
        intro hm'
        obtain ⟨h1, h2⟩ := ih (by omega)
        rw [List.range_succ, List.filterMap_append]
        have he : [m].filterMap f = [Classical.choose (hone m (by omega))] := by simp [hf m (by omega)]
        rw [he]
        refine ⟨by simp [h1], fun i hi him => ?_⟩
        rcases Nat.lt_succ_iff_lt_or_eq.1 him with hlt | rfl
        · rw [List.getElem?_append_left (by omega)]
          exact h2 i hi hlt
        · rw [List.getElem?_append_right (by omega), h1]
          simp
    obtain ⟨hlen, hget⟩ := hln len (Nat.le_refl _)
    have hmax : cap ≤ 9223372036854775807 := by unfold maxLen at hm; omega
    refine ⟨l, ⟨some a, cap, ?_, ?_, ?_⟩, ?_, ?_⟩
    · show [Value.slice (some a) len cap] = _
      rw [hlen]
    · rw [hlen]; exact hl
    · refine ⟨rfl, by rw [hlen]; omega, fun _ => ⟨a, rfl, fun j p hp => ?_⟩⟩
      have hj : j < len := by rw [← hlen]; exact (List.getElem?_eq_some_iff.1 hp).1
      rw [hget j hj hj] at hp
      obtain rfl := Option.some.inj hp
      obtain ⟨_, c, hc1, hc2, hc3⟩ := Classical.choose_spec (hone j hj)
      exact ⟨c, hc1, hc2, fun i u hu => by rw [← Deep.add_add]; exact hc3 i u hu⟩
    · rw [hlen]; omega
    · intro x hx
      obtain ⟨j, hj⟩ := List.getElem?_of_mem hx
      have hj' : j < len := by rw [← hlen]; exact (List.getElem?_eq_some_iff.1 hj).1
      rw [hget j hj' hj'] at hj
      obtain rfl := Option.some.inj hj
      exact (Classical.choose_spec (hone j hj')).1
def OpensF {α : Type} (P : Program) (fs : List Field) (off : Nat) (d : Kd α) (wf : α → Prop) : Prop :=
  ∀ (H : Type) (enc : TypeId × Value → H) (w : World) (base : Nat) (spare : Nat → Bool) (held : Bool) (n : Nat) (cs : List Value), cs.length = off + d.sz →
    (∀ f ∈ fs, ∃ y, DataW.trod enc P w base spare held n f.type ((cs.drop f.offset).take (P.cellsOf f.type)) = some y) → ∃ y, d.K w y (cs.drop off) ∧ wf y
theorem opensF_one {α : Type} {f : Field} {d : Kd α} {wf : α → Prop} (hsz : P.cellsOf f.type = d.sz) (h : Opens P f.type d wf) : OpensF P [f] f.offset d wf := by
  intro H enc w base spare held n cs hl hf
  obtain ⟨y, hy⟩ := hf f (List.mem_singleton.2 rfl)
  rw [List.take_of_length_le (by rw [List.length_drop, hl, hsz]; omega)] at hy
  exact h H enc w base spare held n _ _ hy
theorem opensF_cons {α β : Type} {f : Field} {fs : List Field} {d : Kd α} {d' : Kd β} {wf : α → Prop} {wf' : β → Prop} (hsz : P.cellsOf f.type = d.sz) (h : Opens P f.type d wf) (h' : OpensF P fs (f.offset + d.sz) d' wf') :
    OpensF P (f :: fs) f.offset (Kd.pair d d') (fun x => wf x.1 ∧ wf' x.2) := by
  intro H enc w base spare held n cs hl hf
  have hl' : cs.length = f.offset + (d.sz + d'.sz) := hl
  obtain ⟨y, hy⟩ := hf f (List.mem_cons_self)
  rw [hsz] at hy
  obtain ⟨a, hK, hw⟩ := h H enc w base spare held n _ _ hy
  obtain ⟨b, hK', hw'⟩ := h' H enc w base spare held n cs (by rw [hl']; omega) (fun g hg => hf g (List.mem_cons_of_mem _ hg))
  refine ⟨(a, b), ⟨(cs.drop f.offset).take d.sz, cs.drop (f.offset + d.sz), ?_, hK, hK'⟩, hw, hw'⟩
  rw [← List.drop_drop, List.take_append_drop]
theorem opens_struct {α : Type} {fs : Array Field} {d : Kd α} {wf : α → Prop} (ht : P.underlying t = some (.struct fs)) (hsz : P.cellsOf t = d.sz) (h : OpensF P fs.toList 0 d wf) : Opens P t d wf := by
  intro H enc w base spare held fuel cs x hx
  obtain ⟨xs, n, _, _, hl, hlen, hf⟩ := DataW.trod_struct ht hx
  obtain ⟨y, hK, hw⟩ := h H enc w base spare held n cs (by rw [hl, hsz]; omega) (fun f hm => by
    obtain ⟨i, hi⟩ := List.getElem?_of_mem hm
    have hi' : fs[i]? = some f := by simpa using hi
    have hlt : i < xs.length := by rw [hlen]; exact (Array.getElem?_eq_some_iff.1 hi').1
    exact ⟨xs[i], by rw [hf i f hi', List.getElem?_eq_getElem hlt]⟩)
  exact ⟨y, by simpa using hK, hw⟩
theorem opens_iso {α β : Type} {d : Kd α} {wf : α → Prop} (f : β → α) (g : α → β) (hfg : ∀ a, f (g a) = a) (h : Opens P t d wf) : Opens P t (Kd.iso d f) (fun b => wf (f b)) := by
  intro H enc w base spare held fuel cs x hx
  obtain ⟨y, hK, hw⟩ := h H enc w base spare held fuel cs x hx
  exact ⟨g y, by show d.K w (f (g y)) cs; rw [hfg]; exact hK, by show wf (f (g y)); rw [hfg]; exact hw⟩
theorem arg_slice {α : Type} {e : TypeId} {d : Kd α} {wf : List α → Prop} {r : Reach} {W : World} {b0 : Nat} {v : Value} (ht : P.underlying t = some (.slice e)) (ho : Opens P t (Kd.slice e d) wf) (hv : Value.okWide P W r b0 t v)
    {H : Type} {enc : TypeId × Value → H} {base : Nat} {spare : Nat → Bool} {held : Bool} {dd : DataW H} {ps : List MemPlace} (h : DataW.Trod enc P W base spare held t v dd ps) :
    ∃ (A : Option Addr) (c : Nat) (l : List α), v = .slice A l.length c ∧ l.length ≤ c ∧ d.C W A l.length l ∧ wf l := by
  obtain ⟨a, len, cap, rfl⟩ := okWide_slice ht hv
  obtain ⟨fuel, hf⟩ := h
  obtain ⟨l, ⟨A, c, he, hl, hC⟩, hw⟩ := ho H enc W base spare held fuel _ _ hf
  have he' : Value.slice a len cap = Value.slice A l.length c := by simpa [Value.cells] using he
  exact ⟨A, c, l, he', hl, hC, hw⟩
end
end Go.Proofs.YtfdhnmijaobbdaaW.PrintMore
namespace Go.Proofs.YtfdhnmijaobbdaaW.PrintMore
open Go.RowKit Go.ChangeShapes Go.WideShapes
theorem sized_any {H : Type} {enc : TypeId × Value → H} {P : Program} {W : World} {base : Nat} {spare : Nat → Bool} {held : Bool} {t e : TypeId} {a : Option Addr} {len cap : Nat} {d : DataW H} {ps : List MemPlace} {ts : List TypeId} {ds : List (DataW H)} {j : Nat}
    (hsz : (DataW.weightsEach P ts ds).all (· ≤ reachBytes) = true) (ht : ts[j]? = some t) (hd : ds[j]? = some d) (hu : P.underlying t = some (.slice e)) {B : Nat} (hB : P.bytesOf e = B)
    (h : DataW.Trod enc P W base spare held t (.slice a len cap) d ps) : len * B ≤ 140737488351232 := by
  obtain ⟨fuel, hf⟩ := h
  rcases Deep.open_slice hu hf with ⟨hcs, _⟩ | ⟨x, l, c, m, n, D, Pl, hcs, _, hl, _, hm, hx, _⟩
  · simp [Value.cells] at hcs
    obtain ⟨rfl, rfl, rfl⟩ := hcs
    simp
  · simp [Value.cells] at hcs
    obtain ⟨rfl, rfl, rfl⟩ := hcs
    obtain ⟨hx, _⟩ := Prod.mk.inj hx
    subst hx
    have z := sized_slice hsz ht hd hu
    rw [hB] at z
    refine Nat.le_trans (Nat.mul_le_mul_right _ ?_) z
    simp
end Go.Proofs.YtfdhnmijaobbdaaW.PrintMore
end
section
namespace Go.Proofs.Ytfdhnmijaobbdaa.S
open Go.RowKit Go.Proofs.YtfdhnmijaobbdaaW.PrintWords Go.Proofs.YtfdhnmijaobbdaaW.PrintLast Go.Proofs.YtfdhnmijaobbdaaW.PrintMore
set_option linter.unusedVariables false
def wf60 (x : S60) : Prop := (Lit.int .i64 x.f0).wf = true ∧ (Lit.int .i64 x.f1).wf = true
theorem opens60 : Opens Try.prog 60 k60 wf60 := opens_iso (fun x : S60 => (x.f0, x.f1)) (fun p => ⟨p.1, p.2⟩) (fun _ => rfl) (opens_struct Try.underlying60 (by kernel_rfl) (opensF_cons (by kernel_rfl) (opens_int Try.underlying3) (opensF_one (by kernel_rfl) (opens_int Try.underlying3))))
def wf25 (x : S25) : Prop := (x.f0.length ≤ maxLen ∧ ∀ z_ ∈ x.f0, wf60 z_)
theorem opens25 : Opens Try.prog 25 k25 wf25 := opens_iso (fun x : S25 => (x.f0)) (fun p => ⟨p⟩) (fun _ => rfl) (opens_struct Try.underlying25 (by kernel_rfl) (opensF_one (by kernel_rfl) (opens_slice Try.underlying23 (by kernel_rfl) opens60)))
def wf52 (x : S52) : Prop := (Lit.int .i64 x.f0).wf = true ∧ wf25 x.f1 ∧ (Lit.int .i64 x.f2).wf = true ∧ True
theorem opens52 : Opens Try.prog 52 k52 wf52 := opens_iso (fun x : S52 => (x.f0, x.f1, x.f2, x.f3)) (fun p => ⟨p.1, p.2.1, p.2.2.1, p.2.2.2⟩) (fun _ => rfl) (opens_struct Try.underlying52 (by kernel_rfl) (opensF_cons (by kernel_rfl) (opens_int Try.underlying3) (opensF_cons (by kernel_rfl) opens25 (opensF_cons (by kernel_rfl) (opens_int Try.underlying3) (opensF_one (by kernel_rfl) (opens_bool Try.underlying4))))))
end Go.Proofs.Ytfdhnmijaobbdaa.S
end
section
namespace Go.Proofs.Ytfdhnmijaobbdaa.S
open Go.RowKit Go.Proofs.YtfdhnmijaobbdaaW.PrintWords Go.Proofs.YtfdhnmijaobbdaaW.PrintLast Go.Proofs.YtfdhnmijaobbdaaW.PrintMore
attribute [local go_sem] max2_int min2_int max_two min_two max_three min_three max_four min_four   -- for this text's walks alone
set_option linter.unusedVariables false
set_option linter.unusedSimpArgs false
mutual
def chalklineref35_may.l0 : Nat → Int → List (S60) → Option (Bool)
  | 0, _, _ => none
  | k + 1, x3, x165000 => if x3 < (x165000.length : Int) then (chalklineref35_may.j1 k x3 (decide (x3 < 65)) x165000) else (chalklineref35_may.j1 k x3 false x165000)
def chalklineref35_may.j1 : Nat → Int → Bool → List (S60) → Option (Bool)
  | 0, _, _, _ => none
  | k + 1, x3, x13, x165000 => if x13 = true then (if 0 ≤ x3 then (if x3 < (x165000.length : Int) then (if ((rd_T60 x165000 x3).f0) < 0 then (some false) else (if ((rd_T60 x165000 x3).f0) ≥ 50 then (some false) else (if ((rd_T60 x165000 x3).f1) < 0 then (some false) else (if ((rd_T60 x165000 x3).f1) ≥ 32 then (some false) else (chalklineref35_may.l0 k (wrap64 (x3 + 1)) x165000))))) else (none)) else (none)) else (some (decide ((x165000.length : Int) ≤ 64)))
end
def chalklineref35_may.f (k : Nat) (l0_0 : List (S60)) : Option (Bool) := chalklineref35_may.l0 k 0 l0_0
end Go.Proofs.Ytfdhnmijaobbdaa.S
end
section
namespace Go.Proofs.Ytfdhnmijaobbdaa.S
open Go.RowKit Go.Proofs.YtfdhnmijaobbdaaW.PrintWords Go.Proofs.YtfdhnmijaobbdaaW.PrintLast Go.Proofs.YtfdhnmijaobbdaaW.PrintMore
attribute [local go_sem] max2_int min2_int max_two min_two max_three min_three max_four min_four   -- for this text's walks alone
set_option linter.unusedVariables false
set_option linter.unusedSimpArgs false
def chalklineref35_Check.l0 : Nat → List (S52) → Int → Option (Int)
  | 0, _, _ => none
  | k + 1, x0, x3 => if x3 < (x0.length : Int) then (if 0 ≤ x3 then (if ((rd_T52 x0 x3).f0) = (wrap64 (x3 + 1)) then (if ((rd_T52 x0 x3).f2) < 0 then (some 1) else (if ((rd_T52 x0 x3).f2) > 1099511627776 then (some 1) else ((chalklineref35_may.f k ((rd_T52 x0 x3).f1.f0)).bind fun t171 => (if t171 = true then (chalklineref35_Check.l0 k x0 (wrap64 (x3 + 1))) else (some 1))))) else (some 1)) else (none)) else (some 0)
end Go.Proofs.Ytfdhnmijaobbdaa.S
end
section
namespace Go.Proofs.Ytfdhnmijaobbdaa.S
open Go.RowKit Go.Proofs.YtfdhnmijaobbdaaW.PrintWords Go.Proofs.YtfdhnmijaobbdaaW.PrintLast Go.Proofs.YtfdhnmijaobbdaaW.PrintMore
attribute [local go_sem] max2_int min2_int max_two min_two max_three min_three max_four min_four   -- for this text's walks alone
set_option linter.unusedVariables false
set_option linter.unusedSimpArgs false
attribute [local go_sem high] eqA60
def chalklineref04_Diff.l0 : Nat → List (S64) → Int → List (S60) → List (S60) → Option ((List (S64)) × Int)
  | 0, _, _, _, _ => none
  | k + 1, x6, x7, x173000, x174000 => if x7 < (x173000.length : Int) then (if 0 ≤ x7 then (if x7 < (x174000.length : Int) then (if (!(((rd_T60 x173000 x7).f0) == ((rd_T60 x174000 x7).f0)) || (!(((rd_T60 x173000 x7).f1) == ((rd_T60 x174000 x7).f1)))) = true then (if x6.length < 5864062014805 then (chalklineref04_Diff.l0 k (x6 ++ [(⟨x7, (⟨(rd_T60 x174000 x7).f0, (rd_T60 x174000 x7).f1⟩ : S60)⟩ : S64)]) (wrap64 (x7 + 1)) x173000 x174000) else (none)) else (chalklineref04_Diff.l0 k x6 (wrap64 (x7 + 1)) x173000 x174000)) else (none)) else (none)) else (some (x6, 0))
end Go.Proofs.Ytfdhnmijaobbdaa.S
end
section
namespace Go.Proofs.Ytfdhnmijaobbdaa.S
open Go.RowKit Go.Proofs.YtfdhnmijaobbdaaW.PrintWords Go.Proofs.YtfdhnmijaobbdaaW.PrintLast Go.Proofs.YtfdhnmijaobbdaaW.PrintMore
attribute [local go_sem] max2_int min2_int max_two min_two max_three min_three max_four min_four   -- for this text's walks alone
set_option linter.unusedVariables false
set_option linter.unusedSimpArgs false
def chalklineref04_Apply.l0 : Nat → List (S64) → Int → List (S60) → List (S60) → Option ((List (S60)) × Int)
  | 0, _, _, _, _ => none
  | k + 1, x1, x7, x260000, x268000 => if x7 < (x1.length : Int) then (if 0 ≤ x7 then (if ((rd_T64 x1 x7).f0) < 0 then (some (([] : List (S60)), 1)) else (if ((rd_T64 x1 x7).f0) ≥ (x260000.length : Int) then (some (([] : List (S60)), 1)) else (if x7 > 0 then (if 0 ≤ (wrap64 (x7 - 1)) then (if (wrap64 (x7 - 1)) < (x1.length : Int) then (if ((rd_T64 x1 x7).f0) ≤ ((rd_T64 x1 (wrap64 (x7 - 1))).f0) then (some (([] : List (S60)), 1)) else (if 0 ≤ ((rd_T64 x1 x7).f0) then (if ((rd_T64 x1 x7).f0) < (x268000.length : Int) then (chalklineref04_Apply.l0 k x1 (wrap64 (x7 + 1)) x260000 (x268000.set (((rd_T64 x1 x7).f0) : Int).toNat (⟨(rd_T64 x1 x7).f1.f0, (rd_T64 x1 x7).f1.f1⟩ : S60))) else (none)) else (none))) else (none)) else (none)) else (if 0 ≤ ((rd_T64 x1 x7).f0) then (if ((rd_T64 x1 x7).f0) < (x268000.length : Int) then (chalklineref04_Apply.l0 k x1 (wrap64 (x7 + 1)) x260000 (x268000.set (((rd_T64 x1 x7).f0) : Int).toNat (⟨(rd_T64 x1 x7).f1.f0, (rd_T64 x1 x7).f1.f1⟩ : S60))) else (none)) else (none))))) else (none)) else (some (x268000, 0))
end Go.Proofs.Ytfdhnmijaobbdaa.S
end
section
namespace Go.Proofs.Ytfdhnmijaobbdaa.S
open Go.RowKit Go.Proofs.YtfdhnmijaobbdaaW.PrintWords Go.Proofs.YtfdhnmijaobbdaaW.PrintLast Go.Proofs.YtfdhnmijaobbdaaW.PrintMore
theorem wrap_succ {i : Nat} (h : i < 9223372036854775807) : wrap64 ((i : Int) + 1) = ((i + 1 : Nat) : Int) := by
  unfold wrap64; omega
theorem wrap_pred {i : Int} (h0 : -9223372036854775807 ≤ i) (h : i ≤ 9223372036854775807) : wrap64 (i - 1) = i - 1 := by
  unfold wrap64; omega
theorem wrap_inc {i : Int} (h0 : -9223372036854775808 ≤ i) (h : i < 9223372036854775807) : wrap64 (i + 1) = i + 1 := by
  unfold wrap64; omega
theorem drop_cons {α : Type} {l s : List α} {x : α} {i : Nat} (h : l.drop i = x :: s) : i < l.length ∧ l[i]? = some x ∧ l.drop (i + 1) = s := by
  have h1 : i < l.length := by
    rcases Nat.lt_or_ge i l.length with h1 | h1
    · exact h1
    · rw [List.drop_eq_nil_of_le h1] at h; cases h
  refine ⟨h1, ?_, ?_⟩
  · rw [List.drop_eq_getElem_cons h1] at h
    injection h with h _
    rw [List.getElem?_eq_getElem h1, h]
  · rw [List.drop_eq_getElem_cons h1] at h
    injection h
theorem drop_nil {α : Type} {l : List α} {i : Nat} (h : l.drop i = []) : l.length ≤ i := by
  rcases Nat.lt_or_ge i l.length with h1 | h1
  · rw [List.drop_eq_getElem_cons h1] at h; cases h
  · exact h1
theorem rd52 {l : List S52} {i : Nat} {x : S52} (h : l[i]? = some x) : rd_T52 l (i : Int) = x := by
  unfold rd_T52; rw [Int.toNat_natCast, List.getD_eq_getElem?_getD, h]; rfl
theorem rd60 {l : List S60} {i : Nat} {x : S60} (h : l[i]? = some x) : rd_T60 l (i : Int) = x := by
  unfold rd_T60; rw [Int.toNat_natCast, List.getD_eq_getElem?_getD, h]; rfl
theorem rd64 {l : List S64} {i : Nat} {x : S64} (h : l[i]? = some x) : rd_T64 l (i : Int) = x := by
  unfold rd_T64; rw [Int.toNat_natCast, List.getD_eq_getElem?_getD, h]; rfl
theorem succ_of {k n : Nat} (h : n < k) : ∃ m, k = m + 1 ∧ n ≤ m := ⟨k - 1, by omega, by omega⟩
def okP (p : S60) : Bool := decide (0 ≤ p.f0 ∧ p.f0 ≤ 49 ∧ 0 ≤ p.f1 ∧ p.f1 ≤ 31)
def okW (w : List S60) : Bool := decide (w.length ≤ 64) && w.all okP
def okV (n : Int) (v : S52) : Bool := decide (v.f0 = n + 1) && (decide (0 ≤ v.f2 ∧ v.f2 ≤ 1099511627776) && okW v.f1.f0)
def okAll (n : Nat) : List S52 → Bool
  | [] => true
  | v :: l => okV n v && okAll (n + 1) l
def chk (l : List S52) : Int := cond (okAll 0 l) 0 1
theorem place_ok (a x y : Int) : feed_Check_1_1.f a x y = some (okP ⟨x, y⟩) := by
  unfold feed_Check_1_1.f
  rw [feed_Take.bounds, feed_Take.bounds]
  simp only [Option.bind_some, okP]
  by_cases h : 0 ≤ x ∧ x ≤ 49
  · simp [h]
  · rw [decide_eq_false h]
    simp
    omega
theorem places_ok (l : List S60) (hl : l.length ≤ 9223372036854775806) : ∀ (s : List S60) (i k : Nat), l.drop i = s → s.length < k → feed_all_api_Place.l0 k l (l.length : Int) (i : Int) = some (s.all okP) := by
  intro s
  induction s with
  | nil =>
    intro i k hs hk
    obtain ⟨k, rfl, _⟩ := succ_of hk
    have := drop_nil hs
    simp only [feed_all_api_Place.l0]
    rw [if_neg (by omega)]
    rfl
  | cons x s ih =>
    intro i k hs hk
    obtain ⟨k, rfl, hk'⟩ := succ_of hk
    obtain ⟨h1, h2, h3⟩ := drop_cons hs
    have hk2 : s.length < k := by simp at hk'; omega
    simp only [feed_all_api_Place.l0]
    rw [if_pos (by omega), if_pos (by omega), if_pos (by omega), rd60 h2, place_ok]
    simp only [Option.bind_some]
    rw [wrap_succ (by omega), ih (i + 1) k h3 hk2]
    cases h : okP x <;> simp [h]
theorem version_ok (i k : Nat) (v : S52) (hi : i < 9223372036854775806) (hw : v.f1.f0.length ≤ 9223372036854775806) (hk : v.f1.f0.length < k) :
    feed_Check_1.f k (i : Int) v.f0 v.f1.f0 v.f2 v.f3 = some (okV i v) := by
  unfold feed_Check_1.f
  rw [wrap_inc (by omega) (by omega), feed_Take.bounds]
  simp only [Option.bind_some, okV, okW]
  by_cases h : v.f0 = (i : Int) + 1
  · rw [if_pos h, decide_eq_true h]
    by_cases h2 : 0 ≤ v.f2 ∧ v.f2 ≤ 1099511627776
    · rw [decide_eq_true h2]
      simp only [if_true, Bool.true_and]
      by_cases h3 : v.f1.f0.length ≤ 64
      · rw [if_pos (by omega), decide_eq_true h3]
        unfold feed_all_api_Place.f
        have := places_ok v.f1.f0 hw v.f1.f0 0 k rfl hk
        rw [show ((0 : Nat) : Int) = 0 from rfl] at this
        rw [this]
        simp
      · rw [if_neg (by omega), decide_eq_false h3]
        simp
    · rw [decide_eq_false h2]
      simp
  · rw [if_neg h, decide_eq_false h]
    simp
def Short (n : Nat) (l : List S52) : Prop := ∀ v ∈ l, v.f1.f0.length ≤ n
theorem versions_ok (l : List S52) (hl : l.length ≤ 9223372036854775806) (N : Nat) (hN : N ≤ 9223372036854775806) (hS : Short N l) : ∀ (s : List S52) (i k : Nat), l.drop i = s → s.length + N < k → feed_all_api_Version.l0 k l (l.length : Int) (i : Int) = some (okAll i s) := by
  intro s
  induction s with
  | nil =>
    intro i k hs hk
    obtain ⟨k, rfl, _⟩ := succ_of hk
    have := drop_nil hs
    simp only [feed_all_api_Version.l0]
    rw [if_neg (by omega)]
    rfl
  | cons x s ih =>
    intro i k hs hk
    obtain ⟨k, rfl, hk'⟩ := succ_of hk
    obtain ⟨h1, h2, h3⟩ := drop_cons hs
    have hx := hS x (List.mem_of_getElem? h2)
    have hk2 : s.length + N < k := by simp at hk'; omega
    simp only [feed_all_api_Version.l0]
    rw [if_pos (by omega), if_pos (by omega), if_pos (by omega), rd52 h2, version_ok i k x (by omega) (by omega) (by omega)]
    simp only [Option.bind_some]
    rw [wrap_succ (by omega), ih (i + 1) k h3 hk2]
    simp only [okAll]
    cases h : okV i x <;> simp
theorem feedCheck_eq (l : List S52) (hl : l.length ≤ 9223372036854775806) (N : Nat) (hN : N ≤ 9223372036854775806) (hS : Short N l) (k : Nat) (hk : l.length + N < k) : feed_Check.f k l = some (chk l) := by
  unfold feed_Check.f feed_all_api_Version.f
  have := versions_ok l hl N hN hS l 0 k rfl hk
  rw [show ((0 : Nat) : Int) = 0 from rfl] at this
  rw [this]
  simp only [Option.bind_some, chk]
  cases okAll 0 l <;> rfl
theorem may_ok (l : List S60) (hl : l.length ≤ 9223372036854775806) : ∀ (s : List S60) (i k : Nat), l.drop i = s → i ≤ 65 → 2 * (65 - i) + 2 ≤ k → chalklineref35_may.l0 k (i : Int) l = some (decide (l.length ≤ 64) && s.all okP) := by
  intro s
  induction s with
  | nil =>
    intro i k hs hi hk
    obtain ⟨k, rfl, _⟩ := succ_of (show 1 < k by omega)
    obtain ⟨k, rfl, _⟩ := succ_of (show 0 < k by omega)
    have := drop_nil hs
    simp only [chalklineref35_may.l0]
    rw [if_neg (by omega)]
    simp only [chalklineref35_may.j1]
    simp
    omega
  | cons x s ih =>
    intro i k hs hi hk
    obtain ⟨k, rfl, _⟩ := succ_of (show 1 < k by omega)
    obtain ⟨k, rfl, _⟩ := succ_of (show 0 < k by omega)
    obtain ⟨h1, h2, h3⟩ := drop_cons hs
    simp only [chalklineref35_may.l0]
    rw [if_pos (by omega)]
    by_cases h65 : i < 65
    · rw [decide_eq_true (by omega : (i : Int) < 65)]
      simp only [chalklineref35_may.j1]
      rw [if_pos trivial, if_pos (by omega), if_pos (by omega), rd60 h2, wrap_succ (by omega), ih (i + 1) k h3 (by omega) (by omega)]
      simp only [List.all_cons, okP]
      by_cases a : x.f0 < 0
      · rw [if_pos a, decide_eq_false (show ¬ (0 ≤ x.f0 ∧ x.f0 ≤ 49 ∧ 0 ≤ x.f1 ∧ x.f1 ≤ 31) by omega)]; simp
      · rw [if_neg a]
        by_cases b : x.f0 ≥ 50
        · rw [if_pos b, decide_eq_false (show ¬ (0 ≤ x.f0 ∧ x.f0 ≤ 49 ∧ 0 ≤ x.f1 ∧ x.f1 ≤ 31) by omega)]; simp
        · rw [if_neg b]
          by_cases c : x.f1 < 0
          · rw [if_pos c, decide_eq_false (show ¬ (0 ≤ x.f0 ∧ x.f0 ≤ 49 ∧ 0 ≤ x.f1 ∧ x.f1 ≤ 31) by omega)]; simp
          · rw [if_neg c]
            by_cases d : x.f1 ≥ 32
            · rw [if_pos d, decide_eq_false (show ¬ (0 ≤ x.f0 ∧ x.f0 ≤ 49 ∧ 0 ≤ x.f1 ∧ x.f1 ≤ 31) by omega)]; simp
            · rw [if_neg d, decide_eq_true (by omega : 0 ≤ x.f0 ∧ x.f0 ≤ 49 ∧ 0 ≤ x.f1 ∧ x.f1 ≤ 31)]; simp
    · rw [decide_eq_false (by omega : ¬ (i : Int) < 65)]
      simp only [chalklineref35_may.j1]
      rw [if_neg (by decide), decide_eq_false (by omega : ¬ (l.length : Int) ≤ 64), decide_eq_false (by omega : ¬ l.length ≤ 64)]
      rfl
theorem mayW (l : List S60) (hl : l.length ≤ 9223372036854775806) (k : Nat) (hk : 132 ≤ k) : chalklineref35_may.f k l = some (okW l) := by
  have := may_ok l hl l 0 k rfl (by omega) (by omega)
  exact this
theorem refVersions_ok (l : List S52) (hl : l.length ≤ 9223372036854775806) (hS : Short 9223372036854775806 l) : ∀ (s : List S52) (i k : Nat), l.drop i = s → s.length + 132 < k → chalklineref35_Check.l0 k l (i : Int) = some (cond (okAll i s) 0 1) := by
  intro s
  induction s with
  | nil =>
    intro i k hs hk
    obtain ⟨k, rfl, _⟩ := succ_of hk
    have := drop_nil hs
    simp only [chalklineref35_Check.l0]
    rw [if_neg (by omega)]
    rfl
  | cons x s ih =>
    intro i k hs hk
    obtain ⟨k, rfl, hk'⟩ := succ_of hk
    obtain ⟨h1, h2, h3⟩ := drop_cons hs
    have hx := hS x (List.mem_of_getElem? h2)
    have hk2 : s.length + 132 < k := by simp at hk'; omega
    simp only [chalklineref35_Check.l0]
    rw [if_pos (by omega), if_pos (by omega), rd52 h2, wrap_succ (by omega), mayW x.f1.f0 hx k (by omega), ih (i + 1) k h3 hk2]
    simp only [Option.bind_some, okAll, okV]
    by_cases a : x.f0 = ((i + 1 : Nat) : Int)
    · rw [if_pos a, decide_eq_true (by omega : x.f0 = (i : Int) + 1)]
      by_cases b : x.f2 < 0
      · rw [if_pos b, decide_eq_false (show ¬ (0 ≤ x.f2 ∧ x.f2 ≤ 1099511627776) by omega)]; simp
      · rw [if_neg b]
        by_cases c : x.f2 > 1099511627776
        · rw [if_pos c, decide_eq_false (show ¬ (0 ≤ x.f2 ∧ x.f2 ≤ 1099511627776) by omega)]; simp
        · rw [if_neg c, decide_eq_true (by omega : 0 ≤ x.f2 ∧ x.f2 ≤ 1099511627776)]
          cases okW x.f1.f0 <;> simp
    · rw [if_neg a, decide_eq_false (show ¬ x.f0 = (i : Int) + 1 by omega)]; simp
theorem few_ok (l : List S52) (hl : l.length ≤ 9223372036854775806) : ∀ (s : List S52) (i k : Nat), l.drop i = s → i ≤ 30 → 2 * (30 - i) + 2 ≤ k → ∃ b, chalklineref35_Few.l0 k l (i : Int) = some b ∧ (b = true → l.length ≤ 20 ∧ Short 70 s) := by
  intro s
  induction s with
  | nil =>
    intro i k hs hi hk
    obtain ⟨k, rfl, _⟩ := succ_of (show 1 < k by omega)
    obtain ⟨k, rfl, _⟩ := succ_of (show 0 < k by omega)
    have := drop_nil hs
    simp only [chalklineref35_Few.l0]
    rw [if_neg (by omega)]
    simp only [chalklineref35_Few.j1]
    exact ⟨_, by rw [if_neg (by decide)], fun h => ⟨by have := of_decide_eq_true h; omega, fun v hv => by cases hv⟩⟩
  | cons x s ih =>
    intro i k hs hi hk
    obtain ⟨k, rfl, _⟩ := succ_of (show 1 < k by omega)
    obtain ⟨k, rfl, _⟩ := succ_of (show 0 < k by omega)
    obtain ⟨h1, h2, h3⟩ := drop_cons hs
    simp only [chalklineref35_Few.l0]
    rw [if_pos (by omega)]
    by_cases h30 : i < 30
    · rw [decide_eq_true (by omega : (i : Int) < 30)]
      simp only [chalklineref35_Few.j1]
      rw [if_pos trivial, if_pos (by omega), if_pos (by omega), rd52 h2, wrap_succ (by omega)]
      by_cases a : (x.f1.f0.length : Int) > 70
      · rw [if_pos a]; exact ⟨false, rfl, fun h => by cases h⟩
      · rw [if_neg a]
        obtain ⟨b, hb, hb2⟩ := ih (i + 1) k h3 (by omega) (by omega)
        refine ⟨b, hb, fun h => ⟨(hb2 h).1, fun v hv => ?_⟩⟩
        rcases List.mem_cons.1 hv with rfl | hv
        · omega
        · exact (hb2 h).2 v hv
    · rw [decide_eq_false (by omega : ¬ (i : Int) < 30)]
      simp only [chalklineref35_Few.j1]
      rw [if_neg (by decide)]
      exact ⟨_, rfl, fun h => by have := of_decide_eq_true h; omega⟩
theorem few_eq (l : List S52) (hl : l.length ≤ 9223372036854775806) (k : Nat) (hk : 62 ≤ k) : ∃ b, chalklineref35_Few.f k l = some b ∧ (b = true → l.length ≤ 20 ∧ Short 70 l) :=
  few_ok l hl l 0 k rfl (by omega) (by omega)
theorem same_refl (l : List S60) (hl : l.length ≤ 9223372036854775806) : ∀ (s : List S60) (i k : Nat), l.drop i = s → s.length < k → chalklineref04_Same.l0 k (i : Int) l l = some true := by
  intro s
  induction s with
  | nil =>
    intro i k hs hk
    obtain ⟨k, rfl, _⟩ := succ_of hk
    have := drop_nil hs
    simp only [chalklineref04_Same.l0]
    rw [if_neg (by omega)]
  | cons x s ih =>
    intro i k hs hk
    obtain ⟨k, rfl, hk'⟩ := succ_of hk
    obtain ⟨h1, h2, h3⟩ := drop_cons hs
    simp only [chalklineref04_Same.l0]
    rw [if_pos (by omega), if_pos (by omega), if_pos (by omega), wrap_succ (by omega), ih (i + 1) k h3 (by simp at hk'; omega)]
    simp
theorem same_eq (l : List S60) (hl : l.length ≤ 9223372036854775806) (k : Nat) (hk : l.length < k) : chalklineref04_Same.f k l l = some true := by
  unfold chalklineref04_Same.f
  rw [if_pos rfl]
  exact same_refl l hl l 0 k rfl hk
theorem moves_refl (l : List S64) (hl : l.length ≤ 9223372036854775806) : ∀ (s : List S64) (i k : Nat), l.drop i = s → s.length < k → chalklineref04_Moves.l0 k l l (i : Int) = some true := by
  intro s
  induction s with
  | nil =>
    intro i k hs hk
    obtain ⟨k, rfl, _⟩ := succ_of hk
    have := drop_nil hs
    simp only [chalklineref04_Moves.l0]
    rw [if_neg (by omega)]
  | cons x s ih =>
    intro i k hs hk
    obtain ⟨k, rfl, hk'⟩ := succ_of hk
    obtain ⟨h1, h2, h3⟩ := drop_cons hs
    simp only [chalklineref04_Moves.l0]
    rw [if_pos (by omega), if_pos (by omega), if_pos (by omega), wrap_succ (by omega), ih (i + 1) k h3 (by simp at hk'; omega)]
    simp
theorem moves_eq (l : List S64) (hl : l.length ≤ 9223372036854775806) (k : Nat) (hk : l.length < k) : chalklineref04_Moves.f k l l = some true := by
  unfold chalklineref04_Moves.f
  rw [if_pos rfl]
  exact moves_refl l hl l 0 k rfl hk
theorem clients_eq (a : Int) (l : List S60) (hl : l.length ≤ 9223372036854775806) (k : Nat) (hk : l.length < k) : chalklineref35_Clients.f k a l a l = some true := by
  unfold chalklineref35_Clients.f
  simp [same_eq l hl k hk]
def diffGo (n : Nat) : List S60 → List S60 → List S64
  | a :: xs, b :: ys => if a.f0 = b.f0 ∧ a.f1 = b.f1 then diffGo (n + 1) xs ys else ⟨n, b⟩ :: diffGo (n + 1) xs ys
  | _, _ => []
theorem diffGo_len : ∀ (n : Nat) (a b : List S60), (diffGo n a b).length ≤ b.length
  | _, [], _ => by simp [diffGo]
  | _, _ :: _, [] => by simp [diffGo]
  | n, a :: xs, b :: ys => by
    simp only [diffGo]
    have := diffGo_len (n + 1) xs ys
    split <;> simp <;> omega
theorem diff_loop (a b : List S60) (hab : a.length = b.length) (hl : b.length ≤ 5864062014805) : ∀ (s t : List S60) (i k : Nat) (acc : List S64), a.drop i = s → b.drop i = t → acc.length + t.length ≤ b.length → t.length < k →
    week_Diff.l0 k acc 0 b (b.length : Int) (i : Int) a = some (acc ++ diffGo i s t, 0) := by
  intro s t
  induction t generalizing s with
  | nil =>
    intro i k acc hs ht hacc hk
    obtain ⟨k, rfl, _⟩ := succ_of hk
    have := drop_nil ht
    simp only [week_Diff.l0]
    rw [if_neg (by omega)]
    cases s <;> simp [diffGo]
  | cons y t ih =>
    intro i k acc hs ht hacc hk
    obtain ⟨k, rfl, hk'⟩ := succ_of hk
    obtain ⟨h1, h2, h3⟩ := drop_cons ht
    match s, hs with
    | [], hs => have := drop_nil hs; omega
    | x :: s, hs =>
      obtain ⟨g1, g2, g3⟩ := drop_cons hs
      simp only [List.length_cons] at hk' hacc
      simp only [week_Diff.l0]
      rw [if_pos (by omega), if_pos (by omega), if_pos (by omega), if_pos (by omega), rd60 h2, rd60 g2, wrap_succ (by omega)]
      by_cases e : x.f0 = y.f0 ∧ x.f1 = y.f1
      · rw [if_neg (by simp [e.1, e.2]), ih s (i + 1) k acc g3 h3 (by omega) (by omega)]
        simp only [diffGo]
        rw [if_pos e]
      · rw [if_pos (by simp; omega), if_pos (by omega), ih s (i + 1) k _ g3 h3 (by simp; omega) (by omega)]
        simp only [diffGo]
        rw [if_neg e]
        simp
theorem diff_eq (a b : List S60) (hl : b.length ≤ 5864062014805) (k : Nat) (hk : b.length < k) : week_Diff.f k a b = some (if a.length = b.length then (diffGo 0 a b, 0) else ([], 1)) := by
  unfold week_Diff.f
  by_cases h : a.length = b.length
  · rw [if_pos (by omega), if_pos h]
    exact diff_loop a b h hl a b 0 k [] rfl rfl (by simp) hk
  · rw [if_neg (by omega), if_neg h]
def applyGo (n : Nat) (last : Int) : List S64 → List S60 → List S60 × Int
  | [], x => (x, 0)
  | m :: l, x => if m.f0 ≤ last ∨ m.f0 ≥ n then ([], 1) else applyGo n m.f0 l (x.set m.f0.toNat m.f1)
theorem apply_loop (w : List S60) (l : List S64) (hl : l.length ≤ 9223372036854775806) : ∀ (s : List S64) (i k : Nat) (last : Int) (x : List S60), l.drop i = s → -1 ≤ last → x.length = w.length → s.length < k →
    week_Apply.l0 k last l (l.length : Int) (i : Int) w x = some (applyGo w.length last s x) := by
  intro s
  induction s with
  | nil =>
    intro i k last x hs h0 hx hk
    obtain ⟨k, rfl, _⟩ := succ_of hk
    have := drop_nil hs
    simp only [week_Apply.l0]
    rw [if_neg (by omega)]
    rfl
  | cons y s ih =>
    intro i k last x hs h0 hx hk
    obtain ⟨k, rfl, hk'⟩ := succ_of hk
    obtain ⟨h1, h2, h3⟩ := drop_cons hs
    simp only [List.length_cons] at hk'
    simp only [week_Apply.l0]
    rw [if_pos (by omega), if_pos (by omega), if_pos (by omega), rd64 h2, wrap_succ (by omega)]
    simp only [applyGo]
    by_cases a : y.f0 ≤ last
    · rw [if_pos a, if_pos (.inl a)]
    · rw [if_neg a]
      by_cases b : y.f0 ≥ (w.length : Int)
      · rw [if_pos b, if_pos (.inr b)]
      · rw [if_neg b, if_pos (by omega), if_pos (by omega), if_neg (by omega)]
        exact ih (i + 1) k y.f0 _ h3 (by omega) (by rw [List.length_set]; exact hx) (by omega)
theorem apply_eq (w : List S60) (l : List S64) (hw : w.length < 8796093022208) (hl : l.length ≤ 9223372036854775806) (k : Nat) (hk : l.length < k) : week_Apply.f k w l = some (applyGo w.length (-1) l w) := by
  unfold week_Apply.f slices_Clone_api_Place_api_Place.f
  rw [if_pos hw]
  simp only [Option.bind_some]
  exact apply_loop w l hl l 0 k (-1) w rfl (by omega) rfl hk
abbrev RepT := Int × Int × Int × Int × (List (S60)) × (List (S64)) × Int
def lastOf (l : List S52) : S52 := rd_T52 l ((l.length : Int) - 1)
def replyS (l : List S52) (no dst : Int) : RepT :=
  if ¬ chk l = 0 ∨ ¬ (0 ≤ no ∧ no ≤ 1099511627776) ∨ ¬ (0 ≤ dst ∧ dst ≤ 7) then (0, 0, 0, 0, [], [], 1)
  else if no ≥ (l.length : Int) then (0, 0, 0, 0, [], [], 341)
  else if no > 0 ∧ (rd_T52 l (no - 1)).f1.f0.length = (lastOf l).f1.f0.length then (2, dst, no, (lastOf l).f0, [], diffGo 0 (rd_T52 l (no - 1)).f1.f0 (lastOf l).f1.f0, 0)
  else (1, dst, 0, (lastOf l).f0, (lastOf l).f1.f0, [], 0)
theorem chk_or (l : List S52) : chk l = 0 ∨ chk l = 1 := by unfold chk; cases okAll 0 l <;> simp
theorem short_rd {n : Nat} {l : List S52} (h : Short n l) (i : Int) : (rd_T52 l i).f1.f0.length ≤ n := by
  unfold rd_T52
  rw [List.getD_eq_getElem?_getD]
  cases e : l[i.toNat]? with
  | none => simp [z52, z25]
  | some v => exact h v (List.mem_of_getElem? e)
theorem reply_j (l : List S52) (hl : l.length ≤ 1000) (N : Nat) (hN : N ≤ 1000) (hS : Short N l) (no dst : Int) (h0 : 0 ≤ no) (k : Nat) (hk : N + 1 < k) (ht : ¬ no ≥ (l.length : Int)) :
    feed_Reply.j0 k l no dst 0 false 0 0 0 0 = some (if no > 0 ∧ (rd_T52 l (no - 1)).f1.f0.length = (lastOf l).f1.f0.length then (2, dst, no, (lastOf l).f0, [], diffGo 0 (rd_T52 l (no - 1)).f1.f0 (lastOf l).f1.f0, 0)
      else (1, dst, 0, (lastOf l).f0, (lastOf l).f1.f0, [], 0)) := by
  obtain ⟨k, rfl, hk'⟩ := succ_of hk
  have hlast : (lastOf l).f1.f0.length ≤ N := short_rd hS _
  simp only [feed_Reply.j0]
  rw [if_neg (by decide), if_neg ht, wrap_pred (by omega) (by omega), if_pos (by omega), if_pos (by omega)]
  rw [show rd_T52 l ((l.length : Int) - 1) = lastOf l from rfl]
  by_cases a : no > 0
  · rw [if_pos a, wrap_pred (by omega) (by omega), if_pos (by omega), if_pos (by omega), diff_eq _ _ (by omega) k (by omega)]
    simp only [Option.bind_some]
    by_cases b : (rd_T52 l (no - 1)).f1.f0.length = (lastOf l).f1.f0.length
    · simp only [if_pos b, if_pos (And.intro a b), if_true]
    · simp only [if_neg b, if_neg (fun z : no > 0 ∧ (rd_T52 l (no - 1)).f1.f0.length = (lastOf l).f1.f0.length => b z.2)]
      unfold slices_Clone_api_Place_api_Place.f
      rw [if_neg (by decide), if_pos (by omega)]; rfl
  · rw [if_neg a, if_neg (fun z => a z.1)]
    unfold slices_Clone_api_Place_api_Place.f
    rw [if_pos (by omega)]; rfl
theorem reply_eq (l : List S52) (hl : l.length ≤ 1000) (N : Nat) (hN : N ≤ 1000) (hS : Short N l) (no dst : Int) (k : Nat) (hk : l.length + N + 1 < k) : feed_Reply.f k l no dst = some (replyS l no dst) := by
  unfold feed_Reply.f
  rw [feedCheck_eq l (by omega) N (by omega) hS k (by omega), feed_Take.bounds, feed_Take.bounds]
  simp only [Option.bind_some]
  have hbad : feed_Reply.j0 k l no dst 0 true 0 0 0 0 = some (0, 0, 0, 0, [], [], 1) := by
    obtain ⟨k, rfl, _⟩ := succ_of (show 0 < k by omega)
    simp [feed_Reply.j0]
  unfold replyS
  by_cases a : chk l = 0
  · rw [if_pos a]
    by_cases b : 0 ≤ no ∧ no ≤ 1099511627776
    · rw [decide_eq_true b, if_pos rfl]
      by_cases c : 0 ≤ dst ∧ dst ≤ 7
      · rw [decide_eq_true c, if_neg (by simp only [a, b, c]; simp)]
        by_cases d : no ≥ (l.length : Int)
        · rw [if_pos d]
          obtain ⟨k, rfl, _⟩ := succ_of (show 0 < k by omega)
          simp only [feed_Reply.j0, Bool.not_true]
          rw [if_neg (by decide), if_pos d]
        · rw [if_neg d]
          exact reply_j l hl N hN hS no dst b.1 k (by omega) d
      · rw [decide_eq_false c, if_pos (.inr (.inr c))]; exact hbad
    · rw [decide_eq_false b, if_neg (by decide), if_pos (.inr (.inl b))]; exact hbad
  · rw [if_neg a, if_pos (.inl a)]
    rcases chk_or l with e | e
    · exact absurd e a
    · rw [e]; exact hbad
abbrev TakT := Int × (List S60) × Int
def takeS (n0 : Int) (l1 : List S60) (m0 m2 m3 : Int) (l4 : List S60) (l5 : List S64) : TakT :=
  if (m0 = 1 ∨ m0 = 2) ∧ (0 ≤ n0 ∧ n0 ≤ 1099511627776) ∧ (1 ≤ m3 ∧ m3 ≤ 1099511627776) then
    if m3 ≤ n0 then (0, [], 341)
    else if m0 = 1 then (m3, l4, 0)
    else if m2 = n0 then (if (applyGo l1.length (-1) l5 l1).2 = 0 then (m3, (applyGo l1.length (-1) l5 l1).1, 0) else (0, [], (applyGo l1.length (-1) l5 l1).2))
    else (0, [], 350)
  else (0, [], 1)
theorem take_eq (k : Nat) (n0 : Int) (l1 : List S60) (m0 m1 m2 m3 : Int) (l4 : List S60) (l5 : List S64) (h1 : l1.length < 8796093022208) (h4 : l4.length < 8796093022208) (h5 : l5.length ≤ 9223372036854775806) (hk : l5.length < k) :
    feed_Take.f k n0 l1 m0 m1 m2 m3 l4 l5 = some (takeS n0 l1 m0 m2 m3 l4 l5) := by
  unfold feed_Take.f feed_Take.eff takeS
  rw [apply_eq l1 l5 h1 h5 k hk]
  simp only [slices_Clone_api_Place_api_Place.f, if_pos h4, Option.bind_some]
  generalize applyGo l1.length (-1) l5 l1 = z
  by_cases m : m0 = 1 ∨ m0 = 2
  · rw [if_pos m]
    by_cases a : 0 ≤ n0
    · rw [if_pos a]
      by_cases b : n0 ≤ 1099511627776
      · rw [if_pos b]
        by_cases c : 1 ≤ m3
        · rw [if_pos c]
          by_cases d : m3 ≤ 1099511627776
          · rw [if_pos d, if_pos (show (m0 = 1 ∨ m0 = 2) ∧ (0 ≤ n0 ∧ n0 ≤ 1099511627776) ∧ (1 ≤ m3 ∧ m3 ≤ 1099511627776) from ⟨m, ⟨a, b⟩, c, d⟩)]
            by_cases f : m3 ≤ n0
            · rw [if_pos f, if_pos f]
            · rw [if_neg f, if_neg f]
              by_cases g : m0 = 1
              · simp [g]
              · by_cases o : m2 = n0
                · by_cases hz : z.2 = 0
                  · simp [g, o, hz]
                  · simp [g, o, hz]
                · simp [g, o]
          · rw [if_neg d, if_neg (fun z => d z.2.2.2)]
        · rw [if_neg c, if_neg (fun z => c z.2.2.1)]
      · rw [if_neg b, if_neg (fun z => b z.2.1.2)]
    · rw [if_neg a, if_neg (fun z => a z.2.1.1)]
  · rw [if_neg m, if_neg (fun z => m z.1)]
theorem okAll_get : ∀ (l : List S52) (n i : Nat) (v : S52), okAll n l = true → l[i]? = some v → okV ((n + i : Nat) : Int) v = true
  | [], _, _, _, _, h => by simp at h
  | x :: l, n, 0, v, h, hv => by
    simp only [List.getElem?_cons_zero, Option.some.injEq] at hv
    subst hv
    simp only [okAll, Bool.and_eq_true] at h
    exact h.1
  | x :: l, n, i + 1, v, h, hv => by
    simp only [okAll, Bool.and_eq_true] at h
    rw [List.getElem?_cons_succ] at hv
    have := okAll_get l (n + 1) i v h.2 hv
    rwa [show n + 1 + i = n + (i + 1) by omega] at this
theorem chk_get {l : List S52} (h : chk l = 0) {i : Nat} {v : S52} (hv : l[i]? = some v) : v.f0 = (i : Int) + 1 ∧ v.f1.f0.length ≤ 64 := by
  have h' : okAll 0 l = true := by unfold chk at h; cases e : okAll 0 l <;> simp_all
  have := okAll_get l 0 i v h' hv
  simp only [okV, okW, Bool.and_eq_true, decide_eq_true_eq, Nat.zero_add] at this
  exact ⟨this.1, this.2.2.1⟩
theorem chk_last {l : List S52} (h : chk l = 0) (hl : 0 < l.length) : (lastOf l).f0 = (l.length : Int) ∧ (lastOf l).f1.f0.length ≤ 64 := by
  have e : l[l.length - 1]? = some (l[l.length - 1]'(by omega)) := List.getElem?_eq_getElem (by omega)
  have h2 := chk_get h e
  have h3 : lastOf l = l[l.length - 1]'(by omega) := by
    unfold lastOf
    rw [show (l.length : Int) - 1 = ((l.length - 1 : Nat) : Int) by omega]
    exact rd52 e
  rw [h3]
  exact ⟨by omega, h2.2⟩
theorem s60_ext {a b : S60} (h0 : a.f0 = b.f0) (h1 : a.f1 = b.f1) : a = b := by
  cases a; cases b; simp_all
theorem apply_diff_go : ∀ (xs ys pre x : List S60) (last : Int), xs.length = ys.length → x = pre ++ xs → last < (pre.length : Int) → applyGo x.length last (diffGo pre.length xs ys) x = (pre ++ ys, 0)
  | [], [], pre, x, last, _, hx, _ => by subst hx; simp [diffGo, applyGo]
  | [], y :: ys, _, _, _, h, _, _ => by simp at h
  | a :: xs, [], _, _, _, h, _, _ => by simp at h
  | a :: xs, b :: ys, pre, x, last, h, hx, hlast => by
    simp only [List.length_cons] at h
    simp only [diffGo]
    by_cases e : a.f0 = b.f0 ∧ a.f1 = b.f1
    · rw [if_pos e]
      have ih := apply_diff_go xs ys (pre ++ [a]) x last (by omega) (by rw [hx]; simp) (by simp; omega)
      rw [List.length_append, List.length_singleton] at ih
      rw [ih, s60_ext e.1 e.2]
      simp
    · rw [if_neg e]
      simp only [applyGo]
      rw [if_neg (by rw [hx]; simp; omega), Int.toNat_natCast]
      have hset : x.set pre.length b = pre ++ b :: xs := by
        rw [hx, List.set_append_right _ _ (Nat.le_refl _)]
        simp
      have ih := apply_diff_go xs ys (pre ++ [b]) (x.set pre.length b) (pre.length : Int) (by omega) (by rw [hset]; simp) (by simp; omega)
      rw [List.length_append, List.length_singleton, List.length_set] at ih
      rw [ih]
      simp
theorem apply_diff (a b : List S60) (h : a.length = b.length) : applyGo a.length (-1) (diffGo 0 a b) a = (b, 0) := by
  have := apply_diff_go a b [] a (-1) h rfl (by simp)
  simpa using this
end Go.Proofs.Ytfdhnmijaobbdaa.S
end
section
namespace Go.Proofs.Ytfdhnmijaobbdaa.Pure
open Go.RowKit Go.Proofs.YtfdhnmijaobbdaaW.PrintWords Go.Proofs.YtfdhnmijaobbdaaW.PrintLast Go.Proofs.YtfdhnmijaobbdaaW.PrintMore Go.Proofs.Ytfdhnmijaobbdaa.S
theorem u8_of {a : Int} (h : (Lit.int .u8 a).wf = true) : 0 ≤ a ∧ a ≤ 255 := by
  have h' := h
  simp [Lit.wf, IntKind.min, IntKind.max, IntKind.signed, IntKind.bits] at h'
  omega
theorem own_no {a : Int} {n : Nat} (ha : 0 ≤ a ∧ a ≤ 255) (hn : 2 ≤ n) (hn2 : n ≤ 20) : ∃ o : Int, wrap64 (1 + (Int.tmod (wrap64 a) (wrap64 ((n : Int) - 1)))) = o ∧ 1 ≤ o ∧ o < n := by
  have e1 : wrap64 a = a := by unfold wrap64; omega
  have e2 : wrap64 ((n : Int) - 1) = (n : Int) - 1 := by unfold wrap64; omega
  have e3 : Int.tmod a ((n : Int) - 1) = a % ((n : Int) - 1) := Int.tmod_eq_emod_of_nonneg ha.1
  have h1 := Int.emod_nonneg a (show (n : Int) - 1 ≠ 0 by omega)
  have h2 := Int.emod_lt_of_pos a (show 0 < (n : Int) - 1 by omega)
  refine ⟨1 + a % ((n : Int) - 1), ?_, by omega, by omega⟩
  rw [e1, e2, e3]
  unfold wrap64; omega
theorem takeS_whole {n0 : Int} {l1 : List S60} {m2 m3 : Int} {l4 : List S60} {l5 : List S64} (h1 : 0 ≤ n0 ∧ n0 ≤ 1099511627776) (h2 : 1 ≤ m3 ∧ m3 ≤ 1099511627776) (h : ¬ m3 ≤ n0) : takeS n0 l1 1 m2 m3 l4 l5 = (m3, l4, 0) := by
  unfold takeS; rw [if_pos ⟨Or.inl rfl, h1, h2⟩, if_neg h, if_pos rfl]
theorem FeedDifference : ∀ (l0 : List (S52)) (a1 : Int), (l0.length ≤ maxLen ∧ ∀ z_ ∈ l0, wf52 z_) → (Lit.int .u8 a1).wf = true → l0.length * 48 ≤ 140737488351232 → ∃ k, chalklinelaw35_FeedDifference.f k l0 a1 = some true := by
  intro l0 a1 hl w1 _
  have u1 := u8_of w1
  refine ⟨1000, ?_⟩
  unfold chalklinelaw35_FeedDifference.f
  simp only [chalklinelaw35_live.f, Option.bind_some, if_true]
  have hl1 : l0.length ≤ 9223372036854775806 := by have := hl.1; unfold maxLen at this; omega
  obtain ⟨b, hb, hb2⟩ := few_eq l0 hl1 1000 (by omega)
  rw [hb]
  simp only [Option.bind_some]
  cases b with
  | false => rfl
  | true =>
    obtain ⟨hlen, hS⟩ := hb2 rfl
    rw [if_pos rfl, feedCheck_eq l0 hl1 70 (by omega) hS 1000 (by omega)]
    simp only [Option.bind_some]
    by_cases hc : chk l0 = 0
    · rw [if_pos hc]
      by_cases hn : (l0.length : Int) < 2
      · rw [decide_eq_true hn]; rfl
      · rw [decide_eq_false hn, show (1000 : Nat) = 999 + 1 from rfl]
        simp only [chalklinelaw35_FeedDifference.j0]
        obtain ⟨o, ho, o1, o2⟩ := own_no u1 (show 2 ≤ l0.length by omega) hlen
        have e3 : wrap64 (o - 1) = o - 1 := by unfold wrap64; omega
        have e4 : wrap64 ((l0.length : Int) - 1) = (l0.length : Int) - 1 := by unfold wrap64; omega
        rw [if_neg (by decide), if_neg (by omega), ho, e3, if_pos (by omega), if_pos (by omega), reply_eq l0 (by omega) 70 (by omega) hS o 0 999 (by omega), reply_eq l0 (by omega) 70 (by omega) hS 0 0 999 (by omega)]
        simp only [Option.bind_some]
        obtain ⟨g1, g2⟩ := chk_last hc (by omega)
        have hf : (rd_T52 l0 (o - 1)).f1.f0.length ≤ 70 := short_rd hS _
        have hw : replyS l0 0 0 = (1, 0, 0, (l0.length : Int), (lastOf l0).f1.f0, [], 0) := by
          unfold replyS
          rw [if_neg (by omega), if_neg (by omega), if_neg (fun z => absurd z.1 (by decide)), g1]
        have hlast : rd_T52 l0 ((l0.length : Int) - 1) = lastOf l0 := rfl
        by_cases he : (rd_T52 l0 (o - 1)).f1.f0.length = (lastOf l0).f1.f0.length
        · have hr : replyS l0 o 0 = (2, 0, o, (l0.length : Int), [], diffGo 0 (rd_T52 l0 (o - 1)).f1.f0 (lastOf l0).f1.f0, 0) := by
            unfold replyS
            rw [if_neg (by omega), if_neg (by omega), if_pos ⟨by omega, he⟩, g1]
          have hd := diffGo_len 0 (rd_T52 l0 (o - 1)).f1.f0 (lastOf l0).f1.f0
          have ht : takeS o (rd_T52 l0 (o - 1)).f1.f0 2 o (l0.length : Int) [] (diffGo 0 (rd_T52 l0 (o - 1)).f1.f0 (lastOf l0).f1.f0) = ((l0.length : Int), (lastOf l0).f1.f0, 0) := by
            unfold takeS
            rw [if_pos ⟨Or.inr rfl, ⟨by omega, by omega⟩, by omega, by omega⟩, if_neg (by omega), if_neg (by decide), if_pos rfl, apply_diff _ _ he]
            rfl
          rw [hr, hw, take_eq _ _ _ _ _ _ _ _ _ (by omega) (by simp) (by simp; omega) (by simp; omega), take_eq _ _ _ _ _ _ _ _ _ (by omega) (by simp; omega) (by simp) (by simp)]
          simp only [Option.bind_some, if_true]
          rw [ht, takeS_whole ⟨by omega, by omega⟩ ⟨by omega, by omega⟩ (by omega)]
          simp only [if_true]
          rw [clients_eq _ _ (by omega) _ (by omega)]
          simp only [Option.bind_some, Bool.not_true]
          rw [show (999 : Nat) = 998 + 1 from rfl]
          simp only [chalklinelaw35_FeedDifference.j1]
          rw [if_neg (by decide), e4, if_pos (by omega), if_pos (by omega), hlast, if_pos (by omega), diff_eq _ _ (by omega) _ (by omega), if_pos he]
          simp only [Option.bind_some, if_true]
          rw [moves_eq _ (by omega) _ (by omega)]
          rfl
        · have hr : replyS l0 o 0 = (1, 0, 0, (l0.length : Int), (lastOf l0).f1.f0, [], 0) := by
            unfold replyS
            rw [if_neg (by omega), if_neg (by omega), if_neg (fun z => he z.2), g1]
          rw [hr, hw, take_eq _ _ _ _ _ _ _ _ _ (by omega) (by simp; omega) (by simp) (by simp)]
          simp only [Option.bind_some, if_true]
          rw [takeS_whole ⟨by omega, by omega⟩ ⟨by omega, by omega⟩ (by omega)]
          simp only [if_true]
          rw [clients_eq _ _ (by omega) _ (by omega)]
          simp only [Option.bind_some, Bool.not_true]
          rw [show (999 : Nat) = 998 + 1 from rfl]
          simp only [chalklinelaw35_FeedDifference.j1]
          rw [if_neg (by decide), e4, if_pos (by omega), if_pos (by omega), hlast, if_neg (by omega)]
          rfl
    · rw [if_neg hc]; rfl
end Go.Proofs.Ytfdhnmijaobbdaa.Pure
end
section
namespace Go.Proofs.Ytfdhnmijaobbdaa.feedDifference
open Go.ChangeShapes Go.WideShapes Go.ChangeAt Go.RowKit Go.Proofs.YtfdhnmijaobbdaaW.PrintWords Go.Proofs.YtfdhnmijaobbdaaW.PrintLast Go.Proofs.YtfdhnmijaobbdaaW.PrintMore Go.Proofs.Ytfdhnmijaobbdaa.S
open Go.ChangeMaps (open_string shut_string)
set_option linter.unusedVariables false
theorem own : ownKnob Try.prog.godebug = none := by kernel_rfl
theorem laidOut : laidOutB Try.prog = true := by kernel_rfl
set_option maxRecDepth 100000 in
theorem lifted (os : Os) (started : os.Started) (H : Type) (enc : TypeId × Value → H) :
    ReturnsInHanded {} Try.checked os 8 .any (Rows.feedDifferenceSpec.pre6 enc Try.prog Try.f8 Rows.feedDifferenceRow.domain false) (Rows.feedDifferenceSpec.post enc Try.prog Try.f8 false true false false) := by
  refine returnsInHanded_of_change_sized (C := Try.checked) own started (by kernel_rfl) Try.func8
    (ChangeSpec.witness6 (enc := enc) (C := Try.checked) false ⟨#[], #[.slice none 0 0, .int .u8 0], []⟩ 8 (by kernel_rfl) (by kernel_rfl) (by kernel_rfl) (by kernel_rfl)) ?_
  intro W base args ds gs before hval0 hW hcnd hsz0 _
  have hsz : (DataW.weightsEach Try.prog (Try.f8.params.toList ++ Rows.feedDifferenceSpec.plain.varTypes Try.prog) (ds ++ gs)).all (· ≤ reachBytes) = true := hsz0
  have hval : ∀ (j : Nat) t v, Try.f8.params[j]? = some t → args[j]? = some v → Value.okWide Try.prog W .any base t v := hval0
  have hW' := hW
  obtain ⟨p, q, hA0, hV, rfl, hfz, hnd⟩ := hW
  have hA : DataW.TrodAll enc Try.prog W 0 (fun _ => true) true Try.f8.params.toList args.toList ds p := hA0
  rw [Try.params8] at hA hval hsz
  obtain ⟨v0, vs0, d0, ds0, p0, q0, hargs, rfl, rfl, h0, r0⟩ := trodAll_cons hA
  obtain ⟨v1, vs1, d1, ds1, p1, q1, rfl, rfl, rfl, h1, r1⟩ := trodAll_cons r0
  obtain ⟨rfl, rfl, rfl⟩ := trodAll_nil r1
  obtain rfl : args = #[v0, v1] := by cases args; simp_all
  obtain ⟨rfl, rfl⟩ := trodVars_none hV
  have k0 := h0
  have lt0 : ∀ x ∈ p0, x.block < W.heap.size := by obtain ⟨m, hm⟩ := k0; exact DataW.trod_lt m _ _ _ hm
  obtain ⟨A0, c0, l0, rfl, hc0, hr0, w0⟩ := arg_slice Try.underlying22 (opens_slice Try.underlying22 (by kernel_rfl) opens52) (hval 0 22 v0 rfl rfl) h0
  have y0 : l0.length * 48 ≤ 140737488351232 := sized_any hsz (j := 0) (t := 22) rfl rfl Try.underlying22 (by kernel_rfl) k0
  obtain ⟨a1, rfl, rfl, rfl, w1⟩ := open_int Try.underlying5 (hval 1 5 v1 rfl rfl) h1
  clear hA0 hval0 hsz0 hsz
  obtain ⟨k, hp⟩ := Pure.FeedDifference l0 a1 w0 w1 y0
  refine (chalklinelaw35_FeedDifference.calls k _ _ l0 a1 true W hr0 hc0 hp).mono fun e W' ⟨he, bel⟩ => ?_
  subst he
  exact ⟨_, rfl, _, _, _, [], _, [], hW', trodAll_mk1 (shut_bool Try.underlying4 _), (trodAll_cons_mk (Below.trod laidOut (by kernel_rfl) (of_decide_eq_true (by kernel_rfl)) k0 bel lt0) (trodAll_cons_mk (shut_int Try.underlying5 w1) trodAll_mk0)), rfl, bel.frame _, fun h => by cases h⟩
theorem over : Rows.feedDifferenceRow.holds Try.pinned (OpenSpec.ofChange Rows.feedDifferenceSpec) :=
  OpenClaim.holds_of_wide 8 Try.f8 rfl rfl rfl rfl rfl rfl rfl ⟨rfl, rfl, rfl, rfl, rfl⟩ rfl rfl rfl rfl rfl (by kernel_rfl) Try.func8 (by kernel_rfl)
    (of_decide_eq_true (by kernel_rfl)) (by unfold Func.isWrapper; first | (rw [if_pos (by decide +kernel)]; kernel_rfl) | (rw [if_neg (by decide +kernel)]; exact ⟨rfl, rfl⟩))
    (fun os started H enc _ => lifted os started H enc)
theorem proved : Rows.FeedDifferenceSaid := over
#print axioms proved
end Go.Proofs.Ytfdhnmijaobbdaa.feedDifference
namespace Go.Proofs.Ytfdhnmijaobbdaa
theorem feedDifference_holds : Rows.FeedDifferenceSaid := feedDifference.proved
end Go.Proofs.Ytfdhnmijaobbdaa
end
