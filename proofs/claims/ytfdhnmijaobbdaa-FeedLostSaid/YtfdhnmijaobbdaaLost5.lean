/- feedLost_holds: part 5 of the proof: the plain functions, the walks of the program's functions and the laws about them. Conditions: those that each theorem states. -/
import Derived.Deep.Slices
import Derived.ChangeSame
import Derived.WideShapes
import Derived.OpenShut
import Derived.SizedLaws
import Derived.ProofKit
import Derived.WalkKit
import Derived.ShutString
import Derived.ChangeOld
import Derived.Below
import Derived.Test.YtfdhnmijaobbdaaLost1
import Derived.Test.YtfdhnmijaobbdaaLost2
import Derived.Test.YtfdhnmijaobbdaaLost3
import Derived.Test.YtfdhnmijaobbdaaLost4
section
namespace Go.Proofs.Ytfdhnmijaobbdaa.S
open Go.RowKit Go.Proofs.YtfdhnmijaobbdaaW.PrintWords Go.Proofs.YtfdhnmijaobbdaaW.PrintLast Go.Proofs.YtfdhnmijaobbdaaW.PrintMore
attribute [local go_sem] max2_int min2_int max_two min_two max_three min_three max_four min_four   -- for this text's walks alone
set_option linter.unusedVariables false
set_option linter.unusedSimpArgs false
def chalklinelaw35_FeedLost.j0 : Nat → List (S52) → Int → Int → Bool → Option (Bool)
  | 0, _, _, _, _ => none
  | k + 1, x0, x1, x2, x26 => if x26 = true then (some true) else (if (wrap64 ((x0.length : Int) - 1)) = 0 then (none) else ((feed_Reply.f k x0 (wrap64 (1 + (Int.tmod (wrap64 (x1)) (wrap64 ((x0.length : Int) - 1))))) 0).bind fun bt429 => ((feed_Take.f k (wrap64 (x2)) ([] : List (S60)) bt429.1 bt429.2.1 bt429.2.2.1 bt429.2.2.2.1 bt429.2.2.2.2.1 bt429.2.2.2.2.2.1).bind fun bt442 => (if bt429.2.2.2.2.2.2 = 0 then (if (wrap64 (x2)) ≥ (x0.length : Int) then (some (bt442.2.2 == 341)) else (if bt429.1 = 2 then (if bt429.2.2.1 = (wrap64 (x2)) then (some true) else (some (bt442.2.2 == 350))) else (some (bt442.2.2 == 0)))) else (some false)))))
def chalklinelaw35_FeedLost.f (k : Nat) (l0 : List (S52)) (a1 : Int) (a2 : Int) : Option (Bool) := (chalklinelaw35_live.f).bind fun t426 => (if t426 = true then ((chalklineref35_Few.f k l0).bind fun t427 => (if t427 = true then ((feed_Check.f k l0).bind fun t428 => (if t428 = 0 then (chalklinelaw35_FeedLost.j0 k l0 a1 a2 (decide ((l0.length : Int) < 2))) else (chalklinelaw35_FeedLost.j0 k l0 a1 a2 true))) else (chalklinelaw35_FeedLost.j0 k l0 a1 a2 true))) else (some false))
set_option maxHeartbeats 8000000 in
set_option maxRecDepth 100000 in
theorem chalklinelaw35_FeedLost.calls (k : Nat) (A0 : Option Addr) (c0 : Nat) (l0 : List (S52)) (a1 : Int) (a2 : Int) (r : Bool) (w : World) (hr0 : Kd.C k52 w A0 l0.length l0) (hc0 : l0.length ≤ c0) (h : chalklinelaw35_FeedLost.f k l0 a1 a2 = some r) :
    Calls Try.prog 9 #[.slice A0 l0.length c0, .int .u8 a1, .int .u8 a2] w fun e w' => e = .returned (.bool r) ∧ Below w.heap.size w w' := by
  have hu32 := Try.underlying32
  have hu27 := Try.underlying27
  have HR0 := Aside0.mk hr0
  have HC0 := Aside0.mk hc0
  clear hr0 hc0
  have HB := Aside0.mk (Below.refl w.heap.size w)
  have H : ((chalklinelaw35_live.f).bind fun t426 => (if t426 = true then ((chalklineref35_Few.f k l0).bind fun t427 => (if t427 = true then ((feed_Check.f k l0).bind fun t428 => (if t428 = 0 then (chalklinelaw35_FeedLost.j0 k l0 a1 a2 (decide ((l0.length : Int) < 2))) else (chalklinelaw35_FeedLost.j0 k l0 a1 a2 true))) else (chalklinelaw35_FeedLost.j0 k l0 a1 a2 true))) else (some false))) = some r := h
  clear h
  replace H := Option.bind_eq_some_iff.mp H
  obtain ⟨t426, A40, H⟩ := H
  replace H : (if t426 = true then ((chalklineref35_Few.f k l0).bind fun t427 => (if t427 = true then ((feed_Check.f k l0).bind fun t428 => (if t428 = 0 then (chalklinelaw35_FeedLost.j0 k l0 a1 a2 (decide ((l0.length : Int) < 2))) else (chalklinelaw35_FeedLost.j0 k l0 a1 a2 true))) else (chalklinelaw35_FeedLost.j0 k l0 a1 a2 true))) else (some false)) = some r := H
  have A4 := Aside0.mk A40
  clear A40
  by_cases c5 : t426 = true
  · subst c5
    have H1 : ((chalklineref35_Few.f k l0).bind fun t427 => (if t427 = true then ((feed_Check.f k l0).bind fun t428 => (if t428 = 0 then (chalklinelaw35_FeedLost.j0 k l0 a1 a2 (decide ((l0.length : Int) < 2))) else (chalklinelaw35_FeedLost.j0 k l0 a1 a2 true))) else (chalklinelaw35_FeedLost.j0 k l0 a1 a2 true))) = some r := by rw [if_pos rfl] at H; exact H
    clear H
    have H := H1
    clear H1
    have HC6 := Aside0.mk H
    clear H
    go_enter Try.func9, Try.ntmps9
    go_upto_region 3 with (first | ((with_reducible refine gate_callee (f := 11) rfl ?_); refine goesL_ (some 12) rfl rfl Try.func11 (by kernel_rfl) rfl #[] rfl (by (try simp only [List.map_toArray, List.map_cons, List.map_nil]); first | done | rfl | (simp only [List.length_drop, List.length_take]; rfl)) ?_; (with_reducible refine (chalklinelaw35_live.calls  true _ A4.out).mono ?_); rintro e w7 ⟨rfl, hb⟩; refine ⟨_, rfl, ?_⟩; have n0_ := Aside0.mk (below_step (by repeat (first | (with_reducible first | exact HB.out | apply below_alloc | apply pw_below_drewN | apply below_drew1) | exact HB.out)) hb); clear HB; have HB := n0_; clear n0_; (try clear hb); (try clear hb2); (try clear hk); (try clear hi)))
    (try simp only [Act.put, List.setIfInBounds_toArray, List.set_cons_zero, List.set_cons_succ])
    go_cut [26] (fun v26 wc => ∃ (kq : Nat) (x26_5 : Bool), v26 = .bool x26_5 ∧ Aside0 (chalklinelaw35_FeedLost.j0 kq l0 a1 a2 x26_5 = some r) ∧ Aside0 (kq ≤ k) ∧ Aside0 (Below w.heap.size w wc))
    case first =>
      have H := HC6.out
      clear HC6
      replace H := Option.bind_eq_some_iff.mp H
      obtain ⟨t427, A80, H⟩ := H
      replace H : (if t427 = true then ((feed_Check.f k l0).bind fun t428 => (if t428 = 0 then (chalklinelaw35_FeedLost.j0 k l0 a1 a2 (decide ((l0.length : Int) < 2))) else (chalklinelaw35_FeedLost.j0 k l0 a1 a2 true))) else (chalklinelaw35_FeedLost.j0 k l0 a1 a2 true)) = some r := H
      have A8 := Aside0.mk A80
      clear A80
      by_cases c9 : t427 = true
      · subst c9
        have H1 : ((feed_Check.f k l0).bind fun t428 => (if t428 = 0 then (chalklinelaw35_FeedLost.j0 k l0 a1 a2 (decide ((l0.length : Int) < 2))) else (chalklinelaw35_FeedLost.j0 k l0 a1 a2 true))) = some r := by rw [if_pos rfl] at H; exact H
        clear H
        have H := H1
        clear H1
        replace H := Option.bind_eq_some_iff.mp H
        obtain ⟨t428, A100, H⟩ := H
        replace H : (if t428 = 0 then (chalklinelaw35_FeedLost.j0 k l0 a1 a2 (decide ((l0.length : Int) < 2))) else (chalklinelaw35_FeedLost.j0 k l0 a1 a2 true)) = some r := H
        have A10 := Aside0.mk A100
        clear A100
        by_cases c11 : t428 = 0
        · rw [if_pos c11] at H
          have c11b0 : (t428 == 0) = true := beq_iff_eq.mpr c11
          have c11b1 : (t428 != 0) = false := bne_eq_false_iff_eq.mpr c11
          clear c11
          (first | rw [c11b0] | (simp only [i64_w, i32_w]; rw [c11b0]) | skip)
          have H' := Aside0.mk H
          clear H
          go_wp2_with (first | ((with_reducible refine gate_callee (f := 12) rfl ?_); refine goesL_ (some 15) rfl rfl Try.func12 (by kernel_rfl) rfl #[.slice A0 l0.length c0] rfl (by (try simp only [List.map_toArray, List.map_cons, List.map_nil]); first | done | rfl | (simp only [List.length_drop, List.length_take]; rfl)) ?_; (with_reducible refine (chalklineref35_Few.calls k _ _ l0 true _ ?side1 ?side2 A8.out).mono ?_); (case side1 => repeat (first | exact (Kd.C_below HR0.out HB.out) | (with_reducible refine Kd.C_alloc ?_ _) | (with_reducible refine Kd.C_drewN ?_ _) | (with_reducible refine Kd.C_drew ?_))); (case side2 => exact HC0.out); rintro e w' ⟨rfl, ⟨nd, rfl⟩⟩; refine ⟨_, rfl, ?_⟩) | (go_at_call 16; (with_reducible refine (feed_Check.calls k _ _ l0 t428 _ ?side1 ?side2 A10.out).mono ?_); (case side1 => repeat (first | exact (Kd.C_below HR0.out (by repeat (first | (with_reducible first | exact HB.out | apply below_alloc | apply pw_below_drewN | apply below_drew1) | exact HB.out))) | (with_reducible refine Kd.C_alloc ?_ _) | (with_reducible refine Kd.C_drewN ?_ _) | (with_reducible refine Kd.C_drew ?_))); (case side2 => exact HC0.out); rintro e w12 ⟨rfl, hb⟩; have n0_ := Aside0.mk (below_step (by repeat (first | (with_reducible first | exact HB.out | apply below_alloc | apply pw_below_drewN | apply below_drew1) | exact HB.out)) hb); clear HB; have HB := n0_; clear n0_; (try clear hb); (try clear hb2); (try clear hk); (try clear hi)))
          go_meet
          case rel => exact ⟨_, (decide ((l0.length : Int) < 2)), (by first | rfl | (simp; done) | (simp [*]; done)), H', ⟨by first | omega | exact Nat.le_refl _⟩, ⟨by repeat (first | (with_reducible first | exact HB.out | apply below_alloc | apply pw_below_drewN | apply below_drew1) | exact HB.out)⟩⟩
        · rw [if_neg c11] at H
          have c11b0 : (t428 == 0) = false := beq_eq_false_iff_ne.mpr c11
          have c11b1 : (t428 != 0) = true := bne_iff_ne.mpr c11
          (first | rw [c11b0] | (simp only [i64_w, i32_w]; rw [c11b0]) | skip)
          have H' := Aside0.mk H
          clear H
          go_wp2_with (first | ((with_reducible refine gate_callee (f := 12) rfl ?_); refine goesL_ (some 15) rfl rfl Try.func12 (by kernel_rfl) rfl #[.slice A0 l0.length c0] rfl (by (try simp only [List.map_toArray, List.map_cons, List.map_nil]); first | done | rfl | (simp only [List.length_drop, List.length_take]; rfl)) ?_; (with_reducible refine (chalklineref35_Few.calls k _ _ l0 true _ ?side1 ?side2 A8.out).mono ?_); (case side1 => repeat (first | exact (Kd.C_below HR0.out HB.out) | (with_reducible refine Kd.C_alloc ?_ _) | (with_reducible refine Kd.C_drewN ?_ _) | (with_reducible refine Kd.C_drew ?_))); (case side2 => exact HC0.out); rintro e w' ⟨rfl, ⟨nd, rfl⟩⟩; refine ⟨_, rfl, ?_⟩) | (go_at_call 16; (with_reducible refine (feed_Check.calls k _ _ l0 t428 _ ?side1 ?side2 A10.out).mono ?_); (case side1 => repeat (first | exact (Kd.C_below HR0.out (by repeat (first | (with_reducible first | exact HB.out | apply below_alloc | apply pw_below_drewN | apply below_drew1) | exact HB.out))) | (with_reducible refine Kd.C_alloc ?_ _) | (with_reducible refine Kd.C_drewN ?_ _) | (with_reducible refine Kd.C_drew ?_))); (case side2 => exact HC0.out); rintro e w13 ⟨rfl, hb⟩; have n0_ := Aside0.mk (below_step (by repeat (first | (with_reducible first | exact HB.out | apply below_alloc | apply pw_below_drewN | apply below_drew1) | exact HB.out)) hb); clear HB; have HB := n0_; clear n0_; (try clear hb); (try clear hb2); (try clear hk); (try clear hi)))
          go_meet
          case rel => exact ⟨_, (true), (by first | rfl | (simp; done) | (simp [*]; done)), H', ⟨by first | omega | exact Nat.le_refl _⟩, ⟨by repeat (first | (with_reducible first | exact HB.out | apply below_alloc | apply pw_below_drewN | apply below_drew1) | exact HB.out)⟩⟩
      · replace c9 := Bool.eq_false_iff.mpr c9
        subst c9
        have H1 : (chalklinelaw35_FeedLost.j0 k l0 a1 a2 true) = some r := by rw [if_neg (show ¬ (false = true) by decide)] at H; exact H
        clear H
        have H := H1
        clear H1
        have H' := Aside0.mk H
        clear H
        go_wp2_with (first | ((with_reducible refine gate_callee (f := 12) rfl ?_); refine goesL_ (some 15) rfl rfl Try.func12 (by kernel_rfl) rfl #[.slice A0 l0.length c0] rfl (by (try simp only [List.map_toArray, List.map_cons, List.map_nil]); first | done | rfl | (simp only [List.length_drop, List.length_take]; rfl)) ?_; (with_reducible refine (chalklineref35_Few.calls k _ _ l0 false _ ?side1 ?side2 A8.out).mono ?_); (case side1 => repeat (first | exact (Kd.C_below HR0.out HB.out) | (with_reducible refine Kd.C_alloc ?_ _) | (with_reducible refine Kd.C_drewN ?_ _) | (with_reducible refine Kd.C_drew ?_))); (case side2 => exact HC0.out); rintro e w' ⟨rfl, ⟨nd, rfl⟩⟩; refine ⟨_, rfl, ?_⟩))
        go_meet
        case rel => exact ⟨_, (true), (by first | rfl | (simp; done) | (simp [*]; done)), H', ⟨by first | omega | exact Nat.le_refl _⟩, ⟨by repeat (first | (with_reducible first | exact HB.out | apply below_alloc | apply pw_below_drewN | apply below_drew1) | exact HB.out)⟩⟩
    case rest =>
      clear HC6
      try clear c1
      try clear p2
      try clear c5
      try clear c9
      try clear c11
      try clear c11b0
      try clear c11b1
      try clear c12
      obtain ⟨kq, x26_5, rfl, HA, HJ5, HB⟩ := hcut
      cases kq with
      | zero => exact absurd HA.out (by simp [chalklinelaw35_FeedLost.j0])
      | succ kj5 =>
        have H := HA.out
        clear HA
        simp only [chalklinelaw35_FeedLost.j0] at H
        by_cases c14 : x26_5 = true
        · subst c14
          have H1 : (some true) = some r := by rw [if_pos rfl] at H; exact H
          clear H
          have H := H1
          clear H1
          obtain rfl := Option.some.inj H
          go_wp2
          go_ret
          exact ⟨by first | rfl | (simp [errW_none, errW_some] <;> rfl) | (simp [*, errW_none, errW_some] <;> rfl), by repeat (first | (with_reducible first | exact HB.out | apply below_alloc | apply pw_below_drewN | apply below_drew1) | exact HB.out)⟩
        · replace c14 := Bool.eq_false_iff.mpr c14
          subst c14
          have H1 : (if (wrap64 ((l0.length : Int) - 1)) = 0 then (none) else ((feed_Reply.f kj5 l0 (wrap64 (1 + (Int.tmod (wrap64 (a1)) (wrap64 ((l0.length : Int) - 1))))) 0).bind fun bt429 => ((feed_Take.f kj5 (wrap64 (a2)) ([] : List (S60)) bt429.1 bt429.2.1 bt429.2.2.1 bt429.2.2.2.1 bt429.2.2.2.2.1 bt429.2.2.2.2.2.1).bind fun bt442 => (if bt429.2.2.2.2.2.2 = 0 then (if (wrap64 (a2)) ≥ (l0.length : Int) then (some (bt442.2.2 == 341)) else (if bt429.1 = 2 then (if bt429.2.2.1 = (wrap64 (a2)) then (some true) else (some (bt442.2.2 == 350))) else (some (bt442.2.2 == 0)))) else (some false))))) = some r := by rw [if_neg (show ¬ (false = true) by decide)] at H; exact H
          clear H
          have H := H1
          clear H1
          by_cases c15 : (wrap64 ((l0.length : Int) - 1)) = 0
          · rw [if_pos c15] at H
            exact absurd H (by simp)
          · rw [if_neg c15] at H
            have c15b0 : ((wrap64 ((l0.length : Int) - 1)) == 0) = false := beq_eq_false_iff_ne.mpr c15
            have c15b1 : ((wrap64 ((l0.length : Int) - 1)) != 0) = true := bne_iff_ne.mpr c15
            replace H := Option.bind_eq_some_iff.mp H
            obtain ⟨⟨t429, t430, t431, t432, t433, t436, t439⟩, A160, H⟩ := H
            replace H : ((feed_Take.f kj5 (wrap64 (a2)) ([] : List (S60)) t429 t430 t431 t432 t433 t436).bind fun bt442 => (if t439 = 0 then (if (wrap64 (a2)) ≥ (l0.length : Int) then (some (bt442.2.2 == 341)) else (if t429 = 2 then (if t431 = (wrap64 (a2)) then (some true) else (some (bt442.2.2 == 350))) else (some (bt442.2.2 == 0)))) else (some false))) = some r := H
            have A16 := Aside0.mk A160
            clear A160
            replace H := Option.bind_eq_some_iff.mp H
            obtain ⟨⟨t442, t443, t446⟩, A170, H⟩ := H
            replace H : (if t439 = 0 then (if (wrap64 (a2)) ≥ (l0.length : Int) then (some (t446 == 341)) else (if t429 = 2 then (if t431 = (wrap64 (a2)) then (some true) else (some (t446 == 350))) else (some (t446 == 0)))) else (some false)) = some r := H
            have A17 := Aside0.mk A170
            clear A170
            by_cases c18 : t439 = 0
            · rw [if_pos c18] at H
              have c18b0 : (t439 == 0) = true := beq_iff_eq.mpr c18
              have c18b1 : (t439 != 0) = false := bne_eq_false_iff_eq.mpr c18
              clear c18
              by_cases c19 : (wrap64 (a2)) ≥ (l0.length : Int)
              · rw [if_pos c19] at H
                have c19b0 : decide ((l0.length : Int) ≤ (wrap64 (a2))) = true := decide_eq_true c19
                clear c19
                obtain rfl := Option.some.inj H
                go_wp2_with (first | ((with_reducible refine gate_callee (f := 13) rfl ?_); refine goesL_ (some 36) rfl rfl Try.func13 (by kernel_rfl) rfl #[.slice A0 l0.length c0, .int .i64 (wrap64 (1 + (Int.tmod (wrap64 (a1)) (wrap64 ((l0.length : Int) - 1))))), .int .i64 0] rfl (by (try simp only [List.map_toArray, List.map_cons, List.map_nil]); first | done | rfl | (simp only [List.length_drop, List.length_take]; rfl)) ?_; (with_reducible refine (feed_Reply.calls kj5 _ _ l0 (wrap64 (1 + (Int.tmod (wrap64 (a1)) (wrap64 ((l0.length : Int) - 1))))) 0 t429 t430 t431 t432 t433 t436 t439 _ ?side1 ?side2 A16.out).mono ?_); (case side1 => repeat (first | exact (Kd.C_below HR0.out HB.out) | (with_reducible refine Kd.C_alloc ?_ _) | (with_reducible refine Kd.C_drewN ?_ _) | (with_reducible refine Kd.C_drew ?_))); (case side2 => exact HC0.out); rintro e w20 ⟨v434, v437, rfl, ho0, ho1, hb⟩; refine ⟨_, rfl, ?_⟩; have n0_ := Aside0.mk (Kd.R_lower ho0 (below_size (by repeat (first | (with_reducible first | exact HB.out | apply below_alloc | apply pw_below_drewN | apply below_drew1) | exact HB.out)))); have n1_ := Aside0.mk (Kd.R_lower ho1 (below_size (by repeat (first | (with_reducible first | exact HB.out | apply below_alloc | apply pw_below_drewN | apply below_drew1) | exact HB.out)))); have n2_ := Aside0.mk (below_step (by repeat (first | (with_reducible first | exact HB.out | apply below_alloc | apply pw_below_drewN | apply below_drew1) | exact HB.out)) hb); clear HB; have HO435 := n0_; have HO438 := n1_; have HB := n2_; clear n0_ n1_ n2_; (try clear hb); (try clear hb2); (try clear hk); (try clear hi); (try clear ho0); (try clear ho1)) | ((with_reducible refine gate_dst (N := 7) rfl ?_); (try (refine gate_guard (by rfl) ?_; dsimp only)); refine box_event ?hg (N := 7) ?hd (cs := #[.int .i64 0, .int .i64 0, .int .i64 0, .int .i64 0, .slice none 0 0, .slice none 0 0]) (t := 32) ?hr ?_; (case hd => rfl); (case hg => rfl); (case hr => first | (go_simp; done) | (go_simp; rfl)); intro gb440 hg w21 hbox hb; have n0_ := Aside0.mk (Kd.R_below (by (with_reducible repeat (first | apply Kd.R_alloc | apply Kd.R_drewN | apply Kd.R_drew)); exact HO435.out) hb); have n1_ := Aside0.mk (Kd.R_below (by (with_reducible repeat (first | apply Kd.R_alloc | apply Kd.R_drewN | apply Kd.R_drew)); exact HO438.out) hb); have n2_ := Aside0.mk (below_step (by repeat (first | (with_reducible first | exact HB.out | apply below_alloc | apply pw_below_drewN | apply below_drew1) | exact HB.out)) hb); have n3_ := Aside0.mk (hbox); have n4_ := Aside0.mk ((by rw [hg]; exact (below_size (by repeat (first | (with_reducible first | exact HB.out | apply below_alloc | apply pw_below_drewN | apply below_drew1) | exact HB.out))) : w.heap.size ≤ gb440)); have n5_ := Aside0.mk ((by rw [hg]; exact (below_size (by repeat (first | (with_reducible first | exact HB.out | apply below_alloc | apply pw_below_drewN | apply below_drew1) | exact HB.out))) : w.heap.size ≤ gb440)); clear HO435; clear HO438; clear HB; have HO435 := n0_; have HO438 := n1_; have HB := n2_; have BK440 := n3_; have GW440 := n4_; have GE440 := n5_; clear n0_ n1_ n2_ n3_ n4_ n5_; clear hb hbox hg; have hcz22_0 : w21.cell? ⟨gb440, 0, none⟩ = some (.int .i64 0) := (blk_cell BK440.out 0).trans rfl; have hcz22_1 : w21.cell? ⟨gb440, 1, none⟩ = some (.int .i64 0) := (blk_cell BK440.out 1).trans rfl; have hcz22_2 : w21.cell? ⟨gb440, 2, none⟩ = some (.int .i64 0) := (blk_cell BK440.out 2).trans rfl; have hcz22_3 : w21.cell? ⟨gb440, 3, none⟩ = some (.int .i64 0) := (blk_cell BK440.out 3).trans rfl; have hcz22_4 : w21.cell? ⟨gb440, 4, none⟩ = some (.slice none 0 0) := (blk_cell BK440.out 4).trans rfl; have hcz22_5 : w21.cell? ⟨gb440, 5, none⟩ = some (.slice none 0 0) := (blk_cell BK440.out 5).trans rfl; have hfz22_0 := blk_frozen BK440.out 0; have hfz22_1 := blk_frozen BK440.out 1; have hfz22_2 := blk_frozen BK440.out 2; have hfz22_3 := blk_frozen BK440.out 3; have hfz22_4 := blk_frozen BK440.out 4; have hfz22_5 := blk_frozen BK440.out 5; obtain ⟨Ao23, co23, eo23⟩ := Kd.R_slice HO435.out; subst eo23; obtain ⟨Ao24, co24, eo24⟩ := Kd.R_slice HO438.out; subst eo24) | ((with_reducible refine gate_dst (N := 9) rfl ?_); (try (refine gate_guard (by rfl) ?_; dsimp only)); refine box_event ?hg (N := 9) ?hd (cs := #[.int .i64 0, .slice none 0 0]) (t := 27) ?hr ?_; (case hd => rfl); (case hg => rfl); (case hr => first | (go_simp; done) | (go_simp; rfl)); intro gb441 hg w25 hbox hb; have n0_ := Aside0.mk (Kd.R_below (by (with_reducible repeat (first | apply Kd.R_alloc | apply Kd.R_drewN | apply Kd.R_drew)); exact (Kd.R_mono (Kd.R_far (p := ⟨gb440, 5, none⟩) (Kd.R_far (p := ⟨gb440, 4, none⟩) (Kd.R_far (p := ⟨gb440, 3, none⟩) (Kd.R_far (p := ⟨gb440, 2, none⟩) (Kd.R_far (p := ⟨gb440, 1, none⟩) (Kd.R_far (p := ⟨gb440, 0, none⟩) (Kd.R_types HO435.out BK440.out (by decide)) (fun _ hk => hk.2) (.int .i64 t429)) (fun _ hk => hk.2) (.int .i64 t430)) (fun _ hk => hk.2) (.int .i64 t431)) (fun _ hk => hk.2) (.int .i64 t432)) (fun _ hk => hk.2) (.slice Ao23 t433.length co23)) (fun _ hk => hk.2) (.slice Ao24 t436.length co24)) (fun _ h_ => h_.1))) hb); have n1_ := Aside0.mk (Kd.R_below (by (with_reducible repeat (first | apply Kd.R_alloc | apply Kd.R_drewN | apply Kd.R_drew)); exact (Kd.R_mono (Kd.R_far (p := ⟨gb440, 5, none⟩) (Kd.R_far (p := ⟨gb440, 4, none⟩) (Kd.R_far (p := ⟨gb440, 3, none⟩) (Kd.R_far (p := ⟨gb440, 2, none⟩) (Kd.R_far (p := ⟨gb440, 1, none⟩) (Kd.R_far (p := ⟨gb440, 0, none⟩) (Kd.R_types HO438.out BK440.out (by decide)) (fun _ hk => hk.2) (.int .i64 t429)) (fun _ hk => hk.2) (.int .i64 t430)) (fun _ hk => hk.2) (.int .i64 t431)) (fun _ hk => hk.2) (.int .i64 t432)) (fun _ hk => hk.2) (.slice Ao23 t433.length co23)) (fun _ hk => hk.2) (.slice Ao24 t436.length co24)) (fun _ h_ => h_.1))) hb); have n2_ := Aside0.mk (blk_below (g := gb440) (o := .cells #[.int .i64 t429, .int .i64 t430, .int .i64 t431, .int .i64 t432, .slice Ao23 t433.length co23, .slice Ao24 t436.length co24] 32 (0, 0)) (by (with_reducible repeat (first | refine blk_drewN ?_ _ | refine blk_drew ?_ | refine blk_alloc ?_ _)); refine blk_put (cs := #[.int .i64 t429, .int .i64 t430, .int .i64 t431, .int .i64 t432, .slice Ao23 t433.length co23, .slice none 0 0]) ?_ 5 _ rfl; (with_reducible repeat (first | refine blk_drewN ?_ _ | refine blk_drew ?_ | refine blk_alloc ?_ _)); refine blk_put (cs := #[.int .i64 t429, .int .i64 t430, .int .i64 t431, .int .i64 t432, .slice none 0 0, .slice none 0 0]) ?_ 4 _ rfl; (with_reducible repeat (first | refine blk_drewN ?_ _ | refine blk_drew ?_ | refine blk_alloc ?_ _)); refine blk_put (cs := #[.int .i64 t429, .int .i64 t430, .int .i64 t431, .int .i64 0, .slice none 0 0, .slice none 0 0]) ?_ 3 _ rfl; (with_reducible repeat (first | refine blk_drewN ?_ _ | refine blk_drew ?_ | refine blk_alloc ?_ _)); refine blk_put (cs := #[.int .i64 t429, .int .i64 t430, .int .i64 0, .int .i64 0, .slice none 0 0, .slice none 0 0]) ?_ 2 _ rfl; (with_reducible repeat (first | refine blk_drewN ?_ _ | refine blk_drew ?_ | refine blk_alloc ?_ _)); refine blk_put (cs := #[.int .i64 t429, .int .i64 0, .int .i64 0, .int .i64 0, .slice none 0 0, .slice none 0 0]) ?_ 1 _ rfl; (with_reducible repeat (first | refine blk_drewN ?_ _ | refine blk_drew ?_ | refine blk_alloc ?_ _)); refine blk_put (cs := #[.int .i64 0, .int .i64 0, .int .i64 0, .int .i64 0, .slice none 0 0, .slice none 0 0]) ?_ 0 _ rfl; (with_reducible repeat (first | refine blk_drewN ?_ _ | refine blk_drew ?_ | refine blk_alloc ?_ _)); exact BK440.out) hb); have n3_ := Aside0.mk (below_step (by repeat (first | (with_reducible first | exact HB.out | apply below_alloc | apply pw_below_drewN | apply below_drew1 | refine below_set ?_ GE440.out) | exact HB.out)) hb); have n4_ := Aside0.mk (hbox); have n5_ := Aside0.mk ((by rw [hg]; exact (below_size (by repeat (first | (with_reducible first | exact HB.out | apply below_alloc | apply pw_below_drewN | apply below_drew1 | refine below_set ?_ GE440.out) | exact HB.out))) : w.heap.size ≤ gb441)); have n6_ := Aside0.mk ((by rw [hg]; exact (below_size (by repeat (first | (with_reducible first | exact HB.out | apply below_alloc | apply pw_below_drewN | apply below_drew1 | refine below_set ?_ GE440.out) | exact HB.out))) : w.heap.size ≤ gb441)); have n7_ := Aside0.mk ((by rw [hg]; exact Nat.ne_of_lt (blk_lt (g := gb440) (o := .cells #[.int .i64 t429, .int .i64 t430, .int .i64 t431, .int .i64 t432, .slice Ao23 t433.length co23, .slice Ao24 t436.length co24] 32 (0, 0)) (by (with_reducible repeat (first | refine blk_drewN ?_ _ | refine blk_drew ?_ | refine blk_alloc ?_ _)); refine blk_put (cs := #[.int .i64 t429, .int .i64 t430, .int .i64 t431, .int .i64 t432, .slice Ao23 t433.length co23, .slice none 0 0]) ?_ 5 _ rfl; (with_reducible repeat (first | refine blk_drewN ?_ _ | refine blk_drew ?_ | refine blk_alloc ?_ _)); refine blk_put (cs := #[.int .i64 t429, .int .i64 t430, .int .i64 t431, .int .i64 t432, .slice none 0 0, .slice none 0 0]) ?_ 4 _ rfl; (with_reducible repeat (first | refine blk_drewN ?_ _ | refine blk_drew ?_ | refine blk_alloc ?_ _)); refine blk_put (cs := #[.int .i64 t429, .int .i64 t430, .int .i64 t431, .int .i64 0, .slice none 0 0, .slice none 0 0]) ?_ 3 _ rfl; (with_reducible repeat (first | refine blk_drewN ?_ _ | refine blk_drew ?_ | refine blk_alloc ?_ _)); refine blk_put (cs := #[.int .i64 t429, .int .i64 t430, .int .i64 0, .int .i64 0, .slice none 0 0, .slice none 0 0]) ?_ 2 _ rfl; (with_reducible repeat (first | refine blk_drewN ?_ _ | refine blk_drew ?_ | refine blk_alloc ?_ _)); refine blk_put (cs := #[.int .i64 t429, .int .i64 0, .int .i64 0, .int .i64 0, .slice none 0 0, .slice none 0 0]) ?_ 1 _ rfl; (with_reducible repeat (first | refine blk_drewN ?_ _ | refine blk_drew ?_ | refine blk_alloc ?_ _)); refine blk_put (cs := #[.int .i64 0, .int .i64 0, .int .i64 0, .int .i64 0, .slice none 0 0, .slice none 0 0]) ?_ 0 _ rfl; (with_reducible repeat (first | refine blk_drewN ?_ _ | refine blk_drew ?_ | refine blk_alloc ?_ _)); exact BK440.out)) : gb440 ≠ gb441)); have n8_ := Aside0.mk ((by rw [hg]; exact Nat.ne_of_gt (blk_lt (g := gb440) (o := .cells #[.int .i64 t429, .int .i64 t430, .int .i64 t431, .int .i64 t432, .slice Ao23 t433.length co23, .slice Ao24 t436.length co24] 32 (0, 0)) (by (with_reducible repeat (first | refine blk_drewN ?_ _ | refine blk_drew ?_ | refine blk_alloc ?_ _)); refine blk_put (cs := #[.int .i64 t429, .int .i64 t430, .int .i64 t431, .int .i64 t432, .slice Ao23 t433.length co23, .slice none 0 0]) ?_ 5 _ rfl; (with_reducible repeat (first | refine blk_drewN ?_ _ | refine blk_drew ?_ | refine blk_alloc ?_ _)); refine blk_put (cs := #[.int .i64 t429, .int .i64 t430, .int .i64 t431, .int .i64 t432, .slice none 0 0, .slice none 0 0]) ?_ 4 _ rfl; (with_reducible repeat (first | refine blk_drewN ?_ _ | refine blk_drew ?_ | refine blk_alloc ?_ _)); refine blk_put (cs := #[.int .i64 t429, .int .i64 t430, .int .i64 t431, .int .i64 0, .slice none 0 0, .slice none 0 0]) ?_ 3 _ rfl; (with_reducible repeat (first | refine blk_drewN ?_ _ | refine blk_drew ?_ | refine blk_alloc ?_ _)); refine blk_put (cs := #[.int .i64 t429, .int .i64 t430, .int .i64 0, .int .i64 0, .slice none 0 0, .slice none 0 0]) ?_ 2 _ rfl; (with_reducible repeat (first | refine blk_drewN ?_ _ | refine blk_drew ?_ | refine blk_alloc ?_ _)); refine blk_put (cs := #[.int .i64 t429, .int .i64 0, .int .i64 0, .int .i64 0, .slice none 0 0, .slice none 0 0]) ?_ 1 _ rfl; (with_reducible repeat (first | refine blk_drewN ?_ _ | refine blk_drew ?_ | refine blk_alloc ?_ _)); refine blk_put (cs := #[.int .i64 0, .int .i64 0, .int .i64 0, .int .i64 0, .slice none 0 0, .slice none 0 0]) ?_ 0 _ rfl; (with_reducible repeat (first | refine blk_drewN ?_ _ | refine blk_drew ?_ | refine blk_alloc ?_ _)); exact BK440.out)) : gb441 ≠ gb440)); clear HO435; clear HO438; clear BK440; clear HB; have HO435 := n0_; have HO438 := n1_; have BK440 := n2_; have HB := n3_; have BK441 := n4_; have GW441 := n5_; have GE441 := n6_; have NB440_441 := n7_; have NB441_440 := n8_; clear n0_ n1_ n2_ n3_ n4_ n5_ n6_ n7_ n8_; clear hb hbox hg; have hnb26 := NB441_440.out; have hnc26 := NB440_441.out; have hcz27_0 : w25.cell? ⟨gb441, 0, none⟩ = some (.int .i64 0) := (blk_cell BK441.out 0).trans rfl; have hcz27_1 : w25.cell? ⟨gb441, 1, none⟩ = some (.slice none 0 0) := (blk_cell BK441.out 1).trans rfl; have hfz27_0 := blk_frozen BK441.out 0; have hfz27_1 := blk_frozen BK441.out 1; have hcz28_0 : w25.cell? ⟨gb440, 0, none⟩ = some (.int .i64 t429) := (blk_cell BK440.out 0).trans rfl; have hcz28_1 : w25.cell? ⟨gb440, 1, none⟩ = some (.int .i64 t430) := (blk_cell BK440.out 1).trans rfl; have hcz28_2 : w25.cell? ⟨gb440, 2, none⟩ = some (.int .i64 t431) := (blk_cell BK440.out 2).trans rfl; have hcz28_3 : w25.cell? ⟨gb440, 3, none⟩ = some (.int .i64 t432) := (blk_cell BK440.out 3).trans rfl; have hcz28_4 : w25.cell? ⟨gb440, 4, none⟩ = some (.slice Ao23 t433.length co23) := (blk_cell BK440.out 4).trans rfl; have hcz28_5 : w25.cell? ⟨gb440, 5, none⟩ = some (.slice Ao24 t436.length co24) := (blk_cell BK440.out 5).trans rfl; have hfz28_0 := blk_frozen BK440.out 0; have hfz28_1 := blk_frozen BK440.out 1; have hfz28_2 := blk_frozen BK440.out 2; have hfz28_3 := blk_frozen BK440.out 3; have hfz28_4 := blk_frozen BK440.out 4; have hfz28_5 := blk_frozen BK440.out 5) | ((with_reducible refine gate_callee (f := 21) rfl ?_); refine goesL_ (some 45) rfl rfl Try.func21 (by kernel_rfl) rfl #[.agg #[.int .i64 (wrap64 (a2)), .slice none 0 0], .agg #[.int .i64 t429, .int .i64 t430, .int .i64 t431, .int .i64 t432, .slice Ao23 t433.length co23, .slice Ao24 t436.length co24]] rfl (by (try simp only [List.map_toArray, List.map_cons, List.map_nil]); first | done | rfl | (simp only [List.length_drop, List.length_take]; rfl)) ?_; (refine (feed_Take.calls kj5 (wrap64 (a2)) _ _ ([] : List (S60)) t429 t430 t431 t432 _ _ t433 _ _ t436 t442 t443 t446 _ ?side1 ?side2 ?side3 ?side4 ?side5 ?side6 A17.out).mono ?_); (case side1 => exact Kd.C_nil _ _); (case side2 => exact Nat.le_refl _); (case side3 => refine (Kd.R_reads' (e := 60) (base := w.heap.size) (ok := fun k_ => True) (n := t433.length) (c := co23) ?_).2.2; exact (by (with_reducible repeat (first | apply Kd.R_alloc | apply Kd.R_drewN | apply Kd.R_drew)); exact (Kd.R_mono (Kd.R_far (p := ⟨gb441, 1, none⟩) (Kd.R_far (p := ⟨gb441, 0, none⟩) (Kd.R_types HO435.out BK441.out (by decide)) (fun _ hk => hk.2) (.int .i64 (wrap64 (a2)))) (fun _ hk => hk.2) (.slice none 0 0)) (fun _ h_ => h_.1)))); (case side4 => exact (Kd.R_reads' HO435.out).2.1); (case side5 => refine (Kd.R_reads' (e := 64) (base := w.heap.size) (ok := fun k_ => True) (n := t436.length) (c := co24) ?_).2.2; exact (by (with_reducible repeat (first | apply Kd.R_alloc | apply Kd.R_drewN | apply Kd.R_drew)); exact (Kd.R_mono (Kd.R_far (p := ⟨gb441, 1, none⟩) (Kd.R_far (p := ⟨gb441, 0, none⟩) (Kd.R_types HO438.out BK441.out (by decide)) (fun _ hk => hk.2) (.int .i64 (wrap64 (a2)))) (fun _ hk => hk.2) (.slice none 0 0)) (fun _ h_ => h_.1)))); (case side6 => exact (Kd.R_reads' HO438.out).2.1); rintro e w29 ⟨v444, rfl, ho0, hb⟩; refine ⟨_, rfl, ?_⟩; have n0_ := Aside0.mk (Kd.R_elder' (by (with_reducible repeat (first | apply Kd.R_alloc | apply Kd.R_drewN | apply Kd.R_drew)); exact (Kd.R_mono (Kd.R_far (p := ⟨gb441, 1, none⟩) (Kd.R_far (p := ⟨gb441, 0, none⟩) (Kd.R_types HO435.out BK441.out (by decide)) (fun _ hk => hk.2) (.int .i64 (wrap64 (a2)))) (fun _ hk => hk.2) (.slice none 0 0)) (fun _ h_ => h_.1))) (Kd.R_base ho0) hb); have n1_ := Aside0.mk (Kd.R_below (by (with_reducible repeat (first | apply Kd.R_alloc | apply Kd.R_drewN | apply Kd.R_drew)); exact (Kd.R_mono (Kd.R_far (p := ⟨gb441, 1, none⟩) (Kd.R_far (p := ⟨gb441, 0, none⟩) (Kd.R_types HO438.out BK441.out (by decide)) (fun _ hk => hk.2) (.int .i64 (wrap64 (a2)))) (fun _ hk => hk.2) (.slice none 0 0)) (fun _ h_ => h_.1))) hb); have n2_ := Aside0.mk (Kd.R_lower (Kd.R_new' ho0 (Kd.R_lt (by (with_reducible repeat (first | apply Kd.R_alloc | apply Kd.R_drewN | apply Kd.R_drew)); exact (Kd.R_mono (Kd.R_far (p := ⟨gb441, 1, none⟩) (Kd.R_far (p := ⟨gb441, 0, none⟩) (Kd.R_types HO435.out BK441.out (by decide)) (fun _ hk => hk.2) (.int .i64 (wrap64 (a2)))) (fun _ hk => hk.2) (.slice none 0 0)) (fun _ h_ => h_.1))))) (below_size (by repeat (first | (with_reducible first | exact HB.out | apply below_alloc | apply pw_below_drewN | apply below_drew1 | refine below_set ?_ GE440.out | refine below_set ?_ GE441.out) | exact HB.out)))); have n3_ := Aside0.mk (blk_below (g := gb440) (o := .cells #[.int .i64 t429, .int .i64 t430, .int .i64 t431, .int .i64 t432, .slice Ao23 t433.length co23, .slice Ao24 t436.length co24] 32 (0, 0)) (by (with_reducible repeat (first | refine blk_drewN ?_ _ | refine blk_drew ?_ | refine blk_alloc ?_ _)); refine blk_far ?_ NB440_441.out _; (with_reducible repeat (first | refine blk_drewN ?_ _ | refine blk_drew ?_ | refine blk_alloc ?_ _)); refine blk_far ?_ NB440_441.out _; (with_reducible repeat (first | refine blk_drewN ?_ _ | refine blk_drew ?_ | refine blk_alloc ?_ _)); exact BK440.out) hb); have n4_ := Aside0.mk (blk_below (g := gb441) (o := .cells #[.int .i64 (wrap64 (a2)), .slice none 0 0] 27 (0, 0)) (by (with_reducible repeat (first | refine blk_drewN ?_ _ | refine blk_drew ?_ | refine blk_alloc ?_ _)); refine blk_put (cs := #[.int .i64 (wrap64 (a2)), .slice none 0 0]) ?_ 1 _ rfl; (with_reducible repeat (first | refine blk_drewN ?_ _ | refine blk_drew ?_ | refine blk_alloc ?_ _)); refine blk_put (cs := #[.int .i64 0, .slice none 0 0]) ?_ 0 _ rfl; (with_reducible repeat (first | refine blk_drewN ?_ _ | refine blk_drew ?_ | refine blk_alloc ?_ _)); exact BK441.out) hb); have n5_ := Aside0.mk (below_step (by repeat (first | (with_reducible first | exact HB.out | apply below_alloc | apply pw_below_drewN | apply below_drew1 | refine below_set ?_ GE440.out | refine below_set ?_ GE441.out) | exact HB.out)) hb); clear HO435; clear HO438; clear BK440; clear BK441; clear HB; have HO435 := n0_; have HO438 := n1_; have HO445 := n2_; have BK440 := n3_; have BK441 := n4_; have HB := n5_; clear n0_ n1_ n2_ n3_ n4_ n5_; (try clear hb); (try clear hb2); (try clear hk); (try clear hi); (try clear ho0)) | ((with_reducible refine gate_dst (N := 10) rfl ?_); (try (refine gate_guard (by rfl) ?_; dsimp only)); refine box_event ?hg (N := 10) ?hd (cs := #[.int .i64 0, .slice none 0 0]) (t := 27) ?hr ?_; (case hd => rfl); (case hg => rfl); (case hr => first | (go_simp; done) | (go_simp; rfl)); intro gb447 hg w30 hbox hb; have n0_ := Aside0.mk (Kd.R_below (by (with_reducible repeat (first | apply Kd.R_alloc | apply Kd.R_drewN | apply Kd.R_drew)); exact HO435.out) hb); have n1_ := Aside0.mk (Kd.R_below (by (with_reducible repeat (first | apply Kd.R_alloc | apply Kd.R_drewN | apply Kd.R_drew)); exact HO438.out) hb); have n2_ := Aside0.mk (Kd.R_below (by (with_reducible repeat (first | apply Kd.R_alloc | apply Kd.R_drewN | apply Kd.R_drew)); exact HO445.out) hb); have n3_ := Aside0.mk (blk_below (g := gb440) (o := .cells #[.int .i64 t429, .int .i64 t430, .int .i64 t431, .int .i64 t432, .slice Ao23 t433.length co23, .slice Ao24 t436.length co24] 32 (0, 0)) (by (with_reducible repeat (first | refine blk_drewN ?_ _ | refine blk_drew ?_ | refine blk_alloc ?_ _)); exact BK440.out) hb); have n4_ := Aside0.mk (blk_below (g := gb441) (o := .cells #[.int .i64 (wrap64 (a2)), .slice none 0 0] 27 (0, 0)) (by (with_reducible repeat (first | refine blk_drewN ?_ _ | refine blk_drew ?_ | refine blk_alloc ?_ _)); exact BK441.out) hb); have n5_ := Aside0.mk (below_step (by repeat (first | (with_reducible first | exact HB.out | apply below_alloc | apply pw_below_drewN | apply below_drew1 | refine below_set ?_ GE440.out | refine below_set ?_ GE441.out) | exact HB.out)) hb); have n6_ := Aside0.mk (hbox); have n7_ := Aside0.mk ((by rw [hg]; exact (below_size (by repeat (first | (with_reducible first | exact HB.out | apply below_alloc | apply pw_below_drewN | apply below_drew1 | refine below_set ?_ GE440.out | refine below_set ?_ GE441.out) | exact HB.out))) : w.heap.size ≤ gb447)); have n8_ := Aside0.mk ((by rw [hg]; exact (below_size (by repeat (first | (with_reducible first | exact HB.out | apply below_alloc | apply pw_below_drewN | apply below_drew1 | refine below_set ?_ GE440.out | refine below_set ?_ GE441.out) | exact HB.out))) : w.heap.size ≤ gb447)); have n9_ := Aside0.mk ((by rw [hg]; exact Nat.ne_of_lt (blk_lt (g := gb440) (o := .cells #[.int .i64 t429, .int .i64 t430, .int .i64 t431, .int .i64 t432, .slice Ao23 t433.length co23, .slice Ao24 t436.length co24] 32 (0, 0)) (by (with_reducible repeat (first | refine blk_drewN ?_ _ | refine blk_drew ?_ | refine blk_alloc ?_ _)); exact BK440.out)) : gb440 ≠ gb447)); have n10_ := Aside0.mk ((by rw [hg]; exact Nat.ne_of_gt (blk_lt (g := gb440) (o := .cells #[.int .i64 t429, .int .i64 t430, .int .i64 t431, .int .i64 t432, .slice Ao23 t433.length co23, .slice Ao24 t436.length co24] 32 (0, 0)) (by (with_reducible repeat (first | refine blk_drewN ?_ _ | refine blk_drew ?_ | refine blk_alloc ?_ _)); exact BK440.out)) : gb447 ≠ gb440)); have n11_ := Aside0.mk ((by rw [hg]; exact Nat.ne_of_lt (blk_lt (g := gb441) (o := .cells #[.int .i64 (wrap64 (a2)), .slice none 0 0] 27 (0, 0)) (by (with_reducible repeat (first | refine blk_drewN ?_ _ | refine blk_drew ?_ | refine blk_alloc ?_ _)); exact BK441.out)) : gb441 ≠ gb447)); have n12_ := Aside0.mk ((by rw [hg]; exact Nat.ne_of_gt (blk_lt (g := gb441) (o := .cells #[.int .i64 (wrap64 (a2)), .slice none 0 0] 27 (0, 0)) (by (with_reducible repeat (first | refine blk_drewN ?_ _ | refine blk_drew ?_ | refine blk_alloc ?_ _)); exact BK441.out)) : gb447 ≠ gb441)); clear HO435; clear HO438; clear HO445; clear BK440; clear BK441; clear HB; have HO435 := n0_; have HO438 := n1_; have HO445 := n2_; have BK440 := n3_; have BK441 := n4_; have HB := n5_; have BK447 := n6_; have GW447 := n7_; have GE447 := n8_; have NB440_447 := n9_; have NB447_440 := n10_; have NB441_447 := n11_; have NB447_441 := n12_; clear n0_ n1_ n2_ n3_ n4_ n5_ n6_ n7_ n8_ n9_ n10_ n11_ n12_; clear hb hbox hg; have hnb31 := NB447_440.out; have hnc31 := NB440_447.out; have hnb32 := NB447_441.out; have hnc32 := NB441_447.out; have hcz33_0 : w30.cell? ⟨gb447, 0, none⟩ = some (.int .i64 0) := (blk_cell BK447.out 0).trans rfl; have hcz33_1 : w30.cell? ⟨gb447, 1, none⟩ = some (.slice none 0 0) := (blk_cell BK447.out 1).trans rfl; have hfz33_0 := blk_frozen BK447.out 0; have hfz33_1 := blk_frozen BK447.out 1; obtain ⟨Ao34, co34, eo34⟩ := Kd.R_slice HO445.out; subst eo34; have hcz35_0 : w30.cell? ⟨gb441, 0, none⟩ = some (.int .i64 (wrap64 (a2))) := (blk_cell BK441.out 0).trans rfl; have hcz35_1 : w30.cell? ⟨gb441, 1, none⟩ = some (.slice none 0 0) := (blk_cell BK441.out 1).trans rfl; have hfz35_0 := blk_frozen BK441.out 0; have hfz35_1 := blk_frozen BK441.out 1))
                go_ret
                exact ⟨by first | rfl | (simp [errW_none, errW_some] <;> rfl) | (simp [*, errW_none, errW_some] <;> rfl), by repeat (first | (with_reducible first | exact HB.out | apply below_alloc | apply pw_below_drewN | apply below_drew1 | refine below_set ?_ GE440.out | refine below_set ?_ GE441.out | refine below_set ?_ GE447.out) | exact HB.out)⟩
              · rw [if_neg c19] at H
                have c19b0 : decide ((l0.length : Int) ≤ (wrap64 (a2))) = false := decide_eq_false c19
                clear c19
                by_cases c36 : t429 = 2
                · rw [if_pos c36] at H
                  have c36b0 : (t429 == 2) = true := beq_iff_eq.mpr c36
                  have c36b1 : (t429 != 2) = false := bne_eq_false_iff_eq.mpr c36
                  clear c36
                  by_cases c37 : t431 = (wrap64 (a2))
                  · rw [if_pos c37] at H
                    have c37b0 : (t431 == (wrap64 (a2))) = true := beq_iff_eq.mpr c37
                    have c37b1 : (t431 != (wrap64 (a2))) = false := bne_eq_false_iff_eq.mpr c37
                    clear c37
                    obtain rfl := Option.some.inj H
                    go_wp2_with (first | ((with_reducible refine gate_callee (f := 13) rfl ?_); refine goesL_ (some 36) rfl rfl Try.func13 (by kernel_rfl) rfl #[.slice A0 l0.length c0, .int .i64 (wrap64 (1 + (Int.tmod (wrap64 (a1)) (wrap64 ((l0.length : Int) - 1))))), .int .i64 0] rfl (by (try simp only [List.map_toArray, List.map_cons, List.map_nil]); first | done | rfl | (simp only [List.length_drop, List.length_take]; rfl)) ?_; (with_reducible refine (feed_Reply.calls kj5 _ _ l0 (wrap64 (1 + (Int.tmod (wrap64 (a1)) (wrap64 ((l0.length : Int) - 1))))) 0 t429 t430 t431 t432 t433 t436 t439 _ ?side1 ?side2 A16.out).mono ?_); (case side1 => repeat (first | exact (Kd.C_below HR0.out HB.out) | (with_reducible refine Kd.C_alloc ?_ _) | (with_reducible refine Kd.C_drewN ?_ _) | (with_reducible refine Kd.C_drew ?_))); (case side2 => exact HC0.out); rintro e w38 ⟨v434, v437, rfl, ho0, ho1, hb⟩; refine ⟨_, rfl, ?_⟩; have n0_ := Aside0.mk (Kd.R_lower ho0 (below_size (by repeat (first | (with_reducible first | exact HB.out | apply below_alloc | apply pw_below_drewN | apply below_drew1) | exact HB.out)))); have n1_ := Aside0.mk (Kd.R_lower ho1 (below_size (by repeat (first | (with_reducible first | exact HB.out | apply below_alloc | apply pw_below_drewN | apply below_drew1) | exact HB.out)))); have n2_ := Aside0.mk (below_step (by repeat (first | (with_reducible first | exact HB.out | apply below_alloc | apply pw_below_drewN | apply below_drew1) | exact HB.out)) hb); clear HB; have HO435 := n0_; have HO438 := n1_; have HB := n2_; clear n0_ n1_ n2_; (try clear hb); (try clear hb2); (try clear hk); (try clear hi); (try clear ho0); (try clear ho1)) | ((with_reducible refine gate_dst (N := 7) rfl ?_); (try (refine gate_guard (by rfl) ?_; dsimp only)); refine box_event ?hg (N := 7) ?hd (cs := #[.int .i64 0, .int .i64 0, .int .i64 0, .int .i64 0, .slice none 0 0, .slice none 0 0]) (t := 32) ?hr ?_; (case hd => rfl); (case hg => rfl); (case hr => first | (go_simp; done) | (go_simp; rfl)); intro gb440 hg w39 hbox hb; have n0_ := Aside0.mk (Kd.R_below (by (with_reducible repeat (first | apply Kd.R_alloc | apply Kd.R_drewN | apply Kd.R_drew)); exact HO435.out) hb); have n1_ := Aside0.mk (Kd.R_below (by (with_reducible repeat (first | apply Kd.R_alloc | apply Kd.R_drewN | apply Kd.R_drew)); exact HO438.out) hb); have n2_ := Aside0.mk (below_step (by repeat (first | (with_reducible first | exact HB.out | apply below_alloc | apply pw_below_drewN | apply below_drew1) | exact HB.out)) hb); have n3_ := Aside0.mk (hbox); have n4_ := Aside0.mk ((by rw [hg]; exact (below_size (by repeat (first | (with_reducible first | exact HB.out | apply below_alloc | apply pw_below_drewN | apply below_drew1) | exact HB.out))) : w.heap.size ≤ gb440)); have n5_ := Aside0.mk ((by rw [hg]; exact (below_size (by repeat (first | (with_reducible first | exact HB.out | apply below_alloc | apply pw_below_drewN | apply below_drew1) | exact HB.out))) : w.heap.size ≤ gb440)); clear HO435; clear HO438; clear HB; have HO435 := n0_; have HO438 := n1_; have HB := n2_; have BK440 := n3_; have GW440 := n4_; have GE440 := n5_; clear n0_ n1_ n2_ n3_ n4_ n5_; clear hb hbox hg; have hcz40_0 : w39.cell? ⟨gb440, 0, none⟩ = some (.int .i64 0) := (blk_cell BK440.out 0).trans rfl; have hcz40_1 : w39.cell? ⟨gb440, 1, none⟩ = some (.int .i64 0) := (blk_cell BK440.out 1).trans rfl; have hcz40_2 : w39.cell? ⟨gb440, 2, none⟩ = some (.int .i64 0) := (blk_cell BK440.out 2).trans rfl; have hcz40_3 : w39.cell? ⟨gb440, 3, none⟩ = some (.int .i64 0) := (blk_cell BK440.out 3).trans rfl; have hcz40_4 : w39.cell? ⟨gb440, 4, none⟩ = some (.slice none 0 0) := (blk_cell BK440.out 4).trans rfl; have hcz40_5 : w39.cell? ⟨gb440, 5, none⟩ = some (.slice none 0 0) := (blk_cell BK440.out 5).trans rfl; have hfz40_0 := blk_frozen BK440.out 0; have hfz40_1 := blk_frozen BK440.out 1; have hfz40_2 := blk_frozen BK440.out 2; have hfz40_3 := blk_frozen BK440.out 3; have hfz40_4 := blk_frozen BK440.out 4; have hfz40_5 := blk_frozen BK440.out 5; obtain ⟨Ao41, co41, eo41⟩ := Kd.R_slice HO435.out; subst eo41; obtain ⟨Ao42, co42, eo42⟩ := Kd.R_slice HO438.out; subst eo42) | ((with_reducible refine gate_dst (N := 9) rfl ?_); (try (refine gate_guard (by rfl) ?_; dsimp only)); refine box_event ?hg (N := 9) ?hd (cs := #[.int .i64 0, .slice none 0 0]) (t := 27) ?hr ?_; (case hd => rfl); (case hg => rfl); (case hr => first | (go_simp; done) | (go_simp; rfl)); intro gb441 hg w43 hbox hb; have n0_ := Aside0.mk (Kd.R_below (by (with_reducible repeat (first | apply Kd.R_alloc | apply Kd.R_drewN | apply Kd.R_drew)); exact (Kd.R_mono (Kd.R_far (p := ⟨gb440, 5, none⟩) (Kd.R_far (p := ⟨gb440, 4, none⟩) (Kd.R_far (p := ⟨gb440, 3, none⟩) (Kd.R_far (p := ⟨gb440, 2, none⟩) (Kd.R_far (p := ⟨gb440, 1, none⟩) (Kd.R_far (p := ⟨gb440, 0, none⟩) (Kd.R_types HO435.out BK440.out (by decide)) (fun _ hk => hk.2) (.int .i64 t429)) (fun _ hk => hk.2) (.int .i64 t430)) (fun _ hk => hk.2) (.int .i64 t431)) (fun _ hk => hk.2) (.int .i64 t432)) (fun _ hk => hk.2) (.slice Ao41 t433.length co41)) (fun _ hk => hk.2) (.slice Ao42 t436.length co42)) (fun _ h_ => h_.1))) hb); have n1_ := Aside0.mk (Kd.R_below (by (with_reducible repeat (first | apply Kd.R_alloc | apply Kd.R_drewN | apply Kd.R_drew)); exact (Kd.R_mono (Kd.R_far (p := ⟨gb440, 5, none⟩) (Kd.R_far (p := ⟨gb440, 4, none⟩) (Kd.R_far (p := ⟨gb440, 3, none⟩) (Kd.R_far (p := ⟨gb440, 2, none⟩) (Kd.R_far (p := ⟨gb440, 1, none⟩) (Kd.R_far (p := ⟨gb440, 0, none⟩) (Kd.R_types HO438.out BK440.out (by decide)) (fun _ hk => hk.2) (.int .i64 t429)) (fun _ hk => hk.2) (.int .i64 t430)) (fun _ hk => hk.2) (.int .i64 t431)) (fun _ hk => hk.2) (.int .i64 t432)) (fun _ hk => hk.2) (.slice Ao41 t433.length co41)) (fun _ hk => hk.2) (.slice Ao42 t436.length co42)) (fun _ h_ => h_.1))) hb); have n2_ := Aside0.mk (blk_below (g := gb440) (o := .cells #[.int .i64 t429, .int .i64 t430, .int .i64 t431, .int .i64 t432, .slice Ao41 t433.length co41, .slice Ao42 t436.length co42] 32 (0, 0)) (by (with_reducible repeat (first | refine blk_drewN ?_ _ | refine blk_drew ?_ | refine blk_alloc ?_ _)); refine blk_put (cs := #[.int .i64 t429, .int .i64 t430, .int .i64 t431, .int .i64 t432, .slice Ao41 t433.length co41, .slice none 0 0]) ?_ 5 _ rfl; (with_reducible repeat (first | refine blk_drewN ?_ _ | refine blk_drew ?_ | refine blk_alloc ?_ _)); refine blk_put (cs := #[.int .i64 t429, .int .i64 t430, .int .i64 t431, .int .i64 t432, .slice none 0 0, .slice none 0 0]) ?_ 4 _ rfl; (with_reducible repeat (first | refine blk_drewN ?_ _ | refine blk_drew ?_ | refine blk_alloc ?_ _)); refine blk_put (cs := #[.int .i64 t429, .int .i64 t430, .int .i64 t431, .int .i64 0, .slice none 0 0, .slice none 0 0]) ?_ 3 _ rfl; (with_reducible repeat (first | refine blk_drewN ?_ _ | refine blk_drew ?_ | refine blk_alloc ?_ _)); refine blk_put (cs := #[.int .i64 t429, .int .i64 t430, .int .i64 0, .int .i64 0, .slice none 0 0, .slice none 0 0]) ?_ 2 _ rfl; (with_reducible repeat (first | refine blk_drewN ?_ _ | refine blk_drew ?_ | refine blk_alloc ?_ _)); refine blk_put (cs := #[.int .i64 t429, .int .i64 0, .int .i64 0, .int .i64 0, .slice none 0 0, .slice none 0 0]) ?_ 1 _ rfl; (with_reducible repeat (first | refine blk_drewN ?_ _ | refine blk_drew ?_ | refine blk_alloc ?_ _)); refine blk_put (cs := #[.int .i64 0, .int .i64 0, .int .i64 0, .int .i64 0, .slice none 0 0, .slice none 0 0]) ?_ 0 _ rfl; (with_reducible repeat (first | refine blk_drewN ?_ _ | refine blk_drew ?_ | refine blk_alloc ?_ _)); exact BK440.out) hb); have n3_ := Aside0.mk (below_step (by repeat (first | (with_reducible first | exact HB.out | apply below_alloc | apply pw_below_drewN | apply below_drew1 | refine below_set ?_ GE440.out) | exact HB.out)) hb); have n4_ := Aside0.mk (hbox); have n5_ := Aside0.mk ((by rw [hg]; exact (below_size (by repeat (first | (with_reducible first | exact HB.out | apply below_alloc | apply pw_below_drewN | apply below_drew1 | refine below_set ?_ GE440.out) | exact HB.out))) : w.heap.size ≤ gb441)); have n6_ := Aside0.mk ((by rw [hg]; exact (below_size (by repeat (first | (with_reducible first | exact HB.out | apply below_alloc | apply pw_below_drewN | apply below_drew1 | refine below_set ?_ GE440.out) | exact HB.out))) : w.heap.size ≤ gb441)); have n7_ := Aside0.mk ((by rw [hg]; exact Nat.ne_of_lt (blk_lt (g := gb440) (o := .cells #[.int .i64 t429, .int .i64 t430, .int .i64 t431, .int .i64 t432, .slice Ao41 t433.length co41, .slice Ao42 t436.length co42] 32 (0, 0)) (by (with_reducible repeat (first | refine blk_drewN ?_ _ | refine blk_drew ?_ | refine blk_alloc ?_ _)); refine blk_put (cs := #[.int .i64 t429, .int .i64 t430, .int .i64 t431, .int .i64 t432, .slice Ao41 t433.length co41, .slice none 0 0]) ?_ 5 _ rfl; (with_reducible repeat (first | refine blk_drewN ?_ _ | refine blk_drew ?_ | refine blk_alloc ?_ _)); refine blk_put (cs := #[.int .i64 t429, .int .i64 t430, .int .i64 t431, .int .i64 t432, .slice none 0 0, .slice none 0 0]) ?_ 4 _ rfl; (with_reducible repeat (first | refine blk_drewN ?_ _ | refine blk_drew ?_ | refine blk_alloc ?_ _)); refine blk_put (cs := #[.int .i64 t429, .int .i64 t430, .int .i64 t431, .int .i64 0, .slice none 0 0, .slice none 0 0]) ?_ 3 _ rfl; (with_reducible repeat (first | refine blk_drewN ?_ _ | refine blk_drew ?_ | refine blk_alloc ?_ _)); refine blk_put (cs := #[.int .i64 t429, .int .i64 t430, .int .i64 0, .int .i64 0, .slice none 0 0, .slice none 0 0]) ?_ 2 _ rfl; (with_reducible repeat (first | refine blk_drewN ?_ _ | refine blk_drew ?_ | refine blk_alloc ?_ _)); refine blk_put (cs := #[.int .i64 t429, .int .i64 0, .int .i64 0, .int .i64 0, .slice none 0 0, .slice none 0 0]) ?_ 1 _ rfl; (with_reducible repeat (first | refine blk_drewN ?_ _ | refine blk_drew ?_ | refine blk_alloc ?_ _)); refine blk_put (cs := #[.int .i64 0, .int .i64 0, .int .i64 0, .int .i64 0, .slice none 0 0, .slice none 0 0]) ?_ 0 _ rfl; (with_reducible repeat (first | refine blk_drewN ?_ _ | refine blk_drew ?_ | refine blk_alloc ?_ _)); exact BK440.out)) : gb440 ≠ gb441)); have n8_ := Aside0.mk ((by rw [hg]; exact Nat.ne_of_gt (blk_lt (g := gb440) (o := .cells #[.int .i64 t429, .int .i64 t430, .int .i64 t431, .int .i64 t432, .slice Ao41 t433.length co41, .slice Ao42 t436.length co42] 32 (0, 0)) (by (with_reducible repeat (first | refine blk_drewN ?_ _ | refine blk_drew ?_ | refine blk_alloc ?_ _)); refine blk_put (cs := #[.int .i64 t429, .int .i64 t430, .int .i64 t431, .int .i64 t432, .slice Ao41 t433.length co41, .slice none 0 0]) ?_ 5 _ rfl; (with_reducible repeat (first | refine blk_drewN ?_ _ | refine blk_drew ?_ | refine blk_alloc ?_ _)); refine blk_put (cs := #[.int .i64 t429, .int .i64 t430, .int .i64 t431, .int .i64 t432, .slice none 0 0, .slice none 0 0]) ?_ 4 _ rfl; (with_reducible repeat (first | refine blk_drewN ?_ _ | refine blk_drew ?_ | refine blk_alloc ?_ _)); refine blk_put (cs := #[.int .i64 t429, .int .i64 t430, .int .i64 t431, .int .i64 0, .slice none 0 0, .slice none 0 0]) ?_ 3 _ rfl; (with_reducible repeat (first | refine blk_drewN ?_ _ | refine blk_drew ?_ | refine blk_alloc ?_ _)); refine blk_put (cs := #[.int .i64 t429, .int .i64 t430, .int .i64 0, .int .i64 0, .slice none 0 0, .slice none 0 0]) ?_ 2 _ rfl; (with_reducible repeat (first | refine blk_drewN ?_ _ | refine blk_drew ?_ | refine blk_alloc ?_ _)); refine blk_put (cs := #[.int .i64 t429, .int .i64 0, .int .i64 0, .int .i64 0, .slice none 0 0, .slice none 0 0]) ?_ 1 _ rfl; (with_reducible repeat (first | refine blk_drewN ?_ _ | refine blk_drew ?_ | refine blk_alloc ?_ _)); refine blk_put (cs := #[.int .i64 0, .int .i64 0, .int .i64 0, .int .i64 0, .slice none 0 0, .slice none 0 0]) ?_ 0 _ rfl; (with_reducible repeat (first | refine blk_drewN ?_ _ | refine blk_drew ?_ | refine blk_alloc ?_ _)); exact BK440.out)) : gb441 ≠ gb440)); clear HO435; clear HO438; clear BK440; clear HB; have HO435 := n0_; have HO438 := n1_; have BK440 := n2_; have HB := n3_; have BK441 := n4_; have GW441 := n5_; have GE441 := n6_; have NB440_441 := n7_; have NB441_440 := n8_; clear n0_ n1_ n2_ n3_ n4_ n5_ n6_ n7_ n8_; clear hb hbox hg; have hnb44 := NB441_440.out; have hnc44 := NB440_441.out; have hcz45_0 : w43.cell? ⟨gb441, 0, none⟩ = some (.int .i64 0) := (blk_cell BK441.out 0).trans rfl; have hcz45_1 : w43.cell? ⟨gb441, 1, none⟩ = some (.slice none 0 0) := (blk_cell BK441.out 1).trans rfl; have hfz45_0 := blk_frozen BK441.out 0; have hfz45_1 := blk_frozen BK441.out 1; have hcz46_0 : w43.cell? ⟨gb440, 0, none⟩ = some (.int .i64 t429) := (blk_cell BK440.out 0).trans rfl; have hcz46_1 : w43.cell? ⟨gb440, 1, none⟩ = some (.int .i64 t430) := (blk_cell BK440.out 1).trans rfl; have hcz46_2 : w43.cell? ⟨gb440, 2, none⟩ = some (.int .i64 t431) := (blk_cell BK440.out 2).trans rfl; have hcz46_3 : w43.cell? ⟨gb440, 3, none⟩ = some (.int .i64 t432) := (blk_cell BK440.out 3).trans rfl; have hcz46_4 : w43.cell? ⟨gb440, 4, none⟩ = some (.slice Ao41 t433.length co41) := (blk_cell BK440.out 4).trans rfl; have hcz46_5 : w43.cell? ⟨gb440, 5, none⟩ = some (.slice Ao42 t436.length co42) := (blk_cell BK440.out 5).trans rfl; have hfz46_0 := blk_frozen BK440.out 0; have hfz46_1 := blk_frozen BK440.out 1; have hfz46_2 := blk_frozen BK440.out 2; have hfz46_3 := blk_frozen BK440.out 3; have hfz46_4 := blk_frozen BK440.out 4; have hfz46_5 := blk_frozen BK440.out 5) | ((with_reducible refine gate_callee (f := 21) rfl ?_); refine goesL_ (some 45) rfl rfl Try.func21 (by kernel_rfl) rfl #[.agg #[.int .i64 (wrap64 (a2)), .slice none 0 0], .agg #[.int .i64 t429, .int .i64 t430, .int .i64 t431, .int .i64 t432, .slice Ao41 t433.length co41, .slice Ao42 t436.length co42]] rfl (by (try simp only [List.map_toArray, List.map_cons, List.map_nil]); first | done | rfl | (simp only [List.length_drop, List.length_take]; rfl)) ?_; (refine (feed_Take.calls kj5 (wrap64 (a2)) _ _ ([] : List (S60)) t429 t430 t431 t432 _ _ t433 _ _ t436 t442 t443 t446 _ ?side1 ?side2 ?side3 ?side4 ?side5 ?side6 A17.out).mono ?_); (case side1 => exact Kd.C_nil _ _); (case side2 => exact Nat.le_refl _); (case side3 => refine (Kd.R_reads' (e := 60) (base := w.heap.size) (ok := fun k_ => True) (n := t433.length) (c := co41) ?_).2.2; exact (by (with_reducible repeat (first | apply Kd.R_alloc | apply Kd.R_drewN | apply Kd.R_drew)); exact (Kd.R_mono (Kd.R_far (p := ⟨gb441, 1, none⟩) (Kd.R_far (p := ⟨gb441, 0, none⟩) (Kd.R_types HO435.out BK441.out (by decide)) (fun _ hk => hk.2) (.int .i64 (wrap64 (a2)))) (fun _ hk => hk.2) (.slice none 0 0)) (fun _ h_ => h_.1)))); (case side4 => exact (Kd.R_reads' HO435.out).2.1); (case side5 => refine (Kd.R_reads' (e := 64) (base := w.heap.size) (ok := fun k_ => True) (n := t436.length) (c := co42) ?_).2.2; exact (by (with_reducible repeat (first | apply Kd.R_alloc | apply Kd.R_drewN | apply Kd.R_drew)); exact (Kd.R_mono (Kd.R_far (p := ⟨gb441, 1, none⟩) (Kd.R_far (p := ⟨gb441, 0, none⟩) (Kd.R_types HO438.out BK441.out (by decide)) (fun _ hk => hk.2) (.int .i64 (wrap64 (a2)))) (fun _ hk => hk.2) (.slice none 0 0)) (fun _ h_ => h_.1)))); (case side6 => exact (Kd.R_reads' HO438.out).2.1); rintro e w47 ⟨v444, rfl, ho0, hb⟩; refine ⟨_, rfl, ?_⟩; have n0_ := Aside0.mk (Kd.R_elder' (by (with_reducible repeat (first | apply Kd.R_alloc | apply Kd.R_drewN | apply Kd.R_drew)); exact (Kd.R_mono (Kd.R_far (p := ⟨gb441, 1, none⟩) (Kd.R_far (p := ⟨gb441, 0, none⟩) (Kd.R_types HO435.out BK441.out (by decide)) (fun _ hk => hk.2) (.int .i64 (wrap64 (a2)))) (fun _ hk => hk.2) (.slice none 0 0)) (fun _ h_ => h_.1))) (Kd.R_base ho0) hb); have n1_ := Aside0.mk (Kd.R_below (by (with_reducible repeat (first | apply Kd.R_alloc | apply Kd.R_drewN | apply Kd.R_drew)); exact (Kd.R_mono (Kd.R_far (p := ⟨gb441, 1, none⟩) (Kd.R_far (p := ⟨gb441, 0, none⟩) (Kd.R_types HO438.out BK441.out (by decide)) (fun _ hk => hk.2) (.int .i64 (wrap64 (a2)))) (fun _ hk => hk.2) (.slice none 0 0)) (fun _ h_ => h_.1))) hb); have n2_ := Aside0.mk (Kd.R_lower (Kd.R_new' ho0 (Kd.R_lt (by (with_reducible repeat (first | apply Kd.R_alloc | apply Kd.R_drewN | apply Kd.R_drew)); exact (Kd.R_mono (Kd.R_far (p := ⟨gb441, 1, none⟩) (Kd.R_far (p := ⟨gb441, 0, none⟩) (Kd.R_types HO435.out BK441.out (by decide)) (fun _ hk => hk.2) (.int .i64 (wrap64 (a2)))) (fun _ hk => hk.2) (.slice none 0 0)) (fun _ h_ => h_.1))))) (below_size (by repeat (first | (with_reducible first | exact HB.out | apply below_alloc | apply pw_below_drewN | apply below_drew1 | refine below_set ?_ GE440.out | refine below_set ?_ GE441.out) | exact HB.out)))); have n3_ := Aside0.mk (blk_below (g := gb440) (o := .cells #[.int .i64 t429, .int .i64 t430, .int .i64 t431, .int .i64 t432, .slice Ao41 t433.length co41, .slice Ao42 t436.length co42] 32 (0, 0)) (by (with_reducible repeat (first | refine blk_drewN ?_ _ | refine blk_drew ?_ | refine blk_alloc ?_ _)); refine blk_far ?_ NB440_441.out _; (with_reducible repeat (first | refine blk_drewN ?_ _ | refine blk_drew ?_ | refine blk_alloc ?_ _)); refine blk_far ?_ NB440_441.out _; (with_reducible repeat (first | refine blk_drewN ?_ _ | refine blk_drew ?_ | refine blk_alloc ?_ _)); exact BK440.out) hb); have n4_ := Aside0.mk (blk_below (g := gb441) (o := .cells #[.int .i64 (wrap64 (a2)), .slice none 0 0] 27 (0, 0)) (by (with_reducible repeat (first | refine blk_drewN ?_ _ | refine blk_drew ?_ | refine blk_alloc ?_ _)); refine blk_put (cs := #[.int .i64 (wrap64 (a2)), .slice none 0 0]) ?_ 1 _ rfl; (with_reducible repeat (first | refine blk_drewN ?_ _ | refine blk_drew ?_ | refine blk_alloc ?_ _)); refine blk_put (cs := #[.int .i64 0, .slice none 0 0]) ?_ 0 _ rfl; (with_reducible repeat (first | refine blk_drewN ?_ _ | refine blk_drew ?_ | refine blk_alloc ?_ _)); exact BK441.out) hb); have n5_ := Aside0.mk (below_step (by repeat (first | (with_reducible first | exact HB.out | apply below_alloc | apply pw_below_drewN | apply below_drew1 | refine below_set ?_ GE440.out | refine below_set ?_ GE441.out) | exact HB.out)) hb); clear HO435; clear HO438; clear BK440; clear BK441; clear HB; have HO435 := n0_; have HO438 := n1_; have HO445 := n2_; have BK440 := n3_; have BK441 := n4_; have HB := n5_; clear n0_ n1_ n2_ n3_ n4_ n5_; (try clear hb); (try clear hb2); (try clear hk); (try clear hi); (try clear ho0)) | ((with_reducible refine gate_dst (N := 10) rfl ?_); (try (refine gate_guard (by rfl) ?_; dsimp only)); refine box_event ?hg (N := 10) ?hd (cs := #[.int .i64 0, .slice none 0 0]) (t := 27) ?hr ?_; (case hd => rfl); (case hg => rfl); (case hr => first | (go_simp; done) | (go_simp; rfl)); intro gb447 hg w48 hbox hb; have n0_ := Aside0.mk (Kd.R_below (by (with_reducible repeat (first | apply Kd.R_alloc | apply Kd.R_drewN | apply Kd.R_drew)); exact HO435.out) hb); have n1_ := Aside0.mk (Kd.R_below (by (with_reducible repeat (first | apply Kd.R_alloc | apply Kd.R_drewN | apply Kd.R_drew)); exact HO438.out) hb); have n2_ := Aside0.mk (Kd.R_below (by (with_reducible repeat (first | apply Kd.R_alloc | apply Kd.R_drewN | apply Kd.R_drew)); exact HO445.out) hb); have n3_ := Aside0.mk (blk_below (g := gb440) (o := .cells #[.int .i64 t429, .int .i64 t430, .int .i64 t431, .int .i64 t432, .slice Ao41 t433.length co41, .slice Ao42 t436.length co42] 32 (0, 0)) (by (with_reducible repeat (first | refine blk_drewN ?_ _ | refine blk_drew ?_ | refine blk_alloc ?_ _)); exact BK440.out) hb); have n4_ := Aside0.mk (blk_below (g := gb441) (o := .cells #[.int .i64 (wrap64 (a2)), .slice none 0 0] 27 (0, 0)) (by (with_reducible repeat (first | refine blk_drewN ?_ _ | refine blk_drew ?_ | refine blk_alloc ?_ _)); exact BK441.out) hb); have n5_ := Aside0.mk (below_step (by repeat (first | (with_reducible first | exact HB.out | apply below_alloc | apply pw_below_drewN | apply below_drew1 | refine below_set ?_ GE440.out | refine below_set ?_ GE441.out) | exact HB.out)) hb); have n6_ := Aside0.mk (hbox); have n7_ := Aside0.mk ((by rw [hg]; exact (below_size (by repeat (first | (with_reducible first | exact HB.out | apply below_alloc | apply pw_below_drewN | apply below_drew1 | refine below_set ?_ GE440.out | refine below_set ?_ GE441.out) | exact HB.out))) : w.heap.size ≤ gb447)); have n8_ := Aside0.mk ((by rw [hg]; exact (below_size (by repeat (first | (with_reducible first | exact HB.out | apply below_alloc | apply pw_below_drewN | apply below_drew1 | refine below_set ?_ GE440.out | refine below_set ?_ GE441.out) | exact HB.out))) : w.heap.size ≤ gb447)); have n9_ := Aside0.mk ((by rw [hg]; exact Nat.ne_of_lt (blk_lt (g := gb440) (o := .cells #[.int .i64 t429, .int .i64 t430, .int .i64 t431, .int .i64 t432, .slice Ao41 t433.length co41, .slice Ao42 t436.length co42] 32 (0, 0)) (by (with_reducible repeat (first | refine blk_drewN ?_ _ | refine blk_drew ?_ | refine blk_alloc ?_ _)); exact BK440.out)) : gb440 ≠ gb447)); have n10_ := Aside0.mk ((by rw [hg]; exact Nat.ne_of_gt (blk_lt (g := gb440) (o := .cells #[.int .i64 t429, .int .i64 t430, .int .i64 t431, .int .i64 t432, .slice Ao41 t433.length co41, .slice Ao42 t436.length co42] 32 (0, 0)) (by (with_reducible repeat (first | refine blk_drewN ?_ _ | refine blk_drew ?_ | refine blk_alloc ?_ _)); exact BK440.out)) : gb447 ≠ gb440)); have n11_ := Aside0.mk ((by rw [hg]; exact Nat.ne_of_lt (blk_lt (g := gb441) (o := .cells #[.int .i64 (wrap64 (a2)), .slice none 0 0] 27 (0, 0)) (by (with_reducible repeat (first | refine blk_drewN ?_ _ | refine blk_drew ?_ | refine blk_alloc ?_ _)); exact BK441.out)) : gb441 ≠ gb447)); have n12_ := Aside0.mk ((by rw [hg]; exact Nat.ne_of_gt (blk_lt (g := gb441) (o := .cells #[.int .i64 (wrap64 (a2)), .slice none 0 0] 27 (0, 0)) (by (with_reducible repeat (first | refine blk_drewN ?_ _ | refine blk_drew ?_ | refine blk_alloc ?_ _)); exact BK441.out)) : gb447 ≠ gb441)); clear HO435; clear HO438; clear HO445; clear BK440; clear BK441; clear HB; have HO435 := n0_; have HO438 := n1_; have HO445 := n2_; have BK440 := n3_; have BK441 := n4_; have HB := n5_; have BK447 := n6_; have GW447 := n7_; have GE447 := n8_; have NB440_447 := n9_; have NB447_440 := n10_; have NB441_447 := n11_; have NB447_441 := n12_; clear n0_ n1_ n2_ n3_ n4_ n5_ n6_ n7_ n8_ n9_ n10_ n11_ n12_; clear hb hbox hg; have hnb49 := NB447_440.out; have hnc49 := NB440_447.out; have hnb50 := NB447_441.out; have hnc50 := NB441_447.out; have hcz51_0 : w48.cell? ⟨gb447, 0, none⟩ = some (.int .i64 0) := (blk_cell BK447.out 0).trans rfl; have hcz51_1 : w48.cell? ⟨gb447, 1, none⟩ = some (.slice none 0 0) := (blk_cell BK447.out 1).trans rfl; have hfz51_0 := blk_frozen BK447.out 0; have hfz51_1 := blk_frozen BK447.out 1; obtain ⟨Ao52, co52, eo52⟩ := Kd.R_slice HO445.out; subst eo52; have hcz53_0 : w48.cell? ⟨gb441, 0, none⟩ = some (.int .i64 (wrap64 (a2))) := (blk_cell BK441.out 0).trans rfl; have hcz53_1 : w48.cell? ⟨gb441, 1, none⟩ = some (.slice none 0 0) := (blk_cell BK441.out 1).trans rfl; have hfz53_0 := blk_frozen BK441.out 0; have hfz53_1 := blk_frozen BK441.out 1; have hcz54_0 : w48.cell? ⟨gb440, 0, none⟩ = some (.int .i64 t429) := (blk_cell BK440.out 0).trans rfl; have hcz54_1 : w48.cell? ⟨gb440, 1, none⟩ = some (.int .i64 t430) := (blk_cell BK440.out 1).trans rfl; have hcz54_2 : w48.cell? ⟨gb440, 2, none⟩ = some (.int .i64 t431) := (blk_cell BK440.out 2).trans rfl; have hcz54_3 : w48.cell? ⟨gb440, 3, none⟩ = some (.int .i64 t432) := (blk_cell BK440.out 3).trans rfl; have hcz54_4 : w48.cell? ⟨gb440, 4, none⟩ = some (.slice Ao41 t433.length co41) := (blk_cell BK440.out 4).trans rfl; have hcz54_5 : w48.cell? ⟨gb440, 5, none⟩ = some (.slice Ao42 t436.length co42) := (blk_cell BK440.out 5).trans rfl; have hfz54_0 := blk_frozen BK440.out 0; have hfz54_1 := blk_frozen BK440.out 1; have hfz54_2 := blk_frozen BK440.out 2; have hfz54_3 := blk_frozen BK440.out 3; have hfz54_4 := blk_frozen BK440.out 4; have hfz54_5 := blk_frozen BK440.out 5))
                    go_ret
                    exact ⟨by first | rfl | (simp [errW_none, errW_some] <;> rfl) | (simp [*, errW_none, errW_some] <;> rfl), by repeat (first | (with_reducible first | exact HB.out | apply below_alloc | apply pw_below_drewN | apply below_drew1 | refine below_set ?_ GE440.out | refine below_set ?_ GE441.out | refine below_set ?_ GE447.out) | exact HB.out)⟩
                  · rw [if_neg c37] at H
                    have c37b0 : (t431 == (wrap64 (a2))) = false := beq_eq_false_iff_ne.mpr c37
                    have c37b1 : (t431 != (wrap64 (a2))) = true := bne_iff_ne.mpr c37
                    obtain rfl := Option.some.inj H
                    go_wp2_with (first | ((with_reducible refine gate_callee (f := 13) rfl ?_); refine goesL_ (some 36) rfl rfl Try.func13 (by kernel_rfl) rfl #[.slice A0 l0.length c0, .int .i64 (wrap64 (1 + (Int.tmod (wrap64 (a1)) (wrap64 ((l0.length : Int) - 1))))), .int .i64 0] rfl (by (try simp only [List.map_toArray, List.map_cons, List.map_nil]); first | done | rfl | (simp only [List.length_drop, List.length_take]; rfl)) ?_; (with_reducible refine (feed_Reply.calls kj5 _ _ l0 (wrap64 (1 + (Int.tmod (wrap64 (a1)) (wrap64 ((l0.length : Int) - 1))))) 0 t429 t430 t431 t432 t433 t436 t439 _ ?side1 ?side2 A16.out).mono ?_); (case side1 => repeat (first | exact (Kd.C_below HR0.out HB.out) | (with_reducible refine Kd.C_alloc ?_ _) | (with_reducible refine Kd.C_drewN ?_ _) | (with_reducible refine Kd.C_drew ?_))); (case side2 => exact HC0.out); rintro e w55 ⟨v434, v437, rfl, ho0, ho1, hb⟩; refine ⟨_, rfl, ?_⟩; have n0_ := Aside0.mk (Kd.R_lower ho0 (below_size (by repeat (first | (with_reducible first | exact HB.out | apply below_alloc | apply pw_below_drewN | apply below_drew1) | exact HB.out)))); have n1_ := Aside0.mk (Kd.R_lower ho1 (below_size (by repeat (first | (with_reducible first | exact HB.out | apply below_alloc | apply pw_below_drewN | apply below_drew1) | exact HB.out)))); have n2_ := Aside0.mk (below_step (by repeat (first | (with_reducible first | exact HB.out | apply below_alloc | apply pw_below_drewN | apply below_drew1) | exact HB.out)) hb); clear HB; have HO435 := n0_; have HO438 := n1_; have HB := n2_; clear n0_ n1_ n2_; (try clear hb); (try clear hb2); (try clear hk); (try clear hi); (try clear ho0); (try clear ho1)) | ((with_reducible refine gate_dst (N := 7) rfl ?_); (try (refine gate_guard (by rfl) ?_; dsimp only)); refine box_event ?hg (N := 7) ?hd (cs := #[.int .i64 0, .int .i64 0, .int .i64 0, .int .i64 0, .slice none 0 0, .slice none 0 0]) (t := 32) ?hr ?_; (case hd => rfl); (case hg => rfl); (case hr => first | (go_simp; done) | (go_simp; rfl)); intro gb440 hg w56 hbox hb; have n0_ := Aside0.mk (Kd.R_below (by (with_reducible repeat (first | apply Kd.R_alloc | apply Kd.R_drewN | apply Kd.R_drew)); exact HO435.out) hb); have n1_ := Aside0.mk (Kd.R_below (by (with_reducible repeat (first | apply Kd.R_alloc | apply Kd.R_drewN | apply Kd.R_drew)); exact HO438.out) hb); have n2_ := Aside0.mk (below_step (by repeat (first | (with_reducible first | exact HB.out | apply below_alloc | apply pw_below_drewN | apply below_drew1) | exact HB.out)) hb); have n3_ := Aside0.mk (hbox); have n4_ := Aside0.mk ((by rw [hg]; exact (below_size (by repeat (first | (with_reducible first | exact HB.out | apply below_alloc | apply pw_below_drewN | apply below_drew1) | exact HB.out))) : w.heap.size ≤ gb440)); have n5_ := Aside0.mk ((by rw [hg]; exact (below_size (by repeat (first | (with_reducible first | exact HB.out | apply below_alloc | apply pw_below_drewN | apply below_drew1) | exact HB.out))) : w.heap.size ≤ gb440)); clear HO435; clear HO438; clear HB; have HO435 := n0_; have HO438 := n1_; have HB := n2_; have BK440 := n3_; have GW440 := n4_; have GE440 := n5_; clear n0_ n1_ n2_ n3_ n4_ n5_; clear hb hbox hg; have hcz57_0 : w56.cell? ⟨gb440, 0, none⟩ = some (.int .i64 0) := (blk_cell BK440.out 0).trans rfl; have hcz57_1 : w56.cell? ⟨gb440, 1, none⟩ = some (.int .i64 0) := (blk_cell BK440.out 1).trans rfl; have hcz57_2 : w56.cell? ⟨gb440, 2, none⟩ = some (.int .i64 0) := (blk_cell BK440.out 2).trans rfl; have hcz57_3 : w56.cell? ⟨gb440, 3, none⟩ = some (.int .i64 0) := (blk_cell BK440.out 3).trans rfl; have hcz57_4 : w56.cell? ⟨gb440, 4, none⟩ = some (.slice none 0 0) := (blk_cell BK440.out 4).trans rfl; have hcz57_5 : w56.cell? ⟨gb440, 5, none⟩ = some (.slice none 0 0) := (blk_cell BK440.out 5).trans rfl; have hfz57_0 := blk_frozen BK440.out 0; have hfz57_1 := blk_frozen BK440.out 1; have hfz57_2 := blk_frozen BK440.out 2; have hfz57_3 := blk_frozen BK440.out 3; have hfz57_4 := blk_frozen BK440.out 4; have hfz57_5 := blk_frozen BK440.out 5; obtain ⟨Ao58, co58, eo58⟩ := Kd.R_slice HO435.out; subst eo58; obtain ⟨Ao59, co59, eo59⟩ := Kd.R_slice HO438.out; subst eo59) | ((with_reducible refine gate_dst (N := 9) rfl ?_); (try (refine gate_guard (by rfl) ?_; dsimp only)); refine box_event ?hg (N := 9) ?hd (cs := #[.int .i64 0, .slice none 0 0]) (t := 27) ?hr ?_; (case hd => rfl); (case hg => rfl); (case hr => first | (go_simp; done) | (go_simp; rfl)); intro gb441 hg w60 hbox hb; have n0_ := Aside0.mk (Kd.R_below (by (with_reducible repeat (first | apply Kd.R_alloc | apply Kd.R_drewN | apply Kd.R_drew)); exact (Kd.R_mono (Kd.R_far (p := ⟨gb440, 5, none⟩) (Kd.R_far (p := ⟨gb440, 4, none⟩) (Kd.R_far (p := ⟨gb440, 3, none⟩) (Kd.R_far (p := ⟨gb440, 2, none⟩) (Kd.R_far (p := ⟨gb440, 1, none⟩) (Kd.R_far (p := ⟨gb440, 0, none⟩) (Kd.R_types HO435.out BK440.out (by decide)) (fun _ hk => hk.2) (.int .i64 t429)) (fun _ hk => hk.2) (.int .i64 t430)) (fun _ hk => hk.2) (.int .i64 t431)) (fun _ hk => hk.2) (.int .i64 t432)) (fun _ hk => hk.2) (.slice Ao58 t433.length co58)) (fun _ hk => hk.2) (.slice Ao59 t436.length co59)) (fun _ h_ => h_.1))) hb); have n1_ := Aside0.mk (Kd.R_below (by (with_reducible repeat (first | apply Kd.R_alloc | apply Kd.R_drewN | apply Kd.R_drew)); exact (Kd.R_mono (Kd.R_far (p := ⟨gb440, 5, none⟩) (Kd.R_far (p := ⟨gb440, 4, none⟩) (Kd.R_far (p := ⟨gb440, 3, none⟩) (Kd.R_far (p := ⟨gb440, 2, none⟩) (Kd.R_far (p := ⟨gb440, 1, none⟩) (Kd.R_far (p := ⟨gb440, 0, none⟩) (Kd.R_types HO438.out BK440.out (by decide)) (fun _ hk => hk.2) (.int .i64 t429)) (fun _ hk => hk.2) (.int .i64 t430)) (fun _ hk => hk.2) (.int .i64 t431)) (fun _ hk => hk.2) (.int .i64 t432)) (fun _ hk => hk.2) (.slice Ao58 t433.length co58)) (fun _ hk => hk.2) (.slice Ao59 t436.length co59)) (fun _ h_ => h_.1))) hb); have n2_ := Aside0.mk (blk_below (g := gb440) (o := .cells #[.int .i64 t429, .int .i64 t430, .int .i64 t431, .int .i64 t432, .slice Ao58 t433.length co58, .slice Ao59 t436.length co59] 32 (0, 0)) (by (with_reducible repeat (first | refine blk_drewN ?_ _ | refine blk_drew ?_ | refine blk_alloc ?_ _)); refine blk_put (cs := #[.int .i64 t429, .int .i64 t430, .int .i64 t431, .int .i64 t432, .slice Ao58 t433.length co58, .slice none 0 0]) ?_ 5 _ rfl; (with_reducible repeat (first | refine blk_drewN ?_ _ | refine blk_drew ?_ | refine blk_alloc ?_ _)); refine blk_put (cs := #[.int .i64 t429, .int .i64 t430, .int .i64 t431, .int .i64 t432, .slice none 0 0, .slice none 0 0]) ?_ 4 _ rfl; (with_reducible repeat (first | refine blk_drewN ?_ _ | refine blk_drew ?_ | refine blk_alloc ?_ _)); refine blk_put (cs := #[.int .i64 t429, .int .i64 t430, .int .i64 t431, .int .i64 0, .slice none 0 0, .slice none 0 0]) ?_ 3 _ rfl; (with_reducible repeat (first | refine blk_drewN ?_ _ | refine blk_drew ?_ | refine blk_alloc ?_ _)); refine blk_put (cs := #[.int .i64 t429, .int .i64 t430, .int .i64 0, .int .i64 0, .slice none 0 0, .slice none 0 0]) ?_ 2 _ rfl; (with_reducible repeat (first | refine blk_drewN ?_ _ | refine blk_drew ?_ | refine blk_alloc ?_ _)); refine blk_put (cs := #[.int .i64 t429, .int .i64 0, .int .i64 0, .int .i64 0, .slice none 0 0, .slice none 0 0]) ?_ 1 _ rfl; (with_reducible repeat (first | refine blk_drewN ?_ _ | refine blk_drew ?_ | refine blk_alloc ?_ _)); refine blk_put (cs := #[.int .i64 0, .int .i64 0, .int .i64 0, .int .i64 0, .slice none 0 0, .slice none 0 0]) ?_ 0 _ rfl; (with_reducible repeat (first | refine blk_drewN ?_ _ | refine blk_drew ?_ | refine blk_alloc ?_ _)); exact BK440.out) hb); have n3_ := Aside0.mk (below_step (by repeat (first | (with_reducible first | exact HB.out | apply below_alloc | apply pw_below_drewN | apply below_drew1 | refine below_set ?_ GE440.out) | exact HB.out)) hb); have n4_ := Aside0.mk (hbox); have n5_ := Aside0.mk ((by rw [hg]; exact (below_size (by repeat (first | (with_reducible first | exact HB.out | apply below_alloc | apply pw_below_drewN | apply below_drew1 | refine below_set ?_ GE440.out) | exact HB.out))) : w.heap.size ≤ gb441)); have n6_ := Aside0.mk ((by rw [hg]; exact (below_size (by repeat (first | (with_reducible first | exact HB.out | apply below_alloc | apply pw_below_drewN | apply below_drew1 | refine below_set ?_ GE440.out) | exact HB.out))) : w.heap.size ≤ gb441)); have n7_ := Aside0.mk ((by rw [hg]; exact Nat.ne_of_lt (blk_lt (g := gb440) (o := .cells #[.int .i64 t429, .int .i64 t430, .int .i64 t431, .int .i64 t432, .slice Ao58 t433.length co58, .slice Ao59 t436.length co59] 32 (0, 0)) (by (with_reducible repeat (first | refine blk_drewN ?_ _ | refine blk_drew ?_ | refine blk_alloc ?_ _)); refine blk_put (cs := #[.int .i64 t429, .int .i64 t430, .int .i64 t431, .int .i64 t432, .slice Ao58 t433.length co58, .slice none 0 0]) ?_ 5 _ rfl; (with_reducible repeat (first | refine blk_drewN ?_ _ | refine blk_drew ?_ | refine blk_alloc ?_ _)); refine blk_put (cs := #[.int .i64 t429, .int .i64 t430, .int .i64 t431, .int .i64 t432, .slice none 0 0, .slice none 0 0]) ?_ 4 _ rfl; (with_reducible repeat (first | refine blk_drewN ?_ _ | refine blk_drew ?_ | refine blk_alloc ?_ _)); refine blk_put (cs := #[.int .i64 t429, .int .i64 t430, .int .i64 t431, .int .i64 0, .slice none 0 0, .slice none 0 0]) ?_ 3 _ rfl; (with_reducible repeat (first | refine blk_drewN ?_ _ | refine blk_drew ?_ | refine blk_alloc ?_ _)); refine blk_put (cs := #[.int .i64 t429, .int .i64 t430, .int .i64 0, .int .i64 0, .slice none 0 0, .slice none 0 0]) ?_ 2 _ rfl; (with_reducible repeat (first | refine blk_drewN ?_ _ | refine blk_drew ?_ | refine blk_alloc ?_ _)); refine blk_put (cs := #[.int .i64 t429, .int .i64 0, .int .i64 0, .int .i64 0, .slice none 0 0, .slice none 0 0]) ?_ 1 _ rfl; (with_reducible repeat (first | refine blk_drewN ?_ _ | refine blk_drew ?_ | refine blk_alloc ?_ _)); refine blk_put (cs := #[.int .i64 0, .int .i64 0, .int .i64 0, .int .i64 0, .slice none 0 0, .slice none 0 0]) ?_ 0 _ rfl; (with_reducible repeat (first | refine blk_drewN ?_ _ | refine blk_drew ?_ | refine blk_alloc ?_ _)); exact BK440.out)) : gb440 ≠ gb441)); have n8_ := Aside0.mk ((by rw [hg]; exact Nat.ne_of_gt (blk_lt (g := gb440) (o := .cells #[.int .i64 t429, .int .i64 t430, .int .i64 t431, .int .i64 t432, .slice Ao58 t433.length co58, .slice Ao59 t436.length co59] 32 (0, 0)) (by (with_reducible repeat (first | refine blk_drewN ?_ _ | refine blk_drew ?_ | refine blk_alloc ?_ _)); refine blk_put (cs := #[.int .i64 t429, .int .i64 t430, .int .i64 t431, .int .i64 t432, .slice Ao58 t433.length co58, .slice none 0 0]) ?_ 5 _ rfl; (with_reducible repeat (first | refine blk_drewN ?_ _ | refine blk_drew ?_ | refine blk_alloc ?_ _)); refine blk_put (cs := #[.int .i64 t429, .int .i64 t430, .int .i64 t431, .int .i64 t432, .slice none 0 0, .slice none 0 0]) ?_ 4 _ rfl; (with_reducible repeat (first | refine blk_drewN ?_ _ | refine blk_drew ?_ | refine blk_alloc ?_ _)); refine blk_put (cs := #[.int .i64 t429, .int .i64 t430, .int .i64 t431, .int .i64 0, .slice none 0 0, .slice none 0 0]) ?_ 3 _ rfl; (with_reducible repeat (first | refine blk_drewN ?_ _ | refine blk_drew ?_ | refine blk_alloc ?_ _)); refine blk_put (cs := #[.int .i64 t429, .int .i64 t430, .int .i64 0, .int .i64 0, .slice none 0 0, .slice none 0 0]) ?_ 2 _ rfl; (with_reducible repeat (first | refine blk_drewN ?_ _ | refine blk_drew ?_ | refine blk_alloc ?_ _)); refine blk_put (cs := #[.int .i64 t429, .int .i64 0, .int .i64 0, .int .i64 0, .slice none 0 0, .slice none 0 0]) ?_ 1 _ rfl; (with_reducible repeat (first | refine blk_drewN ?_ _ | refine blk_drew ?_ | refine blk_alloc ?_ _)); refine blk_put (cs := #[.int .i64 0, .int .i64 0, .int .i64 0, .int .i64 0, .slice none 0 0, .slice none 0 0]) ?_ 0 _ rfl; (with_reducible repeat (first | refine blk_drewN ?_ _ | refine blk_drew ?_ | refine blk_alloc ?_ _)); exact BK440.out)) : gb441 ≠ gb440)); clear HO435; clear HO438; clear BK440; clear HB; have HO435 := n0_; have HO438 := n1_; have BK440 := n2_; have HB := n3_; have BK441 := n4_; have GW441 := n5_; have GE441 := n6_; have NB440_441 := n7_; have NB441_440 := n8_; clear n0_ n1_ n2_ n3_ n4_ n5_ n6_ n7_ n8_; clear hb hbox hg; have hnb61 := NB441_440.out; have hnc61 := NB440_441.out; have hcz62_0 : w60.cell? ⟨gb441, 0, none⟩ = some (.int .i64 0) := (blk_cell BK441.out 0).trans rfl; have hcz62_1 : w60.cell? ⟨gb441, 1, none⟩ = some (.slice none 0 0) := (blk_cell BK441.out 1).trans rfl; have hfz62_0 := blk_frozen BK441.out 0; have hfz62_1 := blk_frozen BK441.out 1; have hcz63_0 : w60.cell? ⟨gb440, 0, none⟩ = some (.int .i64 t429) := (blk_cell BK440.out 0).trans rfl; have hcz63_1 : w60.cell? ⟨gb440, 1, none⟩ = some (.int .i64 t430) := (blk_cell BK440.out 1).trans rfl; have hcz63_2 : w60.cell? ⟨gb440, 2, none⟩ = some (.int .i64 t431) := (blk_cell BK440.out 2).trans rfl; have hcz63_3 : w60.cell? ⟨gb440, 3, none⟩ = some (.int .i64 t432) := (blk_cell BK440.out 3).trans rfl; have hcz63_4 : w60.cell? ⟨gb440, 4, none⟩ = some (.slice Ao58 t433.length co58) := (blk_cell BK440.out 4).trans rfl; have hcz63_5 : w60.cell? ⟨gb440, 5, none⟩ = some (.slice Ao59 t436.length co59) := (blk_cell BK440.out 5).trans rfl; have hfz63_0 := blk_frozen BK440.out 0; have hfz63_1 := blk_frozen BK440.out 1; have hfz63_2 := blk_frozen BK440.out 2; have hfz63_3 := blk_frozen BK440.out 3; have hfz63_4 := blk_frozen BK440.out 4; have hfz63_5 := blk_frozen BK440.out 5) | ((with_reducible refine gate_callee (f := 21) rfl ?_); refine goesL_ (some 45) rfl rfl Try.func21 (by kernel_rfl) rfl #[.agg #[.int .i64 (wrap64 (a2)), .slice none 0 0], .agg #[.int .i64 t429, .int .i64 t430, .int .i64 t431, .int .i64 t432, .slice Ao58 t433.length co58, .slice Ao59 t436.length co59]] rfl (by (try simp only [List.map_toArray, List.map_cons, List.map_nil]); first | done | rfl | (simp only [List.length_drop, List.length_take]; rfl)) ?_; (refine (feed_Take.calls kj5 (wrap64 (a2)) _ _ ([] : List (S60)) t429 t430 t431 t432 _ _ t433 _ _ t436 t442 t443 t446 _ ?side1 ?side2 ?side3 ?side4 ?side5 ?side6 A17.out).mono ?_); (case side1 => exact Kd.C_nil _ _); (case side2 => exact Nat.le_refl _); (case side3 => refine (Kd.R_reads' (e := 60) (base := w.heap.size) (ok := fun k_ => True) (n := t433.length) (c := co58) ?_).2.2; exact (by (with_reducible repeat (first | apply Kd.R_alloc | apply Kd.R_drewN | apply Kd.R_drew)); exact (Kd.R_mono (Kd.R_far (p := ⟨gb441, 1, none⟩) (Kd.R_far (p := ⟨gb441, 0, none⟩) (Kd.R_types HO435.out BK441.out (by decide)) (fun _ hk => hk.2) (.int .i64 (wrap64 (a2)))) (fun _ hk => hk.2) (.slice none 0 0)) (fun _ h_ => h_.1)))); (case side4 => exact (Kd.R_reads' HO435.out).2.1); (case side5 => refine (Kd.R_reads' (e := 64) (base := w.heap.size) (ok := fun k_ => True) (n := t436.length) (c := co59) ?_).2.2; exact (by (with_reducible repeat (first | apply Kd.R_alloc | apply Kd.R_drewN | apply Kd.R_drew)); exact (Kd.R_mono (Kd.R_far (p := ⟨gb441, 1, none⟩) (Kd.R_far (p := ⟨gb441, 0, none⟩) (Kd.R_types HO438.out BK441.out (by decide)) (fun _ hk => hk.2) (.int .i64 (wrap64 (a2)))) (fun _ hk => hk.2) (.slice none 0 0)) (fun _ h_ => h_.1)))); (case side6 => exact (Kd.R_reads' HO438.out).2.1); rintro e w64 ⟨v444, rfl, ho0, hb⟩; refine ⟨_, rfl, ?_⟩; have n0_ := Aside0.mk (Kd.R_elder' (by (with_reducible repeat (first | apply Kd.R_alloc | apply Kd.R_drewN | apply Kd.R_drew)); exact (Kd.R_mono (Kd.R_far (p := ⟨gb441, 1, none⟩) (Kd.R_far (p := ⟨gb441, 0, none⟩) (Kd.R_types HO435.out BK441.out (by decide)) (fun _ hk => hk.2) (.int .i64 (wrap64 (a2)))) (fun _ hk => hk.2) (.slice none 0 0)) (fun _ h_ => h_.1))) (Kd.R_base ho0) hb); have n1_ := Aside0.mk (Kd.R_below (by (with_reducible repeat (first | apply Kd.R_alloc | apply Kd.R_drewN | apply Kd.R_drew)); exact (Kd.R_mono (Kd.R_far (p := ⟨gb441, 1, none⟩) (Kd.R_far (p := ⟨gb441, 0, none⟩) (Kd.R_types HO438.out BK441.out (by decide)) (fun _ hk => hk.2) (.int .i64 (wrap64 (a2)))) (fun _ hk => hk.2) (.slice none 0 0)) (fun _ h_ => h_.1))) hb); have n2_ := Aside0.mk (Kd.R_lower (Kd.R_new' ho0 (Kd.R_lt (by (with_reducible repeat (first | apply Kd.R_alloc | apply Kd.R_drewN | apply Kd.R_drew)); exact (Kd.R_mono (Kd.R_far (p := ⟨gb441, 1, none⟩) (Kd.R_far (p := ⟨gb441, 0, none⟩) (Kd.R_types HO435.out BK441.out (by decide)) (fun _ hk => hk.2) (.int .i64 (wrap64 (a2)))) (fun _ hk => hk.2) (.slice none 0 0)) (fun _ h_ => h_.1))))) (below_size (by repeat (first | (with_reducible first | exact HB.out | apply below_alloc | apply pw_below_drewN | apply below_drew1 | refine below_set ?_ GE440.out | refine below_set ?_ GE441.out) | exact HB.out)))); have n3_ := Aside0.mk (blk_below (g := gb440) (o := .cells #[.int .i64 t429, .int .i64 t430, .int .i64 t431, .int .i64 t432, .slice Ao58 t433.length co58, .slice Ao59 t436.length co59] 32 (0, 0)) (by (with_reducible repeat (first | refine blk_drewN ?_ _ | refine blk_drew ?_ | refine blk_alloc ?_ _)); refine blk_far ?_ NB440_441.out _; (with_reducible repeat (first | refine blk_drewN ?_ _ | refine blk_drew ?_ | refine blk_alloc ?_ _)); refine blk_far ?_ NB440_441.out _; (with_reducible repeat (first | refine blk_drewN ?_ _ | refine blk_drew ?_ | refine blk_alloc ?_ _)); exact BK440.out) hb); have n4_ := Aside0.mk (blk_below (g := gb441) (o := .cells #[.int .i64 (wrap64 (a2)), .slice none 0 0] 27 (0, 0)) (by (with_reducible repeat (first | refine blk_drewN ?_ _ | refine blk_drew ?_ | refine blk_alloc ?_ _)); refine blk_put (cs := #[.int .i64 (wrap64 (a2)), .slice none 0 0]) ?_ 1 _ rfl; (with_reducible repeat (first | refine blk_drewN ?_ _ | refine blk_drew ?_ | refine blk_alloc ?_ _)); refine blk_put (cs := #[.int .i64 0, .slice none 0 0]) ?_ 0 _ rfl; (with_reducible repeat (first | refine blk_drewN ?_ _ | refine blk_drew ?_ | refine blk_alloc ?_ _)); exact BK441.out) hb); have n5_ := Aside0.mk (below_step (by repeat (first | (with_reducible first | exact HB.out | apply below_alloc | apply pw_below_drewN | apply below_drew1 | refine below_set ?_ GE440.out | refine below_set ?_ GE441.out) | exact HB.out)) hb); clear HO435; clear HO438; clear BK440; clear BK441; clear HB; have HO435 := n0_; have HO438 := n1_; have HO445 := n2_; have BK440 := n3_; have BK441 := n4_; have HB := n5_; clear n0_ n1_ n2_ n3_ n4_ n5_; (try clear hb); (try clear hb2); (try clear hk); (try clear hi); (try clear ho0)) | ((with_reducible refine gate_dst (N := 10) rfl ?_); (try (refine gate_guard (by rfl) ?_; dsimp only)); refine box_event ?hg (N := 10) ?hd (cs := #[.int .i64 0, .slice none 0 0]) (t := 27) ?hr ?_; (case hd => rfl); (case hg => rfl); (case hr => first | (go_simp; done) | (go_simp; rfl)); intro gb447 hg w65 hbox hb; have n0_ := Aside0.mk (Kd.R_below (by (with_reducible repeat (first | apply Kd.R_alloc | apply Kd.R_drewN | apply Kd.R_drew)); exact HO435.out) hb); have n1_ := Aside0.mk (Kd.R_below (by (with_reducible repeat (first | apply Kd.R_alloc | apply Kd.R_drewN | apply Kd.R_drew)); exact HO438.out) hb); have n2_ := Aside0.mk (Kd.R_below (by (with_reducible repeat (first | apply Kd.R_alloc | apply Kd.R_drewN | apply Kd.R_drew)); exact HO445.out) hb); have n3_ := Aside0.mk (blk_below (g := gb440) (o := .cells #[.int .i64 t429, .int .i64 t430, .int .i64 t431, .int .i64 t432, .slice Ao58 t433.length co58, .slice Ao59 t436.length co59] 32 (0, 0)) (by (with_reducible repeat (first | refine blk_drewN ?_ _ | refine blk_drew ?_ | refine blk_alloc ?_ _)); exact BK440.out) hb); have n4_ := Aside0.mk (blk_below (g := gb441) (o := .cells #[.int .i64 (wrap64 (a2)), .slice none 0 0] 27 (0, 0)) (by (with_reducible repeat (first | refine blk_drewN ?_ _ | refine blk_drew ?_ | refine blk_alloc ?_ _)); exact BK441.out) hb); have n5_ := Aside0.mk (below_step (by repeat (first | (with_reducible first | exact HB.out | apply below_alloc | apply pw_below_drewN | apply below_drew1 | refine below_set ?_ GE440.out | refine below_set ?_ GE441.out) | exact HB.out)) hb); have n6_ := Aside0.mk (hbox); have n7_ := Aside0.mk ((by rw [hg]; exact (below_size (by repeat (first | (with_reducible first | exact HB.out | apply below_alloc | apply pw_below_drewN | apply below_drew1 | refine below_set ?_ GE440.out | refine below_set ?_ GE441.out) | exact HB.out))) : w.heap.size ≤ gb447)); have n8_ := Aside0.mk ((by rw [hg]; exact (below_size (by repeat (first | (with_reducible first | exact HB.out | apply below_alloc | apply pw_below_drewN | apply below_drew1 | refine below_set ?_ GE440.out | refine below_set ?_ GE441.out) | exact HB.out))) : w.heap.size ≤ gb447)); have n9_ := Aside0.mk ((by rw [hg]; exact Nat.ne_of_lt (blk_lt (g := gb440) (o := .cells #[.int .i64 t429, .int .i64 t430, .int .i64 t431, .int .i64 t432, .slice Ao58 t433.length co58, .slice Ao59 t436.length co59] 32 (0, 0)) (by (with_reducible repeat (first | refine blk_drewN ?_ _ | refine blk_drew ?_ | refine blk_alloc ?_ _)); exact BK440.out)) : gb440 ≠ gb447)); have n10_ := Aside0.mk ((by rw [hg]; exact Nat.ne_of_gt (blk_lt (g := gb440) (o := .cells #[.int .i64 t429, .int .i64 t430, .int .i64 t431, .int .i64 t432, .slice Ao58 t433.length co58, .slice Ao59 t436.length co59] 32 (0, 0)) (by (with_reducible repeat (first | refine blk_drewN ?_ _ | refine blk_drew ?_ | refine blk_alloc ?_ _)); exact BK440.out)) : gb447 ≠ gb440)); have n11_ := Aside0.mk ((by rw [hg]; exact Nat.ne_of_lt (blk_lt (g := gb441) (o := .cells #[.int .i64 (wrap64 (a2)), .slice none 0 0] 27 (0, 0)) (by (with_reducible repeat (first | refine blk_drewN ?_ _ | refine blk_drew ?_ | refine blk_alloc ?_ _)); exact BK441.out)) : gb441 ≠ gb447)); have n12_ := Aside0.mk ((by rw [hg]; exact Nat.ne_of_gt (blk_lt (g := gb441) (o := .cells #[.int .i64 (wrap64 (a2)), .slice none 0 0] 27 (0, 0)) (by (with_reducible repeat (first | refine blk_drewN ?_ _ | refine blk_drew ?_ | refine blk_alloc ?_ _)); exact BK441.out)) : gb447 ≠ gb441)); clear HO435; clear HO438; clear HO445; clear BK440; clear BK441; clear HB; have HO435 := n0_; have HO438 := n1_; have HO445 := n2_; have BK440 := n3_; have BK441 := n4_; have HB := n5_; have BK447 := n6_; have GW447 := n7_; have GE447 := n8_; have NB440_447 := n9_; have NB447_440 := n10_; have NB441_447 := n11_; have NB447_441 := n12_; clear n0_ n1_ n2_ n3_ n4_ n5_ n6_ n7_ n8_ n9_ n10_ n11_ n12_; clear hb hbox hg; have hnb66 := NB447_440.out; have hnc66 := NB440_447.out; have hnb67 := NB447_441.out; have hnc67 := NB441_447.out; have hcz68_0 : w65.cell? ⟨gb447, 0, none⟩ = some (.int .i64 0) := (blk_cell BK447.out 0).trans rfl; have hcz68_1 : w65.cell? ⟨gb447, 1, none⟩ = some (.slice none 0 0) := (blk_cell BK447.out 1).trans rfl; have hfz68_0 := blk_frozen BK447.out 0; have hfz68_1 := blk_frozen BK447.out 1; obtain ⟨Ao69, co69, eo69⟩ := Kd.R_slice HO445.out; subst eo69; have hcz70_0 : w65.cell? ⟨gb441, 0, none⟩ = some (.int .i64 (wrap64 (a2))) := (blk_cell BK441.out 0).trans rfl; have hcz70_1 : w65.cell? ⟨gb441, 1, none⟩ = some (.slice none 0 0) := (blk_cell BK441.out 1).trans rfl; have hfz70_0 := blk_frozen BK441.out 0; have hfz70_1 := blk_frozen BK441.out 1; have hcz71_0 : w65.cell? ⟨gb440, 0, none⟩ = some (.int .i64 t429) := (blk_cell BK440.out 0).trans rfl; have hcz71_1 : w65.cell? ⟨gb440, 1, none⟩ = some (.int .i64 t430) := (blk_cell BK440.out 1).trans rfl; have hcz71_2 : w65.cell? ⟨gb440, 2, none⟩ = some (.int .i64 t431) := (blk_cell BK440.out 2).trans rfl; have hcz71_3 : w65.cell? ⟨gb440, 3, none⟩ = some (.int .i64 t432) := (blk_cell BK440.out 3).trans rfl; have hcz71_4 : w65.cell? ⟨gb440, 4, none⟩ = some (.slice Ao58 t433.length co58) := (blk_cell BK440.out 4).trans rfl; have hcz71_5 : w65.cell? ⟨gb440, 5, none⟩ = some (.slice Ao59 t436.length co59) := (blk_cell BK440.out 5).trans rfl; have hfz71_0 := blk_frozen BK440.out 0; have hfz71_1 := blk_frozen BK440.out 1; have hfz71_2 := blk_frozen BK440.out 2; have hfz71_3 := blk_frozen BK440.out 3; have hfz71_4 := blk_frozen BK440.out 4; have hfz71_5 := blk_frozen BK440.out 5))
                    go_ret
                    exact ⟨by first | rfl | (simp [errW_none, errW_some] <;> rfl) | (simp [*, errW_none, errW_some] <;> rfl), by repeat (first | (with_reducible first | exact HB.out | apply below_alloc | apply pw_below_drewN | apply below_drew1 | refine below_set ?_ GE440.out | refine below_set ?_ GE441.out | refine below_set ?_ GE447.out) | exact HB.out)⟩
                · rw [if_neg c36] at H
                  have c36b0 : (t429 == 2) = false := beq_eq_false_iff_ne.mpr c36
                  have c36b1 : (t429 != 2) = true := bne_iff_ne.mpr c36
                  obtain rfl := Option.some.inj H
                  go_wp2_with (first | ((with_reducible refine gate_callee (f := 13) rfl ?_); refine goesL_ (some 36) rfl rfl Try.func13 (by kernel_rfl) rfl #[.slice A0 l0.length c0, .int .i64 (wrap64 (1 + (Int.tmod (wrap64 (a1)) (wrap64 ((l0.length : Int) - 1))))), .int .i64 0] rfl (by (try simp only [List.map_toArray, List.map_cons, List.map_nil]); first | done | rfl | (simp only [List.length_drop, List.length_take]; rfl)) ?_; (with_reducible refine (feed_Reply.calls kj5 _ _ l0 (wrap64 (1 + (Int.tmod (wrap64 (a1)) (wrap64 ((l0.length : Int) - 1))))) 0 t429 t430 t431 t432 t433 t436 t439 _ ?side1 ?side2 A16.out).mono ?_); (case side1 => repeat (first | exact (Kd.C_below HR0.out HB.out) | (with_reducible refine Kd.C_alloc ?_ _) | (with_reducible refine Kd.C_drewN ?_ _) | (with_reducible refine Kd.C_drew ?_))); (case side2 => exact HC0.out); rintro e w72 ⟨v434, v437, rfl, ho0, ho1, hb⟩; refine ⟨_, rfl, ?_⟩; have n0_ := Aside0.mk (Kd.R_lower ho0 (below_size (by repeat (first | (with_reducible first | exact HB.out | apply below_alloc | apply pw_below_drewN | apply below_drew1) | exact HB.out)))); have n1_ := Aside0.mk (Kd.R_lower ho1 (below_size (by repeat (first | (with_reducible first | exact HB.out | apply below_alloc | apply pw_below_drewN | apply below_drew1) | exact HB.out)))); have n2_ := Aside0.mk (below_step (by repeat (first | (with_reducible first | exact HB.out | apply below_alloc | apply pw_below_drewN | apply below_drew1) | exact HB.out)) hb); clear HB; have HO435 := n0_; have HO438 := n1_; have HB := n2_; clear n0_ n1_ n2_; (try clear hb); (try clear hb2); (try clear hk); (try clear hi); (try clear ho0); (try clear ho1)) | ((with_reducible refine gate_dst (N := 7) rfl ?_); (try (refine gate_guard (by rfl) ?_; dsimp only)); refine box_event ?hg (N := 7) ?hd (cs := #[.int .i64 0, .int .i64 0, .int .i64 0, .int .i64 0, .slice none 0 0, .slice none 0 0]) (t := 32) ?hr ?_; (case hd => rfl); (case hg => rfl); (case hr => first | (go_simp; done) | (go_simp; rfl)); intro gb440 hg w73 hbox hb; have n0_ := Aside0.mk (Kd.R_below (by (with_reducible repeat (first | apply Kd.R_alloc | apply Kd.R_drewN | apply Kd.R_drew)); exact HO435.out) hb); have n1_ := Aside0.mk (Kd.R_below (by (with_reducible repeat (first | apply Kd.R_alloc | apply Kd.R_drewN | apply Kd.R_drew)); exact HO438.out) hb); have n2_ := Aside0.mk (below_step (by repeat (first | (with_reducible first | exact HB.out | apply below_alloc | apply pw_below_drewN | apply below_drew1) | exact HB.out)) hb); have n3_ := Aside0.mk (hbox); have n4_ := Aside0.mk ((by rw [hg]; exact (below_size (by repeat (first | (with_reducible first | exact HB.out | apply below_alloc | apply pw_below_drewN | apply below_drew1) | exact HB.out))) : w.heap.size ≤ gb440)); have n5_ := Aside0.mk ((by rw [hg]; exact (below_size (by repeat (first | (with_reducible first | exact HB.out | apply below_alloc | apply pw_below_drewN | apply below_drew1) | exact HB.out))) : w.heap.size ≤ gb440)); clear HO435; clear HO438; clear HB; have HO435 := n0_; have HO438 := n1_; have HB := n2_; have BK440 := n3_; have GW440 := n4_; have GE440 := n5_; clear n0_ n1_ n2_ n3_ n4_ n5_; clear hb hbox hg; have hcz74_0 : w73.cell? ⟨gb440, 0, none⟩ = some (.int .i64 0) := (blk_cell BK440.out 0).trans rfl; have hcz74_1 : w73.cell? ⟨gb440, 1, none⟩ = some (.int .i64 0) := (blk_cell BK440.out 1).trans rfl; have hcz74_2 : w73.cell? ⟨gb440, 2, none⟩ = some (.int .i64 0) := (blk_cell BK440.out 2).trans rfl; have hcz74_3 : w73.cell? ⟨gb440, 3, none⟩ = some (.int .i64 0) := (blk_cell BK440.out 3).trans rfl; have hcz74_4 : w73.cell? ⟨gb440, 4, none⟩ = some (.slice none 0 0) := (blk_cell BK440.out 4).trans rfl; have hcz74_5 : w73.cell? ⟨gb440, 5, none⟩ = some (.slice none 0 0) := (blk_cell BK440.out 5).trans rfl; have hfz74_0 := blk_frozen BK440.out 0; have hfz74_1 := blk_frozen BK440.out 1; have hfz74_2 := blk_frozen BK440.out 2; have hfz74_3 := blk_frozen BK440.out 3; have hfz74_4 := blk_frozen BK440.out 4; have hfz74_5 := blk_frozen BK440.out 5; obtain ⟨Ao75, co75, eo75⟩ := Kd.R_slice HO435.out; subst eo75; obtain ⟨Ao76, co76, eo76⟩ := Kd.R_slice HO438.out; subst eo76) | ((with_reducible refine gate_dst (N := 9) rfl ?_); (try (refine gate_guard (by rfl) ?_; dsimp only)); refine box_event ?hg (N := 9) ?hd (cs := #[.int .i64 0, .slice none 0 0]) (t := 27) ?hr ?_; (case hd => rfl); (case hg => rfl); (case hr => first | (go_simp; done) | (go_simp; rfl)); intro gb441 hg w77 hbox hb; have n0_ := Aside0.mk (Kd.R_below (by (with_reducible repeat (first | apply Kd.R_alloc | apply Kd.R_drewN | apply Kd.R_drew)); exact (Kd.R_mono (Kd.R_far (p := ⟨gb440, 5, none⟩) (Kd.R_far (p := ⟨gb440, 4, none⟩) (Kd.R_far (p := ⟨gb440, 3, none⟩) (Kd.R_far (p := ⟨gb440, 2, none⟩) (Kd.R_far (p := ⟨gb440, 1, none⟩) (Kd.R_far (p := ⟨gb440, 0, none⟩) (Kd.R_types HO435.out BK440.out (by decide)) (fun _ hk => hk.2) (.int .i64 t429)) (fun _ hk => hk.2) (.int .i64 t430)) (fun _ hk => hk.2) (.int .i64 t431)) (fun _ hk => hk.2) (.int .i64 t432)) (fun _ hk => hk.2) (.slice Ao75 t433.length co75)) (fun _ hk => hk.2) (.slice Ao76 t436.length co76)) (fun _ h_ => h_.1))) hb); have n1_ := Aside0.mk (Kd.R_below (by (with_reducible repeat (first | apply Kd.R_alloc | apply Kd.R_drewN | apply Kd.R_drew)); exact (Kd.R_mono (Kd.R_far (p := ⟨gb440, 5, none⟩) (Kd.R_far (p := ⟨gb440, 4, none⟩) (Kd.R_far (p := ⟨gb440, 3, none⟩) (Kd.R_far (p := ⟨gb440, 2, none⟩) (Kd.R_far (p := ⟨gb440, 1, none⟩) (Kd.R_far (p := ⟨gb440, 0, none⟩) (Kd.R_types HO438.out BK440.out (by decide)) (fun _ hk => hk.2) (.int .i64 t429)) (fun _ hk => hk.2) (.int .i64 t430)) (fun _ hk => hk.2) (.int .i64 t431)) (fun _ hk => hk.2) (.int .i64 t432)) (fun _ hk => hk.2) (.slice Ao75 t433.length co75)) (fun _ hk => hk.2) (.slice Ao76 t436.length co76)) (fun _ h_ => h_.1))) hb); have n2_ := Aside0.mk (blk_below (g := gb440) (o := .cells #[.int .i64 t429, .int .i64 t430, .int .i64 t431, .int .i64 t432, .slice Ao75 t433.length co75, .slice Ao76 t436.length co76] 32 (0, 0)) (by (with_reducible repeat (first | refine blk_drewN ?_ _ | refine blk_drew ?_ | refine blk_alloc ?_ _)); refine blk_put (cs := #[.int .i64 t429, .int .i64 t430, .int .i64 t431, .int .i64 t432, .slice Ao75 t433.length co75, .slice none 0 0]) ?_ 5 _ rfl; (with_reducible repeat (first | refine blk_drewN ?_ _ | refine blk_drew ?_ | refine blk_alloc ?_ _)); refine blk_put (cs := #[.int .i64 t429, .int .i64 t430, .int .i64 t431, .int .i64 t432, .slice none 0 0, .slice none 0 0]) ?_ 4 _ rfl; (with_reducible repeat (first | refine blk_drewN ?_ _ | refine blk_drew ?_ | refine blk_alloc ?_ _)); refine blk_put (cs := #[.int .i64 t429, .int .i64 t430, .int .i64 t431, .int .i64 0, .slice none 0 0, .slice none 0 0]) ?_ 3 _ rfl; (with_reducible repeat (first | refine blk_drewN ?_ _ | refine blk_drew ?_ | refine blk_alloc ?_ _)); refine blk_put (cs := #[.int .i64 t429, .int .i64 t430, .int .i64 0, .int .i64 0, .slice none 0 0, .slice none 0 0]) ?_ 2 _ rfl; (with_reducible repeat (first | refine blk_drewN ?_ _ | refine blk_drew ?_ | refine blk_alloc ?_ _)); refine blk_put (cs := #[.int .i64 t429, .int .i64 0, .int .i64 0, .int .i64 0, .slice none 0 0, .slice none 0 0]) ?_ 1 _ rfl; (with_reducible repeat (first | refine blk_drewN ?_ _ | refine blk_drew ?_ | refine blk_alloc ?_ _)); refine blk_put (cs := #[.int .i64 0, .int .i64 0, .int .i64 0, .int .i64 0, .slice none 0 0, .slice none 0 0]) ?_ 0 _ rfl; (with_reducible repeat (first | refine blk_drewN ?_ _ | refine blk_drew ?_ | refine blk_alloc ?_ _)); exact BK440.out) hb); have n3_ := Aside0.mk (below_step (by repeat (first | (with_reducible first | exact HB.out | apply below_alloc | apply pw_below_drewN | apply below_drew1 | refine below_set ?_ GE440.out) | exact HB.out)) hb); have n4_ := Aside0.mk (hbox); have n5_ := Aside0.mk ((by rw [hg]; exact (below_size (by repeat (first | (with_reducible first | exact HB.out | apply below_alloc | apply pw_below_drewN | apply below_drew1 | refine below_set ?_ GE440.out) | exact HB.out))) : w.heap.size ≤ gb441)); have n6_ := Aside0.mk ((by rw [hg]; exact (below_size (by repeat (first | (with_reducible first | exact HB.out | apply below_alloc | apply pw_below_drewN | apply below_drew1 | refine below_set ?_ GE440.out) | exact HB.out))) : w.heap.size ≤ gb441)); have n7_ := Aside0.mk ((by rw [hg]; exact Nat.ne_of_lt (blk_lt (g := gb440) (o := .cells #[.int .i64 t429, .int .i64 t430, .int .i64 t431, .int .i64 t432, .slice Ao75 t433.length co75, .slice Ao76 t436.length co76] 32 (0, 0)) (by (with_reducible repeat (first | refine blk_drewN ?_ _ | refine blk_drew ?_ | refine blk_alloc ?_ _)); refine blk_put (cs := #[.int .i64 t429, .int .i64 t430, .int .i64 t431, .int .i64 t432, .slice Ao75 t433.length co75, .slice none 0 0]) ?_ 5 _ rfl; (with_reducible repeat (first | refine blk_drewN ?_ _ | refine blk_drew ?_ | refine blk_alloc ?_ _)); refine blk_put (cs := #[.int .i64 t429, .int .i64 t430, .int .i64 t431, .int .i64 t432, .slice none 0 0, .slice none 0 0]) ?_ 4 _ rfl; (with_reducible repeat (first | refine blk_drewN ?_ _ | refine blk_drew ?_ | refine blk_alloc ?_ _)); refine blk_put (cs := #[.int .i64 t429, .int .i64 t430, .int .i64 t431, .int .i64 0, .slice none 0 0, .slice none 0 0]) ?_ 3 _ rfl; (with_reducible repeat (first | refine blk_drewN ?_ _ | refine blk_drew ?_ | refine blk_alloc ?_ _)); refine blk_put (cs := #[.int .i64 t429, .int .i64 t430, .int .i64 0, .int .i64 0, .slice none 0 0, .slice none 0 0]) ?_ 2 _ rfl; (with_reducible repeat (first | refine blk_drewN ?_ _ | refine blk_drew ?_ | refine blk_alloc ?_ _)); refine blk_put (cs := #[.int .i64 t429, .int .i64 0, .int .i64 0, .int .i64 0, .slice none 0 0, .slice none 0 0]) ?_ 1 _ rfl; (with_reducible repeat (first | refine blk_drewN ?_ _ | refine blk_drew ?_ | refine blk_alloc ?_ _)); refine blk_put (cs := #[.int .i64 0, .int .i64 0, .int .i64 0, .int .i64 0, .slice none 0 0, .slice none 0 0]) ?_ 0 _ rfl; (with_reducible repeat (first | refine blk_drewN ?_ _ | refine blk_drew ?_ | refine blk_alloc ?_ _)); exact BK440.out)) : gb440 ≠ gb441)); have n8_ := Aside0.mk ((by rw [hg]; exact Nat.ne_of_gt (blk_lt (g := gb440) (o := .cells #[.int .i64 t429, .int .i64 t430, .int .i64 t431, .int .i64 t432, .slice Ao75 t433.length co75, .slice Ao76 t436.length co76] 32 (0, 0)) (by (with_reducible repeat (first | refine blk_drewN ?_ _ | refine blk_drew ?_ | refine blk_alloc ?_ _)); refine blk_put (cs := #[.int .i64 t429, .int .i64 t430, .int .i64 t431, .int .i64 t432, .slice Ao75 t433.length co75, .slice none 0 0]) ?_ 5 _ rfl; (with_reducible repeat (first | refine blk_drewN ?_ _ | refine blk_drew ?_ | refine blk_alloc ?_ _)); refine blk_put (cs := #[.int .i64 t429, .int .i64 t430, .int .i64 t431, .int .i64 t432, .slice none 0 0, .slice none 0 0]) ?_ 4 _ rfl; (with_reducible repeat (first | refine blk_drewN ?_ _ | refine blk_drew ?_ | refine blk_alloc ?_ _)); refine blk_put (cs := #[.int .i64 t429, .int .i64 t430, .int .i64 t431, .int .i64 0, .slice none 0 0, .slice none 0 0]) ?_ 3 _ rfl; (with_reducible repeat (first | refine blk_drewN ?_ _ | refine blk_drew ?_ | refine blk_alloc ?_ _)); refine blk_put (cs := #[.int .i64 t429, .int .i64 t430, .int .i64 0, .int .i64 0, .slice none 0 0, .slice none 0 0]) ?_ 2 _ rfl; (with_reducible repeat (first | refine blk_drewN ?_ _ | refine blk_drew ?_ | refine blk_alloc ?_ _)); refine blk_put (cs := #[.int .i64 t429, .int .i64 0, .int .i64 0, .int .i64 0, .slice none 0 0, .slice none 0 0]) ?_ 1 _ rfl; (with_reducible repeat (first | refine blk_drewN ?_ _ | refine blk_drew ?_ | refine blk_alloc ?_ _)); refine blk_put (cs := #[.int .i64 0, .int .i64 0, .int .i64 0, .int .i64 0, .slice none 0 0, .slice none 0 0]) ?_ 0 _ rfl; (with_reducible repeat (first | refine blk_drewN ?_ _ | refine blk_drew ?_ | refine blk_alloc ?_ _)); exact BK440.out)) : gb441 ≠ gb440)); clear HO435; clear HO438; clear BK440; clear HB; have HO435 := n0_; have HO438 := n1_; have BK440 := n2_; have HB := n3_; have BK441 := n4_; have GW441 := n5_; have GE441 := n6_; have NB440_441 := n7_; have NB441_440 := n8_; clear n0_ n1_ n2_ n3_ n4_ n5_ n6_ n7_ n8_; clear hb hbox hg; have hnb78 := NB441_440.out; have hnc78 := NB440_441.out; have hcz79_0 : w77.cell? ⟨gb441, 0, none⟩ = some (.int .i64 0) := (blk_cell BK441.out 0).trans rfl; have hcz79_1 : w77.cell? ⟨gb441, 1, none⟩ = some (.slice none 0 0) := (blk_cell BK441.out 1).trans rfl; have hfz79_0 := blk_frozen BK441.out 0; have hfz79_1 := blk_frozen BK441.out 1; have hcz80_0 : w77.cell? ⟨gb440, 0, none⟩ = some (.int .i64 t429) := (blk_cell BK440.out 0).trans rfl; have hcz80_1 : w77.cell? ⟨gb440, 1, none⟩ = some (.int .i64 t430) := (blk_cell BK440.out 1).trans rfl; have hcz80_2 : w77.cell? ⟨gb440, 2, none⟩ = some (.int .i64 t431) := (blk_cell BK440.out 2).trans rfl; have hcz80_3 : w77.cell? ⟨gb440, 3, none⟩ = some (.int .i64 t432) := (blk_cell BK440.out 3).trans rfl; have hcz80_4 : w77.cell? ⟨gb440, 4, none⟩ = some (.slice Ao75 t433.length co75) := (blk_cell BK440.out 4).trans rfl; have hcz80_5 : w77.cell? ⟨gb440, 5, none⟩ = some (.slice Ao76 t436.length co76) := (blk_cell BK440.out 5).trans rfl; have hfz80_0 := blk_frozen BK440.out 0; have hfz80_1 := blk_frozen BK440.out 1; have hfz80_2 := blk_frozen BK440.out 2; have hfz80_3 := blk_frozen BK440.out 3; have hfz80_4 := blk_frozen BK440.out 4; have hfz80_5 := blk_frozen BK440.out 5) | ((with_reducible refine gate_callee (f := 21) rfl ?_); refine goesL_ (some 45) rfl rfl Try.func21 (by kernel_rfl) rfl #[.agg #[.int .i64 (wrap64 (a2)), .slice none 0 0], .agg #[.int .i64 t429, .int .i64 t430, .int .i64 t431, .int .i64 t432, .slice Ao75 t433.length co75, .slice Ao76 t436.length co76]] rfl (by (try simp only [List.map_toArray, List.map_cons, List.map_nil]); first | done | rfl | (simp only [List.length_drop, List.length_take]; rfl)) ?_; (refine (feed_Take.calls kj5 (wrap64 (a2)) _ _ ([] : List (S60)) t429 t430 t431 t432 _ _ t433 _ _ t436 t442 t443 t446 _ ?side1 ?side2 ?side3 ?side4 ?side5 ?side6 A17.out).mono ?_); (case side1 => exact Kd.C_nil _ _); (case side2 => exact Nat.le_refl _); (case side3 => refine (Kd.R_reads' (e := 60) (base := w.heap.size) (ok := fun k_ => True) (n := t433.length) (c := co75) ?_).2.2; exact (by (with_reducible repeat (first | apply Kd.R_alloc | apply Kd.R_drewN | apply Kd.R_drew)); exact (Kd.R_mono (Kd.R_far (p := ⟨gb441, 1, none⟩) (Kd.R_far (p := ⟨gb441, 0, none⟩) (Kd.R_types HO435.out BK441.out (by decide)) (fun _ hk => hk.2) (.int .i64 (wrap64 (a2)))) (fun _ hk => hk.2) (.slice none 0 0)) (fun _ h_ => h_.1)))); (case side4 => exact (Kd.R_reads' HO435.out).2.1); (case side5 => refine (Kd.R_reads' (e := 64) (base := w.heap.size) (ok := fun k_ => True) (n := t436.length) (c := co76) ?_).2.2; exact (by (with_reducible repeat (first | apply Kd.R_alloc | apply Kd.R_drewN | apply Kd.R_drew)); exact (Kd.R_mono (Kd.R_far (p := ⟨gb441, 1, none⟩) (Kd.R_far (p := ⟨gb441, 0, none⟩) (Kd.R_types HO438.out BK441.out (by decide)) (fun _ hk => hk.2) (.int .i64 (wrap64 (a2)))) (fun _ hk => hk.2) (.slice none 0 0)) (fun _ h_ => h_.1)))); (case side6 => exact (Kd.R_reads' HO438.out).2.1); rintro e w81 ⟨v444, rfl, ho0, hb⟩; refine ⟨_, rfl, ?_⟩; have n0_ := Aside0.mk (Kd.R_elder' (by (with_reducible repeat (first | apply Kd.R_alloc | apply Kd.R_drewN | apply Kd.R_drew)); exact (Kd.R_mono (Kd.R_far (p := ⟨gb441, 1, none⟩) (Kd.R_far (p := ⟨gb441, 0, none⟩) (Kd.R_types HO435.out BK441.out (by decide)) (fun _ hk => hk.2) (.int .i64 (wrap64 (a2)))) (fun _ hk => hk.2) (.slice none 0 0)) (fun _ h_ => h_.1))) (Kd.R_base ho0) hb); have n1_ := Aside0.mk (Kd.R_below (by (with_reducible repeat (first | apply Kd.R_alloc | apply Kd.R_drewN | apply Kd.R_drew)); exact (Kd.R_mono (Kd.R_far (p := ⟨gb441, 1, none⟩) (Kd.R_far (p := ⟨gb441, 0, none⟩) (Kd.R_types HO438.out BK441.out (by decide)) (fun _ hk => hk.2) (.int .i64 (wrap64 (a2)))) (fun _ hk => hk.2) (.slice none 0 0)) (fun _ h_ => h_.1))) hb); have n2_ := Aside0.mk (Kd.R_lower (Kd.R_new' ho0 (Kd.R_lt (by (with_reducible repeat (first | apply Kd.R_alloc | apply Kd.R_drewN | apply Kd.R_drew)); exact (Kd.R_mono (Kd.R_far (p := ⟨gb441, 1, none⟩) (Kd.R_far (p := ⟨gb441, 0, none⟩) (Kd.R_types HO435.out BK441.out (by decide)) (fun _ hk => hk.2) (.int .i64 (wrap64 (a2)))) (fun _ hk => hk.2) (.slice none 0 0)) (fun _ h_ => h_.1))))) (below_size (by repeat (first | (with_reducible first | exact HB.out | apply below_alloc | apply pw_below_drewN | apply below_drew1 | refine below_set ?_ GE440.out | refine below_set ?_ GE441.out) | exact HB.out)))); have n3_ := Aside0.mk (blk_below (g := gb440) (o := .cells #[.int .i64 t429, .int .i64 t430, .int .i64 t431, .int .i64 t432, .slice Ao75 t433.length co75, .slice Ao76 t436.length co76] 32 (0, 0)) (by (with_reducible repeat (first | refine blk_drewN ?_ _ | refine blk_drew ?_ | refine blk_alloc ?_ _)); refine blk_far ?_ NB440_441.out _; (with_reducible repeat (first | refine blk_drewN ?_ _ | refine blk_drew ?_ | refine blk_alloc ?_ _)); refine blk_far ?_ NB440_441.out _; (with_reducible repeat (first | refine blk_drewN ?_ _ | refine blk_drew ?_ | refine blk_alloc ?_ _)); exact BK440.out) hb); have n4_ := Aside0.mk (blk_below (g := gb441) (o := .cells #[.int .i64 (wrap64 (a2)), .slice none 0 0] 27 (0, 0)) (by (with_reducible repeat (first | refine blk_drewN ?_ _ | refine blk_drew ?_ | refine blk_alloc ?_ _)); refine blk_put (cs := #[.int .i64 (wrap64 (a2)), .slice none 0 0]) ?_ 1 _ rfl; (with_reducible repeat (first | refine blk_drewN ?_ _ | refine blk_drew ?_ | refine blk_alloc ?_ _)); refine blk_put (cs := #[.int .i64 0, .slice none 0 0]) ?_ 0 _ rfl; (with_reducible repeat (first | refine blk_drewN ?_ _ | refine blk_drew ?_ | refine blk_alloc ?_ _)); exact BK441.out) hb); have n5_ := Aside0.mk (below_step (by repeat (first | (with_reducible first | exact HB.out | apply below_alloc | apply pw_below_drewN | apply below_drew1 | refine below_set ?_ GE440.out | refine below_set ?_ GE441.out) | exact HB.out)) hb); clear HO435; clear HO438; clear BK440; clear BK441; clear HB; have HO435 := n0_; have HO438 := n1_; have HO445 := n2_; have BK440 := n3_; have BK441 := n4_; have HB := n5_; clear n0_ n1_ n2_ n3_ n4_ n5_; (try clear hb); (try clear hb2); (try clear hk); (try clear hi); (try clear ho0)) | ((with_reducible refine gate_dst (N := 10) rfl ?_); (try (refine gate_guard (by rfl) ?_; dsimp only)); refine box_event ?hg (N := 10) ?hd (cs := #[.int .i64 0, .slice none 0 0]) (t := 27) ?hr ?_; (case hd => rfl); (case hg => rfl); (case hr => first | (go_simp; done) | (go_simp; rfl)); intro gb447 hg w82 hbox hb; have n0_ := Aside0.mk (Kd.R_below (by (with_reducible repeat (first | apply Kd.R_alloc | apply Kd.R_drewN | apply Kd.R_drew)); exact HO435.out) hb); have n1_ := Aside0.mk (Kd.R_below (by (with_reducible repeat (first | apply Kd.R_alloc | apply Kd.R_drewN | apply Kd.R_drew)); exact HO438.out) hb); have n2_ := Aside0.mk (Kd.R_below (by (with_reducible repeat (first | apply Kd.R_alloc | apply Kd.R_drewN | apply Kd.R_drew)); exact HO445.out) hb); have n3_ := Aside0.mk (blk_below (g := gb440) (o := .cells #[.int .i64 t429, .int .i64 t430, .int .i64 t431, .int .i64 t432, .slice Ao75 t433.length co75, .slice Ao76 t436.length co76] 32 (0, 0)) (by (with_reducible repeat (first | refine blk_drewN ?_ _ | refine blk_drew ?_ | refine blk_alloc ?_ _)); exact BK440.out) hb); have n4_ := Aside0.mk (blk_below (g := gb441) (o := .cells #[.int .i64 (wrap64 (a2)), .slice none 0 0] 27 (0, 0)) (by (with_reducible repeat (first | refine blk_drewN ?_ _ | refine blk_drew ?_ | refine blk_alloc ?_ _)); exact BK441.out) hb); have n5_ := Aside0.mk (below_step (by repeat (first | (with_reducible first | exact HB.out | apply below_alloc | apply pw_below_drewN | apply below_drew1 | refine below_set ?_ GE440.out | refine below_set ?_ GE441.out) | exact HB.out)) hb); have n6_ := Aside0.mk (hbox); have n7_ := Aside0.mk ((by rw [hg]; exact (below_size (by repeat (first | (with_reducible first | exact HB.out | apply below_alloc | apply pw_below_drewN | apply below_drew1 | refine below_set ?_ GE440.out | refine below_set ?_ GE441.out) | exact HB.out))) : w.heap.size ≤ gb447)); have n8_ := Aside0.mk ((by rw [hg]; exact (below_size (by repeat (first | (with_reducible first | exact HB.out | apply below_alloc | apply pw_below_drewN | apply below_drew1 | refine below_set ?_ GE440.out | refine below_set ?_ GE441.out) | exact HB.out))) : w.heap.size ≤ gb447)); have n9_ := Aside0.mk ((by rw [hg]; exact Nat.ne_of_lt (blk_lt (g := gb440) (o := .cells #[.int .i64 t429, .int .i64 t430, .int .i64 t431, .int .i64 t432, .slice Ao75 t433.length co75, .slice Ao76 t436.length co76] 32 (0, 0)) (by (with_reducible repeat (first | refine blk_drewN ?_ _ | refine blk_drew ?_ | refine blk_alloc ?_ _)); exact BK440.out)) : gb440 ≠ gb447)); have n10_ := Aside0.mk ((by rw [hg]; exact Nat.ne_of_gt (blk_lt (g := gb440) (o := .cells #[.int .i64 t429, .int .i64 t430, .int .i64 t431, .int .i64 t432, .slice Ao75 t433.length co75, .slice Ao76 t436.length co76] 32 (0, 0)) (by (with_reducible repeat (first | refine blk_drewN ?_ _ | refine blk_drew ?_ | refine blk_alloc ?_ _)); exact BK440.out)) : gb447 ≠ gb440)); have n11_ := Aside0.mk ((by rw [hg]; exact Nat.ne_of_lt (blk_lt (g := gb441) (o := .cells #[.int .i64 (wrap64 (a2)), .slice none 0 0] 27 (0, 0)) (by (with_reducible repeat (first | refine blk_drewN ?_ _ | refine blk_drew ?_ | refine blk_alloc ?_ _)); exact BK441.out)) : gb441 ≠ gb447)); have n12_ := Aside0.mk ((by rw [hg]; exact Nat.ne_of_gt (blk_lt (g := gb441) (o := .cells #[.int .i64 (wrap64 (a2)), .slice none 0 0] 27 (0, 0)) (by (with_reducible repeat (first | refine blk_drewN ?_ _ | refine blk_drew ?_ | refine blk_alloc ?_ _)); exact BK441.out)) : gb447 ≠ gb441)); clear HO435; clear HO438; clear HO445; clear BK440; clear BK441; clear HB; have HO435 := n0_; have HO438 := n1_; have HO445 := n2_; have BK440 := n3_; have BK441 := n4_; have HB := n5_; have BK447 := n6_; have GW447 := n7_; have GE447 := n8_; have NB440_447 := n9_; have NB447_440 := n10_; have NB441_447 := n11_; have NB447_441 := n12_; clear n0_ n1_ n2_ n3_ n4_ n5_ n6_ n7_ n8_ n9_ n10_ n11_ n12_; clear hb hbox hg; have hnb83 := NB447_440.out; have hnc83 := NB440_447.out; have hnb84 := NB447_441.out; have hnc84 := NB441_447.out; have hcz85_0 : w82.cell? ⟨gb447, 0, none⟩ = some (.int .i64 0) := (blk_cell BK447.out 0).trans rfl; have hcz85_1 : w82.cell? ⟨gb447, 1, none⟩ = some (.slice none 0 0) := (blk_cell BK447.out 1).trans rfl; have hfz85_0 := blk_frozen BK447.out 0; have hfz85_1 := blk_frozen BK447.out 1; obtain ⟨Ao86, co86, eo86⟩ := Kd.R_slice HO445.out; subst eo86; have hcz87_0 : w82.cell? ⟨gb441, 0, none⟩ = some (.int .i64 (wrap64 (a2))) := (blk_cell BK441.out 0).trans rfl; have hcz87_1 : w82.cell? ⟨gb441, 1, none⟩ = some (.slice none 0 0) := (blk_cell BK441.out 1).trans rfl; have hfz87_0 := blk_frozen BK441.out 0; have hfz87_1 := blk_frozen BK441.out 1; have hcz88_0 : w82.cell? ⟨gb440, 0, none⟩ = some (.int .i64 t429) := (blk_cell BK440.out 0).trans rfl; have hcz88_1 : w82.cell? ⟨gb440, 1, none⟩ = some (.int .i64 t430) := (blk_cell BK440.out 1).trans rfl; have hcz88_2 : w82.cell? ⟨gb440, 2, none⟩ = some (.int .i64 t431) := (blk_cell BK440.out 2).trans rfl; have hcz88_3 : w82.cell? ⟨gb440, 3, none⟩ = some (.int .i64 t432) := (blk_cell BK440.out 3).trans rfl; have hcz88_4 : w82.cell? ⟨gb440, 4, none⟩ = some (.slice Ao75 t433.length co75) := (blk_cell BK440.out 4).trans rfl; have hcz88_5 : w82.cell? ⟨gb440, 5, none⟩ = some (.slice Ao76 t436.length co76) := (blk_cell BK440.out 5).trans rfl; have hfz88_0 := blk_frozen BK440.out 0; have hfz88_1 := blk_frozen BK440.out 1; have hfz88_2 := blk_frozen BK440.out 2; have hfz88_3 := blk_frozen BK440.out 3; have hfz88_4 := blk_frozen BK440.out 4; have hfz88_5 := blk_frozen BK440.out 5))
                  go_ret
                  exact ⟨by first | rfl | (simp [errW_none, errW_some] <;> rfl) | (simp [*, errW_none, errW_some] <;> rfl), by repeat (first | (with_reducible first | exact HB.out | apply below_alloc | apply pw_below_drewN | apply below_drew1 | refine below_set ?_ GE440.out | refine below_set ?_ GE441.out | refine below_set ?_ GE447.out) | exact HB.out)⟩
            · rw [if_neg c18] at H
              have c18b0 : (t439 == 0) = false := beq_eq_false_iff_ne.mpr c18
              have c18b1 : (t439 != 0) = true := bne_iff_ne.mpr c18
              obtain rfl := Option.some.inj H
              go_wp2_with (first | ((with_reducible refine gate_callee (f := 13) rfl ?_); refine goesL_ (some 36) rfl rfl Try.func13 (by kernel_rfl) rfl #[.slice A0 l0.length c0, .int .i64 (wrap64 (1 + (Int.tmod (wrap64 (a1)) (wrap64 ((l0.length : Int) - 1))))), .int .i64 0] rfl (by (try simp only [List.map_toArray, List.map_cons, List.map_nil]); first | done | rfl | (simp only [List.length_drop, List.length_take]; rfl)) ?_; (with_reducible refine (feed_Reply.calls kj5 _ _ l0 (wrap64 (1 + (Int.tmod (wrap64 (a1)) (wrap64 ((l0.length : Int) - 1))))) 0 t429 t430 t431 t432 t433 t436 t439 _ ?side1 ?side2 A16.out).mono ?_); (case side1 => repeat (first | exact (Kd.C_below HR0.out HB.out) | (with_reducible refine Kd.C_alloc ?_ _) | (with_reducible refine Kd.C_drewN ?_ _) | (with_reducible refine Kd.C_drew ?_))); (case side2 => exact HC0.out); rintro e w89 ⟨v434, v437, rfl, ho0, ho1, hb⟩; refine ⟨_, rfl, ?_⟩; have n0_ := Aside0.mk (Kd.R_lower ho0 (below_size (by repeat (first | (with_reducible first | exact HB.out | apply below_alloc | apply pw_below_drewN | apply below_drew1) | exact HB.out)))); have n1_ := Aside0.mk (Kd.R_lower ho1 (below_size (by repeat (first | (with_reducible first | exact HB.out | apply below_alloc | apply pw_below_drewN | apply below_drew1) | exact HB.out)))); have n2_ := Aside0.mk (below_step (by repeat (first | (with_reducible first | exact HB.out | apply below_alloc | apply pw_below_drewN | apply below_drew1) | exact HB.out)) hb); clear HB; have HO435 := n0_; have HO438 := n1_; have HB := n2_; clear n0_ n1_ n2_; (try clear hb); (try clear hb2); (try clear hk); (try clear hi); (try clear ho0); (try clear ho1)) | ((with_reducible refine gate_dst (N := 7) rfl ?_); (try (refine gate_guard (by rfl) ?_; dsimp only)); refine box_event ?hg (N := 7) ?hd (cs := #[.int .i64 0, .int .i64 0, .int .i64 0, .int .i64 0, .slice none 0 0, .slice none 0 0]) (t := 32) ?hr ?_; (case hd => rfl); (case hg => rfl); (case hr => first | (go_simp; done) | (go_simp; rfl)); intro gb440 hg w90 hbox hb; have n0_ := Aside0.mk (Kd.R_below (by (with_reducible repeat (first | apply Kd.R_alloc | apply Kd.R_drewN | apply Kd.R_drew)); exact HO435.out) hb); have n1_ := Aside0.mk (Kd.R_below (by (with_reducible repeat (first | apply Kd.R_alloc | apply Kd.R_drewN | apply Kd.R_drew)); exact HO438.out) hb); have n2_ := Aside0.mk (below_step (by repeat (first | (with_reducible first | exact HB.out | apply below_alloc | apply pw_below_drewN | apply below_drew1) | exact HB.out)) hb); have n3_ := Aside0.mk (hbox); have n4_ := Aside0.mk ((by rw [hg]; exact (below_size (by repeat (first | (with_reducible first | exact HB.out | apply below_alloc | apply pw_below_drewN | apply below_drew1) | exact HB.out))) : w.heap.size ≤ gb440)); have n5_ := Aside0.mk ((by rw [hg]; exact (below_size (by repeat (first | (with_reducible first | exact HB.out | apply below_alloc | apply pw_below_drewN | apply below_drew1) | exact HB.out))) : w.heap.size ≤ gb440)); clear HO435; clear HO438; clear HB; have HO435 := n0_; have HO438 := n1_; have HB := n2_; have BK440 := n3_; have GW440 := n4_; have GE440 := n5_; clear n0_ n1_ n2_ n3_ n4_ n5_; clear hb hbox hg; have hcz91_0 : w90.cell? ⟨gb440, 0, none⟩ = some (.int .i64 0) := (blk_cell BK440.out 0).trans rfl; have hcz91_1 : w90.cell? ⟨gb440, 1, none⟩ = some (.int .i64 0) := (blk_cell BK440.out 1).trans rfl; have hcz91_2 : w90.cell? ⟨gb440, 2, none⟩ = some (.int .i64 0) := (blk_cell BK440.out 2).trans rfl; have hcz91_3 : w90.cell? ⟨gb440, 3, none⟩ = some (.int .i64 0) := (blk_cell BK440.out 3).trans rfl; have hcz91_4 : w90.cell? ⟨gb440, 4, none⟩ = some (.slice none 0 0) := (blk_cell BK440.out 4).trans rfl; have hcz91_5 : w90.cell? ⟨gb440, 5, none⟩ = some (.slice none 0 0) := (blk_cell BK440.out 5).trans rfl; have hfz91_0 := blk_frozen BK440.out 0; have hfz91_1 := blk_frozen BK440.out 1; have hfz91_2 := blk_frozen BK440.out 2; have hfz91_3 := blk_frozen BK440.out 3; have hfz91_4 := blk_frozen BK440.out 4; have hfz91_5 := blk_frozen BK440.out 5; obtain ⟨Ao92, co92, eo92⟩ := Kd.R_slice HO435.out; subst eo92; obtain ⟨Ao93, co93, eo93⟩ := Kd.R_slice HO438.out; subst eo93) | ((with_reducible refine gate_dst (N := 9) rfl ?_); (try (refine gate_guard (by rfl) ?_; dsimp only)); refine box_event ?hg (N := 9) ?hd (cs := #[.int .i64 0, .slice none 0 0]) (t := 27) ?hr ?_; (case hd => rfl); (case hg => rfl); (case hr => first | (go_simp; done) | (go_simp; rfl)); intro gb441 hg w94 hbox hb; have n0_ := Aside0.mk (Kd.R_below (by (with_reducible repeat (first | apply Kd.R_alloc | apply Kd.R_drewN | apply Kd.R_drew)); exact (Kd.R_mono (Kd.R_far (p := ⟨gb440, 5, none⟩) (Kd.R_far (p := ⟨gb440, 4, none⟩) (Kd.R_far (p := ⟨gb440, 3, none⟩) (Kd.R_far (p := ⟨gb440, 2, none⟩) (Kd.R_far (p := ⟨gb440, 1, none⟩) (Kd.R_far (p := ⟨gb440, 0, none⟩) (Kd.R_types HO435.out BK440.out (by decide)) (fun _ hk => hk.2) (.int .i64 t429)) (fun _ hk => hk.2) (.int .i64 t430)) (fun _ hk => hk.2) (.int .i64 t431)) (fun _ hk => hk.2) (.int .i64 t432)) (fun _ hk => hk.2) (.slice Ao92 t433.length co92)) (fun _ hk => hk.2) (.slice Ao93 t436.length co93)) (fun _ h_ => h_.1))) hb); have n1_ := Aside0.mk (Kd.R_below (by (with_reducible repeat (first | apply Kd.R_alloc | apply Kd.R_drewN | apply Kd.R_drew)); exact (Kd.R_mono (Kd.R_far (p := ⟨gb440, 5, none⟩) (Kd.R_far (p := ⟨gb440, 4, none⟩) (Kd.R_far (p := ⟨gb440, 3, none⟩) (Kd.R_far (p := ⟨gb440, 2, none⟩) (Kd.R_far (p := ⟨gb440, 1, none⟩) (Kd.R_far (p := ⟨gb440, 0, none⟩) (Kd.R_types HO438.out BK440.out (by decide)) (fun _ hk => hk.2) (.int .i64 t429)) (fun _ hk => hk.2) (.int .i64 t430)) (fun _ hk => hk.2) (.int .i64 t431)) (fun _ hk => hk.2) (.int .i64 t432)) (fun _ hk => hk.2) (.slice Ao92 t433.length co92)) (fun _ hk => hk.2) (.slice Ao93 t436.length co93)) (fun _ h_ => h_.1))) hb); have n2_ := Aside0.mk (blk_below (g := gb440) (o := .cells #[.int .i64 t429, .int .i64 t430, .int .i64 t431, .int .i64 t432, .slice Ao92 t433.length co92, .slice Ao93 t436.length co93] 32 (0, 0)) (by (with_reducible repeat (first | refine blk_drewN ?_ _ | refine blk_drew ?_ | refine blk_alloc ?_ _)); refine blk_put (cs := #[.int .i64 t429, .int .i64 t430, .int .i64 t431, .int .i64 t432, .slice Ao92 t433.length co92, .slice none 0 0]) ?_ 5 _ rfl; (with_reducible repeat (first | refine blk_drewN ?_ _ | refine blk_drew ?_ | refine blk_alloc ?_ _)); refine blk_put (cs := #[.int .i64 t429, .int .i64 t430, .int .i64 t431, .int .i64 t432, .slice none 0 0, .slice none 0 0]) ?_ 4 _ rfl; (with_reducible repeat (first | refine blk_drewN ?_ _ | refine blk_drew ?_ | refine blk_alloc ?_ _)); refine blk_put (cs := #[.int .i64 t429, .int .i64 t430, .int .i64 t431, .int .i64 0, .slice none 0 0, .slice none 0 0]) ?_ 3 _ rfl; (with_reducible repeat (first | refine blk_drewN ?_ _ | refine blk_drew ?_ | refine blk_alloc ?_ _)); refine blk_put (cs := #[.int .i64 t429, .int .i64 t430, .int .i64 0, .int .i64 0, .slice none 0 0, .slice none 0 0]) ?_ 2 _ rfl; (with_reducible repeat (first | refine blk_drewN ?_ _ | refine blk_drew ?_ | refine blk_alloc ?_ _)); refine blk_put (cs := #[.int .i64 t429, .int .i64 0, .int .i64 0, .int .i64 0, .slice none 0 0, .slice none 0 0]) ?_ 1 _ rfl; (with_reducible repeat (first | refine blk_drewN ?_ _ | refine blk_drew ?_ | refine blk_alloc ?_ _)); refine blk_put (cs := #[.int .i64 0, .int .i64 0, .int .i64 0, .int .i64 0, .slice none 0 0, .slice none 0 0]) ?_ 0 _ rfl; (with_reducible repeat (first | refine blk_drewN ?_ _ | refine blk_drew ?_ | refine blk_alloc ?_ _)); exact BK440.out) hb); have n3_ := Aside0.mk (below_step (by repeat (first | (with_reducible first | exact HB.out | apply below_alloc | apply pw_below_drewN | apply below_drew1 | refine below_set ?_ GE440.out) | exact HB.out)) hb); have n4_ := Aside0.mk (hbox); have n5_ := Aside0.mk ((by rw [hg]; exact (below_size (by repeat (first | (with_reducible first | exact HB.out | apply below_alloc | apply pw_below_drewN | apply below_drew1 | refine below_set ?_ GE440.out) | exact HB.out))) : w.heap.size ≤ gb441)); have n6_ := Aside0.mk ((by rw [hg]; exact (below_size (by repeat (first | (with_reducible first | exact HB.out | apply below_alloc | apply pw_below_drewN | apply below_drew1 | refine below_set ?_ GE440.out) | exact HB.out))) : w.heap.size ≤ gb441)); have n7_ := Aside0.mk ((by rw [hg]; exact Nat.ne_of_lt (blk_lt (g := gb440) (o := .cells #[.int .i64 t429, .int .i64 t430, .int .i64 t431, .int .i64 t432, .slice Ao92 t433.length co92, .slice Ao93 t436.length co93] 32 (0, 0)) (by (with_reducible repeat (first | refine blk_drewN ?_ _ | refine blk_drew ?_ | refine blk_alloc ?_ _)); refine blk_put (cs := #[.int .i64 t429, .int .i64 t430, .int .i64 t431, .int .i64 t432, .slice Ao92 t433.length co92, .slice none 0 0]) ?_ 5 _ rfl; (with_reducible repeat (first | refine blk_drewN ?_ _ | refine blk_drew ?_ | refine blk_alloc ?_ _)); refine blk_put (cs := #[.int .i64 t429, .int .i64 t430, .int .i64 t431, .int .i64 t432, .slice none 0 0, .slice none 0 0]) ?_ 4 _ rfl; (with_reducible repeat (first | refine blk_drewN ?_ _ | refine blk_drew ?_ | refine blk_alloc ?_ _)); refine blk_put (cs := #[.int .i64 t429, .int .i64 t430, .int .i64 t431, .int .i64 0, .slice none 0 0, .slice none 0 0]) ?_ 3 _ rfl; (with_reducible repeat (first | refine blk_drewN ?_ _ | refine blk_drew ?_ | refine blk_alloc ?_ _)); refine blk_put (cs := #[.int .i64 t429, .int .i64 t430, .int .i64 0, .int .i64 0, .slice none 0 0, .slice none 0 0]) ?_ 2 _ rfl; (with_reducible repeat (first | refine blk_drewN ?_ _ | refine blk_drew ?_ | refine blk_alloc ?_ _)); refine blk_put (cs := #[.int .i64 t429, .int .i64 0, .int .i64 0, .int .i64 0, .slice none 0 0, .slice none 0 0]) ?_ 1 _ rfl; (with_reducible repeat (first | refine blk_drewN ?_ _ | refine blk_drew ?_ | refine blk_alloc ?_ _)); refine blk_put (cs := #[.int .i64 0, .int .i64 0, .int .i64 0, .int .i64 0, .slice none 0 0, .slice none 0 0]) ?_ 0 _ rfl; (with_reducible repeat (first | refine blk_drewN ?_ _ | refine blk_drew ?_ | refine blk_alloc ?_ _)); exact BK440.out)) : gb440 ≠ gb441)); have n8_ := Aside0.mk ((by rw [hg]; exact Nat.ne_of_gt (blk_lt (g := gb440) (o := .cells #[.int .i64 t429, .int .i64 t430, .int .i64 t431, .int .i64 t432, .slice Ao92 t433.length co92, .slice Ao93 t436.length co93] 32 (0, 0)) (by (with_reducible repeat (first | refine blk_drewN ?_ _ | refine blk_drew ?_ | refine blk_alloc ?_ _)); refine blk_put (cs := #[.int .i64 t429, .int .i64 t430, .int .i64 t431, .int .i64 t432, .slice Ao92 t433.length co92, .slice none 0 0]) ?_ 5 _ rfl; (with_reducible repeat (first | refine blk_drewN ?_ _ | refine blk_drew ?_ | refine blk_alloc ?_ _)); refine blk_put (cs := #[.int .i64 t429, .int .i64 t430, .int .i64 t431, .int .i64 t432, .slice none 0 0, .slice none 0 0]) ?_ 4 _ rfl; (with_reducible repeat (first | refine blk_drewN ?_ _ | refine blk_drew ?_ | refine blk_alloc ?_ _)); refine blk_put (cs := #[.int .i64 t429, .int .i64 t430, .int .i64 t431, .int .i64 0, .slice none 0 0, .slice none 0 0]) ?_ 3 _ rfl; (with_reducible repeat (first | refine blk_drewN ?_ _ | refine blk_drew ?_ | refine blk_alloc ?_ _)); refine blk_put (cs := #[.int .i64 t429, .int .i64 t430, .int .i64 0, .int .i64 0, .slice none 0 0, .slice none 0 0]) ?_ 2 _ rfl; (with_reducible repeat (first | refine blk_drewN ?_ _ | refine blk_drew ?_ | refine blk_alloc ?_ _)); refine blk_put (cs := #[.int .i64 t429, .int .i64 0, .int .i64 0, .int .i64 0, .slice none 0 0, .slice none 0 0]) ?_ 1 _ rfl; (with_reducible repeat (first | refine blk_drewN ?_ _ | refine blk_drew ?_ | refine blk_alloc ?_ _)); refine blk_put (cs := #[.int .i64 0, .int .i64 0, .int .i64 0, .int .i64 0, .slice none 0 0, .slice none 0 0]) ?_ 0 _ rfl; (with_reducible repeat (first | refine blk_drewN ?_ _ | refine blk_drew ?_ | refine blk_alloc ?_ _)); exact BK440.out)) : gb441 ≠ gb440)); clear HO435; clear HO438; clear BK440; clear HB; have HO435 := n0_; have HO438 := n1_; have BK440 := n2_; have HB := n3_; have BK441 := n4_; have GW441 := n5_; have GE441 := n6_; have NB440_441 := n7_; have NB441_440 := n8_; clear n0_ n1_ n2_ n3_ n4_ n5_ n6_ n7_ n8_; clear hb hbox hg; have hnb95 := NB441_440.out; have hnc95 := NB440_441.out; have hcz96_0 : w94.cell? ⟨gb441, 0, none⟩ = some (.int .i64 0) := (blk_cell BK441.out 0).trans rfl; have hcz96_1 : w94.cell? ⟨gb441, 1, none⟩ = some (.slice none 0 0) := (blk_cell BK441.out 1).trans rfl; have hfz96_0 := blk_frozen BK441.out 0; have hfz96_1 := blk_frozen BK441.out 1; have hcz97_0 : w94.cell? ⟨gb440, 0, none⟩ = some (.int .i64 t429) := (blk_cell BK440.out 0).trans rfl; have hcz97_1 : w94.cell? ⟨gb440, 1, none⟩ = some (.int .i64 t430) := (blk_cell BK440.out 1).trans rfl; have hcz97_2 : w94.cell? ⟨gb440, 2, none⟩ = some (.int .i64 t431) := (blk_cell BK440.out 2).trans rfl; have hcz97_3 : w94.cell? ⟨gb440, 3, none⟩ = some (.int .i64 t432) := (blk_cell BK440.out 3).trans rfl; have hcz97_4 : w94.cell? ⟨gb440, 4, none⟩ = some (.slice Ao92 t433.length co92) := (blk_cell BK440.out 4).trans rfl; have hcz97_5 : w94.cell? ⟨gb440, 5, none⟩ = some (.slice Ao93 t436.length co93) := (blk_cell BK440.out 5).trans rfl; have hfz97_0 := blk_frozen BK440.out 0; have hfz97_1 := blk_frozen BK440.out 1; have hfz97_2 := blk_frozen BK440.out 2; have hfz97_3 := blk_frozen BK440.out 3; have hfz97_4 := blk_frozen BK440.out 4; have hfz97_5 := blk_frozen BK440.out 5) | ((with_reducible refine gate_callee (f := 21) rfl ?_); refine goesL_ (some 45) rfl rfl Try.func21 (by kernel_rfl) rfl #[.agg #[.int .i64 (wrap64 (a2)), .slice none 0 0], .agg #[.int .i64 t429, .int .i64 t430, .int .i64 t431, .int .i64 t432, .slice Ao92 t433.length co92, .slice Ao93 t436.length co93]] rfl (by (try simp only [List.map_toArray, List.map_cons, List.map_nil]); first | done | rfl | (simp only [List.length_drop, List.length_take]; rfl)) ?_; (refine (feed_Take.calls kj5 (wrap64 (a2)) _ _ ([] : List (S60)) t429 t430 t431 t432 _ _ t433 _ _ t436 t442 t443 t446 _ ?side1 ?side2 ?side3 ?side4 ?side5 ?side6 A17.out).mono ?_); (case side1 => exact Kd.C_nil _ _); (case side2 => exact Nat.le_refl _); (case side3 => refine (Kd.R_reads' (e := 60) (base := w.heap.size) (ok := fun k_ => True) (n := t433.length) (c := co92) ?_).2.2; exact (by (with_reducible repeat (first | apply Kd.R_alloc | apply Kd.R_drewN | apply Kd.R_drew)); exact (Kd.R_mono (Kd.R_far (p := ⟨gb441, 1, none⟩) (Kd.R_far (p := ⟨gb441, 0, none⟩) (Kd.R_types HO435.out BK441.out (by decide)) (fun _ hk => hk.2) (.int .i64 (wrap64 (a2)))) (fun _ hk => hk.2) (.slice none 0 0)) (fun _ h_ => h_.1)))); (case side4 => exact (Kd.R_reads' HO435.out).2.1); (case side5 => refine (Kd.R_reads' (e := 64) (base := w.heap.size) (ok := fun k_ => True) (n := t436.length) (c := co93) ?_).2.2; exact (by (with_reducible repeat (first | apply Kd.R_alloc | apply Kd.R_drewN | apply Kd.R_drew)); exact (Kd.R_mono (Kd.R_far (p := ⟨gb441, 1, none⟩) (Kd.R_far (p := ⟨gb441, 0, none⟩) (Kd.R_types HO438.out BK441.out (by decide)) (fun _ hk => hk.2) (.int .i64 (wrap64 (a2)))) (fun _ hk => hk.2) (.slice none 0 0)) (fun _ h_ => h_.1)))); (case side6 => exact (Kd.R_reads' HO438.out).2.1); rintro e w98 ⟨v444, rfl, ho0, hb⟩; refine ⟨_, rfl, ?_⟩; have n0_ := Aside0.mk (Kd.R_elder' (by (with_reducible repeat (first | apply Kd.R_alloc | apply Kd.R_drewN | apply Kd.R_drew)); exact (Kd.R_mono (Kd.R_far (p := ⟨gb441, 1, none⟩) (Kd.R_far (p := ⟨gb441, 0, none⟩) (Kd.R_types HO435.out BK441.out (by decide)) (fun _ hk => hk.2) (.int .i64 (wrap64 (a2)))) (fun _ hk => hk.2) (.slice none 0 0)) (fun _ h_ => h_.1))) (Kd.R_base ho0) hb); have n1_ := Aside0.mk (Kd.R_below (by (with_reducible repeat (first | apply Kd.R_alloc | apply Kd.R_drewN | apply Kd.R_drew)); exact (Kd.R_mono (Kd.R_far (p := ⟨gb441, 1, none⟩) (Kd.R_far (p := ⟨gb441, 0, none⟩) (Kd.R_types HO438.out BK441.out (by decide)) (fun _ hk => hk.2) (.int .i64 (wrap64 (a2)))) (fun _ hk => hk.2) (.slice none 0 0)) (fun _ h_ => h_.1))) hb); have n2_ := Aside0.mk (Kd.R_lower (Kd.R_new' ho0 (Kd.R_lt (by (with_reducible repeat (first | apply Kd.R_alloc | apply Kd.R_drewN | apply Kd.R_drew)); exact (Kd.R_mono (Kd.R_far (p := ⟨gb441, 1, none⟩) (Kd.R_far (p := ⟨gb441, 0, none⟩) (Kd.R_types HO435.out BK441.out (by decide)) (fun _ hk => hk.2) (.int .i64 (wrap64 (a2)))) (fun _ hk => hk.2) (.slice none 0 0)) (fun _ h_ => h_.1))))) (below_size (by repeat (first | (with_reducible first | exact HB.out | apply below_alloc | apply pw_below_drewN | apply below_drew1 | refine below_set ?_ GE440.out | refine below_set ?_ GE441.out) | exact HB.out)))); have n3_ := Aside0.mk (blk_below (g := gb440) (o := .cells #[.int .i64 t429, .int .i64 t430, .int .i64 t431, .int .i64 t432, .slice Ao92 t433.length co92, .slice Ao93 t436.length co93] 32 (0, 0)) (by (with_reducible repeat (first | refine blk_drewN ?_ _ | refine blk_drew ?_ | refine blk_alloc ?_ _)); refine blk_far ?_ NB440_441.out _; (with_reducible repeat (first | refine blk_drewN ?_ _ | refine blk_drew ?_ | refine blk_alloc ?_ _)); refine blk_far ?_ NB440_441.out _; (with_reducible repeat (first | refine blk_drewN ?_ _ | refine blk_drew ?_ | refine blk_alloc ?_ _)); exact BK440.out) hb); have n4_ := Aside0.mk (blk_below (g := gb441) (o := .cells #[.int .i64 (wrap64 (a2)), .slice none 0 0] 27 (0, 0)) (by (with_reducible repeat (first | refine blk_drewN ?_ _ | refine blk_drew ?_ | refine blk_alloc ?_ _)); refine blk_put (cs := #[.int .i64 (wrap64 (a2)), .slice none 0 0]) ?_ 1 _ rfl; (with_reducible repeat (first | refine blk_drewN ?_ _ | refine blk_drew ?_ | refine blk_alloc ?_ _)); refine blk_put (cs := #[.int .i64 0, .slice none 0 0]) ?_ 0 _ rfl; (with_reducible repeat (first | refine blk_drewN ?_ _ | refine blk_drew ?_ | refine blk_alloc ?_ _)); exact BK441.out) hb); have n5_ := Aside0.mk (below_step (by repeat (first | (with_reducible first | exact HB.out | apply below_alloc | apply pw_below_drewN | apply below_drew1 | refine below_set ?_ GE440.out | refine below_set ?_ GE441.out) | exact HB.out)) hb); clear HO435; clear HO438; clear BK440; clear BK441; clear HB; have HO435 := n0_; have HO438 := n1_; have HO445 := n2_; have BK440 := n3_; have BK441 := n4_; have HB := n5_; clear n0_ n1_ n2_ n3_ n4_ n5_; (try clear hb); (try clear hb2); (try clear hk); (try clear hi); (try clear ho0)) | ((with_reducible refine gate_dst (N := 10) rfl ?_); (try (refine gate_guard (by rfl) ?_; dsimp only)); refine box_event ?hg (N := 10) ?hd (cs := #[.int .i64 0, .slice none 0 0]) (t := 27) ?hr ?_; (case hd => rfl); (case hg => rfl); (case hr => first | (go_simp; done) | (go_simp; rfl)); intro gb447 hg w99 hbox hb; have n0_ := Aside0.mk (Kd.R_below (by (with_reducible repeat (first | apply Kd.R_alloc | apply Kd.R_drewN | apply Kd.R_drew)); exact HO435.out) hb); have n1_ := Aside0.mk (Kd.R_below (by (with_reducible repeat (first | apply Kd.R_alloc | apply Kd.R_drewN | apply Kd.R_drew)); exact HO438.out) hb); have n2_ := Aside0.mk (Kd.R_below (by (with_reducible repeat (first | apply Kd.R_alloc | apply Kd.R_drewN | apply Kd.R_drew)); exact HO445.out) hb); have n3_ := Aside0.mk (blk_below (g := gb440) (o := .cells #[.int .i64 t429, .int .i64 t430, .int .i64 t431, .int .i64 t432, .slice Ao92 t433.length co92, .slice Ao93 t436.length co93] 32 (0, 0)) (by (with_reducible repeat (first | refine blk_drewN ?_ _ | refine blk_drew ?_ | refine blk_alloc ?_ _)); exact BK440.out) hb); have n4_ := Aside0.mk (blk_below (g := gb441) (o := .cells #[.int .i64 (wrap64 (a2)), .slice none 0 0] 27 (0, 0)) (by (with_reducible repeat (first | refine blk_drewN ?_ _ | refine blk_drew ?_ | refine blk_alloc ?_ _)); exact BK441.out) hb); have n5_ := Aside0.mk (below_step (by repeat (first | (with_reducible first | exact HB.out | apply below_alloc | apply pw_below_drewN | apply below_drew1 | refine below_set ?_ GE440.out | refine below_set ?_ GE441.out) | exact HB.out)) hb); have n6_ := Aside0.mk (hbox); have n7_ := Aside0.mk ((by rw [hg]; exact (below_size (by repeat (first | (with_reducible first | exact HB.out | apply below_alloc | apply pw_below_drewN | apply below_drew1 | refine below_set ?_ GE440.out | refine below_set ?_ GE441.out) | exact HB.out))) : w.heap.size ≤ gb447)); have n8_ := Aside0.mk ((by rw [hg]; exact (below_size (by repeat (first | (with_reducible first | exact HB.out | apply below_alloc | apply pw_below_drewN | apply below_drew1 | refine below_set ?_ GE440.out | refine below_set ?_ GE441.out) | exact HB.out))) : w.heap.size ≤ gb447)); have n9_ := Aside0.mk ((by rw [hg]; exact Nat.ne_of_lt (blk_lt (g := gb440) (o := .cells #[.int .i64 t429, .int .i64 t430, .int .i64 t431, .int .i64 t432, .slice Ao92 t433.length co92, .slice Ao93 t436.length co93] 32 (0, 0)) (by (with_reducible repeat (first | refine blk_drewN ?_ _ | refine blk_drew ?_ | refine blk_alloc ?_ _)); exact BK440.out)) : gb440 ≠ gb447)); have n10_ := Aside0.mk ((by rw [hg]; exact Nat.ne_of_gt (blk_lt (g := gb440) (o := .cells #[.int .i64 t429, .int .i64 t430, .int .i64 t431, .int .i64 t432, .slice Ao92 t433.length co92, .slice Ao93 t436.length co93] 32 (0, 0)) (by (with_reducible repeat (first | refine blk_drewN ?_ _ | refine blk_drew ?_ | refine blk_alloc ?_ _)); exact BK440.out)) : gb447 ≠ gb440)); have n11_ := Aside0.mk ((by rw [hg]; exact Nat.ne_of_lt (blk_lt (g := gb441) (o := .cells #[.int .i64 (wrap64 (a2)), .slice none 0 0] 27 (0, 0)) (by (with_reducible repeat (first | refine blk_drewN ?_ _ | refine blk_drew ?_ | refine blk_alloc ?_ _)); exact BK441.out)) : gb441 ≠ gb447)); have n12_ := Aside0.mk ((by rw [hg]; exact Nat.ne_of_gt (blk_lt (g := gb441) (o := .cells #[.int .i64 (wrap64 (a2)), .slice none 0 0] 27 (0, 0)) (by (with_reducible repeat (first | refine blk_drewN ?_ _ | refine blk_drew ?_ | refine blk_alloc ?_ _)); exact BK441.out)) : gb447 ≠ gb441)); clear HO435; clear HO438; clear HO445; clear BK440; clear BK441; clear HB; have HO435 := n0_; have HO438 := n1_; have HO445 := n2_; have BK440 := n3_; have BK441 := n4_; have HB := n5_; have BK447 := n6_; have GW447 := n7_; have GE447 := n8_; have NB440_447 := n9_; have NB447_440 := n10_; have NB441_447 := n11_; have NB447_441 := n12_; clear n0_ n1_ n2_ n3_ n4_ n5_ n6_ n7_ n8_ n9_ n10_ n11_ n12_; clear hb hbox hg; have hnb100 := NB447_440.out; have hnc100 := NB440_447.out; have hnb101 := NB447_441.out; have hnc101 := NB441_447.out; have hcz102_0 : w99.cell? ⟨gb447, 0, none⟩ = some (.int .i64 0) := (blk_cell BK447.out 0).trans rfl; have hcz102_1 : w99.cell? ⟨gb447, 1, none⟩ = some (.slice none 0 0) := (blk_cell BK447.out 1).trans rfl; have hfz102_0 := blk_frozen BK447.out 0; have hfz102_1 := blk_frozen BK447.out 1; obtain ⟨Ao103, co103, eo103⟩ := Kd.R_slice HO445.out; subst eo103))
              go_ret
              exact ⟨by first | rfl | (simp [errW_none, errW_some] <;> rfl) | (simp [*, errW_none, errW_some] <;> rfl), by repeat (first | (with_reducible first | exact HB.out | apply below_alloc | apply pw_below_drewN | apply below_drew1 | refine below_set ?_ GE440.out | refine below_set ?_ GE441.out | refine below_set ?_ GE447.out) | exact HB.out)⟩
  · replace c5 := Bool.eq_false_iff.mpr c5
    subst c5
    have H1 : (some false) = some r := by rw [if_neg (show ¬ (false = true) by decide)] at H; exact H
    clear H
    have H := H1
    clear H1
    obtain rfl := Option.some.inj H
    go_enter Try.func9, Try.ntmps9
    go_wp2_with (first | ((with_reducible refine gate_callee (f := 11) rfl ?_); refine goesL_ (some 12) rfl rfl Try.func11 (by kernel_rfl) rfl #[] rfl (by (try simp only [List.map_toArray, List.map_cons, List.map_nil]); first | done | rfl | (simp only [List.length_drop, List.length_take]; rfl)) ?_; (with_reducible refine (chalklinelaw35_live.calls  false _ A4.out).mono ?_); rintro e w104 ⟨rfl, hb⟩; refine ⟨_, rfl, ?_⟩; have n0_ := Aside0.mk (below_step (by repeat (first | (with_reducible first | exact HB.out | apply below_alloc | apply pw_below_drewN | apply below_drew1) | exact HB.out)) hb); clear HB; have HB := n0_; clear n0_; (try clear hb); (try clear hb2); (try clear hk); (try clear hi)))
    go_ret
    exact ⟨by first | rfl | (simp [errW_none, errW_some] <;> rfl) | (simp [*, errW_none, errW_some] <;> rfl), by repeat (first | (with_reducible first | exact HB.out | apply below_alloc | apply pw_below_drewN | apply below_drew1) | exact HB.out)⟩
end Go.Proofs.Ytfdhnmijaobbdaa.S
end
section
namespace Go.Proofs.YtfdhnmijaobbdaaW.PrintMore
open Go.RowKit Go.Proofs.YtfdhnmijaobbdaaW.PrintWords Go.Proofs.YtfdhnmijaobbdaaW.PrintLast Go.ChangeShapes Go.WideShapes
def Opens {α : Type} (P : Program) (t : TypeId) (d : Kd α) (wf : α → Prop) : Prop :=
  ∀ (H : Type) (enc : TypeId × Value → H) (w : World) (base : Nat) (spare : Nat → Bool) (held : Bool) (fuel : Nat) (cs : List Value) (x : DataW H × List MemPlace), DataW.trod enc P w base spare held fuel t cs = some x → ∃ y, d.K w y cs ∧ wf y
section
variable {P : Program} {t : TypeId}
theorem opens_int {k : IntKind} (ht : P.underlying t = some (.int k)) : Opens P t (Kd.int k) (fun n => (Lit.int k n).wf = true) := by
  intro H enc w base spare held fuel cs x h
  obtain ⟨n, rfl, _, hw⟩ := DataW.trod_int ht h
  exact ⟨n, rfl, hw⟩
theorem opens_bool (ht : P.underlying t = some .bool) : Opens P t Kd.bool (fun _ => True) := by
  intro H enc w base spare held fuel cs x h
  cases fuel with
  | zero => simp [DataW.trod] at h
  | succ n =>
    unfold DataW.trod at h
    rw [ht] at h
    split at h
    case h_1 => exact ⟨_, rfl, trivial⟩
    all_goals simp_all
theorem cells_cell {w : World} {base n : Nat} {a : Addr} {cs : List Value} (h : w.cells? base a n = some cs) : cs.length = n ∧ ∀ i u, cs[i]? = some u → w.cell? (a.add i) = some u := by
  obtain ⟨_, hl, hc⟩ := World.cells?_some h
  refine ⟨hl, fun i u hu => ?_⟩
  have hi : i < n := by rw [← hl]; exact (List.getElem?_eq_some_iff.1 hu).1
  rw [hc i hi, hu]
theorem opens_slice {α : Type} {e : TypeId} {d : Kd α} {wf : α → Prop} (ht : P.underlying t = some (.slice e)) (hsz : P.cellsOf e = d.sz) (h : Opens P e d wf) :
    Opens P t (Kd.slice e d) (fun l => l.length ≤ maxLen ∧ ∀ x ∈ l, wf x) := by
  intro H enc w base spare held fuel cs x hx
  rcases Deep.open_slice ht hx with ⟨rfl, _⟩ | ⟨a, len, cap, m, n, D, Pl, rfl, _, hl, hm, hmm, _, hel⟩
  · exact ⟨[], ⟨none, 0, rfl, Nat.le_refl _, Kd.C_nil _ _⟩, Nat.zero_le _, fun x hx => by cases hx⟩
  · have hlm : len ≤ m := by rw [hmm]; split <;> omega
    have hone : ∀ i, i < len → ∃ y : α, wf y ∧ ∃ c, c.length = d.sz ∧ d.K w y c ∧ ∀ j u, c[j]? = some u → w.cell? ((a.add (i * d.sz)).add j) = some u := by
      intro i hi
      obtain ⟨cs', hc, ht'⟩ := hel i (by omega)
      obtain ⟨y, hK, hw⟩ := h H enc w base spare held n cs' _ ht'
      rw [hsz] at hc
      obtain ⟨hlen, hcell⟩ := cells_cell hc
      exact ⟨y, hw, cs', hlen, hK, hcell⟩
    let f : Nat → Option α := fun i => if hi : i < len then some (Classical.choose (hone i hi)) else none
    have hf : ∀ i (hi : i < len), f i = some (Classical.choose (hone i hi)) := fun i hi => dif_pos hi
    let l : List α := (List.range len).filterMap f
    have hln : ∀ m, m ≤ len → ((List.range m).filterMap f).length = m ∧ ∀ i (hi : i < len), i < m → ((List.range m).filterMap f)[i]? = some (Classical.choose (hone i hi)) := by
      intro m
      induction m with
      | zero => exact fun _ => ⟨rfl, fun i _ h0 => absurd h0 (Nat.not_lt_zero _)⟩
      | succ m ih =>
        intro hm'
        obtain ⟨h1, h2⟩ := ih (by omega)
        rw [List.range_succ, List.filterMap_append]
        have he : [m].filterMap f = [Classical.choose (hone m (by omega))] := by simp [hf m (by omega)]
        rw [he]
        refine ⟨by simp [h1], fun i hi him => ?_⟩
        rcases Nat.lt_succ_iff_lt_or_eq.1 him with hlt | rfl
        · rw [List.getElem?_append_left (by omega)]
          exact h2 i hi hlt
        · rw [List.getElem?_append_right (by omega), h1]
          simp
    obtain ⟨hlen, hget⟩ := hln len (Nat.le_refl _)
    have hmax : cap ≤ 9223372036854775807 := by unfold maxLen at hm; omega
    refine ⟨l, ⟨some a, cap, ?_, ?_, ?_⟩, ?_, ?_⟩
    · show [Value.slice (some a) len cap] = _
      rw [hlen]
    · rw [hlen]; exact hl
    · refine ⟨rfl, by rw [hlen]; omega, fun _ => ⟨a, rfl, fun j p hp => ?_⟩⟩
      have hj : j < len := by rw [← hlen]; exact (List.getElem?_eq_some_iff.1 hp).1
      rw [hget j hj hj] at hp
      obtain rfl := Option.some.inj hp
      obtain ⟨_, c, hc1, hc2, hc3⟩ := Classical.choose_spec (hone j hj)
      exact ⟨c, hc1, hc2, fun i u hu => by rw [← Deep.add_add]; exact hc3 i u hu⟩
    · rw [hlen]; omega
    · intro x hx
      obtain ⟨j, hj⟩ := List.getElem?_of_mem hx
      have hj' : j < len := by rw [← hlen]; exact (List.getElem?_eq_some_iff.1 hj).1
      rw [hget j hj' hj'] at hj
      obtain rfl := Option.some.inj hj
      exact (Classical.choose_spec (hone j hj')).1
def OpensF {α : Type} (P : Program) (fs : List Field) (off : Nat) (d : Kd α) (wf : α → Prop) : Prop :=
  ∀ (H : Type) (enc : TypeId × Value → H) (w : World) (base : Nat) (spare : Nat → Bool) (held : Bool) (n : Nat) (cs : List Value), cs.length = off + d.sz →
    (∀ f ∈ fs, ∃ y, DataW.trod enc P w base spare held n f.type ((cs.drop f.offset).take (P.cellsOf f.type)) = some y) → ∃ y, d.K w y (cs.drop off) ∧ wf y
theorem opensF_one {α : Type} {f : Field} {d : Kd α} {wf : α → Prop} (hsz : P.cellsOf f.type = d.sz) (h : Opens P f.type d wf) : OpensF P [f] f.offset d wf := by
  intro H enc w base spare held n cs hl hf
  obtain ⟨y, hy⟩ := hf f (List.mem_singleton.2 rfl)
  rw [List.take_of_length_le (by rw [List.length_drop, hl, hsz]; omega)] at hy
  exact h H enc w base spare held n _ _ hy
theorem opensF_cons {α β : Type} {f : Field} {fs : List Field} {d : Kd α} {d' : Kd β} {wf : α → Prop} {wf' : β → Prop} (hsz : P.cellsOf f.type = d.sz) (h : Opens P f.type d wf) (h' : OpensF P fs (f.offset + d.sz) d' wf') :
    OpensF P (f :: fs) f.offset (Kd.pair d d') (fun x => wf x.1 ∧ wf' x.2) := by
  intro H enc w base spare held n cs hl hf
  have hl' : cs.length = f.offset + (d.sz + d'.sz) := hl
  obtain ⟨y, hy⟩ := hf f (List.mem_cons_self)
  rw [hsz] at hy
  obtain ⟨a, hK, hw⟩ := h H enc w base spare held n _ _ hy
  obtain ⟨b, hK', hw'⟩ := h' H enc w base spare held n cs (by rw [hl']; omega) (fun g hg => hf g (List.mem_cons_of_mem _ hg))
  refine ⟨(a, b), ⟨(cs.drop f.offset).take d.sz, cs.drop (f.offset + d.sz), ?_, hK, hK'⟩, hw, hw'⟩
  rw [← List.drop_drop, List.take_append_drop]
theorem opens_struct {α : Type} {fs : Array Field} {d : Kd α} {wf : α → Prop} (ht : P.underlying t = some (.struct fs)) (hsz : P.cellsOf t = d.sz) (h : OpensF P fs.toList 0 d wf) : Opens P t d wf := by
  intro H enc w base spare held fuel cs x hx
  obtain ⟨xs, n, _, _, hl, hlen, hf⟩ := DataW.trod_struct ht hx
  obtain ⟨y, hK, hw⟩ := h H enc w base spare held n cs (by rw [hl, hsz]; omega) (fun f hm => by
    obtain ⟨i, hi⟩ := List.getElem?_of_mem hm
    have hi' : fs[i]? = some f := by simpa using hi
    have hlt : i < xs.length := by rw [hlen]; exact (Array.getElem?_eq_some_iff.1 hi').1
    exact ⟨xs[i], by rw [hf i f hi', List.getElem?_eq_getElem hlt]⟩)
  exact ⟨y, by simpa using hK, hw⟩
theorem opens_iso {α β : Type} {d : Kd α} {wf : α → Prop} (f : β → α) (g : α → β) (hfg : ∀ a, f (g a) = a) (h : Opens P t d wf) : Opens P t (Kd.iso d f) (fun b => wf (f b)) := by
  intro H enc w base spare held fuel cs x hx
  obtain ⟨y, hK, hw⟩ := h H enc w base spare held fuel cs x hx
  exact ⟨g y, by show d.K w (f (g y)) cs; rw [hfg]; exact hK, by show wf (f (g y)); rw [hfg]; exact hw⟩
theorem arg_slice {α : Type} {e : TypeId} {d : Kd α} {wf : List α → Prop} {r : Reach} {W : World} {b0 : Nat} {v : Value} (ht : P.underlying t = some (.slice e)) (ho : Opens P t (Kd.slice e d) wf) (hv : Value.okWide P W r b0 t v)
    {H : Type} {enc : TypeId × Value → H} {base : Nat} {spare : Nat → Bool} {held : Bool} {dd : DataW H} {ps : List MemPlace} (h : DataW.Trod enc P W base spare held t v dd ps) :
    ∃ (A : Option Addr) (c : Nat) (l : List α), v = .slice A l.length c ∧ l.length ≤ c ∧ d.C W A l.length l ∧ wf l := by
  obtain ⟨a, len, cap, rfl⟩ := okWide_slice ht hv
  obtain ⟨fuel, hf⟩ := h
  obtain ⟨l, ⟨A, c, he, hl, hC⟩, hw⟩ := ho H enc W base spare held fuel _ _ hf
  have he' : Value.slice a len cap = Value.slice A l.length c := by simpa [Value.cells] using he
  exact ⟨A, c, l, he', hl, hC, hw⟩
end
end Go.Proofs.YtfdhnmijaobbdaaW.PrintMore
namespace Go.Proofs.YtfdhnmijaobbdaaW.PrintMore
open Go.RowKit Go.ChangeShapes Go.WideShapes
theorem sized_any {H : Type} {enc : TypeId × Value → H} {P : Program} {W : World} {base : Nat} {spare : Nat → Bool} {held : Bool} {t e : TypeId} {a : Option Addr} {len cap : Nat} {d : DataW H} {ps : List MemPlace} {ts : List TypeId} {ds : List (DataW H)} {j : Nat}
    (hsz : (DataW.weightsEach P ts ds).all (· ≤ reachBytes) = true) (ht : ts[j]? = some t) (hd : ds[j]? = some d) (hu : P.underlying t = some (.slice e)) {B : Nat} (hB : P.bytesOf e = B)
    (h : DataW.Trod enc P W base spare held t (.slice a len cap) d ps) : len * B ≤ 140737488351232 := by
  obtain ⟨fuel, hf⟩ := h
  rcases Deep.open_slice hu hf with ⟨hcs, _⟩ | ⟨x, l, c, m, n, D, Pl, hcs, _, hl, _, hm, hx, _⟩
  · simp [Value.cells] at hcs
    obtain ⟨rfl, rfl, rfl⟩ := hcs
    simp
  · simp [Value.cells] at hcs
    obtain ⟨rfl, rfl, rfl⟩ := hcs
    obtain ⟨hx, _⟩ := Prod.mk.inj hx
    subst hx
    have z := sized_slice hsz ht hd hu
    rw [hB] at z
    refine Nat.le_trans (Nat.mul_le_mul_right _ ?_) z
    simp
end Go.Proofs.YtfdhnmijaobbdaaW.PrintMore
end
section
namespace Go.Proofs.Ytfdhnmijaobbdaa.S
open Go.RowKit Go.Proofs.YtfdhnmijaobbdaaW.PrintWords Go.Proofs.YtfdhnmijaobbdaaW.PrintLast Go.Proofs.YtfdhnmijaobbdaaW.PrintMore
set_option linter.unusedVariables false
def wf60 (x : S60) : Prop := (Lit.int .i64 x.f0).wf = true ∧ (Lit.int .i64 x.f1).wf = true
theorem opens60 : Opens Try.prog 60 k60 wf60 := opens_iso (fun x : S60 => (x.f0, x.f1)) (fun p => ⟨p.1, p.2⟩) (fun _ => rfl) (opens_struct Try.underlying60 (by kernel_rfl) (opensF_cons (by kernel_rfl) (opens_int Try.underlying3) (opensF_one (by kernel_rfl) (opens_int Try.underlying3))))
def wf25 (x : S25) : Prop := (x.f0.length ≤ maxLen ∧ ∀ z_ ∈ x.f0, wf60 z_)
theorem opens25 : Opens Try.prog 25 k25 wf25 := opens_iso (fun x : S25 => (x.f0)) (fun p => ⟨p⟩) (fun _ => rfl) (opens_struct Try.underlying25 (by kernel_rfl) (opensF_one (by kernel_rfl) (opens_slice Try.underlying23 (by kernel_rfl) opens60)))
def wf52 (x : S52) : Prop := (Lit.int .i64 x.f0).wf = true ∧ wf25 x.f1 ∧ (Lit.int .i64 x.f2).wf = true ∧ True
theorem opens52 : Opens Try.prog 52 k52 wf52 := opens_iso (fun x : S52 => (x.f0, x.f1, x.f2, x.f3)) (fun p => ⟨p.1, p.2.1, p.2.2.1, p.2.2.2⟩) (fun _ => rfl) (opens_struct Try.underlying52 (by kernel_rfl) (opensF_cons (by kernel_rfl) (opens_int Try.underlying3) (opensF_cons (by kernel_rfl) opens25 (opensF_cons (by kernel_rfl) (opens_int Try.underlying3) (opensF_one (by kernel_rfl) (opens_bool Try.underlying4))))))
end Go.Proofs.Ytfdhnmijaobbdaa.S
end
section
namespace Go.Proofs.Ytfdhnmijaobbdaa.S
open Go.RowKit Go.Proofs.YtfdhnmijaobbdaaW.PrintWords Go.Proofs.YtfdhnmijaobbdaaW.PrintLast Go.Proofs.YtfdhnmijaobbdaaW.PrintMore
attribute [local go_sem] max2_int min2_int max_two min_two max_three min_three max_four min_four   -- for this text's walks alone
set_option linter.unusedVariables false
set_option linter.unusedSimpArgs false
mutual
def chalklineref35_may.l0 : Nat → Int → List (S60) → Option (Bool)
  | 0, _, _ => none
  | k + 1, x3, x165000 => if x3 < (x165000.length : Int) then (chalklineref35_may.j1 k x3 (decide (x3 < 65)) x165000) else (chalklineref35_may.j1 k x3 false x165000)
def chalklineref35_may.j1 : Nat → Int → Bool → List (S60) → Option (Bool)
  | 0, _, _, _ => none
  | k + 1, x3, x13, x165000 => if x13 = true then (if 0 ≤ x3 then (if x3 < (x165000.length : Int) then (if ((rd_T60 x165000 x3).f0) < 0 then (some false) else (if ((rd_T60 x165000 x3).f0) ≥ 50 then (some false) else (if ((rd_T60 x165000 x3).f1) < 0 then (some false) else (if ((rd_T60 x165000 x3).f1) ≥ 32 then (some false) else (chalklineref35_may.l0 k (wrap64 (x3 + 1)) x165000))))) else (none)) else (none)) else (some (decide ((x165000.length : Int) ≤ 64)))
end
def chalklineref35_may.f (k : Nat) (l0_0 : List (S60)) : Option (Bool) := chalklineref35_may.l0 k 0 l0_0
end Go.Proofs.Ytfdhnmijaobbdaa.S
end
section
namespace Go.Proofs.Ytfdhnmijaobbdaa.S
open Go.RowKit Go.Proofs.YtfdhnmijaobbdaaW.PrintWords Go.Proofs.YtfdhnmijaobbdaaW.PrintLast Go.Proofs.YtfdhnmijaobbdaaW.PrintMore
attribute [local go_sem] max2_int min2_int max_two min_two max_three min_three max_four min_four   -- for this text's walks alone
set_option linter.unusedVariables false
set_option linter.unusedSimpArgs false
def chalklineref35_Check.l0 : Nat → List (S52) → Int → Option (Int)
  | 0, _, _ => none
  | k + 1, x0, x3 => if x3 < (x0.length : Int) then (if 0 ≤ x3 then (if ((rd_T52 x0 x3).f0) = (wrap64 (x3 + 1)) then (if ((rd_T52 x0 x3).f2) < 0 then (some 1) else (if ((rd_T52 x0 x3).f2) > 1099511627776 then (some 1) else ((chalklineref35_may.f k ((rd_T52 x0 x3).f1.f0)).bind fun t171 => (if t171 = true then (chalklineref35_Check.l0 k x0 (wrap64 (x3 + 1))) else (some 1))))) else (some 1)) else (none)) else (some 0)
end Go.Proofs.Ytfdhnmijaobbdaa.S
end
section
namespace Go.Proofs.Ytfdhnmijaobbdaa.S
open Go.RowKit Go.Proofs.YtfdhnmijaobbdaaW.PrintWords Go.Proofs.YtfdhnmijaobbdaaW.PrintLast Go.Proofs.YtfdhnmijaobbdaaW.PrintMore
theorem wrap_succ {i : Nat} (h : i < 9223372036854775807) : wrap64 ((i : Int) + 1) = ((i + 1 : Nat) : Int) := by
  unfold wrap64; omega
theorem wrap_pred {i : Int} (h0 : -9223372036854775807 ≤ i) (h : i ≤ 9223372036854775807) : wrap64 (i - 1) = i - 1 := by
  unfold wrap64; omega
theorem wrap_inc {i : Int} (h0 : -9223372036854775808 ≤ i) (h : i < 9223372036854775807) : wrap64 (i + 1) = i + 1 := by
  unfold wrap64; omega
theorem drop_cons {α : Type} {l s : List α} {x : α} {i : Nat} (h : l.drop i = x :: s) : i < l.length ∧ l[i]? = some x ∧ l.drop (i + 1) = s := by
  have h1 : i < l.length := by
    rcases Nat.lt_or_ge i l.length with h1 | h1
    · exact h1
    · rw [List.drop_eq_nil_of_le h1] at h; cases h
  refine ⟨h1, ?_, ?_⟩
  · rw [List.drop_eq_getElem_cons h1] at h
    injection h with h _
    rw [List.getElem?_eq_getElem h1, h]
  · rw [List.drop_eq_getElem_cons h1] at h
    injection h
theorem drop_nil {α : Type} {l : List α} {i : Nat} (h : l.drop i = []) : l.length ≤ i := by
  rcases Nat.lt_or_ge i l.length with h1 | h1
  · rw [List.drop_eq_getElem_cons h1] at h; cases h
  · exact h1
theorem rd52 {l : List S52} {i : Nat} {x : S52} (h : l[i]? = some x) : rd_T52 l (i : Int) = x := by
  unfold rd_T52; rw [Int.toNat_natCast, List.getD_eq_getElem?_getD, h]; rfl
theorem rd60 {l : List S60} {i : Nat} {x : S60} (h : l[i]? = some x) : rd_T60 l (i : Int) = x := by
  unfold rd_T60; rw [Int.toNat_natCast, List.getD_eq_getElem?_getD, h]; rfl
theorem rd64 {l : List S64} {i : Nat} {x : S64} (h : l[i]? = some x) : rd_T64 l (i : Int) = x := by
  unfold rd_T64; rw [Int.toNat_natCast, List.getD_eq_getElem?_getD, h]; rfl
theorem succ_of {k n : Nat} (h : n < k) : ∃ m, k = m + 1 ∧ n ≤ m := ⟨k - 1, by omega, by omega⟩
def okP (p : S60) : Bool := decide (0 ≤ p.f0 ∧ p.f0 ≤ 49 ∧ 0 ≤ p.f1 ∧ p.f1 ≤ 31)
def okW (w : List S60) : Bool := decide (w.length ≤ 64) && w.all okP
def okV (n : Int) (v : S52) : Bool := decide (v.f0 = n + 1) && (decide (0 ≤ v.f2 ∧ v.f2 ≤ 1099511627776) && okW v.f1.f0)
def okAll (n : Nat) : List S52 → Bool
  | [] => true
  | v :: l => okV n v && okAll (n + 1) l
def chk (l : List S52) : Int := cond (okAll 0 l) 0 1
theorem place_ok (a x y : Int) : feed_Check_1_1.f a x y = some (okP ⟨x, y⟩) := by
  unfold feed_Check_1_1.f
  rw [feed_Take.bounds, feed_Take.bounds]
  simp only [Option.bind_some, okP]
  by_cases h : 0 ≤ x ∧ x ≤ 49
  · simp [h]
  · rw [decide_eq_false h]
    simp
    omega
theorem places_ok (l : List S60) (hl : l.length ≤ 9223372036854775806) : ∀ (s : List S60) (i k : Nat), l.drop i = s → s.length < k → feed_all_api_Place.l0 k l (l.length : Int) (i : Int) = some (s.all okP) := by
  intro s
  induction s with
  | nil =>
    intro i k hs hk
    obtain ⟨k, rfl, _⟩ := succ_of hk
    have := drop_nil hs
    simp only [feed_all_api_Place.l0]
    rw [if_neg (by omega)]
    rfl
  | cons x s ih =>
    intro i k hs hk
    obtain ⟨k, rfl, hk'⟩ := succ_of hk
    obtain ⟨h1, h2, h3⟩ := drop_cons hs
    have hk2 : s.length < k := by simp at hk'; omega
    simp only [feed_all_api_Place.l0]
    rw [if_pos (by omega), if_pos (by omega), if_pos (by omega), rd60 h2, place_ok]
    simp only [Option.bind_some]
    rw [wrap_succ (by omega), ih (i + 1) k h3 hk2]
    cases h : okP x <;> simp [h]
theorem version_ok (i k : Nat) (v : S52) (hi : i < 9223372036854775806) (hw : v.f1.f0.length ≤ 9223372036854775806) (hk : v.f1.f0.length < k) :
    feed_Check_1.f k (i : Int) v.f0 v.f1.f0 v.f2 v.f3 = some (okV i v) := by
  unfold feed_Check_1.f
  rw [wrap_inc (by omega) (by omega), feed_Take.bounds]
  simp only [Option.bind_some, okV, okW]
  by_cases h : v.f0 = (i : Int) + 1
  · rw [if_pos h, decide_eq_true h]
    by_cases h2 : 0 ≤ v.f2 ∧ v.f2 ≤ 1099511627776
    · rw [decide_eq_true h2]
      simp only [if_true, Bool.true_and]
      by_cases h3 : v.f1.f0.length ≤ 64
      · rw [if_pos (by omega), decide_eq_true h3]
        unfold feed_all_api_Place.f
        have := places_ok v.f1.f0 hw v.f1.f0 0 k rfl hk
        rw [show ((0 : Nat) : Int) = 0 from rfl] at this
        rw [this]
        simp
      · rw [if_neg (by omega), decide_eq_false h3]
        simp
    · rw [decide_eq_false h2]
      simp
  · rw [if_neg h, decide_eq_false h]
    simp
def Short (n : Nat) (l : List S52) : Prop := ∀ v ∈ l, v.f1.f0.length ≤ n
theorem versions_ok (l : List S52) (hl : l.length ≤ 9223372036854775806) (N : Nat) (hN : N ≤ 9223372036854775806) (hS : Short N l) : ∀ (s : List S52) (i k : Nat), l.drop i = s → s.length + N < k → feed_all_api_Version.l0 k l (l.length : Int) (i : Int) = some (okAll i s) := by
  intro s
  induction s with
  | nil =>
    intro i k hs hk
    obtain ⟨k, rfl, _⟩ := succ_of hk
    have := drop_nil hs
    simp only [feed_all_api_Version.l0]
    rw [if_neg (by omega)]
    rfl
  | cons x s ih =>
    intro i k hs hk
    obtain ⟨k, rfl, hk'⟩ := succ_of hk
    obtain ⟨h1, h2, h3⟩ := drop_cons hs
    have hx := hS x (List.mem_of_getElem? h2)
    have hk2 : s.length + N < k := by simp at hk'; omega
    simp only [feed_all_api_Version.l0]
    rw [if_pos (by omega), if_pos (by omega), if_pos (by omega), rd52 h2, version_ok i k x (by omega) (by omega) (by omega)]
    simp only [Option.bind_some]
    rw [wrap_succ (by omega), ih (i + 1) k h3 hk2]
    simp only [okAll]
    cases h : okV i x <;> simp
theorem feedCheck_eq (l : List S52) (hl : l.length ≤ 9223372036854775806) (N : Nat) (hN : N ≤ 9223372036854775806) (hS : Short N l) (k : Nat) (hk : l.length + N < k) : feed_Check.f k l = some (chk l) := by
  unfold feed_Check.f feed_all_api_Version.f
  have := versions_ok l hl N hN hS l 0 k rfl hk
  rw [show ((0 : Nat) : Int) = 0 from rfl] at this
  rw [this]
  simp only [Option.bind_some, chk]
  cases okAll 0 l <;> rfl
theorem may_ok (l : List S60) (hl : l.length ≤ 9223372036854775806) : ∀ (s : List S60) (i k : Nat), l.drop i = s → i ≤ 65 → 2 * (65 - i) + 2 ≤ k → chalklineref35_may.l0 k (i : Int) l = some (decide (l.length ≤ 64) && s.all okP) := by
  intro s
  induction s with
  | nil =>
    intro i k hs hi hk
    obtain ⟨k, rfl, _⟩ := succ_of (show 1 < k by omega)
    obtain ⟨k, rfl, _⟩ := succ_of (show 0 < k by omega)
    have := drop_nil hs
    simp only [chalklineref35_may.l0]
    rw [if_neg (by omega)]
    simp only [chalklineref35_may.j1]
    simp
    omega
  | cons x s ih =>
    intro i k hs hi hk
    obtain ⟨k, rfl, _⟩ := succ_of (show 1 < k by omega)
    obtain ⟨k, rfl, _⟩ := succ_of (show 0 < k by omega)
    obtain ⟨h1, h2, h3⟩ := drop_cons hs
    simp only [chalklineref35_may.l0]
    rw [if_pos (by omega)]
    by_cases h65 : i < 65
    · rw [decide_eq_true (by omega : (i : Int) < 65)]
      simp only [chalklineref35_may.j1]
      rw [if_pos trivial, if_pos (by omega), if_pos (by omega), rd60 h2, wrap_succ (by omega), ih (i + 1) k h3 (by omega) (by omega)]
      simp only [List.all_cons, okP]
      by_cases a : x.f0 < 0
      · rw [if_pos a, decide_eq_false (show ¬ (0 ≤ x.f0 ∧ x.f0 ≤ 49 ∧ 0 ≤ x.f1 ∧ x.f1 ≤ 31) by omega)]; simp
      · rw [if_neg a]
        by_cases b : x.f0 ≥ 50
        · rw [if_pos b, decide_eq_false (show ¬ (0 ≤ x.f0 ∧ x.f0 ≤ 49 ∧ 0 ≤ x.f1 ∧ x.f1 ≤ 31) by omega)]; simp
        · rw [if_neg b]
          by_cases c : x.f1 < 0
          · rw [if_pos c, decide_eq_false (show ¬ (0 ≤ x.f0 ∧ x.f0 ≤ 49 ∧ 0 ≤ x.f1 ∧ x.f1 ≤ 31) by omega)]; simp
          · rw [if_neg c]
            by_cases d : x.f1 ≥ 32
            · rw [if_pos d, decide_eq_false (show ¬ (0 ≤ x.f0 ∧ x.f0 ≤ 49 ∧ 0 ≤ x.f1 ∧ x.f1 ≤ 31) by omega)]; simp
            · rw [if_neg d, decide_eq_true (by omega : 0 ≤ x.f0 ∧ x.f0 ≤ 49 ∧ 0 ≤ x.f1 ∧ x.f1 ≤ 31)]; simp
    · rw [decide_eq_false (by omega : ¬ (i : Int) < 65)]
      simp only [chalklineref35_may.j1]
      rw [if_neg (by decide), decide_eq_false (by omega : ¬ (l.length : Int) ≤ 64), decide_eq_false (by omega : ¬ l.length ≤ 64)]
      rfl
theorem mayW (l : List S60) (hl : l.length ≤ 9223372036854775806) (k : Nat) (hk : 132 ≤ k) : chalklineref35_may.f k l = some (okW l) := by
  have := may_ok l hl l 0 k rfl (by omega) (by omega)
  exact this
theorem refVersions_ok (l : List S52) (hl : l.length ≤ 9223372036854775806) (hS : Short 9223372036854775806 l) : ∀ (s : List S52) (i k : Nat), l.drop i = s → s.length + 132 < k → chalklineref35_Check.l0 k l (i : Int) = some (cond (okAll i s) 0 1) := by
  intro s
  induction s with
  | nil =>
    intro i k hs hk
    obtain ⟨k, rfl, _⟩ := succ_of hk
    have := drop_nil hs
    simp only [chalklineref35_Check.l0]
    rw [if_neg (by omega)]
    rfl
  | cons x s ih =>
    intro i k hs hk
    obtain ⟨k, rfl, hk'⟩ := succ_of hk
    obtain ⟨h1, h2, h3⟩ := drop_cons hs
    have hx := hS x (List.mem_of_getElem? h2)
    have hk2 : s.length + 132 < k := by simp at hk'; omega
    simp only [chalklineref35_Check.l0]
    rw [if_pos (by omega), if_pos (by omega), rd52 h2, wrap_succ (by omega), mayW x.f1.f0 hx k (by omega), ih (i + 1) k h3 hk2]
    simp only [Option.bind_some, okAll, okV]
    by_cases a : x.f0 = ((i + 1 : Nat) : Int)
    · rw [if_pos a, decide_eq_true (by omega : x.f0 = (i : Int) + 1)]
      by_cases b : x.f2 < 0
      · rw [if_pos b, decide_eq_false (show ¬ (0 ≤ x.f2 ∧ x.f2 ≤ 1099511627776) by omega)]; simp
      · rw [if_neg b]
        by_cases c : x.f2 > 1099511627776
        · rw [if_pos c, decide_eq_false (show ¬ (0 ≤ x.f2 ∧ x.f2 ≤ 1099511627776) by omega)]; simp
        · rw [if_neg c, decide_eq_true (by omega : 0 ≤ x.f2 ∧ x.f2 ≤ 1099511627776)]
          cases okW x.f1.f0 <;> simp
    · rw [if_neg a, decide_eq_false (show ¬ x.f0 = (i : Int) + 1 by omega)]; simp
theorem few_ok (l : List S52) (hl : l.length ≤ 9223372036854775806) : ∀ (s : List S52) (i k : Nat), l.drop i = s → i ≤ 30 → 2 * (30 - i) + 2 ≤ k → ∃ b, chalklineref35_Few.l0 k l (i : Int) = some b ∧ (b = true → l.length ≤ 20 ∧ Short 70 s) := by
  intro s
  induction s with
  | nil =>
    intro i k hs hi hk
    obtain ⟨k, rfl, _⟩ := succ_of (show 1 < k by omega)
    obtain ⟨k, rfl, _⟩ := succ_of (show 0 < k by omega)
    have := drop_nil hs
    simp only [chalklineref35_Few.l0]
    rw [if_neg (by omega)]
    simp only [chalklineref35_Few.j1]
    exact ⟨_, by rw [if_neg (by decide)], fun h => ⟨by have := of_decide_eq_true h; omega, fun v hv => by cases hv⟩⟩
  | cons x s ih =>
    intro i k hs hi hk
    obtain ⟨k, rfl, _⟩ := succ_of (show 1 < k by omega)
    obtain ⟨k, rfl, _⟩ := succ_of (show 0 < k by omega)
    obtain ⟨h1, h2, h3⟩ := drop_cons hs
    simp only [chalklineref35_Few.l0]
    rw [if_pos (by omega)]
    by_cases h30 : i < 30
    · rw [decide_eq_true (by omega : (i : Int) < 30)]
      simp only [chalklineref35_Few.j1]
      rw [if_pos trivial, if_pos (by omega), if_pos (by omega), rd52 h2, wrap_succ (by omega)]
      by_cases a : (x.f1.f0.length : Int) > 70
      · rw [if_pos a]; exact ⟨false, rfl, fun h => by cases h⟩
      · rw [if_neg a]
        obtain ⟨b, hb, hb2⟩ := ih (i + 1) k h3 (by omega) (by omega)
        refine ⟨b, hb, fun h => ⟨(hb2 h).1, fun v hv => ?_⟩⟩
        rcases List.mem_cons.1 hv with rfl | hv
        · omega
        · exact (hb2 h).2 v hv
    · rw [decide_eq_false (by omega : ¬ (i : Int) < 30)]
      simp only [chalklineref35_Few.j1]
      rw [if_neg (by decide)]
      exact ⟨_, rfl, fun h => by have := of_decide_eq_true h; omega⟩
theorem few_eq (l : List S52) (hl : l.length ≤ 9223372036854775806) (k : Nat) (hk : 62 ≤ k) : ∃ b, chalklineref35_Few.f k l = some b ∧ (b = true → l.length ≤ 20 ∧ Short 70 l) :=
  few_ok l hl l 0 k rfl (by omega) (by omega)
def diffGo (n : Nat) : List S60 → List S60 → List S64
  | a :: xs, b :: ys => if a.f0 = b.f0 ∧ a.f1 = b.f1 then diffGo (n + 1) xs ys else ⟨n, b⟩ :: diffGo (n + 1) xs ys
  | _, _ => []
theorem diffGo_len : ∀ (n : Nat) (a b : List S60), (diffGo n a b).length ≤ b.length
  | _, [], _ => by simp [diffGo]
  | _, _ :: _, [] => by simp [diffGo]
  | n, a :: xs, b :: ys => by
    simp only [diffGo]
    have := diffGo_len (n + 1) xs ys
    split <;> simp <;> omega
theorem diff_loop (a b : List S60) (hab : a.length = b.length) (hl : b.length ≤ 5864062014805) : ∀ (s t : List S60) (i k : Nat) (acc : List S64), a.drop i = s → b.drop i = t → acc.length + t.length ≤ b.length → t.length < k →
    week_Diff.l0 k acc 0 b (b.length : Int) (i : Int) a = some (acc ++ diffGo i s t, 0) := by
  intro s t
  induction t generalizing s with
  | nil =>
    intro i k acc hs ht hacc hk
    obtain ⟨k, rfl, _⟩ := succ_of hk
    have := drop_nil ht
    simp only [week_Diff.l0]
    rw [if_neg (by omega)]
    cases s <;> simp [diffGo]
  | cons y t ih =>
    intro i k acc hs ht hacc hk
    obtain ⟨k, rfl, hk'⟩ := succ_of hk
    obtain ⟨h1, h2, h3⟩ := drop_cons ht
    match s, hs with
    | [], hs => have := drop_nil hs; omega
    | x :: s, hs =>
      obtain ⟨g1, g2, g3⟩ := drop_cons hs
      simp only [List.length_cons] at hk' hacc
      simp only [week_Diff.l0]
      rw [if_pos (by omega), if_pos (by omega), if_pos (by omega), if_pos (by omega), rd60 h2, rd60 g2, wrap_succ (by omega)]
      by_cases e : x.f0 = y.f0 ∧ x.f1 = y.f1
      · rw [if_neg (by simp [e.1, e.2]), ih s (i + 1) k acc g3 h3 (by omega) (by omega)]
        simp only [diffGo]
        rw [if_pos e]
      · rw [if_pos (by simp; omega), if_pos (by omega), ih s (i + 1) k _ g3 h3 (by simp; omega) (by omega)]
        simp only [diffGo]
        rw [if_neg e]
        simp
theorem diff_eq (a b : List S60) (hl : b.length ≤ 5864062014805) (k : Nat) (hk : b.length < k) : week_Diff.f k a b = some (if a.length = b.length then (diffGo 0 a b, 0) else ([], 1)) := by
  unfold week_Diff.f
  by_cases h : a.length = b.length
  · rw [if_pos (by omega), if_pos h]
    exact diff_loop a b h hl a b 0 k [] rfl rfl (by simp) hk
  · rw [if_neg (by omega), if_neg h]
def applyGo (n : Nat) (last : Int) : List S64 → List S60 → List S60 × Int
  | [], x => (x, 0)
  | m :: l, x => if m.f0 ≤ last ∨ m.f0 ≥ n then ([], 1) else applyGo n m.f0 l (x.set m.f0.toNat m.f1)
theorem apply_loop (w : List S60) (l : List S64) (hl : l.length ≤ 9223372036854775806) : ∀ (s : List S64) (i k : Nat) (last : Int) (x : List S60), l.drop i = s → -1 ≤ last → x.length = w.length → s.length < k →
    week_Apply.l0 k last l (l.length : Int) (i : Int) w x = some (applyGo w.length last s x) := by
  intro s
  induction s with
  | nil =>
    intro i k last x hs h0 hx hk
    obtain ⟨k, rfl, _⟩ := succ_of hk
    have := drop_nil hs
    simp only [week_Apply.l0]
    rw [if_neg (by omega)]
    rfl
  | cons y s ih =>
    intro i k last x hs h0 hx hk
    obtain ⟨k, rfl, hk'⟩ := succ_of hk
    obtain ⟨h1, h2, h3⟩ := drop_cons hs
    simp only [List.length_cons] at hk'
    simp only [week_Apply.l0]
    rw [if_pos (by omega), if_pos (by omega), if_pos (by omega), rd64 h2, wrap_succ (by omega)]
    simp only [applyGo]
    by_cases a : y.f0 ≤ last
    · rw [if_pos a, if_pos (.inl a)]
    · rw [if_neg a]
      by_cases b : y.f0 ≥ (w.length : Int)
      · rw [if_pos b, if_pos (.inr b)]
      · rw [if_neg b, if_pos (by omega), if_pos (by omega), if_neg (by omega)]
        exact ih (i + 1) k y.f0 _ h3 (by omega) (by rw [List.length_set]; exact hx) (by omega)
theorem apply_eq (w : List S60) (l : List S64) (hw : w.length < 8796093022208) (hl : l.length ≤ 9223372036854775806) (k : Nat) (hk : l.length < k) : week_Apply.f k w l = some (applyGo w.length (-1) l w) := by
  unfold week_Apply.f slices_Clone_api_Place_api_Place.f
  rw [if_pos hw]
  simp only [Option.bind_some]
  exact apply_loop w l hl l 0 k (-1) w rfl (by omega) rfl hk
abbrev RepT := Int × Int × Int × Int × (List (S60)) × (List (S64)) × Int
def lastOf (l : List S52) : S52 := rd_T52 l ((l.length : Int) - 1)
def replyS (l : List S52) (no dst : Int) : RepT :=
  if ¬ chk l = 0 ∨ ¬ (0 ≤ no ∧ no ≤ 1099511627776) ∨ ¬ (0 ≤ dst ∧ dst ≤ 7) then (0, 0, 0, 0, [], [], 1)
  else if no ≥ (l.length : Int) then (0, 0, 0, 0, [], [], 341)
  else if no > 0 ∧ (rd_T52 l (no - 1)).f1.f0.length = (lastOf l).f1.f0.length then (2, dst, no, (lastOf l).f0, [], diffGo 0 (rd_T52 l (no - 1)).f1.f0 (lastOf l).f1.f0, 0)
  else (1, dst, 0, (lastOf l).f0, (lastOf l).f1.f0, [], 0)
theorem chk_or (l : List S52) : chk l = 0 ∨ chk l = 1 := by unfold chk; cases okAll 0 l <;> simp
theorem short_rd {n : Nat} {l : List S52} (h : Short n l) (i : Int) : (rd_T52 l i).f1.f0.length ≤ n := by
  unfold rd_T52
  rw [List.getD_eq_getElem?_getD]
  cases e : l[i.toNat]? with
  | none => simp [z52, z25]
  | some v => exact h v (List.mem_of_getElem? e)
theorem reply_j (l : List S52) (hl : l.length ≤ 1000) (N : Nat) (hN : N ≤ 1000) (hS : Short N l) (no dst : Int) (h0 : 0 ≤ no) (k : Nat) (hk : N + 1 < k) (ht : ¬ no ≥ (l.length : Int)) :
    feed_Reply.j0 k l no dst 0 false 0 0 0 0 = some (if no > 0 ∧ (rd_T52 l (no - 1)).f1.f0.length = (lastOf l).f1.f0.length then (2, dst, no, (lastOf l).f0, [], diffGo 0 (rd_T52 l (no - 1)).f1.f0 (lastOf l).f1.f0, 0)
      else (1, dst, 0, (lastOf l).f0, (lastOf l).f1.f0, [], 0)) := by
  obtain ⟨k, rfl, hk'⟩ := succ_of hk
  have hlast : (lastOf l).f1.f0.length ≤ N := short_rd hS _
  simp only [feed_Reply.j0]
  rw [if_neg (by decide), if_neg ht, wrap_pred (by omega) (by omega), if_pos (by omega), if_pos (by omega)]
  rw [show rd_T52 l ((l.length : Int) - 1) = lastOf l from rfl]
  by_cases a : no > 0
  · rw [if_pos a, wrap_pred (by omega) (by omega), if_pos (by omega), if_pos (by omega), diff_eq _ _ (by omega) k (by omega)]
    simp only [Option.bind_some]
    by_cases b : (rd_T52 l (no - 1)).f1.f0.length = (lastOf l).f1.f0.length
    · simp only [if_pos b, if_pos (And.intro a b), if_true]
    · simp only [if_neg b, if_neg (fun z : no > 0 ∧ (rd_T52 l (no - 1)).f1.f0.length = (lastOf l).f1.f0.length => b z.2)]
      unfold slices_Clone_api_Place_api_Place.f
      rw [if_neg (by decide), if_pos (by omega)]; rfl
  · rw [if_neg a, if_neg (fun z => a z.1)]
    unfold slices_Clone_api_Place_api_Place.f
    rw [if_pos (by omega)]; rfl
theorem reply_eq (l : List S52) (hl : l.length ≤ 1000) (N : Nat) (hN : N ≤ 1000) (hS : Short N l) (no dst : Int) (k : Nat) (hk : l.length + N + 1 < k) : feed_Reply.f k l no dst = some (replyS l no dst) := by
  unfold feed_Reply.f
  rw [feedCheck_eq l (by omega) N (by omega) hS k (by omega), feed_Take.bounds, feed_Take.bounds]
  simp only [Option.bind_some]
  have hbad : feed_Reply.j0 k l no dst 0 true 0 0 0 0 = some (0, 0, 0, 0, [], [], 1) := by
    obtain ⟨k, rfl, _⟩ := succ_of (show 0 < k by omega)
    simp [feed_Reply.j0]
  unfold replyS
  by_cases a : chk l = 0
  · rw [if_pos a]
    by_cases b : 0 ≤ no ∧ no ≤ 1099511627776
    · rw [decide_eq_true b, if_pos rfl]
      by_cases c : 0 ≤ dst ∧ dst ≤ 7
      · rw [decide_eq_true c, if_neg (by simp only [a, b, c]; simp)]
        by_cases d : no ≥ (l.length : Int)
        · rw [if_pos d]
          obtain ⟨k, rfl, _⟩ := succ_of (show 0 < k by omega)
          simp only [feed_Reply.j0, Bool.not_true]
          rw [if_neg (by decide), if_pos d]
        · rw [if_neg d]
          exact reply_j l hl N hN hS no dst b.1 k (by omega) d
      · rw [decide_eq_false c, if_pos (.inr (.inr c))]; exact hbad
    · rw [decide_eq_false b, if_neg (by decide), if_pos (.inr (.inl b))]; exact hbad
  · rw [if_neg a, if_pos (.inl a)]
    rcases chk_or l with e | e
    · exact absurd e a
    · rw [e]; exact hbad
theorem replyS_len {l : List S52} {N : Nat} (hS : Short N l) (no dst : Int) : (replyS l no dst).2.2.2.2.1.length ≤ N ∧ (replyS l no dst).2.2.2.2.2.1.length ≤ N := by
  unfold replyS
  have h1 : (lastOf l).f1.f0.length ≤ N := short_rd hS _
  have h2 := diffGo_len 0 (rd_T52 l (no - 1)).f1.f0 (lastOf l).f1.f0
  split
  · simp
  · split
    · simp
    · split
      · simp; omega
      · simp; omega
abbrev TakT := Int × (List S60) × Int
def takeS (n0 : Int) (l1 : List S60) (m0 m2 m3 : Int) (l4 : List S60) (l5 : List S64) : TakT :=
  if (m0 = 1 ∨ m0 = 2) ∧ (0 ≤ n0 ∧ n0 ≤ 1099511627776) ∧ (1 ≤ m3 ∧ m3 ≤ 1099511627776) then
    if m3 ≤ n0 then (0, [], 341)
    else if m0 = 1 then (m3, l4, 0)
    else if m2 = n0 then (if (applyGo l1.length (-1) l5 l1).2 = 0 then (m3, (applyGo l1.length (-1) l5 l1).1, 0) else (0, [], (applyGo l1.length (-1) l5 l1).2))
    else (0, [], 350)
  else (0, [], 1)
theorem take_eq (k : Nat) (n0 : Int) (l1 : List S60) (m0 m1 m2 m3 : Int) (l4 : List S60) (l5 : List S64) (h1 : l1.length < 8796093022208) (h4 : l4.length < 8796093022208) (h5 : l5.length ≤ 9223372036854775806) (hk : l5.length < k) :
    feed_Take.f k n0 l1 m0 m1 m2 m3 l4 l5 = some (takeS n0 l1 m0 m2 m3 l4 l5) := by
  unfold feed_Take.f feed_Take.eff takeS
  rw [apply_eq l1 l5 h1 h5 k hk]
  simp only [slices_Clone_api_Place_api_Place.f, if_pos h4, Option.bind_some]
  generalize applyGo l1.length (-1) l5 l1 = z
  by_cases m : m0 = 1 ∨ m0 = 2
  · rw [if_pos m]
    by_cases a : 0 ≤ n0
    · rw [if_pos a]
      by_cases b : n0 ≤ 1099511627776
      · rw [if_pos b]
        by_cases c : 1 ≤ m3
        · rw [if_pos c]
          by_cases d : m3 ≤ 1099511627776
          · rw [if_pos d, if_pos (show (m0 = 1 ∨ m0 = 2) ∧ (0 ≤ n0 ∧ n0 ≤ 1099511627776) ∧ (1 ≤ m3 ∧ m3 ≤ 1099511627776) from ⟨m, ⟨a, b⟩, c, d⟩)]
            by_cases f : m3 ≤ n0
            · rw [if_pos f, if_pos f]
            · rw [if_neg f, if_neg f]
              by_cases g : m0 = 1
              · simp [g]
              · by_cases o : m2 = n0
                · by_cases hz : z.2 = 0
                  · simp [g, o, hz]
                  · simp [g, o, hz]
                · simp [g, o]
          · rw [if_neg d, if_neg (fun z => d z.2.2.2)]
        · rw [if_neg c, if_neg (fun z => c z.2.2.1)]
      · rw [if_neg b, if_neg (fun z => b z.2.1.2)]
    · rw [if_neg a, if_neg (fun z => a z.2.1.1)]
  · rw [if_neg m, if_neg (fun z => m z.1)]
theorem okAll_get : ∀ (l : List S52) (n i : Nat) (v : S52), okAll n l = true → l[i]? = some v → okV ((n + i : Nat) : Int) v = true
  | [], _, _, _, _, h => by simp at h
  | x :: l, n, 0, v, h, hv => by
    simp only [List.getElem?_cons_zero, Option.some.injEq] at hv
    subst hv
    simp only [okAll, Bool.and_eq_true] at h
    exact h.1
  | x :: l, n, i + 1, v, h, hv => by
    simp only [okAll, Bool.and_eq_true] at h
    rw [List.getElem?_cons_succ] at hv
    have := okAll_get l (n + 1) i v h.2 hv
    rwa [show n + 1 + i = n + (i + 1) by omega] at this
theorem chk_get {l : List S52} (h : chk l = 0) {i : Nat} {v : S52} (hv : l[i]? = some v) : v.f0 = (i : Int) + 1 ∧ v.f1.f0.length ≤ 64 := by
  have h' : okAll 0 l = true := by unfold chk at h; cases e : okAll 0 l <;> simp_all
  have := okAll_get l 0 i v h' hv
  simp only [okV, okW, Bool.and_eq_true, decide_eq_true_eq, Nat.zero_add] at this
  exact ⟨this.1, this.2.2.1⟩
theorem chk_last {l : List S52} (h : chk l = 0) (hl : 0 < l.length) : (lastOf l).f0 = (l.length : Int) ∧ (lastOf l).f1.f0.length ≤ 64 := by
  have e : l[l.length - 1]? = some (l[l.length - 1]'(by omega)) := List.getElem?_eq_getElem (by omega)
  have h2 := chk_get h e
  have h3 : lastOf l = l[l.length - 1]'(by omega) := by
    unfold lastOf
    rw [show (l.length : Int) - 1 = ((l.length - 1 : Nat) : Int) by omega]
    exact rd52 e
  rw [h3]
  exact ⟨by omega, h2.2⟩
end Go.Proofs.Ytfdhnmijaobbdaa.S
end
section
namespace Go.Proofs.Ytfdhnmijaobbdaa.Pure
open Go.RowKit Go.Proofs.YtfdhnmijaobbdaaW.PrintWords Go.Proofs.YtfdhnmijaobbdaaW.PrintLast Go.Proofs.YtfdhnmijaobbdaaW.PrintMore Go.Proofs.Ytfdhnmijaobbdaa.S
theorem u8_of {a : Int} (h : (Lit.int .u8 a).wf = true) : 0 ≤ a ∧ a ≤ 255 := by
  have h' := h
  simp [Lit.wf, IntKind.min, IntKind.max, IntKind.signed, IntKind.bits] at h'
  omega
theorem own_no {a : Int} {n : Nat} (ha : 0 ≤ a ∧ a ≤ 255) (hn : 2 ≤ n) (hn2 : n ≤ 20) : ∃ o : Int, wrap64 (1 + (Int.tmod (wrap64 a) (wrap64 ((n : Int) - 1)))) = o ∧ 1 ≤ o ∧ o < n := by
  have e1 : wrap64 a = a := by unfold wrap64; omega
  have e2 : wrap64 ((n : Int) - 1) = (n : Int) - 1 := by unfold wrap64; omega
  have e3 : Int.tmod a ((n : Int) - 1) = a % ((n : Int) - 1) := Int.tmod_eq_emod_of_nonneg ha.1
  have h1 := Int.emod_nonneg a (show (n : Int) - 1 ≠ 0 by omega)
  have h2 := Int.emod_lt_of_pos a (show 0 < (n : Int) - 1 by omega)
  refine ⟨1 + a % ((n : Int) - 1), ?_, by omega, by omega⟩
  rw [e1, e2, e3]
  unfold wrap64; omega
theorem takeS_old {n0 : Int} {l1 : List S60} {m0 m2 m3 : Int} {l4 : List S60} {l5 : List S64} (h0 : m0 = 1 ∨ m0 = 2) (h1 : 0 ≤ n0 ∧ n0 ≤ 1099511627776) (h2 : 1 ≤ m3 ∧ m3 ≤ 1099511627776) (h : m3 ≤ n0) : takeS n0 l1 m0 m2 m3 l4 l5 = (0, [], 341) := by
  unfold takeS; rw [if_pos ⟨h0, h1, h2⟩, if_pos h]
theorem takeS_whole {n0 : Int} {l1 : List S60} {m2 m3 : Int} {l4 : List S60} {l5 : List S64} (h1 : 0 ≤ n0 ∧ n0 ≤ 1099511627776) (h2 : 1 ≤ m3 ∧ m3 ≤ 1099511627776) (h : ¬ m3 ≤ n0) : takeS n0 l1 1 m2 m3 l4 l5 = (m3, l4, 0) := by
  unfold takeS; rw [if_pos ⟨Or.inl rfl, h1, h2⟩, if_neg h, if_pos rfl]
theorem takeS_lost {n0 : Int} {l1 : List S60} {m2 m3 : Int} {l4 : List S60} {l5 : List S64} (h1 : 0 ≤ n0 ∧ n0 ≤ 1099511627776) (h2 : 1 ≤ m3 ∧ m3 ≤ 1099511627776) (h : ¬ m3 ≤ n0) (hm : ¬ m2 = n0) : takeS n0 l1 2 m2 m3 l4 l5 = (0, [], 350) := by
  unfold takeS; rw [if_pos ⟨Or.inr rfl, h1, h2⟩, if_neg h, if_neg (by decide), if_neg hm]
theorem FeedLost : ∀ (l0 : List (S52)) (a1 : Int) (a2 : Int), (l0.length ≤ maxLen ∧ ∀ z_ ∈ l0, wf52 z_) → (Lit.int .u8 a1).wf = true → (Lit.int .u8 a2).wf = true → l0.length * 48 ≤ 140737488351232 → ∃ k, chalklinelaw35_FeedLost.f k l0 a1 a2 = some true := by
  intro l0 a1 a2 hl w1 w2 _
  have u1 := u8_of w1
  have u2 := u8_of w2
  refine ⟨1000, ?_⟩
  unfold chalklinelaw35_FeedLost.f
  simp only [chalklinelaw35_live.f, Option.bind_some, if_true]
  have hl1 : l0.length ≤ 9223372036854775806 := by have := hl.1; unfold maxLen at this; omega
  obtain ⟨b, hb, hb2⟩ := few_eq l0 hl1 1000 (by omega)
  rw [hb]
  simp only [Option.bind_some]
  cases b with
  | false => rfl
  | true =>
    obtain ⟨hlen, hS⟩ := hb2 rfl
    rw [if_pos rfl, feedCheck_eq l0 hl1 70 (by omega) hS 1000 (by omega)]
    simp only [Option.bind_some]
    by_cases hc : chk l0 = 0
    · rw [if_pos hc]
      by_cases hn : (l0.length : Int) < 2
      · rw [decide_eq_true hn]; rfl
      · rw [decide_eq_false hn, show (1000 : Nat) = 999 + 1 from rfl]
        simp only [chalklinelaw35_FeedLost.j0]
        obtain ⟨o, ho, o1, o2⟩ := own_no u1 (show 2 ≤ l0.length by omega) hlen
        rw [if_neg (by decide), if_neg (by unfold wrap64; omega), ho, reply_eq l0 (by omega) 70 (by omega) hS o 0 999 (by omega)]
        simp only [Option.bind_some]
        obtain ⟨q1, q2⟩ := replyS_len hS o 0
        rw [take_eq _ _ _ _ _ _ _ _ _ (by simp) (by omega) (by omega) (by omega)]
        simp only [Option.bind_some]
        obtain ⟨g1, g2⟩ := chk_last hc (by omega)
        have e2 : wrap64 a2 = a2 := by unfold wrap64; omega
        rw [e2]
        by_cases he : (rd_T52 l0 (o - 1)).f1.f0.length = (lastOf l0).f1.f0.length
        · have hr : replyS l0 o 0 = (2, 0, o, (lastOf l0).f0, [], diffGo 0 (rd_T52 l0 (o - 1)).f1.f0 (lastOf l0).f1.f0, 0) := by
            unfold replyS
            rw [if_neg (by omega), if_neg (by omega), if_pos ⟨by omega, he⟩]
          rw [hr, g1]
          simp only [if_true]
          by_cases hz : a2 ≥ (l0.length : Int)
          · rw [if_pos hz, takeS_old (Or.inr rfl) ⟨by omega, by omega⟩ ⟨by omega, by omega⟩ hz]; rfl
          · rw [if_neg hz]
            by_cases hoa : o = a2
            · rw [if_pos hoa]
            · rw [if_neg hoa, takeS_lost ⟨by omega, by omega⟩ ⟨by omega, by omega⟩ (by omega) hoa]; rfl
        · have hr : replyS l0 o 0 = (1, 0, 0, (lastOf l0).f0, (lastOf l0).f1.f0, [], 0) := by
            unfold replyS
            rw [if_neg (by omega), if_neg (by omega), if_neg (fun z => he z.2)]
          rw [hr, g1]
          simp only [if_true]
          by_cases hz : a2 ≥ (l0.length : Int)
          · rw [if_pos hz, takeS_old (Or.inl rfl) ⟨by omega, by omega⟩ ⟨by omega, by omega⟩ hz]; rfl
          · rw [if_neg hz, if_neg (by decide), takeS_whole ⟨by omega, by omega⟩ ⟨by omega, by omega⟩ (by omega)]; rfl
    · rw [if_neg hc]; rfl
end Go.Proofs.Ytfdhnmijaobbdaa.Pure
end
section
namespace Go.Proofs.Ytfdhnmijaobbdaa.feedLost
open Go.ChangeShapes Go.WideShapes Go.ChangeAt Go.RowKit Go.Proofs.YtfdhnmijaobbdaaW.PrintWords Go.Proofs.YtfdhnmijaobbdaaW.PrintLast Go.Proofs.YtfdhnmijaobbdaaW.PrintMore Go.Proofs.Ytfdhnmijaobbdaa.S
open Go.ChangeMaps (open_string shut_string)
set_option linter.unusedVariables false
theorem own : ownKnob Try.prog.godebug = none := by kernel_rfl
theorem laidOut : laidOutB Try.prog = true := by kernel_rfl
set_option maxRecDepth 100000 in
theorem lifted (os : Os) (started : os.Started) (H : Type) (enc : TypeId × Value → H) :
    ReturnsInHanded {} Try.checked os 9 .any (Rows.feedLostSpec.pre6 enc Try.prog Try.f9 Rows.feedLostRow.domain false) (Rows.feedLostSpec.post enc Try.prog Try.f9 false true false false) := by
  refine returnsInHanded_of_change_sized (C := Try.checked) own started (by kernel_rfl) Try.func9
    (ChangeSpec.witness6 (enc := enc) (C := Try.checked) false ⟨#[], #[.slice none 0 0, .int .u8 0, .int .u8 0], []⟩ 8 (by kernel_rfl) (by kernel_rfl) (by kernel_rfl) (by kernel_rfl)) ?_
  intro W base args ds gs before hval0 hW hcnd hsz0 _
  have hsz : (DataW.weightsEach Try.prog (Try.f9.params.toList ++ Rows.feedLostSpec.plain.varTypes Try.prog) (ds ++ gs)).all (· ≤ reachBytes) = true := hsz0
  have hval : ∀ (j : Nat) t v, Try.f9.params[j]? = some t → args[j]? = some v → Value.okWide Try.prog W .any base t v := hval0
  have hW' := hW
  obtain ⟨p, q, hA0, hV, rfl, hfz, hnd⟩ := hW
  have hA : DataW.TrodAll enc Try.prog W 0 (fun _ => true) true Try.f9.params.toList args.toList ds p := hA0
  rw [Try.params9] at hA hval hsz
  obtain ⟨v0, vs0, d0, ds0, p0, q0, hargs, rfl, rfl, h0, r0⟩ := trodAll_cons hA
  obtain ⟨v1, vs1, d1, ds1, p1, q1, rfl, rfl, rfl, h1, r1⟩ := trodAll_cons r0
  obtain ⟨v2, vs2, d2, ds2, p2, q2, rfl, rfl, rfl, h2, r2⟩ := trodAll_cons r1
  obtain ⟨rfl, rfl, rfl⟩ := trodAll_nil r2
  obtain rfl : args = #[v0, v1, v2] := by cases args; simp_all
  obtain ⟨rfl, rfl⟩ := trodVars_none hV
  have k0 := h0
  have lt0 : ∀ x ∈ p0, x.block < W.heap.size := by obtain ⟨m, hm⟩ := k0; exact DataW.trod_lt m _ _ _ hm
  obtain ⟨A0, c0, l0, rfl, hc0, hr0, w0⟩ := arg_slice Try.underlying22 (opens_slice Try.underlying22 (by kernel_rfl) opens52) (hval 0 22 v0 rfl rfl) h0
  have y0 : l0.length * 48 ≤ 140737488351232 := sized_any hsz (j := 0) (t := 22) rfl rfl Try.underlying22 (by kernel_rfl) k0
  obtain ⟨a1, rfl, rfl, rfl, w1⟩ := open_int Try.underlying5 (hval 1 5 v1 rfl rfl) h1
  obtain ⟨a2, rfl, rfl, rfl, w2⟩ := open_int Try.underlying5 (hval 2 5 v2 rfl rfl) h2
  clear hA0 hval0 hsz0 hsz
  obtain ⟨k, hp⟩ := Pure.FeedLost l0 a1 a2 w0 w1 w2 y0
  refine (chalklinelaw35_FeedLost.calls k _ _ l0 a1 a2 true W hr0 hc0 hp).mono fun e W' ⟨he, bel⟩ => ?_
  subst he
  exact ⟨_, rfl, _, _, _, [], _, [], hW', trodAll_mk1 (shut_bool Try.underlying4 _), (trodAll_cons_mk (Below.trod laidOut (by kernel_rfl) (of_decide_eq_true (by kernel_rfl)) k0 bel lt0) (trodAll_cons_mk (shut_int Try.underlying5 w1) (trodAll_cons_mk (shut_int Try.underlying5 w2) trodAll_mk0))), rfl, bel.frame _, fun h => by cases h⟩
theorem over : Rows.feedLostRow.holds Try.pinned (OpenSpec.ofChange Rows.feedLostSpec) :=
  OpenClaim.holds_of_wide 9 Try.f9 rfl rfl rfl rfl rfl rfl rfl ⟨rfl, rfl, rfl, rfl, rfl⟩ rfl rfl rfl rfl rfl (by kernel_rfl) Try.func9 (by kernel_rfl)
    (of_decide_eq_true (by kernel_rfl)) (by unfold Func.isWrapper; first | (rw [if_pos (by decide +kernel)]; kernel_rfl) | (rw [if_neg (by decide +kernel)]; exact ⟨rfl, rfl⟩))
    (fun os started H enc _ => lifted os started H enc)
theorem proved : Rows.FeedLostSaid := over
#print axioms proved
end Go.Proofs.Ytfdhnmijaobbdaa.feedLost
namespace Go.Proofs.Ytfdhnmijaobbdaa
theorem feedLost_holds : Rows.FeedLostSaid := feedLost.proved
end Go.Proofs.Ytfdhnmijaobbdaa
end
