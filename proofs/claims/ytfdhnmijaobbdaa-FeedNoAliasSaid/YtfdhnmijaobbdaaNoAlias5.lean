/- feedNoAlias_holds: part 5 of the proof: the plain functions, the walks of the program's functions and the laws about them. Conditions: those that each theorem states. -/
import Derived.Deep.Slices
import Derived.ChangeSame
import Derived.WideShapes
import Derived.OpenShut
import Derived.SizedLaws
import Derived.ProofKit
import Derived.Test.YtfdhnmijaobbdaaNoAlias1
import Derived.Test.YtfdhnmijaobbdaaNoAlias2
import Derived.Test.YtfdhnmijaobbdaaNoAlias3
import Derived.Test.YtfdhnmijaobbdaaNoAlias4
section
namespace Go.Proofs.Ytfdhnmijaobbdaa.S
open Go.RowKit Go.Proofs.YtfdhnmijaobbdaaW.PrintWords Go.Proofs.YtfdhnmijaobbdaaW.PrintLast Go.Proofs.YtfdhnmijaobbdaaW.PrintMore
attribute [local go_sem] max2_int min2_int max_two min_two max_three min_three max_four min_four   -- for this text's walks alone
set_option linter.unusedVariables false
set_option linter.unusedSimpArgs false
mutual
def chalklinelaw35_FeedNoAlias.j0 : Nat → List (S52) → Int → Bool → Int → List (S60) → Option (Bool)
  | 0, _, _, _, _, _ => none
  | k + 1, x0, x1, x35, x449000, x449001 => if x35 = true then (some true) else (chalklinelaw35_FeedNoAlias.l0 k x0 x1 (([] : List (S25))) 0 x449000 x449001)
def chalklinelaw35_FeedNoAlias.l0 : Nat → List (S52) → Int → List (S25) → Int → Int → List (S60) → Option (Bool)
  | 0, _, _, _, _, _, _ => none
  | k + 1, x0, x1, x7, x8, x449000, x449001 => if x8 < (x0.length : Int) then ((some (([] : List (S60)) : List (S60))).bind fun y455 => (if 0 ≤ x8 then (if y455.length + ((rd_T52 x0 x8).f1.f0).length < 8796093022208 then (if x7.length < 5864062014805 then (chalklinelaw35_FeedNoAlias.l0 k x0 x1 (x7 ++ [(⟨(y455 ++ ((rd_T52 x0 x8).f1.f0))⟩ : S25)]) (wrap64 (x8 + 1)) x449000 x449001) else (none)) else (none)) else (none))) else ((feed_Reply.f k x0 x1 0).bind fun bt465 => (if bt465.2.2.2.2.2.2 = 0 then ((feed_Take.f k x449000 x449001 bt465.1 bt465.2.1 bt465.2.2.1 bt465.2.2.2.1 bt465.2.2.2.2.1 bt465.2.2.2.2.2.1).bind fun bt477 => ((chalklineref35_Msgs.f k bt465.1 bt465.2.1 bt465.2.2.1 bt465.2.2.2.1 bt465.2.2.2.2.1 bt465.2.2.2.2.2.1 bt465.1 bt465.2.1 bt465.2.2.1 bt465.2.2.2.1 bt465.2.2.2.2.1 bt465.2.2.2.2.2.1).bind fun t483 => (chalklinelaw35_FeedNoAlias.l1 k x0 x1 x7 bt477.2.2 t483 0 bt465.1 bt465.2.1 bt465.2.2.1 bt465.2.2.2.1 bt465.2.2.2.2.1 bt465.2.2.2.2.2.1 bt477.1 bt477.2.1))) else (some true)))
def chalklinelaw35_FeedNoAlias.j3 : Nat → List (S52) → Int → List (S25) → Bool → Int → Int → Int → Int → List (S60) → List (S64) → Option (Bool)
  | 0, _, _, _, _, _, _, _, _, _, _ => none
  | k + 1, x0, x1, x7, x13, x477000, x477001, x477002, x477003, x477004, x477005 => (feed_Reply.f k x0 x1 0).bind fun bt486 => (if bt486.2.2.2.2.2.2 = 0 then ((chalklineref35_Msgs.f k x477000 x477001 x477002 x477003 x477004 x477005 bt486.1 bt486.2.1 bt486.2.2.1 bt486.2.2.2.1 bt486.2.2.2.2.1 bt486.2.2.2.2.2.1).bind fun t498 => (chalklinelaw35_FeedNoAlias.j4 k x0 x7 x13 (!t498) x477000 x477001 x477002 x477003 x477004 x477005)) else (chalklinelaw35_FeedNoAlias.j4 k x0 x7 x13 true x477000 x477001 x477002 x477003 x477004 x477005))
def chalklinelaw35_FeedNoAlias.j4 : Nat → List (S52) → List (S25) → Bool → Bool → Int → Int → Int → Int → List (S60) → List (S64) → Option (Bool)
  | 0, _, _, _, _, _, _, _, _, _, _ => none
  | k + 1, x0, x7, x13, x111, x477000, x477001, x477002, x477003, x477004, x477005 => if x111 = true then (some false) else (chalklinelaw35_FeedNoAlias.l2 k x0 x7 x13 0 x477000 x477001 x477002 x477003 x477004 x477005)
def chalklinelaw35_FeedNoAlias.l2 : Nat → List (S52) → List (S25) → Bool → Int → Int → Int → Int → Int → List (S60) → List (S64) → Option (Bool)
  | 0, _, _, _, _, _, _, _, _, _, _ => none
  | k + 1, x0, x7, x13, x17, x477000, x477001, x477002, x477003, x477004, x477005 => if x17 < (x477004.length : Int) then (if 0 ≤ x17 then (chalklinelaw35_FeedNoAlias.l2 k x0 x7 x13 (wrap64 (x17 + 1)) x477000 x477001 x477002 x477003 (x477004.set (x17 : Int).toNat (⟨(-1), (rd_T60 x477004 x17).f1⟩ : S60)) x477005) else (none)) else (chalklinelaw35_FeedNoAlias.l3 k x0 x7 x13 0)
def chalklinelaw35_FeedNoAlias.l3 : Nat → List (S52) → List (S25) → Bool → Int → Option (Bool)
  | 0, _, _, _, _ => none
  | k + 1, x0, x7, x13, x18 => if x18 < (x0.length : Int) then (if 0 ≤ x18 then (if x18 < (x7.length : Int) then ((chalklineref04_Same.f k ((rd_T52 x0 x18).f1.f0) ((rd_T25 x7 x18).f0)).bind fun t502 => (if t502 = true then (chalklinelaw35_FeedNoAlias.l3 k x0 x7 x13 (wrap64 (x18 + 1))) else (some false))) else (none)) else (none)) else (some x13)
def chalklinelaw35_FeedNoAlias.l1 : Nat → List (S52) → Int → List (S25) → Int → Bool → Int → Int → Int → Int → Int → List (S60) → List (S64) → Int → List (S60) → Option (Bool)
  | 0, _, _, _, _, _, _, _, _, _, _, _, _, _, _ => none
  | k + 1, x0, x1, x7, x12, x13, x14, x477000, x477001, x477002, x477003, x477004, x477005, x483000, x483001 => if x12 = 0 then (if x14 < (x483001.length : Int) then (if 0 ≤ x14 then (chalklinelaw35_FeedNoAlias.l1 k x0 x1 x7 x12 x13 (wrap64 (x14 + 1)) x477000 x477001 x477002 x477003 x477004 x477005 x483000 (x483001.set (x14 : Int).toNat (⟨wrap64 (((rd_T60 x483001 x14).f0) + 1), (rd_T60 x483001 x14).f1⟩ : S60))) else (none)) else (chalklinelaw35_FeedNoAlias.j3 k x0 x1 x7 x13 x477000 x477001 x477002 x477003 x477004 x477005)) else (chalklinelaw35_FeedNoAlias.j3 k x0 x1 x7 x13 x477000 x477001 x477002 x477003 x477004 x477005)
end
def chalklinelaw35_FeedNoAlias.f (k : Nat) (l0 : List (S52)) (a1 : Int) (a2_0 : Int) (l2_1 : List (S60)) : Option (Bool) := (chalklinelaw35_live.f).bind fun t449 => (if t449 = true then ((chalklineref35_Few.f k l0).bind fun t450 => (if t450 = true then (if (l2_1.length : Int) > 70 then (chalklinelaw35_FeedNoAlias.j0 k l0 a1 true a2_0 l2_1) else ((feed_Check.f k l0).bind fun t451 => (chalklinelaw35_FeedNoAlias.j0 k l0 a1 (t451 != 0) a2_0 l2_1))) else (chalklinelaw35_FeedNoAlias.j0 k l0 a1 true a2_0 l2_1))) else (some false))
def chalklinelaw35_FeedNoAlias.T18 : Bool × List (List Nat × List Nat) := (true, [([], []), ([0], [0]), ([1], [1]), ([], []), ([], []), ([4], [4]), ([5], [5]), ([], []), ([6, 7], [6, 7]), ([8], [8]), ([9], [9]), ([10], [10]), ([2, 3, 0, 1, 2, 3, 4, 5, 6, 7, 8, 9, 10, 11], [2, 3]), ([12, 0, 1, 2, 3, 4, 5, 6, 7, 8, 9, 10, 11], [12]), ([13, 11, 0, 1, 2, 3, 4, 5, 6, 7, 8, 9, 10, 11], [11, 13])])
def chalklinelaw35_FeedNoAlias.B18 : List Nat := [0, 1, 3, 0, 0, 16, 48, 0, 240, 496, 1008, 2032, 4095, 8191, 16383]
theorem chalklinelaw35_FeedNoAlias.tab18 : rtab .any (opsOf Try.f10 18) = chalklinelaw35_FeedNoAlias.T18 := by kernel_rfl
theorem chalklinelaw35_FeedNoAlias.bits18 : waitsOk chalklinelaw35_FeedNoAlias.T18.2 chalklinelaw35_FeedNoAlias.B18 = true := by kernel_rfl
def chalklinelaw35_FeedNoAlias.T29 : Bool × List (List Nat × List Nat) := (true, [([], []), ([], []), ([0, 1], [0, 1]), ([2], [2]), ([3], [3]), ([], []), ([], []), ([5, 6], [5, 6]), ([7], [7]), ([4, 8], [4, 8]), ([9], [9])])
def chalklinelaw35_FeedNoAlias.B29 : List Nat := [0, 0, 3, 7, 15, 0, 0, 96, 224, 511, 1023]
theorem chalklinelaw35_FeedNoAlias.tab29 : rtab .any (opsOf Try.f10 29) = chalklinelaw35_FeedNoAlias.T29 := by kernel_rfl
theorem chalklinelaw35_FeedNoAlias.bits29 : waitsOk chalklinelaw35_FeedNoAlias.T29.2 chalklinelaw35_FeedNoAlias.B29 = true := by kernel_rfl
set_option maxHeartbeats 8000000 in
set_option maxRecDepth 100000 in
theorem chalklinelaw35_FeedNoAlias.calls (k : Nat) (A0 : Option Addr) (c0 : Nat) (l0 : List (S52)) (a1 : Int) (a2_0 : Int) (A2_1 : Option Addr) (c2_1 : Nat) (l2_1 : List (S60)) (r : Bool) (w : World) (hr0 : Kd.C k52 w A0 l0.length l0) (hc0 : l0.length ≤ c0) (hr2_1 : Kd.C k60 w A2_1 l2_1.length l2_1) (hc2_1 : l2_1.length ≤ c2_1) (h : chalklinelaw35_FeedNoAlias.f k l0 a1 a2_0 l2_1 = some r) :
    Calls Try.prog 10 #[.slice A0 l0.length c0, .int .i64 a1, .agg #[.int .i64 a2_0, .slice A2_1 l2_1.length c2_1]] w fun e w' => e = .returned (.bool r) ∧ Below w.heap.size w w' := by
  have hu27 := Try.underlying27
  have hu25 := Try.underlying25
  have hu32 := Try.underlying32
  have HR0 := Aside0.mk hr0
  have HC0 := Aside0.mk hc0
  clear hr0 hc0
  have HR2_1 := Aside0.mk hr2_1
  have HC2_1 := Aside0.mk hc2_1
  clear hr2_1 hc2_1
  have HB := Aside0.mk (Below.refl w.heap.size w)
  have H : ((chalklinelaw35_live.f).bind fun t449 => (if t449 = true then ((chalklineref35_Few.f k l0).bind fun t450 => (if t450 = true then (if (l2_1.length : Int) > 70 then (chalklinelaw35_FeedNoAlias.j0 k l0 a1 true a2_0 l2_1) else ((feed_Check.f k l0).bind fun t451 => (chalklinelaw35_FeedNoAlias.j0 k l0 a1 (t451 != 0) a2_0 l2_1))) else (chalklinelaw35_FeedNoAlias.j0 k l0 a1 true a2_0 l2_1))) else (some false))) = some r := h
  clear h
  replace H := Option.bind_eq_some_iff.mp H
  obtain ⟨t449, A40, H⟩ := H
  replace H : (if t449 = true then ((chalklineref35_Few.f k l0).bind fun t450 => (if t450 = true then (if (l2_1.length : Int) > 70 then (chalklinelaw35_FeedNoAlias.j0 k l0 a1 true a2_0 l2_1) else ((feed_Check.f k l0).bind fun t451 => (chalklinelaw35_FeedNoAlias.j0 k l0 a1 (t451 != 0) a2_0 l2_1))) else (chalklinelaw35_FeedNoAlias.j0 k l0 a1 true a2_0 l2_1))) else (some false)) = some r := H
  have A4 := Aside0.mk A40
  clear A40
  by_cases c5 : t449 = true
  · subst c5
    have H1 : ((chalklineref35_Few.f k l0).bind fun t450 => (if t450 = true then (if (l2_1.length : Int) > 70 then (chalklinelaw35_FeedNoAlias.j0 k l0 a1 true a2_0 l2_1) else ((feed_Check.f k l0).bind fun t451 => (chalklinelaw35_FeedNoAlias.j0 k l0 a1 (t451 != 0) a2_0 l2_1))) else (chalklinelaw35_FeedNoAlias.j0 k l0 a1 true a2_0 l2_1))) = some r := by rw [if_pos rfl] at H; exact H
    clear H
    have H := H1
    clear H1
    have HC6 := Aside0.mk H
    clear H
    go_enter Try.func10, Try.ntmps10
    go_upto_region 3 with (first | ((with_reducible refine gate_dst (N := 5) rfl ?_); (try (refine gate_guard (by rfl) ?_; dsimp only)); refine box_event ?hg (N := 5) ?hd (cs := #[.int .i64 a2_0, .slice A2_1 l2_1.length c2_1]) (t := 27) ?hr ?_; (case hd => rfl); (case hg => rfl); (case hr => first | (go_simp; done) | (go_simp; rfl)); intro gb448 hg w7 hbox hb; have n0_ := Aside0.mk (below_step (by repeat (first | (with_reducible first | exact HB.out | apply below_alloc | apply pw_below_drewN | apply below_drew1) | exact HB.out)) hb); have n1_ := Aside0.mk (hbox); have n2_ := Aside0.mk ((by rw [hg]; exact (below_size (by repeat (first | (with_reducible first | exact HB.out | apply below_alloc | apply pw_below_drewN | apply below_drew1) | exact HB.out))) : w.heap.size ≤ gb448)); have n3_ := Aside0.mk ((by rw [hg]; exact (below_size (by repeat (first | (with_reducible first | exact HB.out | apply below_alloc | apply pw_below_drewN | apply below_drew1) | exact HB.out))) : w.heap.size ≤ gb448)); clear HB; have HB := n0_; have BK448 := n1_; have GW448 := n2_; have GE448 := n3_; clear n0_ n1_ n2_ n3_; clear hb hbox hg) | ((with_reducible refine gate_callee (f := 11) rfl ?_); refine goesL_ (some 19) rfl rfl Try.func11 (by kernel_rfl) rfl #[] rfl (by (try simp only [List.map_toArray, List.map_cons, List.map_nil]); first | done | rfl | (simp only [List.length_drop, List.length_take]; rfl)) ?_; (with_reducible refine (chalklinelaw35_live.calls  true _ A4.out).mono ?_); rintro e w8 ⟨rfl, hb⟩; refine ⟨_, rfl, ?_⟩; have n0_ := Aside0.mk (blk_below (g := gb448) (o := .cells #[.int .i64 a2_0, .slice A2_1 l2_1.length c2_1] 27 (0, 0)) (by (with_reducible repeat (first | refine blk_drewN ?_ _ | refine blk_drew ?_ | refine blk_alloc ?_ _)); exact BK448.out) hb); have n1_ := Aside0.mk (below_step (by repeat (first | (with_reducible first | exact HB.out | apply below_alloc | apply pw_below_drewN | apply below_drew1 | refine below_set ?_ GE448.out) | exact HB.out)) hb); clear BK448; clear HB; have BK448 := n0_; have HB := n1_; clear n0_ n1_; (try clear hb); (try clear hb2); (try clear hk); (try clear hi)))
    (try simp only [Act.put, List.setIfInBounds_toArray, List.set_cons_zero, List.set_cons_succ])
    go_cut [35] (fun v35 wc => ∃ (kq : Nat) (x35_5 : Bool), v35 = .bool x35_5 ∧ Aside0 (chalklinelaw35_FeedNoAlias.j0 kq l0 a1 x35_5 a2_0 l2_1 = some r) ∧ Aside0 (kq ≤ k) ∧ Aside0 (wc.heap[gb448]? = some (.cells #[.int .i64 a2_0, (.slice A2_1 l2_1.length c2_1)] 27 (0, 0))) ∧ Aside0 (Below w.heap.size w wc))
    case first =>
      have H := HC6.out
      clear HC6
      replace H := Option.bind_eq_some_iff.mp H
      obtain ⟨t450, A90, H⟩ := H
      replace H : (if t450 = true then (if (l2_1.length : Int) > 70 then (chalklinelaw35_FeedNoAlias.j0 k l0 a1 true a2_0 l2_1) else ((feed_Check.f k l0).bind fun t451 => (chalklinelaw35_FeedNoAlias.j0 k l0 a1 (t451 != 0) a2_0 l2_1))) else (chalklinelaw35_FeedNoAlias.j0 k l0 a1 true a2_0 l2_1)) = some r := H
      have A9 := Aside0.mk A90
      clear A90
      by_cases c10 : t450 = true
      · subst c10
        have H1 : (if (l2_1.length : Int) > 70 then (chalklinelaw35_FeedNoAlias.j0 k l0 a1 true a2_0 l2_1) else ((feed_Check.f k l0).bind fun t451 => (chalklinelaw35_FeedNoAlias.j0 k l0 a1 (t451 != 0) a2_0 l2_1))) = some r := by rw [if_pos rfl] at H; exact H
        clear H
        have H := H1
        clear H1
        by_cases c11 : (l2_1.length : Int) > 70
        · rw [if_pos c11] at H
          have c11b0 : decide (70 < (l2_1.length : Int)) = true := decide_eq_true c11
          have c11b1 : decide (70 < l2_1.length) = true := decide_eq_true (by omega)
          clear c11
          (first | rw [c11b0] | (simp only [i64_w, i32_w]; rw [c11b0]) | skip)
          have H' := Aside0.mk H
          clear H
          go_wp2_with (first | ((with_reducible refine gate_callee (f := 12) rfl ?_); refine goesL_ (some 22) rfl rfl Try.func12 (by kernel_rfl) rfl #[.slice A0 l0.length c0] rfl (by (try simp only [List.map_toArray, List.map_cons, List.map_nil]); first | done | rfl | (simp only [List.length_drop, List.length_take]; rfl)) ?_; (with_reducible refine (chalklineref35_Few.calls k _ _ l0 true _ ?side1 ?side2 A9.out).mono ?_); (case side1 => repeat (first | exact (Kd.C_below HR0.out HB.out) | (with_reducible refine Kd.C_alloc ?_ _) | (with_reducible refine Kd.C_drewN ?_ _) | (with_reducible refine Kd.C_drew ?_))); (case side2 => exact HC0.out); rintro e w' ⟨rfl, ⟨nd, rfl⟩⟩; refine ⟨_, rfl, ?_⟩; have hcz12_0 : w8.cell? ⟨gb448, 0, none⟩ = some (.int .i64 a2_0) := (blk_cell BK448.out 0).trans rfl; have hcz12_1 : w8.cell? ⟨gb448, 1, none⟩ = some (.slice A2_1 l2_1.length c2_1) := (blk_cell BK448.out 1).trans rfl; have hfz12_0 := blk_frozen BK448.out 0; have hfz12_1 := blk_frozen BK448.out 1))
          go_meet
          case rel => exact ⟨_, (true), (by first | rfl | (simp; done) | (simp [*]; done)), H', ⟨by first | omega | exact Nat.le_refl _⟩, ⟨by (with_reducible repeat (first | refine blk_drewN ?_ _ | refine blk_drew ?_ | refine blk_alloc ?_ _)); exact BK448.out⟩, ⟨by repeat (first | (with_reducible first | exact HB.out | apply below_alloc | apply pw_below_drewN | apply below_drew1 | refine below_set ?_ GE448.out) | exact HB.out)⟩⟩
        · rw [if_neg c11] at H
          have c11b0 : decide (70 < (l2_1.length : Int)) = false := decide_eq_false c11
          have c11b1 : decide (70 < l2_1.length) = false := decide_eq_false (by omega)
          clear c11
          (first | rw [c11b0] | (simp only [i64_w, i32_w]; rw [c11b0]) | skip)
          replace H := Option.bind_eq_some_iff.mp H
          obtain ⟨t451, A130, H⟩ := H
          replace H : (chalklinelaw35_FeedNoAlias.j0 k l0 a1 (t451 != 0) a2_0 l2_1) = some r := H
          have A13 := Aside0.mk A130
          clear A130
          have H' := Aside0.mk H
          clear H
          go_wp2_with (first | ((with_reducible refine gate_callee (f := 12) rfl ?_); refine goesL_ (some 22) rfl rfl Try.func12 (by kernel_rfl) rfl #[.slice A0 l0.length c0] rfl (by (try simp only [List.map_toArray, List.map_cons, List.map_nil]); first | done | rfl | (simp only [List.length_drop, List.length_take]; rfl)) ?_; (with_reducible refine (chalklineref35_Few.calls k _ _ l0 true _ ?side1 ?side2 A9.out).mono ?_); (case side1 => repeat (first | exact (Kd.C_below HR0.out HB.out) | (with_reducible refine Kd.C_alloc ?_ _) | (with_reducible refine Kd.C_drewN ?_ _) | (with_reducible refine Kd.C_drew ?_))); (case side2 => exact HC0.out); rintro e w' ⟨rfl, ⟨nd, rfl⟩⟩; refine ⟨_, rfl, ?_⟩; have hcz14_0 : w8.cell? ⟨gb448, 0, none⟩ = some (.int .i64 a2_0) := (blk_cell BK448.out 0).trans rfl; have hcz14_1 : w8.cell? ⟨gb448, 1, none⟩ = some (.slice A2_1 l2_1.length c2_1) := (blk_cell BK448.out 1).trans rfl; have hfz14_0 := blk_frozen BK448.out 0; have hfz14_1 := blk_frozen BK448.out 1) | (go_at_call 16; (with_reducible refine (feed_Check.calls k _ _ l0 t451 _ ?side1 ?side2 A13.out).mono ?_); (case side1 => repeat (first | exact (Kd.C_below HR0.out (by repeat (first | (with_reducible first | exact HB.out | apply below_alloc | apply pw_below_drewN | apply below_drew1 | refine below_set ?_ GE448.out) | exact HB.out))) | (with_reducible refine Kd.C_alloc ?_ _) | (with_reducible refine Kd.C_drewN ?_ _) | (with_reducible refine Kd.C_drew ?_))); (case side2 => exact HC0.out); rintro e w15 ⟨rfl, hb⟩; have n0_ := Aside0.mk (blk_below (g := gb448) (o := .cells #[.int .i64 a2_0, .slice A2_1 l2_1.length c2_1] 27 (0, 0)) (by (with_reducible repeat (first | refine blk_drewN ?_ _ | refine blk_drew ?_ | refine blk_alloc ?_ _)); exact BK448.out) hb); have n1_ := Aside0.mk (below_step (by repeat (first | (with_reducible first | exact HB.out | apply below_alloc | apply pw_below_drewN | apply below_drew1 | refine below_set ?_ GE448.out) | exact HB.out)) hb); clear BK448; clear HB; have BK448 := n0_; have HB := n1_; clear n0_ n1_; (try clear hb); (try clear hb2); (try clear hk); (try clear hi)))
          go_meet
          case rel => exact ⟨_, ((t451 != 0)), (by first | rfl | (simp; done) | (simp [*]; done)), H', ⟨by first | omega | exact Nat.le_refl _⟩, ⟨by (with_reducible repeat (first | refine blk_drewN ?_ _ | refine blk_drew ?_ | refine blk_alloc ?_ _)); exact BK448.out⟩, ⟨by repeat (first | (with_reducible first | exact HB.out | apply below_alloc | apply pw_below_drewN | apply below_drew1 | refine below_set ?_ GE448.out) | exact HB.out)⟩⟩
      · replace c10 := Bool.eq_false_iff.mpr c10
        subst c10
        have H1 : (chalklinelaw35_FeedNoAlias.j0 k l0 a1 true a2_0 l2_1) = some r := by rw [if_neg (show ¬ (false = true) by decide)] at H; exact H
        clear H
        have H := H1
        clear H1
        have H' := Aside0.mk H
        clear H
        go_wp2_with (first | ((with_reducible refine gate_callee (f := 12) rfl ?_); refine goesL_ (some 22) rfl rfl Try.func12 (by kernel_rfl) rfl #[.slice A0 l0.length c0] rfl (by (try simp only [List.map_toArray, List.map_cons, List.map_nil]); first | done | rfl | (simp only [List.length_drop, List.length_take]; rfl)) ?_; (with_reducible refine (chalklineref35_Few.calls k _ _ l0 false _ ?side1 ?side2 A9.out).mono ?_); (case side1 => repeat (first | exact (Kd.C_below HR0.out HB.out) | (with_reducible refine Kd.C_alloc ?_ _) | (with_reducible refine Kd.C_drewN ?_ _) | (with_reducible refine Kd.C_drew ?_))); (case side2 => exact HC0.out); rintro e w' ⟨rfl, ⟨nd, rfl⟩⟩; refine ⟨_, rfl, ?_⟩))
        go_meet
        case rel => exact ⟨_, (true), (by first | rfl | (simp; done) | (simp [*]; done)), H', ⟨by first | omega | exact Nat.le_refl _⟩, ⟨by (with_reducible repeat (first | refine blk_drewN ?_ _ | refine blk_drew ?_ | refine blk_alloc ?_ _)); exact BK448.out⟩, ⟨by repeat (first | (with_reducible first | exact HB.out | apply below_alloc | apply pw_below_drewN | apply below_drew1 | refine below_set ?_ GE448.out) | exact HB.out)⟩⟩
    case rest =>
      clear HC6
      try clear c1
      try clear c2
      try clear p2
      try clear c5
      try clear c10
      try clear c11
      try clear c11b0
      try clear c11b1
      try clear c12
      try clear hcz12_0
      try clear hcz12_1
      try clear hcz14_0
      try clear hcz14_1
      try clear hfz12_0
      try clear hfz12_1
      try clear hfz14_0
      try clear hfz14_1
      obtain ⟨kq, x35_5, rfl, HA, HJ5, BK448, HB⟩ := hcut
      cases kq with
      | zero => exact absurd HA.out (by simp [chalklinelaw35_FeedNoAlias.j0])
      | succ kj5 =>
        have H := HA.out
        clear HA
        simp only [chalklinelaw35_FeedNoAlias.j0] at H
        by_cases c16 : x35_5 = true
        · subst c16
          have H1 : (some true) = some r := by rw [if_pos rfl] at H; exact H
          clear H
          have H := H1
          clear H1
          obtain rfl := Option.some.inj H
          go_wp2
          go_ret
          exact ⟨by first | rfl | (simp [errW_none, errW_some] <;> rfl) | (simp [*, errW_none, errW_some] <;> rfl), by repeat (first | (with_reducible first | exact HB.out | apply below_alloc | apply pw_below_drewN | apply below_drew1 | refine below_set ?_ GE448.out) | exact HB.out)⟩
        · replace c16 := Bool.eq_false_iff.mpr c16
          subst c16
          have H1 : (chalklinelaw35_FeedNoAlias.l0 kj5 l0 a1 (([] : List (S25))) 0 a2_0 l2_1) = some r := by rw [if_neg (show ¬ (false = true) by decide)] at H; exact H
          clear H
          have H := H1
          clear H1
          obtain ⟨y452, hy452⟩ : ∃ y_ : List (S25), y_ = (([] : List (S25))) := ⟨_, rfl⟩
          replace H : (chalklinelaw35_FeedNoAlias.l0 kj5 l0 a1 y452 0 a2_0 l2_1) = some r := by first | (rw [hy452]; with_reducible exact H) | (have H2_ := (Option.bind_some _ _).symm.trans H; rw [hy452]; with_reducible exact H2_) | (have H2_ := (Option.bind_some _ _).symm.trans H; with_reducible exact H2_) | with_reducible exact H | (rw [hy452]; exact H) | exact H
          have Ny452 := Aside0.mk hy452
          clear hy452
          have H' := Aside0.mk H
          clear H
          go_wp2_with (first | ((with_reducible refine gate_dst (N := 36) rfl ?_); (try (refine gate_guard (by rfl) ?_; dsimp only)); refine Kd.S_lit k25 _ 25 ?hg (N := 36) ?hd (xs := ([] : List (S25))) (inner := []) (ok := fun _ => True) (okp := fun _ => True) ?hr ?hp (fun _ hk => hk) trivial (Below.refl _ _) (Nat.le_refl _) (by simp) ?_; (case hd => rfl); (case hg => rfl); (case hr => first | (go_simp; done) | (go_simp; rfl)); (case hp => exact (Reps.none _ _)); intro v453 w17 ho18 hb hg_ hnew_; clear hg_ hnew_; (first | rw [← Ny452.out] at ho18 | (simp only [Int.reduceToNat] at ho18; rw [← Ny452.out] at ho18)); have n0_ := Aside0.mk (Kd.S_lower ho18 (below_size (by repeat (first | (with_reducible first | exact HB.out | apply below_alloc | apply pw_below_drewN | apply below_drew1 | refine below_set ?_ GE448.out) | exact HB.out)))); have n1_ := Aside0.mk (blk_below (g := gb448) (o := .cells #[.int .i64 a2_0, .slice A2_1 l2_1.length c2_1] 27 (0, 0)) (by (with_reducible repeat (first | refine blk_drewN ?_ _ | refine blk_drew ?_ | refine blk_alloc ?_ _)); exact BK448.out) hb); have n2_ := Aside0.mk (below_step (by repeat (first | (with_reducible first | exact HB.out | apply below_alloc | apply pw_below_drewN | apply below_drew1 | refine below_set ?_ GE448.out) | exact HB.out)) hb); clear BK448; clear HB; have HO454 := n0_; have BK448 := n1_; have HB := n2_; clear n0_ n1_ n2_; clear hb ho18))
          go_loopg [7, 8] kj5 (fun kq v7 v8 w' => ∃ (x7_2 : List (S25)) (x8_2 : Int), v8 = .int .i64 x8_2 ∧ Aside0 (chalklinelaw35_FeedNoAlias.l0 kq l0 a1 x7_2 x8_2 a2_0 l2_1 = some r) ∧ Aside0 (kq ≤ kj5) ∧ Aside0 (Kd.S k25 25 w' w.heap.size (fun _ => True) v7 x7_2) ∧ Aside0 (w'.heap[gb448]? = some (.cells #[.int .i64 a2_0, (.slice A2_1 l2_1.length c2_1)] 27 (0, 0))) ∧ Aside0 (Below w.heap.size w w'))
          case atStart => exact ⟨(y452), (0), (by first | rfl | (simp; done) | (simp [*]; done)), H', ⟨Nat.le_refl _⟩, ⟨by (with_reducible repeat (first | apply Kd.S_alloc | apply Kd.S_drewN | apply Kd.S_drew)); exact HO454.out⟩, ⟨by (with_reducible repeat (first | refine blk_drewN ?_ _ | refine blk_drew ?_ | refine blk_alloc ?_ _)); exact BK448.out⟩, ⟨by repeat (first | (with_reducible first | exact HB.out | apply below_alloc | apply pw_below_drewN | apply below_drew1 | refine below_set ?_ GE448.out) | exact HB.out)⟩⟩
          case round =>
            clear H'
            try clear c1
            try clear c2
            try clear p2
            try clear c5
            try clear c10
            try clear c11
            try clear c11b0
            try clear c11b1
            try clear c12
            try clear c16
            try clear hcz12_0
            try clear hcz12_1
            try clear hcz14_0
            try clear hcz14_1
            try clear hfz12_0
            try clear hfz12_1
            try clear hfz14_0
            try clear hfz14_1
            try clear p2
            obtain ⟨x7_2, x8_2, rfl, HA, HK2, HO_7, BK448, HB⟩ := hrel
            cases gk with
            | zero => exact absurd HA.out (by simp [chalklinelaw35_FeedNoAlias.l0])
            | succ k2 =>
              have H := HA.out
              clear HA
              simp only [chalklinelaw35_FeedNoAlias.l0] at H
              by_cases c19 : x8_2 < (l0.length : Int)
              · rw [if_pos c19] at H
                have c19b0 : decide (x8_2 < (l0.length : Int)) = true := decide_eq_true c19
                clear c19
                obtain ⟨y455, hy455⟩ : ∃ y_ : List (S60), y_ = (([] : List (S60))) := ⟨_, rfl⟩
                replace H : (if 0 ≤ x8_2 then (if y455.length + ((rd_T52 l0 x8_2).f1.f0).length < 8796093022208 then (if x7_2.length < 5864062014805 then (chalklinelaw35_FeedNoAlias.l0 k2 l0 a1 (x7_2 ++ [(⟨(y455 ++ ((rd_T52 l0 x8_2).f1.f0))⟩ : S25)]) (wrap64 (x8_2 + 1)) a2_0 l2_1) else (none)) else (none)) else (none)) = some r := by first | (rw [hy455]; with_reducible exact H) | (have H2_ := (Option.bind_some _ _).symm.trans H; rw [hy455]; with_reducible exact H2_) | (have H2_ := (Option.bind_some _ _).symm.trans H; with_reducible exact H2_) | with_reducible exact H | (rw [hy455]; exact H) | exact H
                have Ny455 := Aside0.mk hy455
                clear hy455
                by_cases c20 : 0 ≤ x8_2
                · rw [if_pos c20] at H
                  have c20b0 : decide (0 ≤ x8_2) = true := decide_eq_true c20
                  clear c20
                  by_cases c21 : y455.length + ((rd_T52 l0 x8_2).f1.f0).length < 8796093022208
                  · rw [if_pos c21] at H
                    have LMc21 := Aside0.mk c21
                    clear c21
                    obtain ⟨y459, hy459⟩ : ∃ y_ : List (S60), y_ = (y455 ++ ((rd_T52 l0 x8_2).f1.f0)) := ⟨_, rfl⟩
                    replace H : (if x7_2.length < 5864062014805 then (chalklinelaw35_FeedNoAlias.l0 k2 l0 a1 (x7_2 ++ [(⟨y459⟩ : S25)]) (wrap64 (x8_2 + 1)) a2_0 l2_1) else (none)) = some r := by first | (rw [hy459]; with_reducible exact H) | (have H2_ := (Option.bind_some _ _).symm.trans H; rw [hy459]; with_reducible exact H2_) | (have H2_ := (Option.bind_some _ _).symm.trans H; with_reducible exact H2_) | with_reducible exact H | (rw [hy459]; exact H) | exact H
                    have Ny459 := Aside0.mk hy459
                    clear hy459
                    by_cases c22 : x7_2.length < 5864062014805
                    · rw [if_pos c22] at H
                      have LMc22 := Aside0.mk c22
                      clear c22
                      obtain ⟨y462, hy462⟩ : ∃ y_ : List (S25), y_ = (x7_2 ++ [(⟨y459⟩ : S25)]) := ⟨_, rfl⟩
                      replace H : (chalklinelaw35_FeedNoAlias.l0 k2 l0 a1 y462 (wrap64 (x8_2 + 1)) a2_0 l2_1) = some r := by first | (rw [hy462]; with_reducible exact H) | (have H2_ := (Option.bind_some _ _).symm.trans H; rw [hy462]; with_reducible exact H2_) | (have H2_ := (Option.bind_some _ _).symm.trans H; with_reducible exact H2_) | with_reducible exact H | (rw [hy462]; exact H) | exact H
                      have Ny462 := Aside0.mk hy462
                      clear hy462
                      have H' := Aside0.mk H
                      clear H
                      go_wp2_with (first | ((with_reducible refine gate_dst (N := 44) rfl ?_); (try (refine gate_guard (by rfl) ?_; dsimp only)); refine Kd.R_lit k60 _ 60 ?hg (N := 44) ?hd (xs := ([] : List (S60))) (inner := []) (ok := fun _ => True) (okp := fun _ => True) ?hr ?hp (fun _ hk => hk) trivial (Below.refl _ _) (Nat.le_refl _) (by simp) ?_; (case hd => rfl); (case hg => rfl); (case hr => first | (go_simp; done) | (go_simp; rfl)); (case hp => exact (Reps.none _ _)); intro v456 w23 ho24 hb hg_ hnew_; clear hg_ hnew_; (first | rw [← Ny455.out] at ho24 | (simp only [Int.reduceToNat] at ho24; rw [← Ny455.out] at ho24)); have n0_ := Aside0.mk (Kd.S_elder' (by (with_reducible repeat (first | apply Kd.S_alloc | apply Kd.S_drewN | apply Kd.S_drew)); exact HO_7.out) (Kd.R_base ho24) hb); have n1_ := Aside0.mk (Kd.R_lower ho24 (below_size (by repeat (first | (with_reducible first | exact HB.out | apply below_alloc | apply pw_below_drewN | apply below_drew1 | refine below_set ?_ GE448.out) | exact HB.out)))); have n2_ := Aside0.mk (blk_below (g := gb448) (o := .cells #[.int .i64 a2_0, .slice A2_1 l2_1.length c2_1] 27 (0, 0)) (by (with_reducible repeat (first | refine blk_drewN ?_ _ | refine blk_drew ?_ | refine blk_alloc ?_ _)); exact BK448.out) hb); have n3_ := Aside0.mk (below_step (by repeat (first | (with_reducible first | exact HB.out | apply below_alloc | apply pw_below_drewN | apply below_drew1 | refine below_set ?_ GE448.out) | exact HB.out)) hb); clear HO_7; clear BK448; clear HB; have HO_7 := n0_; have HO457 := n1_; have BK448 := n2_; have HB := n3_; clear n0_ n1_ n2_ n3_; clear hb ho24; have p458 : 0 ≤ (x8_2 : Int) := of_decide_eq_true (by first | (with_reducible assumption) | assumption); have q458 : x8_2 < (l0.length : Int) := of_decide_eq_true (by first | (with_reducible assumption) | assumption); obtain ⟨ad458, A458_1, c458_1, e458, hx458_0, hx458_1, hx458_2, hx458_3, hl458_1, hi458_1⟩ := at_T52 HR0.out x8_2 p458 q458; cases e458; replace hx458_0 := (HB.out.cell (World.block_lt_of_cell? w _ hx458_0)).trans hx458_0; replace hx458_1 := (HB.out.cell (World.block_lt_of_cell? w _ hx458_1)).trans hx458_1; replace hx458_2 := (HB.out.cell (World.block_lt_of_cell? w _ hx458_2)).trans hx458_2; replace hx458_3 := (HB.out.cell (World.block_lt_of_cell? w _ hx458_3)).trans hx458_3; have HR458_1 := Aside0.mk hi458_1; have HC458_1 := Aside0.mk hl458_1; clear hi458_1 hl458_1; replace p458 := eq_true p458; replace q458 := eq_true q458) | ((with_reducible refine gate_builtin (b := .append) (xs := #[.tmp 44, .tmp 50]) rfl ?_); (try (refine gate_guard (by rfl) ?_; dsimp only)); at_builtin; refine Kd.R_append_rows k60 (w0 := w) w.heap.size rfl (.tmp 44) (.tmp 50) 23 60 (.agg #[(.int .i64 0), (.int .i64 0)]) 16 rfl Try.underlying23 info60 rfl (by decide) (by omega) v456 y455 ((rd_T52 l0 x8_2).f1.f0) _ _ _ (fun _ => True) (fun _ => False) rfl rfl ?aO ?aR (fun _ _ h => h) (fun _ h => h.elim) ?aF ?aB ?aS ?aL ?_; (case aR => repeat (first | exact (Kd.C_below HR458_1.out HB.out) | (with_reducible refine Kd.C_alloc ?_ _) | (with_reducible refine Kd.C_drewN ?_ _) | (with_reducible refine Kd.C_drew ?_))); (case aB => exact (by repeat (first | (with_reducible first | exact HB.out | apply below_alloc | apply pw_below_drewN | apply below_drew1 | refine below_set ?_ GE448.out) | exact HB.out))); (case aF => exact (fun _ _ => trivial)); (case aO => exact (by (with_reducible repeat (first | apply Kd.R_alloc | apply Kd.R_drewN | apply Kd.R_drew)); exact HO457.out)); (case aS => exact (below_size (by repeat (first | (with_reducible first | exact HB.out | apply below_alloc | apply pw_below_drewN | apply below_drew1 | refine below_set ?_ GE448.out) | exact HB.out)))); (case aL => have := LMc21.out; omega); intro v460 w25 ho hb hg hat; rw [← Ny459.out] at ho; have n0_ := Aside0.mk (Kd.S_after (ok := (fun _ => True)) (by (with_reducible repeat (first | apply Kd.S_alloc | apply Kd.S_drewN | apply Kd.S_drew)); exact HO_7.out) hg hat); have n1_ := Aside0.mk (blk_grown (g := gb448) (o := .cells #[.int .i64 a2_0, .slice A2_1 l2_1.length c2_1] 27 (0, 0)) (by (with_reducible repeat (first | refine blk_drewN ?_ _ | refine blk_drew ?_ | refine blk_alloc ?_ _)); exact BK448.out) hg (Kd.R_ne HO457.out BK448.out (by decide))); have n2_ := Aside0.mk (hb); have n3_ := Aside0.mk (ho); clear HO_7; clear BK448; clear HB; clear HO457; have HO_7 := n0_; have BK448 := n1_; have HB := n2_; have HO461 := n3_; clear n0_ n1_ n2_ n3_; clear ho hb hg hat; obtain ⟨Ao26, co26, eo26⟩ := Kd.R_slice HO461.out; subst eo26) | ((with_reducible refine gate_builtin (b := .append) (xs := #[.tmp 43, .tmp 53]) rfl ?_); (try (refine gate_guard (by rfl) ?_; dsimp only)); at_builtin; refine Kd.S_append k25 (w0 := w) w.heap.size rfl (.tmp 43) (.tmp 53) 58 25 (.agg #[(.slice none 0 0)]) 24 rfl Try.underlying58 info25 rfl (by decide) (by omega) u7 x7_2 (⟨y459⟩ : S25) [.slice Ao26 y459.length co26] (fun _ => True) (fun k_ => some k_ = (.slice Ao26 y459.length co26 : Value).ownBlock) rfl rfl ?aP (fun k_ hk_ => ((Kd.R_mono (ok' := fun k_ => ((fun _ => True)) k_ ∧ some k_ ≠ (u7 : Value).ownBlock) (Kd.R_apart' (HO461.out) (Kd.S_typed HO_7.out) (by decide)) (fun k_ hk => ⟨trivial, hk.2⟩))).1 k_ hk_.symm) ?aF ?aO ?aB ?aS ?aL ?_; (case aP => exact k25_mkM _ _ _ (⟨y459⟩ : S25) (Kd.R_mono (Kd.R_tight rfl (Kd.R_mono (ok' := fun k_ => ((fun _ => True)) k_ ∧ some k_ ≠ (u7 : Value).ownBlock) (Kd.R_apart' (HO461.out) (Kd.S_typed HO_7.out) (by decide)) (fun k_ hk => ⟨trivial, hk.2⟩))) (fun _ h_ => h_))); (case aB => exact (by repeat (first | (with_reducible first | exact HB.out | apply below_alloc | apply pw_below_drewN | apply below_drew1 | refine below_set ?_ GE448.out) | exact HB.out))); (case aF => exact (fun _ _ => trivial)); (case aO => exact (by (with_reducible repeat (first | apply Kd.S_alloc | apply Kd.S_drewN | apply Kd.S_drew)); exact Kd.S_mono HO_7.out (fun k_ hk => ⟨trivial, fun e_ => hk.2 e_⟩))); (case aS => exact (below_size (by repeat (first | (with_reducible first | exact HB.out | apply below_alloc | apply pw_below_drewN | apply below_drew1 | refine below_set ?_ GE448.out) | exact HB.out)))); (case aL => have := LMc22.out; omega); intro v463 w27 ho hb hg hat; rw [← Ny462.out] at ho; have n0_ := Aside0.mk (blk_grown (g := gb448) (o := .cells #[.int .i64 a2_0, .slice A2_1 l2_1.length c2_1] 27 (0, 0)) (by (with_reducible repeat (first | refine blk_drewN ?_ _ | refine blk_drew ?_ | refine blk_alloc ?_ _)); exact BK448.out) hg (Kd.S_ne HO_7.out BK448.out (by decide))); have n1_ := Aside0.mk (hb); have n2_ := Aside0.mk (ho); clear BK448; clear HB; clear HO_7; clear HO461; have BK448 := n0_; have HB := n1_; have HO464 := n2_; clear n0_ n1_ n2_; clear ho hb hg hat))
                      go_roundg k2
                      case measure => have := HJ5.out; have := HK2.out; omega
                      case rel => exact ⟨(y462), (wrap64 (x8_2 + 1)), (by first | rfl | (simp; done) | (simp [*]; done)), H', ⟨by have := HJ5.out; have := HK2.out; omega⟩, ⟨by (with_reducible repeat (first | apply Kd.S_alloc | apply Kd.S_drewN | apply Kd.S_drew)); exact HO464.out⟩, ⟨by (with_reducible repeat (first | refine blk_drewN ?_ _ | refine blk_drew ?_ | refine blk_alloc ?_ _)); exact BK448.out⟩, ⟨by repeat (first | (with_reducible first | exact HB.out | apply below_alloc | apply pw_below_drewN | apply below_drew1 | refine below_set ?_ GE448.out) | exact HB.out)⟩⟩
                    · rw [if_neg c22] at H
                      exact absurd H (by simp)
                  · rw [if_neg c21] at H
                    exact absurd H (by simp)
                · rw [if_neg c20] at H
                  exact absurd H (by simp)
              · rw [if_neg c19] at H
                have c19b0 : decide (x8_2 < (l0.length : Int)) = false := decide_eq_false c19
                clear c19
                replace H := Option.bind_eq_some_iff.mp H
                obtain ⟨⟨t465, t466, t467, t468, t469, t472, t475⟩, A280, H⟩ := H
                replace H : (if t475 = 0 then ((feed_Take.f k2 a2_0 l2_1 t465 t466 t467 t468 t469 t472).bind fun bt477 => ((chalklineref35_Msgs.f k2 t465 t466 t467 t468 t469 t472 t465 t466 t467 t468 t469 t472).bind fun t483 => (chalklinelaw35_FeedNoAlias.l1 k2 l0 a1 x7_2 bt477.2.2 t483 0 t465 t466 t467 t468 t469 t472 bt477.1 bt477.2.1))) else (some true)) = some r := H
                have A28 := Aside0.mk A280
                clear A280
                by_cases c29 : t475 = 0
                · rw [if_pos c29] at H
                  have c29b0 : (t475 == 0) = true := beq_iff_eq.mpr c29
                  have c29b1 : (t475 != 0) = false := bne_eq_false_iff_eq.mpr c29
                  clear c29
                  replace H := Option.bind_eq_some_iff.mp H
                  obtain ⟨⟨t477, t478, t481⟩, A300, H⟩ := H
                  replace H : ((chalklineref35_Msgs.f k2 t465 t466 t467 t468 t469 t472 t465 t466 t467 t468 t469 t472).bind fun t483 => (chalklinelaw35_FeedNoAlias.l1 k2 l0 a1 x7_2 t481 t483 0 t465 t466 t467 t468 t469 t472 t477 t478)) = some r := H
                  have A30 := Aside0.mk A300
                  clear A300
                  replace H := Option.bind_eq_some_iff.mp H
                  obtain ⟨t483, A310, H⟩ := H
                  replace H : (chalklinelaw35_FeedNoAlias.l1 k2 l0 a1 x7_2 t481 t483 0 t465 t466 t467 t468 t469 t472 t477 t478) = some r := H
                  have A31 := Aside0.mk A310
                  clear A310
                  have HC32 := Aside0.mk H
                  clear H
                  go_upto_block 2 with (first | ((with_reducible refine gate_callee (f := 13) rfl ?_); refine goesL_ (some 58) rfl rfl Try.func13 (by kernel_rfl) rfl #[.slice A0 l0.length c0, .int .i64 a1, .int .i64 0] rfl (by (try simp only [List.map_toArray, List.map_cons, List.map_nil]); first | done | rfl | (simp only [List.length_drop, List.length_take]; rfl)) ?_; (with_reducible refine (feed_Reply.calls k2 _ _ l0 a1 0 t465 t466 t467 t468 t469 t472 t475 _ ?side1 ?side2 A28.out).mono ?_); (case side1 => repeat (first | exact (Kd.C_below HR0.out HB.out) | (with_reducible refine Kd.C_alloc ?_ _) | (with_reducible refine Kd.C_drewN ?_ _) | (with_reducible refine Kd.C_drew ?_))); (case side2 => exact HC0.out); rintro e w33 ⟨v470, v473, rfl, ho0, ho1, hb⟩; refine ⟨_, rfl, ?_⟩; have n0_ := Aside0.mk (Kd.S_elder' (by (with_reducible repeat (first | apply Kd.S_alloc | apply Kd.S_drewN | apply Kd.S_drew)); exact HO_7.out) (Kd.R_base ho0) hb); have n1_ := Aside0.mk (Kd.R_lower ho0 (below_size (by repeat (first | (with_reducible first | exact HB.out | apply below_alloc | apply pw_below_drewN | apply below_drew1 | refine below_set ?_ GE448.out) | exact HB.out)))); have n2_ := Aside0.mk (Kd.R_lower ho1 (below_size (by repeat (first | (with_reducible first | exact HB.out | apply below_alloc | apply pw_below_drewN | apply below_drew1 | refine below_set ?_ GE448.out) | exact HB.out)))); have n3_ := Aside0.mk (blk_below (g := gb448) (o := .cells #[.int .i64 a2_0, .slice A2_1 l2_1.length c2_1] 27 (0, 0)) (by (with_reducible repeat (first | refine blk_drewN ?_ _ | refine blk_drew ?_ | refine blk_alloc ?_ _)); exact BK448.out) hb); have n4_ := Aside0.mk (below_step (by repeat (first | (with_reducible first | exact HB.out | apply below_alloc | apply pw_below_drewN | apply below_drew1 | refine below_set ?_ GE448.out) | exact HB.out)) hb); clear HO_7; clear BK448; clear HB; have HO_7 := n0_; have HO471 := n1_; have HO474 := n2_; have BK448 := n3_; have HB := n4_; clear n0_ n1_ n2_ n3_ n4_; (try clear hb); (try clear hb2); (try clear hk); (try clear hi); (try clear ho0); (try clear ho1)) | ((with_reducible refine gate_dst (N := 9) rfl ?_); (try (refine gate_guard (by rfl) ?_; dsimp only)); refine box_event ?hg (N := 9) ?hd (cs := #[.int .i64 0, .int .i64 0, .int .i64 0, .int .i64 0, .slice none 0 0, .slice none 0 0]) (t := 32) ?hr ?_; (case hd => rfl); (case hg => rfl); (case hr => first | (go_simp; done) | (go_simp; rfl)); intro gb476 hg w34 hbox hb; have n0_ := Aside0.mk (Kd.S_below (by (with_reducible repeat (first | apply Kd.S_alloc | apply Kd.S_drewN | apply Kd.S_drew)); exact HO_7.out) hb); have n1_ := Aside0.mk (Kd.R_below (by (with_reducible repeat (first | apply Kd.R_alloc | apply Kd.R_drewN | apply Kd.R_drew)); exact HO471.out) hb); have n2_ := Aside0.mk (Kd.R_below (by (with_reducible repeat (first | apply Kd.R_alloc | apply Kd.R_drewN | apply Kd.R_drew)); exact HO474.out) hb); have n3_ := Aside0.mk (blk_below (g := gb448) (o := .cells #[.int .i64 a2_0, .slice A2_1 l2_1.length c2_1] 27 (0, 0)) (by (with_reducible repeat (first | refine blk_drewN ?_ _ | refine blk_drew ?_ | refine blk_alloc ?_ _)); exact BK448.out) hb); have n4_ := Aside0.mk (below_step (by repeat (first | (with_reducible first | exact HB.out | apply below_alloc | apply pw_below_drewN | apply below_drew1 | refine below_set ?_ GE448.out) | exact HB.out)) hb); have n5_ := Aside0.mk (hbox); have n6_ := Aside0.mk ((by rw [hg]; exact (below_size (by repeat (first | (with_reducible first | exact HB.out | apply below_alloc | apply pw_below_drewN | apply below_drew1 | refine below_set ?_ GE448.out) | exact HB.out))) : w.heap.size ≤ gb476)); have n7_ := Aside0.mk ((by rw [hg]; exact (below_size (by repeat (first | (with_reducible first | exact HB.out | apply below_alloc | apply pw_below_drewN | apply below_drew1 | refine below_set ?_ GE448.out) | exact HB.out))) : w.heap.size ≤ gb476)); have n8_ := Aside0.mk ((by rw [hg]; exact Nat.ne_of_lt (blk_lt (g := gb448) (o := .cells #[.int .i64 a2_0, .slice A2_1 l2_1.length c2_1] 27 (0, 0)) (by (with_reducible repeat (first | refine blk_drewN ?_ _ | refine blk_drew ?_ | refine blk_alloc ?_ _)); exact BK448.out)) : gb448 ≠ gb476)); have n9_ := Aside0.mk ((by rw [hg]; exact Nat.ne_of_gt (blk_lt (g := gb448) (o := .cells #[.int .i64 a2_0, .slice A2_1 l2_1.length c2_1] 27 (0, 0)) (by (with_reducible repeat (first | refine blk_drewN ?_ _ | refine blk_drew ?_ | refine blk_alloc ?_ _)); exact BK448.out)) : gb476 ≠ gb448)); clear HO_7; clear HO471; clear HO474; clear BK448; clear HB; have HO_7 := n0_; have HO471 := n1_; have HO474 := n2_; have BK448 := n3_; have HB := n4_; have BK476 := n5_; have GW476 := n6_; have GE476 := n7_; have NB448_476 := n8_; have NB476_448 := n9_; clear n0_ n1_ n2_ n3_ n4_ n5_ n6_ n7_ n8_ n9_; clear hb hbox hg; have hnb35 := NB476_448.out; have hnc35 := NB448_476.out; have hcz36_0 : w34.cell? ⟨gb476, 0, none⟩ = some (.int .i64 0) := (blk_cell BK476.out 0).trans rfl; have hcz36_1 : w34.cell? ⟨gb476, 1, none⟩ = some (.int .i64 0) := (blk_cell BK476.out 1).trans rfl; have hcz36_2 : w34.cell? ⟨gb476, 2, none⟩ = some (.int .i64 0) := (blk_cell BK476.out 2).trans rfl; have hcz36_3 : w34.cell? ⟨gb476, 3, none⟩ = some (.int .i64 0) := (blk_cell BK476.out 3).trans rfl; have hcz36_4 : w34.cell? ⟨gb476, 4, none⟩ = some (.slice none 0 0) := (blk_cell BK476.out 4).trans rfl; have hcz36_5 : w34.cell? ⟨gb476, 5, none⟩ = some (.slice none 0 0) := (blk_cell BK476.out 5).trans rfl; have hfz36_0 := blk_frozen BK476.out 0; have hfz36_1 := blk_frozen BK476.out 1; have hfz36_2 := blk_frozen BK476.out 2; have hfz36_3 := blk_frozen BK476.out 3; have hfz36_4 := blk_frozen BK476.out 4; have hfz36_5 := blk_frozen BK476.out 5; obtain ⟨Ao37, co37, eo37⟩ := Kd.R_slice HO471.out; subst eo37; obtain ⟨Ao38, co38, eo38⟩ := Kd.R_slice HO474.out; subst eo38; have hcz39_0 : w34.cell? ⟨gb448, 0, none⟩ = some (.int .i64 a2_0) := (blk_cell BK448.out 0).trans rfl; have hcz39_1 : w34.cell? ⟨gb448, 1, none⟩ = some (.slice A2_1 l2_1.length c2_1) := (blk_cell BK448.out 1).trans rfl; have hfz39_0 := blk_frozen BK448.out 0; have hfz39_1 := blk_frozen BK448.out 1) | ((with_reducible refine gate_callee (f := 21) rfl ?_); refine goesL_ (some 66) rfl rfl Try.func21 (by kernel_rfl) rfl #[.agg #[.int .i64 a2_0, .slice A2_1 l2_1.length c2_1], .agg #[.int .i64 t465, .int .i64 t466, .int .i64 t467, .int .i64 t468, .slice Ao37 t469.length co37, .slice Ao38 t472.length co38]] rfl (by (try simp only [List.map_toArray, List.map_cons, List.map_nil]); first | done | rfl | (simp only [List.length_drop, List.length_take]; rfl)) ?_; (with_reducible refine (feed_Take.calls k2 a2_0 _ _ l2_1 t465 t466 t467 t468 _ _ t469 _ _ t472 t477 t478 t481 _ ?side1 ?side2 ?side3 ?side4 ?side5 ?side6 A30.out).mono ?_); (case side1 => exact Kd.C_below HR2_1.out (by repeat (first | (with_reducible first | exact HB.out | apply below_alloc | apply pw_below_drewN | apply below_drew1 | refine below_set ?_ GE448.out | refine below_set ?_ GE476.out) | exact HB.out))); (case side2 => exact HC2_1.out); (case side3 => refine (Kd.R_reads' (e := 60) (base := w.heap.size) (ok := fun k_ => True) (n := t469.length) (c := co37) ?_).2.2; exact (by (with_reducible repeat (first | apply Kd.R_alloc | apply Kd.R_drewN | apply Kd.R_drew)); exact (Kd.R_mono (Kd.R_far (p := ⟨gb476, 5, none⟩) (Kd.R_far (p := ⟨gb476, 4, none⟩) (Kd.R_far (p := ⟨gb476, 3, none⟩) (Kd.R_far (p := ⟨gb476, 2, none⟩) (Kd.R_far (p := ⟨gb476, 1, none⟩) (Kd.R_far (p := ⟨gb476, 0, none⟩) (Kd.R_types HO471.out BK476.out (by decide)) (fun _ hk => hk.2) (.int .i64 t465)) (fun _ hk => hk.2) (.int .i64 t466)) (fun _ hk => hk.2) (.int .i64 t467)) (fun _ hk => hk.2) (.int .i64 t468)) (fun _ hk => hk.2) (.slice Ao37 t469.length co37)) (fun _ hk => hk.2) (.slice Ao38 t472.length co38)) (fun _ h_ => h_.1)))); (case side4 => exact (Kd.R_reads' HO471.out).2.1); (case side5 => refine (Kd.R_reads' (e := 64) (base := w.heap.size) (ok := fun k_ => True) (n := t472.length) (c := co38) ?_).2.2; exact (by (with_reducible repeat (first | apply Kd.R_alloc | apply Kd.R_drewN | apply Kd.R_drew)); exact (Kd.R_mono (Kd.R_far (p := ⟨gb476, 5, none⟩) (Kd.R_far (p := ⟨gb476, 4, none⟩) (Kd.R_far (p := ⟨gb476, 3, none⟩) (Kd.R_far (p := ⟨gb476, 2, none⟩) (Kd.R_far (p := ⟨gb476, 1, none⟩) (Kd.R_far (p := ⟨gb476, 0, none⟩) (Kd.R_types HO474.out BK476.out (by decide)) (fun _ hk => hk.2) (.int .i64 t465)) (fun _ hk => hk.2) (.int .i64 t466)) (fun _ hk => hk.2) (.int .i64 t467)) (fun _ hk => hk.2) (.int .i64 t468)) (fun _ hk => hk.2) (.slice Ao37 t469.length co37)) (fun _ hk => hk.2) (.slice Ao38 t472.length co38)) (fun _ h_ => h_.1)))); (case side6 => exact (Kd.R_reads' HO474.out).2.1); rintro e w40 ⟨v479, rfl, ho0, hb⟩; refine ⟨_, rfl, ?_⟩; have n0_ := Aside0.mk (Kd.S_elder' (by (with_reducible repeat (first | apply Kd.S_alloc | apply Kd.S_drewN | apply Kd.S_drew)); exact (Kd.S_mono (Kd.S_far (p := ⟨gb476, 5, none⟩) (Kd.S_far (p := ⟨gb476, 4, none⟩) (Kd.S_far (p := ⟨gb476, 3, none⟩) (Kd.S_far (p := ⟨gb476, 2, none⟩) (Kd.S_far (p := ⟨gb476, 1, none⟩) (Kd.S_far (p := ⟨gb476, 0, none⟩) (Kd.S_types HO_7.out BK476.out (by decide)) (fun _ hk => hk.2) (.int .i64 t465)) (fun _ hk => hk.2) (.int .i64 t466)) (fun _ hk => hk.2) (.int .i64 t467)) (fun _ hk => hk.2) (.int .i64 t468)) (fun _ hk => hk.2) (.slice Ao37 t469.length co37)) (fun _ hk => hk.2) (.slice Ao38 t472.length co38)) (fun _ h_ => h_.1))) (Kd.R_base ho0) hb); have n1_ := Aside0.mk (Kd.R_elder' (by (with_reducible repeat (first | apply Kd.R_alloc | apply Kd.R_drewN | apply Kd.R_drew)); exact (Kd.R_mono (Kd.R_far (p := ⟨gb476, 5, none⟩) (Kd.R_far (p := ⟨gb476, 4, none⟩) (Kd.R_far (p := ⟨gb476, 3, none⟩) (Kd.R_far (p := ⟨gb476, 2, none⟩) (Kd.R_far (p := ⟨gb476, 1, none⟩) (Kd.R_far (p := ⟨gb476, 0, none⟩) (Kd.R_types HO471.out BK476.out (by decide)) (fun _ hk => hk.2) (.int .i64 t465)) (fun _ hk => hk.2) (.int .i64 t466)) (fun _ hk => hk.2) (.int .i64 t467)) (fun _ hk => hk.2) (.int .i64 t468)) (fun _ hk => hk.2) (.slice Ao37 t469.length co37)) (fun _ hk => hk.2) (.slice Ao38 t472.length co38)) (fun _ h_ => h_.1))) (Kd.R_base ho0) hb); have n2_ := Aside0.mk (Kd.R_below (by (with_reducible repeat (first | apply Kd.R_alloc | apply Kd.R_drewN | apply Kd.R_drew)); exact (Kd.R_mono (Kd.R_far (p := ⟨gb476, 5, none⟩) (Kd.R_far (p := ⟨gb476, 4, none⟩) (Kd.R_far (p := ⟨gb476, 3, none⟩) (Kd.R_far (p := ⟨gb476, 2, none⟩) (Kd.R_far (p := ⟨gb476, 1, none⟩) (Kd.R_far (p := ⟨gb476, 0, none⟩) (Kd.R_types HO474.out BK476.out (by decide)) (fun _ hk => hk.2) (.int .i64 t465)) (fun _ hk => hk.2) (.int .i64 t466)) (fun _ hk => hk.2) (.int .i64 t467)) (fun _ hk => hk.2) (.int .i64 t468)) (fun _ hk => hk.2) (.slice Ao37 t469.length co37)) (fun _ hk => hk.2) (.slice Ao38 t472.length co38)) (fun _ h_ => h_.1))) hb); have n3_ := Aside0.mk (Kd.R_lower (Kd.R_new' ho0 (Kd.R_lt (by (with_reducible repeat (first | apply Kd.R_alloc | apply Kd.R_drewN | apply Kd.R_drew)); exact (Kd.R_mono (Kd.R_far (p := ⟨gb476, 5, none⟩) (Kd.R_far (p := ⟨gb476, 4, none⟩) (Kd.R_far (p := ⟨gb476, 3, none⟩) (Kd.R_far (p := ⟨gb476, 2, none⟩) (Kd.R_far (p := ⟨gb476, 1, none⟩) (Kd.R_far (p := ⟨gb476, 0, none⟩) (Kd.R_types HO471.out BK476.out (by decide)) (fun _ hk => hk.2) (.int .i64 t465)) (fun _ hk => hk.2) (.int .i64 t466)) (fun _ hk => hk.2) (.int .i64 t467)) (fun _ hk => hk.2) (.int .i64 t468)) (fun _ hk => hk.2) (.slice Ao37 t469.length co37)) (fun _ hk => hk.2) (.slice Ao38 t472.length co38)) (fun _ h_ => h_.1))))) (below_size (by repeat (first | (with_reducible first | exact HB.out | apply below_alloc | apply pw_below_drewN | apply below_drew1 | refine below_set ?_ GE448.out | refine below_set ?_ GE476.out) | exact HB.out)))); have n4_ := Aside0.mk (blk_below (g := gb448) (o := .cells #[.int .i64 a2_0, .slice A2_1 l2_1.length c2_1] 27 (0, 0)) (by (with_reducible repeat (first | refine blk_drewN ?_ _ | refine blk_drew ?_ | refine blk_alloc ?_ _)); refine blk_far ?_ NB448_476.out _; (with_reducible repeat (first | refine blk_drewN ?_ _ | refine blk_drew ?_ | refine blk_alloc ?_ _)); refine blk_far ?_ NB448_476.out _; (with_reducible repeat (first | refine blk_drewN ?_ _ | refine blk_drew ?_ | refine blk_alloc ?_ _)); refine blk_far ?_ NB448_476.out _; (with_reducible repeat (first | refine blk_drewN ?_ _ | refine blk_drew ?_ | refine blk_alloc ?_ _)); refine blk_far ?_ NB448_476.out _; (with_reducible repeat (first | refine blk_drewN ?_ _ | refine blk_drew ?_ | refine blk_alloc ?_ _)); refine blk_far ?_ NB448_476.out _; (with_reducible repeat (first | refine blk_drewN ?_ _ | refine blk_drew ?_ | refine blk_alloc ?_ _)); refine blk_far ?_ NB448_476.out _; (with_reducible repeat (first | refine blk_drewN ?_ _ | refine blk_drew ?_ | refine blk_alloc ?_ _)); exact BK448.out) hb); have n5_ := Aside0.mk (blk_below (g := gb476) (o := .cells #[.int .i64 t465, .int .i64 t466, .int .i64 t467, .int .i64 t468, .slice Ao37 t469.length co37, .slice Ao38 t472.length co38] 32 (0, 0)) (by (with_reducible repeat (first | refine blk_drewN ?_ _ | refine blk_drew ?_ | refine blk_alloc ?_ _)); refine blk_put (cs := #[.int .i64 t465, .int .i64 t466, .int .i64 t467, .int .i64 t468, .slice Ao37 t469.length co37, .slice none 0 0]) ?_ 5 _ rfl; (with_reducible repeat (first | refine blk_drewN ?_ _ | refine blk_drew ?_ | refine blk_alloc ?_ _)); refine blk_put (cs := #[.int .i64 t465, .int .i64 t466, .int .i64 t467, .int .i64 t468, .slice none 0 0, .slice none 0 0]) ?_ 4 _ rfl; (with_reducible repeat (first | refine blk_drewN ?_ _ | refine blk_drew ?_ | refine blk_alloc ?_ _)); refine blk_put (cs := #[.int .i64 t465, .int .i64 t466, .int .i64 t467, .int .i64 0, .slice none 0 0, .slice none 0 0]) ?_ 3 _ rfl; (with_reducible repeat (first | refine blk_drewN ?_ _ | refine blk_drew ?_ | refine blk_alloc ?_ _)); refine blk_put (cs := #[.int .i64 t465, .int .i64 t466, .int .i64 0, .int .i64 0, .slice none 0 0, .slice none 0 0]) ?_ 2 _ rfl; (with_reducible repeat (first | refine blk_drewN ?_ _ | refine blk_drew ?_ | refine blk_alloc ?_ _)); refine blk_put (cs := #[.int .i64 t465, .int .i64 0, .int .i64 0, .int .i64 0, .slice none 0 0, .slice none 0 0]) ?_ 1 _ rfl; (with_reducible repeat (first | refine blk_drewN ?_ _ | refine blk_drew ?_ | refine blk_alloc ?_ _)); refine blk_put (cs := #[.int .i64 0, .int .i64 0, .int .i64 0, .int .i64 0, .slice none 0 0, .slice none 0 0]) ?_ 0 _ rfl; (with_reducible repeat (first | refine blk_drewN ?_ _ | refine blk_drew ?_ | refine blk_alloc ?_ _)); exact BK476.out) hb); have n6_ := Aside0.mk (below_step (by repeat (first | (with_reducible first | exact HB.out | apply below_alloc | apply pw_below_drewN | apply below_drew1 | refine below_set ?_ GE448.out | refine below_set ?_ GE476.out) | exact HB.out)) hb); clear HO_7; clear HO471; clear HO474; clear BK448; clear BK476; clear HB; have HO_7 := n0_; have HO471 := n1_; have HO474 := n2_; have HO480 := n3_; have BK448 := n4_; have BK476 := n5_; have HB := n6_; clear n0_ n1_ n2_ n3_ n4_ n5_ n6_; (try clear hb); (try clear hb2); (try clear hk); (try clear hi); (try clear ho0)) | ((with_reducible refine gate_dst (N := 11) rfl ?_); (try (refine gate_guard (by rfl) ?_; dsimp only)); refine box_event ?hg (N := 11) ?hd (cs := #[.int .i64 0, .slice none 0 0]) (t := 27) ?hr ?_; (case hd => rfl); (case hg => rfl); (case hr => first | (go_simp; done) | (go_simp; rfl)); intro gb482 hg w41 hbox hb; have n0_ := Aside0.mk (Kd.S_below (by (with_reducible repeat (first | apply Kd.S_alloc | apply Kd.S_drewN | apply Kd.S_drew)); exact HO_7.out) hb); have n1_ := Aside0.mk (Kd.R_below (by (with_reducible repeat (first | apply Kd.R_alloc | apply Kd.R_drewN | apply Kd.R_drew)); exact HO471.out) hb); have n2_ := Aside0.mk (Kd.R_below (by (with_reducible repeat (first | apply Kd.R_alloc | apply Kd.R_drewN | apply Kd.R_drew)); exact HO474.out) hb); have n3_ := Aside0.mk (Kd.R_below (by (with_reducible repeat (first | apply Kd.R_alloc | apply Kd.R_drewN | apply Kd.R_drew)); exact HO480.out) hb); have n4_ := Aside0.mk (blk_below (g := gb448) (o := .cells #[.int .i64 a2_0, .slice A2_1 l2_1.length c2_1] 27 (0, 0)) (by (with_reducible repeat (first | refine blk_drewN ?_ _ | refine blk_drew ?_ | refine blk_alloc ?_ _)); exact BK448.out) hb); have n5_ := Aside0.mk (blk_below (g := gb476) (o := .cells #[.int .i64 t465, .int .i64 t466, .int .i64 t467, .int .i64 t468, .slice Ao37 t469.length co37, .slice Ao38 t472.length co38] 32 (0, 0)) (by (with_reducible repeat (first | refine blk_drewN ?_ _ | refine blk_drew ?_ | refine blk_alloc ?_ _)); exact BK476.out) hb); have n6_ := Aside0.mk (below_step (by repeat (first | (with_reducible first | exact HB.out | apply below_alloc | apply pw_below_drewN | apply below_drew1 | refine below_set ?_ GE448.out | refine below_set ?_ GE476.out) | exact HB.out)) hb); have n7_ := Aside0.mk (hbox); have n8_ := Aside0.mk ((by rw [hg]; exact (below_size (by repeat (first | (with_reducible first | exact HB.out | apply below_alloc | apply pw_below_drewN | apply below_drew1 | refine below_set ?_ GE448.out | refine below_set ?_ GE476.out) | exact HB.out))) : w.heap.size ≤ gb482)); have n9_ := Aside0.mk ((by rw [hg]; exact (below_size (by repeat (first | (with_reducible first | exact HB.out | apply below_alloc | apply pw_below_drewN | apply below_drew1 | refine below_set ?_ GE448.out | refine below_set ?_ GE476.out) | exact HB.out))) : w.heap.size ≤ gb482)); have n10_ := Aside0.mk ((by rw [hg]; exact Nat.ne_of_lt (blk_lt (g := gb448) (o := .cells #[.int .i64 a2_0, .slice A2_1 l2_1.length c2_1] 27 (0, 0)) (by (with_reducible repeat (first | refine blk_drewN ?_ _ | refine blk_drew ?_ | refine blk_alloc ?_ _)); exact BK448.out)) : gb448 ≠ gb482)); have n11_ := Aside0.mk ((by rw [hg]; exact Nat.ne_of_gt (blk_lt (g := gb448) (o := .cells #[.int .i64 a2_0, .slice A2_1 l2_1.length c2_1] 27 (0, 0)) (by (with_reducible repeat (first | refine blk_drewN ?_ _ | refine blk_drew ?_ | refine blk_alloc ?_ _)); exact BK448.out)) : gb482 ≠ gb448)); have n12_ := Aside0.mk ((by rw [hg]; exact Nat.ne_of_lt (blk_lt (g := gb476) (o := .cells #[.int .i64 t465, .int .i64 t466, .int .i64 t467, .int .i64 t468, .slice Ao37 t469.length co37, .slice Ao38 t472.length co38] 32 (0, 0)) (by (with_reducible repeat (first | refine blk_drewN ?_ _ | refine blk_drew ?_ | refine blk_alloc ?_ _)); exact BK476.out)) : gb476 ≠ gb482)); have n13_ := Aside0.mk ((by rw [hg]; exact Nat.ne_of_gt (blk_lt (g := gb476) (o := .cells #[.int .i64 t465, .int .i64 t466, .int .i64 t467, .int .i64 t468, .slice Ao37 t469.length co37, .slice Ao38 t472.length co38] 32 (0, 0)) (by (with_reducible repeat (first | refine blk_drewN ?_ _ | refine blk_drew ?_ | refine blk_alloc ?_ _)); exact BK476.out)) : gb482 ≠ gb476)); clear HO_7; clear HO471; clear HO474; clear HO480; clear BK448; clear BK476; clear HB; have HO_7 := n0_; have HO471 := n1_; have HO474 := n2_; have HO480 := n3_; have BK448 := n4_; have BK476 := n5_; have HB := n6_; have BK482 := n7_; have GW482 := n8_; have GE482 := n9_; have NB448_482 := n10_; have NB482_448 := n11_; have NB476_482 := n12_; have NB482_476 := n13_; clear n0_ n1_ n2_ n3_ n4_ n5_ n6_ n7_ n8_ n9_ n10_ n11_ n12_ n13_; clear hb hbox hg; have hnb42 := NB482_448.out; have hnc42 := NB448_482.out; have hnb43 := NB482_476.out; have hnc43 := NB476_482.out; have hcz44_0 : w41.cell? ⟨gb482, 0, none⟩ = some (.int .i64 0) := (blk_cell BK482.out 0).trans rfl; have hcz44_1 : w41.cell? ⟨gb482, 1, none⟩ = some (.slice none 0 0) := (blk_cell BK482.out 1).trans rfl; have hfz44_0 := blk_frozen BK482.out 0; have hfz44_1 := blk_frozen BK482.out 1; obtain ⟨Ao45, co45, eo45⟩ := Kd.R_slice HO480.out; subst eo45; have hcz46_0 : w41.cell? ⟨gb476, 0, none⟩ = some (.int .i64 t465) := (blk_cell BK476.out 0).trans rfl; have hcz46_1 : w41.cell? ⟨gb476, 1, none⟩ = some (.int .i64 t466) := (blk_cell BK476.out 1).trans rfl; have hcz46_2 : w41.cell? ⟨gb476, 2, none⟩ = some (.int .i64 t467) := (blk_cell BK476.out 2).trans rfl; have hcz46_3 : w41.cell? ⟨gb476, 3, none⟩ = some (.int .i64 t468) := (blk_cell BK476.out 3).trans rfl; have hcz46_4 : w41.cell? ⟨gb476, 4, none⟩ = some (.slice Ao37 t469.length co37) := (blk_cell BK476.out 4).trans rfl; have hcz46_5 : w41.cell? ⟨gb476, 5, none⟩ = some (.slice Ao38 t472.length co38) := (blk_cell BK476.out 5).trans rfl; have hfz46_0 := blk_frozen BK476.out 0; have hfz46_1 := blk_frozen BK476.out 1; have hfz46_2 := blk_frozen BK476.out 2; have hfz46_3 := blk_frozen BK476.out 3; have hfz46_4 := blk_frozen BK476.out 4; have hfz46_5 := blk_frozen BK476.out 5) | ((with_reducible refine gate_callee (f := 15) rfl ?_); refine goesL_ (some 71) rfl rfl Try.func15 (by kernel_rfl) rfl #[.agg #[.int .i64 t465, .int .i64 t466, .int .i64 t467, .int .i64 t468, .slice Ao37 t469.length co37, .slice Ao38 t472.length co38], .agg #[.int .i64 t465, .int .i64 t466, .int .i64 t467, .int .i64 t468, .slice Ao37 t469.length co37, .slice Ao38 t472.length co38]] rfl (by (try simp only [List.map_toArray, List.map_cons, List.map_nil]); first | done | rfl | (simp only [List.length_drop, List.length_take]; rfl)) ?_; (with_reducible refine (chalklineref35_Msgs.calls k2 t465 t466 t467 t468 _ _ t469 _ _ t472 t465 t466 t467 t468 _ _ t469 _ _ t472 t483 _ ?side1 ?side2 ?side3 ?side4 ?side5 ?side6 ?side7 ?side8 A31.out).mono ?_); (case side1 => refine (Kd.R_reads' (e := 60) (base := w.heap.size) (ok := fun k_ => (True ∧ some k_ ≠ (.slice Ao45 t478.length co45 : Value).ownBlock)) (n := t469.length) (c := co37) ?_).2.2; exact (by (with_reducible repeat (first | apply Kd.R_alloc | apply Kd.R_drewN | apply Kd.R_drew)); exact (Kd.R_mono (Kd.R_far (p := ⟨gb482, 1, none⟩) (Kd.R_far (p := ⟨gb482, 0, none⟩) (Kd.R_types HO471.out BK482.out (by decide)) (fun _ hk => hk.2) (.int .i64 t477)) (fun _ hk => hk.2) (.slice Ao45 t478.length co45)) (fun _ h_ => h_.1)))); (case side2 => exact (Kd.R_reads' HO471.out).2.1); (case side3 => refine (Kd.R_reads' (e := 64) (base := w.heap.size) (ok := fun k_ => True) (n := t472.length) (c := co38) ?_).2.2; exact (by (with_reducible repeat (first | apply Kd.R_alloc | apply Kd.R_drewN | apply Kd.R_drew)); exact (Kd.R_mono (Kd.R_far (p := ⟨gb482, 1, none⟩) (Kd.R_far (p := ⟨gb482, 0, none⟩) (Kd.R_types HO474.out BK482.out (by decide)) (fun _ hk => hk.2) (.int .i64 t477)) (fun _ hk => hk.2) (.slice Ao45 t478.length co45)) (fun _ h_ => h_.1)))); (case side4 => exact (Kd.R_reads' HO474.out).2.1); (case side5 => refine (Kd.R_reads' (e := 60) (base := w.heap.size) (ok := fun k_ => (True ∧ some k_ ≠ (.slice Ao45 t478.length co45 : Value).ownBlock)) (n := t469.length) (c := co37) ?_).2.2; exact (by (with_reducible repeat (first | apply Kd.R_alloc | apply Kd.R_drewN | apply Kd.R_drew)); exact (Kd.R_mono (Kd.R_far (p := ⟨gb482, 1, none⟩) (Kd.R_far (p := ⟨gb482, 0, none⟩) (Kd.R_types HO471.out BK482.out (by decide)) (fun _ hk => hk.2) (.int .i64 t477)) (fun _ hk => hk.2) (.slice Ao45 t478.length co45)) (fun _ h_ => h_.1)))); (case side6 => exact (Kd.R_reads' HO471.out).2.1); (case side7 => refine (Kd.R_reads' (e := 64) (base := w.heap.size) (ok := fun k_ => True) (n := t472.length) (c := co38) ?_).2.2; exact (by (with_reducible repeat (first | apply Kd.R_alloc | apply Kd.R_drewN | apply Kd.R_drew)); exact (Kd.R_mono (Kd.R_far (p := ⟨gb482, 1, none⟩) (Kd.R_far (p := ⟨gb482, 0, none⟩) (Kd.R_types HO474.out BK482.out (by decide)) (fun _ hk => hk.2) (.int .i64 t477)) (fun _ hk => hk.2) (.slice Ao45 t478.length co45)) (fun _ h_ => h_.1)))); (case side8 => exact (Kd.R_reads' HO474.out).2.1); rintro e w47 ⟨rfl, hb⟩; refine ⟨_, rfl, ?_⟩; have n0_ := Aside0.mk (Kd.S_below (by (with_reducible repeat (first | apply Kd.S_alloc | apply Kd.S_drewN | apply Kd.S_drew)); exact (Kd.S_mono (Kd.S_far (p := ⟨gb482, 1, none⟩) (Kd.S_far (p := ⟨gb482, 0, none⟩) (Kd.S_types HO_7.out BK482.out (by decide)) (fun _ hk => hk.2) (.int .i64 t477)) (fun _ hk => hk.2) (.slice Ao45 t478.length co45)) (fun _ h_ => h_.1))) hb); have n1_ := Aside0.mk (Kd.R_below (by (with_reducible repeat (first | apply Kd.R_alloc | apply Kd.R_drewN | apply Kd.R_drew)); exact (Kd.R_mono (Kd.R_far (p := ⟨gb482, 1, none⟩) (Kd.R_far (p := ⟨gb482, 0, none⟩) (Kd.R_types HO471.out BK482.out (by decide)) (fun _ hk => hk.2) (.int .i64 t477)) (fun _ hk => hk.2) (.slice Ao45 t478.length co45)) (fun _ h_ => h_.1))) hb); have n2_ := Aside0.mk (Kd.R_below (by (with_reducible repeat (first | apply Kd.R_alloc | apply Kd.R_drewN | apply Kd.R_drew)); exact (Kd.R_mono (Kd.R_far (p := ⟨gb482, 1, none⟩) (Kd.R_far (p := ⟨gb482, 0, none⟩) (Kd.R_types HO474.out BK482.out (by decide)) (fun _ hk => hk.2) (.int .i64 t477)) (fun _ hk => hk.2) (.slice Ao45 t478.length co45)) (fun _ h_ => h_.1))) hb); have n3_ := Aside0.mk (Kd.R_below (by (with_reducible repeat (first | apply Kd.R_alloc | apply Kd.R_drewN | apply Kd.R_drew)); exact (Kd.R_mono (Kd.R_far (p := ⟨gb482, 1, none⟩) (Kd.R_far (p := ⟨gb482, 0, none⟩) (Kd.R_types HO480.out BK482.out (by decide)) (fun _ hk => hk.2) (.int .i64 t477)) (fun _ hk => hk.2) (.slice Ao45 t478.length co45)) (fun _ h_ => h_.1))) hb); have n4_ := Aside0.mk (blk_below (g := gb448) (o := .cells #[.int .i64 a2_0, .slice A2_1 l2_1.length c2_1] 27 (0, 0)) (by (with_reducible repeat (first | refine blk_drewN ?_ _ | refine blk_drew ?_ | refine blk_alloc ?_ _)); refine blk_far ?_ NB448_482.out _; (with_reducible repeat (first | refine blk_drewN ?_ _ | refine blk_drew ?_ | refine blk_alloc ?_ _)); refine blk_far ?_ NB448_482.out _; (with_reducible repeat (first | refine blk_drewN ?_ _ | refine blk_drew ?_ | refine blk_alloc ?_ _)); exact BK448.out) hb); have n5_ := Aside0.mk (blk_below (g := gb476) (o := .cells #[.int .i64 t465, .int .i64 t466, .int .i64 t467, .int .i64 t468, .slice Ao37 t469.length co37, .slice Ao38 t472.length co38] 32 (0, 0)) (by (with_reducible repeat (first | refine blk_drewN ?_ _ | refine blk_drew ?_ | refine blk_alloc ?_ _)); refine blk_far ?_ NB476_482.out _; (with_reducible repeat (first | refine blk_drewN ?_ _ | refine blk_drew ?_ | refine blk_alloc ?_ _)); refine blk_far ?_ NB476_482.out _; (with_reducible repeat (first | refine blk_drewN ?_ _ | refine blk_drew ?_ | refine blk_alloc ?_ _)); exact BK476.out) hb); have n6_ := Aside0.mk (blk_below (g := gb482) (o := .cells #[.int .i64 t477, .slice Ao45 t478.length co45] 27 (0, 0)) (by (with_reducible repeat (first | refine blk_drewN ?_ _ | refine blk_drew ?_ | refine blk_alloc ?_ _)); refine blk_put (cs := #[.int .i64 t477, .slice none 0 0]) ?_ 1 _ rfl; (with_reducible repeat (first | refine blk_drewN ?_ _ | refine blk_drew ?_ | refine blk_alloc ?_ _)); refine blk_put (cs := #[.int .i64 0, .slice none 0 0]) ?_ 0 _ rfl; (with_reducible repeat (first | refine blk_drewN ?_ _ | refine blk_drew ?_ | refine blk_alloc ?_ _)); exact BK482.out) hb); have n7_ := Aside0.mk (below_step (by repeat (first | (with_reducible first | exact HB.out | apply below_alloc | apply pw_below_drewN | apply below_drew1 | refine below_set ?_ GE448.out | refine below_set ?_ GE476.out | refine below_set ?_ GE482.out) | exact HB.out)) hb); clear HO_7; clear HO471; clear HO474; clear HO480; clear BK448; clear BK476; clear BK482; clear HB; have HO_7 := n0_; have HO471 := n1_; have HO474 := n2_; have HO480 := n3_; have BK448 := n4_; have BK476 := n5_; have BK482 := n6_; have HB := n7_; clear n0_ n1_ n2_ n3_ n4_ n5_ n6_ n7_; (try clear hb); (try clear hb2); (try clear hk); (try clear hi)))
                  (try simp only [Act.put, List.setIfInBounds_toArray, List.set_cons_zero, List.set_cons_succ])
                  go_cut [] (fun wc => ∃ (kq : Nat) (x477004_31 : List (S60)) (x483001_31 : List (S60)) (u477004 : Value) (u483001 : Value), Aside0 (chalklinelaw35_FeedNoAlias.j3 kq l0 a1 x7_2 t483 t465 t466 t467 t468 x477004_31 t472 = some r) ∧ Aside0 (kq ≤ k2) ∧ Aside0 (Kd.S k25 25 wc w.heap.size (fun k_ => some k_ ≠ (u477004 : Value).ownBlock ∧ some k_ ≠ (u483001 : Value).ownBlock) u7 x7_2) ∧ Aside0 (Kd.R k60 60 wc w.heap.size (fun k_ => some k_ ≠ (u483001 : Value).ownBlock) u477004 x477004_31) ∧ Aside0 (Kd.R k64 64 wc w.heap.size (fun _ => True) (.slice Ao38 t472.length co38) t472) ∧ Aside0 (Kd.R k60 60 wc w.heap.size (fun k_ => some k_ ≠ (u477004 : Value).ownBlock) u483001 x483001_31) ∧ Aside0 (wc.heap[gb448]? = some (.cells #[.int .i64 a2_0, (.slice A2_1 l2_1.length c2_1)] 27 (0, 0))) ∧ Aside0 (wc.heap[gb476]? = some (.cells #[.int .i64 t465, .int .i64 t466, .int .i64 t467, .int .i64 t468, u477004, (.slice Ao38 t472.length co38)] 32 (0, 0))) ∧ Aside0 (wc.heap[gb482]? = some (.cells #[.int .i64 t477, u483001] 27 (0, 0))) ∧ Aside0 (Below w.heap.size w wc))
                  case first =>
                    have H := HC32.out
                    clear HC32
                    have H' := Aside0.mk H
                    clear H
                    go_wp2
                    go_loopg [14] k2 (fun kq v14 w' => ∃ (x14_3 : Int) (x477004_3 : List (S60)) (x483001_3 : List (S60)) (u477004 : Value) (u483001 : Value), v14 = .int .i64 x14_3 ∧ Aside0 (chalklinelaw35_FeedNoAlias.l1 kq l0 a1 x7_2 t481 t483 x14_3 t465 t466 t467 t468 x477004_3 t472 t477 x483001_3 = some r) ∧ Aside0 (kq ≤ k2) ∧ Aside0 (Kd.S k25 25 w' w.heap.size (fun k_ => some k_ ≠ (u477004 : Value).ownBlock ∧ some k_ ≠ (u483001 : Value).ownBlock) u7 x7_2) ∧ Aside0 (Kd.R k60 60 w' w.heap.size (fun k_ => some k_ ≠ (u483001 : Value).ownBlock) u477004 x477004_3) ∧ Aside0 (Kd.R k64 64 w' w.heap.size (fun _ => True) (.slice Ao38 t472.length co38) t472) ∧ Aside0 (Kd.R k60 60 w' w.heap.size (fun k_ => some k_ ≠ (u477004 : Value).ownBlock) u483001 x483001_3) ∧ Aside0 (w'.heap[gb448]? = some (.cells #[.int .i64 a2_0, (.slice A2_1 l2_1.length c2_1)] 27 (0, 0))) ∧ Aside0 (w'.heap[gb476]? = some (.cells #[.int .i64 t465, .int .i64 t466, .int .i64 t467, .int .i64 t468, u477004, (.slice Ao38 t472.length co38)] 32 (0, 0))) ∧ Aside0 (w'.heap[gb482]? = some (.cells #[.int .i64 t477, u483001] 27 (0, 0))) ∧ Aside0 (Below w.heap.size w w'))
                    case atStart => exact ⟨(0), (t469), (t478), (.slice Ao37 t469.length co37), (.slice Ao45 t478.length co45), (by first | rfl | (simp; done) | (simp [*]; done)), H', ⟨Nat.le_refl _⟩, ⟨by (with_reducible repeat (first | apply Kd.S_alloc | apply Kd.S_drewN | apply Kd.S_drew)); exact Kd.S_mono HO_7.out (fun _ hk => ⟨hk.1.2, hk.2⟩)⟩, ⟨by (with_reducible repeat (first | apply Kd.R_alloc | apply Kd.R_drewN | apply Kd.R_drew)); exact Kd.R_mono HO471.out (fun _ hk => hk.2)⟩, ⟨by (with_reducible repeat (first | apply Kd.R_alloc | apply Kd.R_drewN | apply Kd.R_drew)); exact HO474.out⟩, ⟨by (with_reducible repeat (first | apply Kd.R_alloc | apply Kd.R_drewN | apply Kd.R_drew)); exact Kd.R_mono HO480.out (fun _ hk => hk.2)⟩, ⟨by (with_reducible repeat (first | refine blk_drewN ?_ _ | refine blk_drew ?_ | refine blk_alloc ?_ _)); exact BK448.out⟩, ⟨by (with_reducible repeat (first | refine blk_drewN ?_ _ | refine blk_drew ?_ | refine blk_alloc ?_ _)); exact BK476.out⟩, ⟨by (with_reducible repeat (first | refine blk_drewN ?_ _ | refine blk_drew ?_ | refine blk_alloc ?_ _)); exact BK482.out⟩, ⟨by repeat (first | (with_reducible first | exact HB.out | apply below_alloc | apply pw_below_drewN | apply below_drew1 | refine below_set ?_ GE448.out | refine below_set ?_ GE476.out | refine below_set ?_ GE482.out) | exact HB.out)⟩⟩
                    case round =>
                      clear H'
                      try clear c1
                      try clear c2
                      try clear p2
                      try clear c3
                      try clear c4
                      try clear p4
                      try clear q4
                      try clear hx4
                      try clear c5
                      try clear p6
                      try clear c10
                      try clear c11
                      try clear c11b0
                      try clear c11b1
                      try clear c12
                      try clear c13
                      try clear c15
                      try clear c16
                      try clear c19
                      try clear c19b0
                      try clear c20
                      try clear c20b0
                      try clear c21
                      try clear c22
                      try clear c29
                      try clear c29b0
                      try clear c29b1
                      try clear c35
                      try clear c42
                      try clear c43
                      try clear c45
                      try clear p45
                      try clear q45
                      try clear hx45
                      try clear hcz12_0
                      try clear hcz12_1
                      try clear hcz14_0
                      try clear hcz14_1
                      try clear hcz36_0
                      try clear hcz36_1
                      try clear hcz36_2
                      try clear hcz36_3
                      try clear hcz36_4
                      try clear hcz36_5
                      try clear hcz39_0
                      try clear hcz39_1
                      try clear hcz44_0
                      try clear hcz44_1
                      try clear hcz46_0
                      try clear hcz46_1
                      try clear hcz46_2
                      try clear hcz46_3
                      try clear hcz46_4
                      try clear hcz46_5
                      try clear hfz12_0
                      try clear hfz12_1
                      try clear hfz14_0
                      try clear hfz14_1
                      try clear hfz36_0
                      try clear hfz36_1
                      try clear hfz36_2
                      try clear hfz36_3
                      try clear hfz36_4
                      try clear hfz36_5
                      try clear hfz39_0
                      try clear hfz39_1
                      try clear hfz44_0
                      try clear hfz44_1
                      try clear hfz46_0
                      try clear hfz46_1
                      try clear hfz46_2
                      try clear hfz46_3
                      try clear hfz46_4
                      try clear hfz46_5
                      try clear hx458_0
                      try clear hx458_1
                      try clear hx458_2
                      try clear hx458_3
                      try clear p2
                      try clear p458
                      try clear q458
                      obtain ⟨x14_3, x477004_3, x483001_3, u477004, u483001, rfl, HA, HK3, HO_7, HO_477004, HO_477005, HO_483001, BK448, BK476, BK482, HB⟩ := hrel
                      cases gk with
                      | zero => exact absurd HA.out (by simp [chalklinelaw35_FeedNoAlias.l1])
                      | succ k3 =>
                        have H := HA.out
                        clear HA
                        simp only [chalklinelaw35_FeedNoAlias.l1] at H
                        by_cases c48 : t481 = 0
                        · rw [if_pos c48] at H
                          have c48b0 : (t481 == 0) = true := beq_iff_eq.mpr c48
                          have c48b1 : (t481 != 0) = false := bne_eq_false_iff_eq.mpr c48
                          clear c48
                          (first | rw [c48b0] | (simp only [i64_w, i32_w]; rw [c48b0]) | skip)
                          by_cases c49 : x14_3 < (x483001_3.length : Int)
                          · rw [if_pos c49] at H
                            have c49b0 : decide (x14_3 < (x483001_3.length : Int)) = true := decide_eq_true c49
                            clear c49
                            by_cases c50 : 0 ≤ x14_3
                            · rw [if_pos c50] at H
                              have c50b0 : decide (0 ≤ x14_3) = true := decide_eq_true c50
                              clear c50
                              obtain ⟨y485, hy485⟩ : ∃ y_ : List (S60), y_ = (x483001_3.set (x14_3 : Int).toNat (⟨wrap64 (((rd_T60 x483001_3 x14_3).f0) + 1), (rd_T60 x483001_3 x14_3).f1⟩ : S60)) := ⟨_, rfl⟩
                              replace H : (chalklinelaw35_FeedNoAlias.l1 k3 l0 a1 x7_2 t481 t483 (wrap64 (x14_3 + 1)) t465 t466 t467 t468 x477004_3 t472 t477 y485) = some r := by first | (rw [hy485]; with_reducible exact H) | (have H2_ := (Option.bind_some _ _).symm.trans H; rw [hy485]; with_reducible exact H2_) | (have H2_ := (Option.bind_some _ _).symm.trans H; with_reducible exact H2_) | with_reducible exact H | (rw [hy485]; exact H) | exact H
                              have Ny485 := Aside0.mk hy485
                              clear hy485
                              have H' := Aside0.mk H
                              clear H
                              have hnb52 := NB482_448.out
                              have hnc52 := NB448_482.out
                              have hnb53 := NB482_476.out
                              have hnc53 := NB476_482.out
                              have hcz54_0 : wr.cell? ⟨gb482, 0, none⟩ = some (.int .i64 t477) := (blk_cell BK482.out 0).trans rfl
                              have hcz54_1 : wr.cell? ⟨gb482, 1, none⟩ = some (u483001) := (blk_cell BK482.out 1).trans rfl
                              have hfz54_0 := blk_frozen BK482.out 0
                              have hfz54_1 := blk_frozen BK482.out 1
                              obtain ⟨Ao55, co55, eo55⟩ := Kd.R_slice HO_483001.out
                              subst eo55
                              try go_wp2
                              have n0_ := Aside0.mk (Kd.S_drew HO_7.out)
                              have n1_ := Aside0.mk (Kd.R_drew HO_477004.out)
                              have n2_ := Aside0.mk (Kd.R_drew HO_477005.out)
                              have n3_ := Aside0.mk (Kd.R_drew HO_483001.out)
                              have n4_ := Aside0.mk (blk_drew BK448.out)
                              have n5_ := Aside0.mk (blk_drew BK476.out)
                              have n6_ := Aside0.mk (blk_drew BK482.out)
                              have n7_ := Aside0.mk (below_drew1 HB.out)
                              clear HO_7
                              clear HO_477004
                              clear HO_477005
                              clear HO_483001
                              clear BK448
                              clear BK476
                              clear BK482
                              clear HB
                              have HO_7 := n0_
                              have HO_477004 := n1_
                              have HO_477005 := n2_
                              have HO_483001 := n3_
                              have BK448 := n4_
                              have BK476 := n5_
                              have BK482 := n6_
                              have HB := n7_
                              clear n0_ n1_ n2_ n3_ n4_ n5_ n6_ n7_
                              have p484 : 0 ≤ (x14_3 : Int) := of_decide_eq_true (by first | (with_reducible assumption) | assumption)
                              have q484 : x14_3 < (x483001_3.length : Int) := of_decide_eq_true (by first | (with_reducible assumption) | assumption)
                              obtain ⟨ad484, e484, hx484_0, hx484_1⟩ := at_T60 (Kd.R_reads' HO_483001.out).2.2 x14_3 p484 q484
                              cases e484
                              replace p484 := eq_true p484
                              replace q484 := eq_true q484
                              have p51 : 0 ≤ (x14_3 : Int) := of_decide_eq_true (by first | (with_reducible assumption) | assumption)
                              have q51 : (x14_3 : Int) < ((x483001_3.length : Int) : Int) := of_decide_eq_true (by first | (with_reducible assumption) | assumption)
                              obtain ⟨go51, co51, eo51, gb51, gl51, cl51, HG51⟩ := Kd.R_form HO_483001.out (by omega)
                              (first | cases eo51 | (injection eo51 with ea_ en_ ec_; (first | subst ea_ | (injection ea_ with ea_; subst ea_)); subst ec_; clear en_))
                              have GB51 := Aside0.mk gb51
                              have GG51 := Aside0.mk HG51
                              clear gb51 gl51 HG51
                              (first | simp only [add_plain] at hx484_0 | skip)
                              (first | simp only [add_plain] at hx484_1 | skip)
                              obtain ⟨ce51, hcl51, hM51, hcc51, hfr51⟩ := Kd.R_elem HO_483001.out z60 (x14_3 : Int) p51 q51
                              obtain rfl := k60_openM hM51
                              have hx51_0 : World.cell? _ ⟨go51, (x14_3 : Int).toNat * 2, none⟩ = some (.int .i64 ((rd_T60 x483001_3 x14_3).f0)) := hcc51 0 _ rfl
                              have hx51_1 : World.cell? _ ⟨go51, (x14_3 : Int).toNat * 2 + 1, none⟩ = some (.int .i64 ((rd_T60 x483001_3 x14_3).f1)) := hcc51 1 _ rfl
                              have hf51_0 : World.frozen? _ ⟨go51, (x14_3 : Int).toNat * 2, none⟩ = false := hfr51 0
                              have hf51_1 : World.frozen? _ ⟨go51, (x14_3 : Int).toNat * 2 + 1, none⟩ = false := hfr51 1
                              clear hcl51 hcc51 hfr51 hM51
                              replace p51 := eq_true p51
                              replace q51 := eq_true q51
                              obtain ⟨ce57, hcl57, hM57, hcc57, hfr57⟩ := Kd.R_elem HO_483001.out z60 (x14_3 : Int) (of_decide_eq_true (by first | (with_reducible assumption) | assumption)) (by have h_ : (x14_3 : Int) < ((x483001_3.length : Int) : Int) := of_decide_eq_true (by first | (with_reducible assumption) | assumption); first | exact h_ | (have e_ := (Kd.R_reads' HO_483001.out).1; omega) | simpa using h_)
                              obtain rfl := k60_openM hM57
                              have HP57 := (Kd.R_seg HO_483001.out (x14_3 : Int) (of_decide_eq_true (by first | (with_reducible assumption) | assumption)) (by have h_ : (x14_3 : Int) < ((x483001_3.length : Int) : Int) := of_decide_eq_true (by first | (with_reducible assumption) | assumption); first | exact h_ | (have e_ := (Kd.R_reads' HO_483001.out).1; omega) | simpa using h_) (seg := [.int .i64 (wrap64 (((rd_T60 x483001_3 x14_3).f0) + 1))]) (j := 0) hcl57 hcc57 (show 1 ≤ 2 from by decide) (x' := (⟨wrap64 (((rd_T60 x483001_3 x14_3).f0) + 1), (rd_T60 x483001_3 x14_3).f1⟩ : S60)) (k60_mkM _ _ _ (⟨wrap64 (((rd_T60 x483001_3 x14_3).f0) + 1), (rd_T60 x483001_3 x14_3).f1⟩ : S60) ) (fun _ hk => hk)).1
                              rw [← Ny485.out] at HP57
                              have HQ57 := Aside0.mk HP57
                              clear hcl57 hcc57 hfr57 hM57 HP57
                              refine start_ (n := 15) (S := fun w' => w'.cell? ⟨gb482, 0, none⟩ = some (.int .i64 t477) ∧ w'.cell? ⟨gb482, 1, none⟩ = some (.slice (some ⟨go51, 0, none⟩) x483001_3.length co55) ∧ w'.cell? ⟨go51, ((x14_3).toNat * 2), none⟩ = some (.int .i64 ((rd_T60 x483001_3 x14_3).f0)) ∧ w'.cell? ⟨go51, ((x14_3).toNat * 2) + 1, none⟩ = some (.int .i64 ((rd_T60 x483001_3 x14_3).f1))) (ds := [14]) #[false, false, false, false, false, false, false, false, false, false, false, false, false, false, false] (by kernel_rfl) rfl rfl ⟨(blk_cell BK482.out 0).trans rfl, (blk_cell BK482.out 1).trans rfl, hx484_0, hx484_1⟩ (fun hHeld => ?_); refine with_tabW chalklinelaw35_FeedNoAlias.tab18 chalklinelaw35_FeedNoAlias.bits18 (fun HT_ HW_ => ?_)
                              generalize wr.drew = w56 at HO_7 HO_477004 HO_477005 HO_483001 BK448 BK476 BK482 HB GG51 HQ57 hf51_0 hf51_1 hx484_0 hx484_1 hx51_0 hx51_1 hHeld ⊢
                              refine pure_ (i := 0) (N := some 84) (v := ?_) (a' := ?_) #[true, false, false, false, false, false, false, false, false, false, false, false, false, false, false] rfl rfl (any_of HT_.out (by kernel_rfl)) (fun _ _ _ h => h) (Or.inl ⟨by rfl, ?_⟩) ?_ ?_
                              rotate_left
                              · intro w'
                                go_simp
                                with_reducible rfl
                              rotate_left
                              · simp only [Act.put, List.setIfInBounds_toArray, List.set_cons_zero, List.set_cons_succ, i64_w, i32_w]
                                rfl
                              refine pure_ (i := 1) (N := some 85) (v := ?_) (a' := ?_) #[true, true, false, false, false, false, false, false, false, false, false, false, false, false, false] rfl rfl (any_of HT_.out (by kernel_rfl)) (fun _ _ _ h => h) (Or.inl ⟨by rfl, ?_⟩) ?_ ?_
                              rotate_left
                              · intro w'
                                go_simp
                                with_reducible rfl
                              rotate_left
                              · simp only [Act.put, List.setIfInBounds_toArray, List.set_cons_zero, List.set_cons_succ, i64_w, i32_w]
                                rfl
                              refine pure_ (i := 3) (N := some 87) (v := ?_) (a' := ?_) #[true, true, false, true, false, false, false, false, false, false, false, false, false, false, false] rfl rfl (any_of HT_.out (by kernel_rfl)) (fun _ _ _ h => h) (Or.inl ⟨by rfl, ?_⟩) ?_ ?_
                              rotate_left
                              · intro w'
                                go_simp
                                with_reducible rfl
                              rotate_left
                              · simp only [Act.put, List.setIfInBounds_toArray, List.set_cons_zero, List.set_cons_succ, i64_w, i32_w]
                                rfl
                              refine pure_ (i := 4) (N := some 88) (v := ?_) (a' := ?_) #[true, true, false, true, true, false, false, false, false, false, false, false, false, false, false] rfl rfl (any_of HT_.out (by kernel_rfl)) (fun _ _ _ h => h) (Or.inl ⟨by rfl, ?_⟩) ?_ ?_
                              rotate_left
                              · intro w'
                                go_simp
                                with_reducible rfl
                              rotate_left
                              · simp only [Act.put, List.setIfInBounds_toArray, List.set_cons_zero, List.set_cons_succ, i64_w, i32_w]
                                rfl
                              refine pure_ (i := 5) (N := some 89) (v := ?_) (a' := ?_) #[true, true, false, true, true, true, false, false, false, false, false, false, false, false, false] rfl rfl (any_of HT_.out (by kernel_rfl)) (fun _ _ _ h => h) (Or.inl ⟨by rfl, ?_⟩) ?_ ?_
                              rotate_left
                              · intro w'
                                go_simp
                                with_reducible rfl
                              rotate_left
                              · simp only [Act.put, List.setIfInBounds_toArray, List.set_cons_zero, List.set_cons_succ, i64_w, i32_w]
                                rfl
                              refine pure_ (i := 7) (N := some 91) (v := ?_) (a' := ?_) #[true, true, false, true, true, true, false, true, false, false, false, false, false, false, false] rfl rfl (any_of HT_.out (by kernel_rfl)) (fun _ _ _ h => h) (Or.inl ⟨by rfl, ?_⟩) ?_ ?_
                              rotate_left
                              · intro w'
                                go_simp
                                with_reducible rfl
                              rotate_left
                              · simp only [Act.put, List.setIfInBounds_toArray, List.set_cons_zero, List.set_cons_succ, i64_w, i32_w]
                                rfl
                              refine take_ (i := 2) (N := some 86) (v := ?_) (a' := ?_) #[true, true, true, true, true, true, false, true, false, false, false, false, false, false, false] rfl rfl (take_ofW HT_.out HW_.out (by kernel_rfl)) (fun _ _ _ h => h) (Or.inl ⟨by rfl, ?_⟩) hHeld ?_ ?_
                              rotate_left
                              · rintro w' ⟨s0, s1, s2, s3⟩
                                go_simp
                                with_reducible rfl
                              rotate_left
                              · simp only [Act.put, List.setIfInBounds_toArray, List.set_cons_zero, List.set_cons_succ, i64_w, i32_w]
                                rfl
                              refine take_ (i := 6) (N := some 90) (v := ?_) (a' := ?_) #[true, true, true, true, true, true, true, true, false, false, false, false, false, false, false] rfl rfl (take_ofW HT_.out HW_.out (by kernel_rfl)) (fun _ _ _ h => h) (Or.inl ⟨by rfl, ?_⟩) hHeld ?_ ?_
                              rotate_left
                              · rintro w' ⟨s0, s1, s2, s3⟩
                                go_simp
                                with_reducible rfl
                              rotate_left
                              · simp only [Act.put, List.setIfInBounds_toArray, List.set_cons_zero, List.set_cons_succ, i64_w, i32_w]
                                rfl
                              refine pure_ (i := 8) (N := some 92) (v := ?_) (a' := ?_) #[true, true, true, true, true, true, true, true, true, false, false, false, false, false, false] rfl rfl (any_of HT_.out (by kernel_rfl)) (fun _ _ _ h => h) (Or.inl ⟨by rfl, ?_⟩) ?_ ?_
                              rotate_left
                              · intro w'
                                go_simp
                                with_reducible rfl
                              rotate_left
                              · simp only [Act.put, List.setIfInBounds_toArray, List.set_cons_zero, List.set_cons_succ, i64_w, i32_w]
                                rfl
                              refine pure_ (i := 9) (N := some 93) (v := ?_) (a' := ?_) #[true, true, true, true, true, true, true, true, true, true, false, false, false, false, false] rfl rfl (any_of HT_.out (by kernel_rfl)) (fun _ _ _ h => h) (Or.inl ⟨by rfl, ?_⟩) ?_ ?_
                              rotate_left
                              · intro w'
                                go_simp
                                with_reducible rfl
                              rotate_left
                              · simp only [Act.put, List.setIfInBounds_toArray, List.set_cons_zero, List.set_cons_succ, i64_w, i32_w]
                                rfl
                              refine take_ (i := 10) (N := some 94) (v := ?_) (a' := ?_) #[true, true, true, true, true, true, true, true, true, true, true, false, false, false, false] rfl rfl (take_ofW HT_.out HW_.out (by kernel_rfl)) (fun _ _ _ h => h) (Or.inl ⟨by rfl, ?_⟩) hHeld ?_ ?_
                              rotate_left
                              · rintro w' ⟨s0, s1, s2, s3⟩
                                go_simp
                                with_reducible rfl
                              rotate_left
                              · simp only [Act.put, List.setIfInBounds_toArray, List.set_cons_zero, List.set_cons_succ, i64_w, i32_w]
                                rfl
                              refine pure_ (i := 11) (N := some 95) (v := ?_) (a' := ?_) #[true, true, true, true, true, true, true, true, true, true, true, true, false, false, false] rfl rfl (any_of HT_.out (by kernel_rfl)) (fun _ _ _ h => h) (Or.inl ⟨by rfl, ?_⟩) ?_ ?_
                              rotate_left
                              · intro w'
                                go_simp
                                with_reducible rfl
                              rotate_left
                              · simp only [Act.put, List.setIfInBounds_toArray, List.set_cons_zero, List.set_cons_succ, i64_w, i32_w]
                                rfl
                              refine pure_ (i := 12) (N := some 96) (v := ?_) (a' := ?_) #[true, true, true, true, true, true, true, true, true, true, true, true, true, false, false] rfl rfl (any_of HT_.out (by kernel_rfl)) (fun _ _ _ h => h) (Or.inl ⟨by rfl, ?_⟩) ?_ ?_
                              rotate_left
                              · intro w'
                                go_simp
                                with_reducible rfl
                              rotate_left
                              · simp only [Act.put, List.setIfInBounds_toArray, List.set_cons_zero, List.set_cons_succ, i64_w, i32_w]
                                rfl
                              refine pure_ (i := 13) (N := some 97) (v := ?_) (a' := ?_) #[true, true, true, true, true, true, true, true, true, true, true, true, true, true, false] rfl rfl (any_of HT_.out (by kernel_rfl)) (fun _ _ _ h => h) (Or.inl ⟨by rfl, ?_⟩) ?_ ?_
                              rotate_left
                              · intro w'
                                go_simp
                                with_reducible rfl
                              rotate_left
                              · simp only [Act.put, List.setIfInBounds_toArray, List.set_cons_zero, List.set_cons_succ, i64_w, i32_w]
                                rfl
                              refine last_ (i := 14) (N := none) #[true, true, true, true, true, true, true, true, true, true, true, true, true, true, true] rfl rfl (one_of HT_.out (by kernel_rfl)) (by decide) (fun K hK => ?_)
                              refine skip_ (w1 := ?_) (by rfl) rfl ?_ ?_
                              rotate_left
                              · go_simp
                                rfl
                              refine hK.out _ _ ?_
                              clear hK K
                              refine done_ (done_of HT_.out (by kernel_rfl)) ?_
                              try go_wp2
                              go_roundg k3
                              case measure => have := HJ5.out; have := HK2.out; have := HK3.out; omega
                              case rel => exact ⟨(wrap64 (x14_3 + 1)), (x477004_3), (y485), (u477004), (.slice (some ⟨go51, 0, none⟩) x483001_3.length co55), (by first | rfl | (simp; done) | (simp [*]; done)), H', ⟨by have := HJ5.out; have := HK2.out; have := HK3.out; omega⟩, ⟨by (with_reducible repeat (first | apply Kd.S_alloc | apply Kd.S_drewN | apply Kd.S_drew)); exact Kd.S_mono (Kd.S_far (p := ⟨go51, (x14_3 : Int).toNat * 2, none⟩) (Kd.S_mono HO_7.out (fun k_ hk => (⟨hk, fun e_ => hk.2 (by rw [e_]; rfl)⟩ : _ ∧ k_ ≠ go51))) (fun _ hk => hk.2) (.int .i64 (wrap64 (((rd_T60 x483001_3 x14_3).f0) + 1)))) (fun _ hk => ⟨hk.1.1, hk.1.2⟩)⟩, ⟨by (with_reducible repeat (first | apply Kd.R_alloc | apply Kd.R_drewN | apply Kd.R_drew)); exact Kd.R_mono (Kd.R_far (p := ⟨go51, (x14_3 : Int).toNat * 2, none⟩) (Kd.R_mono HO_477004.out (fun k_ hk => (⟨hk, fun e_ => hk (by rw [e_]; rfl)⟩ : _ ∧ k_ ≠ go51))) (fun _ hk => hk.2) (.int .i64 (wrap64 (((rd_T60 x483001_3 x14_3).f0) + 1)))) (fun _ hk => hk.1)⟩, ⟨by (with_reducible repeat (first | apply Kd.R_alloc | apply Kd.R_drewN | apply Kd.R_drew)); exact Kd.R_mono (Kd.R_far (p := ⟨go51, (x14_3 : Int).toNat * 2, none⟩) (Kd.R_types HO_477005.out GG51.out (by decide)) (fun _ hk => hk.2) (.int .i64 (wrap64 (((rd_T60 x483001_3 x14_3).f0) + 1)))) (fun _ hk => trivial)⟩, ⟨by (with_reducible repeat (first | apply Kd.R_alloc | apply Kd.R_drewN | apply Kd.R_drew)); exact HQ57.out⟩, ⟨by (with_reducible repeat (first | refine blk_drewN ?_ _ | refine blk_drew ?_ | refine blk_alloc ?_ _)); refine blk_far ?_ (by have h_ := Kd.R_ne HO_483001.out BK448.out (by decide); intro e_; exact h_ (by rw [e_]; rfl)) _; (with_reducible repeat (first | refine blk_drewN ?_ _ | refine blk_drew ?_ | refine blk_alloc ?_ _)); exact BK448.out⟩, ⟨by (with_reducible repeat (first | refine blk_drewN ?_ _ | refine blk_drew ?_ | refine blk_alloc ?_ _)); refine blk_far ?_ (by have h_ := Kd.R_ne HO_483001.out BK476.out (by decide); intro e_; exact h_ (by rw [e_]; rfl)) _; (with_reducible repeat (first | refine blk_drewN ?_ _ | refine blk_drew ?_ | refine blk_alloc ?_ _)); exact BK476.out⟩, ⟨by (with_reducible repeat (first | refine blk_drewN ?_ _ | refine blk_drew ?_ | refine blk_alloc ?_ _)); refine blk_far ?_ (by have h_ := Kd.R_ne HO_483001.out BK482.out (by decide); intro e_; exact h_ (by rw [e_]; rfl)) _; (with_reducible repeat (first | refine blk_drewN ?_ _ | refine blk_drew ?_ | refine blk_alloc ?_ _)); exact BK482.out⟩, ⟨by repeat (first | (with_reducible first | exact HB.out | apply below_alloc | apply pw_below_drewN | apply below_drew1 | refine below_set ?_ GB51.out | refine below_set ?_ GE448.out | refine below_set ?_ GE476.out | refine below_set ?_ GE482.out) | exact HB.out)⟩⟩
                            · rw [if_neg c50] at H
                              exact absurd H (by simp)
                          · rw [if_neg c49] at H
                            have c49b0 : decide (x14_3 < (x483001_3.length : Int)) = false := decide_eq_false c49
                            clear c49
                            have H' := Aside0.mk H
                            clear H
                            have hnb58 := NB482_448.out
                            have hnc58 := NB448_482.out
                            have hnb59 := NB482_476.out
                            have hnc59 := NB476_482.out
                            have hcz60_0 : wr.cell? ⟨gb482, 0, none⟩ = some (.int .i64 t477) := (blk_cell BK482.out 0).trans rfl
                            have hcz60_1 : wr.cell? ⟨gb482, 1, none⟩ = some (u483001) := (blk_cell BK482.out 1).trans rfl
                            have hfz60_0 := blk_frozen BK482.out 0
                            have hfz60_1 := blk_frozen BK482.out 1
                            obtain ⟨Ao61, co61, eo61⟩ := Kd.R_slice HO_483001.out
                            subst eo61
                            go_wp2
                            go_meet
                            case rel => exact ⟨_, (x477004_3), (x483001_3), (u477004), (.slice Ao61 x483001_3.length co61), H', ⟨by have := HJ5.out; have := HK2.out; have := HK3.out; first | omega | exact Nat.le_refl _⟩, ⟨by (with_reducible repeat (first | apply Kd.S_alloc | apply Kd.S_drewN | apply Kd.S_drew)); exact HO_7.out⟩, ⟨by (with_reducible repeat (first | apply Kd.R_alloc | apply Kd.R_drewN | apply Kd.R_drew)); exact HO_477004.out⟩, ⟨by (with_reducible repeat (first | apply Kd.R_alloc | apply Kd.R_drewN | apply Kd.R_drew)); exact HO_477005.out⟩, ⟨by (with_reducible repeat (first | apply Kd.R_alloc | apply Kd.R_drewN | apply Kd.R_drew)); exact HO_483001.out⟩, ⟨by (with_reducible repeat (first | refine blk_drewN ?_ _ | refine blk_drew ?_ | refine blk_alloc ?_ _)); exact BK448.out⟩, ⟨by (with_reducible repeat (first | refine blk_drewN ?_ _ | refine blk_drew ?_ | refine blk_alloc ?_ _)); exact BK476.out⟩, ⟨by (with_reducible repeat (first | refine blk_drewN ?_ _ | refine blk_drew ?_ | refine blk_alloc ?_ _)); exact BK482.out⟩, ⟨by repeat (first | (with_reducible first | exact HB.out | apply below_alloc | apply pw_below_drewN | apply below_drew1 | refine below_set ?_ GE448.out | refine below_set ?_ GE476.out | refine below_set ?_ GE482.out) | exact HB.out)⟩⟩
                        · rw [if_neg c48] at H
                          have c48b0 : (t481 == 0) = false := beq_eq_false_iff_ne.mpr c48
                          have c48b1 : (t481 != 0) = true := bne_iff_ne.mpr c48
                          (first | rw [c48b0] | (simp only [i64_w, i32_w]; rw [c48b0]) | skip)
                          have H' := Aside0.mk H
                          clear H
                          go_wp2
                          go_meet
                          case rel => exact ⟨_, (x477004_3), (x483001_3), (u477004), (u483001), H', ⟨by have := HJ5.out; have := HK2.out; have := HK3.out; first | omega | exact Nat.le_refl _⟩, ⟨by (with_reducible repeat (first | apply Kd.S_alloc | apply Kd.S_drewN | apply Kd.S_drew)); exact HO_7.out⟩, ⟨by (with_reducible repeat (first | apply Kd.R_alloc | apply Kd.R_drewN | apply Kd.R_drew)); exact HO_477004.out⟩, ⟨by (with_reducible repeat (first | apply Kd.R_alloc | apply Kd.R_drewN | apply Kd.R_drew)); exact HO_477005.out⟩, ⟨by (with_reducible repeat (first | apply Kd.R_alloc | apply Kd.R_drewN | apply Kd.R_drew)); exact HO_483001.out⟩, ⟨by (with_reducible repeat (first | refine blk_drewN ?_ _ | refine blk_drew ?_ | refine blk_alloc ?_ _)); exact BK448.out⟩, ⟨by (with_reducible repeat (first | refine blk_drewN ?_ _ | refine blk_drew ?_ | refine blk_alloc ?_ _)); exact BK476.out⟩, ⟨by (with_reducible repeat (first | refine blk_drewN ?_ _ | refine blk_drew ?_ | refine blk_alloc ?_ _)); exact BK482.out⟩, ⟨by repeat (first | (with_reducible first | exact HB.out | apply below_alloc | apply pw_below_drewN | apply below_drew1 | refine below_set ?_ GE448.out | refine below_set ?_ GE476.out | refine below_set ?_ GE482.out) | exact HB.out)⟩⟩
                  case rest =>
                    clear HC32
                    try clear c1
                    try clear c2
                    try clear p2
                    try clear c3
                    try clear c4
                    try clear p4
                    try clear q4
                    try clear hx4
                    try clear c5
                    try clear p5
                    try clear q5
                    try clear hx5
                    try clear hf5
                    try clear p6
                    try clear c10
                    try clear c11
                    try clear c11b0
                    try clear c11b1
                    try clear c12
                    try clear c13
                    try clear c15
                    try clear c16
                    try clear c19
                    try clear c19b0
                    try clear c20
                    try clear c20b0
                    try clear c21
                    try clear c22
                    try clear c29
                    try clear c29b0
                    try clear c29b1
                    try clear c35
                    try clear c42
                    try clear c43
                    try clear c45
                    try clear p45
                    try clear q45
                    try clear hx45
                    try clear c48
                    try clear c48b0
                    try clear c48b1
                    try clear p48
                    try clear q48
                    try clear hx48
                    try clear c49
                    try clear c49b0
                    try clear c50
                    try clear c50b0
                    try clear c51
                    try clear p51
                    try clear q51
                    try clear hx51
                    try clear hf51
                    try clear c52
                    try clear c53
                    try clear c57
                    try clear c58
                    try clear c59
                    try clear hcz12_0
                    try clear hcz12_1
                    try clear hcz14_0
                    try clear hcz14_1
                    try clear hcz36_0
                    try clear hcz36_1
                    try clear hcz36_2
                    try clear hcz36_3
                    try clear hcz36_4
                    try clear hcz36_5
                    try clear hcz39_0
                    try clear hcz39_1
                    try clear hcz44_0
                    try clear hcz44_1
                    try clear hcz46_0
                    try clear hcz46_1
                    try clear hcz46_2
                    try clear hcz46_3
                    try clear hcz46_4
                    try clear hcz46_5
                    try clear hcz54_0
                    try clear hcz54_1
                    try clear hcz60_0
                    try clear hcz60_1
                    try clear hfz12_0
                    try clear hfz12_1
                    try clear hfz14_0
                    try clear hfz14_1
                    try clear hfz36_0
                    try clear hfz36_1
                    try clear hfz36_2
                    try clear hfz36_3
                    try clear hfz36_4
                    try clear hfz36_5
                    try clear hfz39_0
                    try clear hfz39_1
                    try clear hfz44_0
                    try clear hfz44_1
                    try clear hfz46_0
                    try clear hfz46_1
                    try clear hfz46_2
                    try clear hfz46_3
                    try clear hfz46_4
                    try clear hfz46_5
                    try clear hfz54_0
                    try clear hfz54_1
                    try clear hfz60_0
                    try clear hfz60_1
                    try clear hx458_0
                    try clear hx458_1
                    try clear hx458_2
                    try clear hx458_3
                    try clear hx484_0
                    try clear hx484_1
                    try clear hx51_0
                    try clear hx51_1
                    try clear p2
                    try clear p4
                    try clear p45
                    try clear p458
                    try clear p484
                    try clear p51
                    try clear p6
                    try clear q4
                    try clear q45
                    try clear q458
                    try clear q484
                    try clear q51
                    obtain ⟨kq, x477004_31, x483001_31, u477004, u483001, HA, HJ31, HO_7, HO_477004, HO_477005, HO_483001, BK448, BK476, BK482, HB⟩ := hcut
                    cases kq with
                    | zero => exact absurd HA.out (by simp [chalklinelaw35_FeedNoAlias.j3])
                    | succ kj31 =>
                      have H := HA.out
                      clear HA
                      simp only [chalklinelaw35_FeedNoAlias.j3] at H
                      replace H := Option.bind_eq_some_iff.mp H
                      obtain ⟨⟨t486, t487, t488, t489, t490, t493, t496⟩, A620, H⟩ := H
                      replace H : (if t496 = 0 then ((chalklineref35_Msgs.f kj31 t465 t466 t467 t468 x477004_31 t472 t486 t487 t488 t489 t490 t493).bind fun t498 => (chalklinelaw35_FeedNoAlias.j4 kj31 l0 x7_2 t483 (!t498) t465 t466 t467 t468 x477004_31 t472)) else (chalklinelaw35_FeedNoAlias.j4 kj31 l0 x7_2 t483 true t465 t466 t467 t468 x477004_31 t472)) = some r := H
                      have A62 := Aside0.mk A620
                      clear A620
                      have HC63 := Aside0.mk H
                      clear H
                      go_upto_region 20 with (first | ((with_reducible refine gate_callee (f := 13) rfl ?_); refine goesL_ (some 101) rfl rfl Try.func13 (by kernel_rfl) rfl #[.slice A0 l0.length c0, .int .i64 a1, .int .i64 0] rfl (by (try simp only [List.map_toArray, List.map_cons, List.map_nil]); first | done | rfl | (simp only [List.length_drop, List.length_take]; rfl)) ?_; (with_reducible refine (feed_Reply.calls kj31 _ _ l0 a1 0 t486 t487 t488 t489 t490 t493 t496 _ ?side1 ?side2 A62.out).mono ?_); (case side1 => repeat (first | exact (Kd.C_below HR0.out HB.out) | (with_reducible refine Kd.C_alloc ?_ _) | (with_reducible refine Kd.C_drewN ?_ _) | (with_reducible refine Kd.C_drew ?_))); (case side2 => exact HC0.out); rintro e w64 ⟨v491, v494, rfl, ho0, ho1, hb⟩; refine ⟨_, rfl, ?_⟩; have n0_ := Aside0.mk (Kd.S_elder' (by (with_reducible repeat (first | apply Kd.S_alloc | apply Kd.S_drewN | apply Kd.S_drew)); exact HO_7.out) (Kd.R_base ho0) hb); have n1_ := Aside0.mk (Kd.R_elder' (by (with_reducible repeat (first | apply Kd.R_alloc | apply Kd.R_drewN | apply Kd.R_drew)); exact HO_477004.out) (Kd.R_base ho0) hb); have n2_ := Aside0.mk (Kd.R_elder' (by (with_reducible repeat (first | apply Kd.R_alloc | apply Kd.R_drewN | apply Kd.R_drew)); exact HO_477005.out) (Kd.R_base ho1) hb); have n3_ := Aside0.mk (Kd.R_elder' (by (with_reducible repeat (first | apply Kd.R_alloc | apply Kd.R_drewN | apply Kd.R_drew)); exact HO_483001.out) (Kd.R_base ho0) hb); have n4_ := Aside0.mk (Kd.R_lower (Kd.R_new' (Kd.R_new' ho0 (Kd.R_lt (by (with_reducible repeat (first | apply Kd.R_alloc | apply Kd.R_drewN | apply Kd.R_drew)); exact HO_477004.out))) (Kd.R_lt (by (with_reducible repeat (first | apply Kd.R_alloc | apply Kd.R_drewN | apply Kd.R_drew)); exact HO_483001.out))) (below_size (by repeat (first | (with_reducible first | exact HB.out | apply below_alloc | apply pw_below_drewN | apply below_drew1 | refine below_set ?_ GE448.out | refine below_set ?_ GE476.out | refine below_set ?_ GE482.out) | exact HB.out)))); have n5_ := Aside0.mk (Kd.R_lower (Kd.R_new' ho1 (Kd.R_lt (by (with_reducible repeat (first | apply Kd.R_alloc | apply Kd.R_drewN | apply Kd.R_drew)); exact HO_477005.out))) (below_size (by repeat (first | (with_reducible first | exact HB.out | apply below_alloc | apply pw_below_drewN | apply below_drew1 | refine below_set ?_ GE448.out | refine below_set ?_ GE476.out | refine below_set ?_ GE482.out) | exact HB.out)))); have n6_ := Aside0.mk (blk_below (g := gb448) (o := .cells #[.int .i64 a2_0, .slice A2_1 l2_1.length c2_1] 27 (0, 0)) (by (with_reducible repeat (first | refine blk_drewN ?_ _ | refine blk_drew ?_ | refine blk_alloc ?_ _)); exact BK448.out) hb); have n7_ := Aside0.mk (blk_below (g := gb476) (o := .cells #[.int .i64 t465, .int .i64 t466, .int .i64 t467, .int .i64 t468, u477004, .slice Ao38 t472.length co38] 32 (0, 0)) (by (with_reducible repeat (first | refine blk_drewN ?_ _ | refine blk_drew ?_ | refine blk_alloc ?_ _)); exact BK476.out) hb); have n8_ := Aside0.mk (blk_below (g := gb482) (o := .cells #[.int .i64 t477, u483001] 27 (0, 0)) (by (with_reducible repeat (first | refine blk_drewN ?_ _ | refine blk_drew ?_ | refine blk_alloc ?_ _)); exact BK482.out) hb); have n9_ := Aside0.mk (below_step (by repeat (first | (with_reducible first | exact HB.out | apply below_alloc | apply pw_below_drewN | apply below_drew1 | refine below_set ?_ GE448.out | refine below_set ?_ GE476.out | refine below_set ?_ GE482.out) | exact HB.out)) hb); clear HO_7; clear HO_477004; clear HO_477005; clear HO_483001; clear BK448; clear BK476; clear BK482; clear HB; have HO_7 := n0_; have HO_477004 := n1_; have HO_477005 := n2_; have HO_483001 := n3_; have HO492 := n4_; have HO495 := n5_; have BK448 := n6_; have BK476 := n7_; have BK482 := n8_; have HB := n9_; clear n0_ n1_ n2_ n3_ n4_ n5_ n6_ n7_ n8_ n9_; (try clear hb); (try clear hb2); (try clear hk); (try clear hi); (try clear ho0); (try clear ho1)) | ((with_reducible refine gate_dst (N := 15) rfl ?_); (try (refine gate_guard (by rfl) ?_; dsimp only)); refine box_event ?hg (N := 15) ?hd (cs := #[.int .i64 0, .int .i64 0, .int .i64 0, .int .i64 0, .slice none 0 0, .slice none 0 0]) (t := 32) ?hr ?_; (case hd => rfl); (case hg => rfl); (case hr => first | (go_simp; done) | (go_simp; rfl)); intro gb497 hg w65 hbox hb; have n0_ := Aside0.mk (Kd.S_below (by (with_reducible repeat (first | apply Kd.S_alloc | apply Kd.S_drewN | apply Kd.S_drew)); exact HO_7.out) hb); have n1_ := Aside0.mk (Kd.R_below (by (with_reducible repeat (first | apply Kd.R_alloc | apply Kd.R_drewN | apply Kd.R_drew)); exact HO_477004.out) hb); have n2_ := Aside0.mk (Kd.R_below (by (with_reducible repeat (first | apply Kd.R_alloc | apply Kd.R_drewN | apply Kd.R_drew)); exact HO_477005.out) hb); have n3_ := Aside0.mk (Kd.R_below (by (with_reducible repeat (first | apply Kd.R_alloc | apply Kd.R_drewN | apply Kd.R_drew)); exact HO_483001.out) hb); have n4_ := Aside0.mk (Kd.R_below (by (with_reducible repeat (first | apply Kd.R_alloc | apply Kd.R_drewN | apply Kd.R_drew)); exact HO492.out) hb); have n5_ := Aside0.mk (Kd.R_below (by (with_reducible repeat (first | apply Kd.R_alloc | apply Kd.R_drewN | apply Kd.R_drew)); exact HO495.out) hb); have n6_ := Aside0.mk (blk_below (g := gb448) (o := .cells #[.int .i64 a2_0, .slice A2_1 l2_1.length c2_1] 27 (0, 0)) (by (with_reducible repeat (first | refine blk_drewN ?_ _ | refine blk_drew ?_ | refine blk_alloc ?_ _)); exact BK448.out) hb); have n7_ := Aside0.mk (blk_below (g := gb476) (o := .cells #[.int .i64 t465, .int .i64 t466, .int .i64 t467, .int .i64 t468, u477004, .slice Ao38 t472.length co38] 32 (0, 0)) (by (with_reducible repeat (first | refine blk_drewN ?_ _ | refine blk_drew ?_ | refine blk_alloc ?_ _)); exact BK476.out) hb); have n8_ := Aside0.mk (blk_below (g := gb482) (o := .cells #[.int .i64 t477, u483001] 27 (0, 0)) (by (with_reducible repeat (first | refine blk_drewN ?_ _ | refine blk_drew ?_ | refine blk_alloc ?_ _)); exact BK482.out) hb); have n9_ := Aside0.mk (below_step (by repeat (first | (with_reducible first | exact HB.out | apply below_alloc | apply pw_below_drewN | apply below_drew1 | refine below_set ?_ GE448.out | refine below_set ?_ GE476.out | refine below_set ?_ GE482.out) | exact HB.out)) hb); have n10_ := Aside0.mk (hbox); have n11_ := Aside0.mk ((by rw [hg]; exact (below_size (by repeat (first | (with_reducible first | exact HB.out | apply below_alloc | apply pw_below_drewN | apply below_drew1 | refine below_set ?_ GE448.out | refine below_set ?_ GE476.out | refine below_set ?_ GE482.out) | exact HB.out))) : w.heap.size ≤ gb497)); have n12_ := Aside0.mk ((by rw [hg]; exact (below_size (by repeat (first | (with_reducible first | exact HB.out | apply below_alloc | apply pw_below_drewN | apply below_drew1 | refine below_set ?_ GE448.out | refine below_set ?_ GE476.out | refine below_set ?_ GE482.out) | exact HB.out))) : w.heap.size ≤ gb497)); have n13_ := Aside0.mk ((by rw [hg]; exact Nat.ne_of_lt (blk_lt (g := gb448) (o := .cells #[.int .i64 a2_0, .slice A2_1 l2_1.length c2_1] 27 (0, 0)) (by (with_reducible repeat (first | refine blk_drewN ?_ _ | refine blk_drew ?_ | refine blk_alloc ?_ _)); exact BK448.out)) : gb448 ≠ gb497)); have n14_ := Aside0.mk ((by rw [hg]; exact Nat.ne_of_gt (blk_lt (g := gb448) (o := .cells #[.int .i64 a2_0, .slice A2_1 l2_1.length c2_1] 27 (0, 0)) (by (with_reducible repeat (first | refine blk_drewN ?_ _ | refine blk_drew ?_ | refine blk_alloc ?_ _)); exact BK448.out)) : gb497 ≠ gb448)); have n15_ := Aside0.mk ((by rw [hg]; exact Nat.ne_of_lt (blk_lt (g := gb476) (o := .cells #[.int .i64 t465, .int .i64 t466, .int .i64 t467, .int .i64 t468, u477004, .slice Ao38 t472.length co38] 32 (0, 0)) (by (with_reducible repeat (first | refine blk_drewN ?_ _ | refine blk_drew ?_ | refine blk_alloc ?_ _)); exact BK476.out)) : gb476 ≠ gb497)); have n16_ := Aside0.mk ((by rw [hg]; exact Nat.ne_of_gt (blk_lt (g := gb476) (o := .cells #[.int .i64 t465, .int .i64 t466, .int .i64 t467, .int .i64 t468, u477004, .slice Ao38 t472.length co38] 32 (0, 0)) (by (with_reducible repeat (first | refine blk_drewN ?_ _ | refine blk_drew ?_ | refine blk_alloc ?_ _)); exact BK476.out)) : gb497 ≠ gb476)); have n17_ := Aside0.mk ((by rw [hg]; exact Nat.ne_of_lt (blk_lt (g := gb482) (o := .cells #[.int .i64 t477, u483001] 27 (0, 0)) (by (with_reducible repeat (first | refine blk_drewN ?_ _ | refine blk_drew ?_ | refine blk_alloc ?_ _)); exact BK482.out)) : gb482 ≠ gb497)); have n18_ := Aside0.mk ((by rw [hg]; exact Nat.ne_of_gt (blk_lt (g := gb482) (o := .cells #[.int .i64 t477, u483001] 27 (0, 0)) (by (with_reducible repeat (first | refine blk_drewN ?_ _ | refine blk_drew ?_ | refine blk_alloc ?_ _)); exact BK482.out)) : gb497 ≠ gb482)); clear HO_7; clear HO_477004; clear HO_477005; clear HO_483001; clear HO492; clear HO495; clear BK448; clear BK476; clear BK482; clear HB; have HO_7 := n0_; have HO_477004 := n1_; have HO_477005 := n2_; have HO_483001 := n3_; have HO492 := n4_; have HO495 := n5_; have BK448 := n6_; have BK476 := n7_; have BK482 := n8_; have HB := n9_; have BK497 := n10_; have GW497 := n11_; have GE497 := n12_; have NB448_497 := n13_; have NB497_448 := n14_; have NB476_497 := n15_; have NB497_476 := n16_; have NB482_497 := n17_; have NB497_482 := n18_; clear n0_ n1_ n2_ n3_ n4_ n5_ n6_ n7_ n8_ n9_ n10_ n11_ n12_ n13_ n14_ n15_ n16_ n17_ n18_; clear hb hbox hg; have hnb66 := NB497_448.out; have hnc66 := NB448_497.out; have hnb67 := NB497_476.out; have hnc67 := NB476_497.out; have hnb68 := NB497_482.out; have hnc68 := NB482_497.out; have hcz69_0 : w65.cell? ⟨gb497, 0, none⟩ = some (.int .i64 0) := (blk_cell BK497.out 0).trans rfl; have hcz69_1 : w65.cell? ⟨gb497, 1, none⟩ = some (.int .i64 0) := (blk_cell BK497.out 1).trans rfl; have hcz69_2 : w65.cell? ⟨gb497, 2, none⟩ = some (.int .i64 0) := (blk_cell BK497.out 2).trans rfl; have hcz69_3 : w65.cell? ⟨gb497, 3, none⟩ = some (.int .i64 0) := (blk_cell BK497.out 3).trans rfl; have hcz69_4 : w65.cell? ⟨gb497, 4, none⟩ = some (.slice none 0 0) := (blk_cell BK497.out 4).trans rfl; have hcz69_5 : w65.cell? ⟨gb497, 5, none⟩ = some (.slice none 0 0) := (blk_cell BK497.out 5).trans rfl; have hfz69_0 := blk_frozen BK497.out 0; have hfz69_1 := blk_frozen BK497.out 1; have hfz69_2 := blk_frozen BK497.out 2; have hfz69_3 := blk_frozen BK497.out 3; have hfz69_4 := blk_frozen BK497.out 4; have hfz69_5 := blk_frozen BK497.out 5; obtain ⟨Ao70, co70, eo70⟩ := Kd.R_slice HO492.out; subst eo70; obtain ⟨Ao71, co71, eo71⟩ := Kd.R_slice HO495.out; subst eo71))
                      (try simp only [Act.put, List.setIfInBounds_toArray, List.set_cons_zero, List.set_cons_succ])
                      go_cut [111] (fun v111 wc => ∃ (kq : Nat) (x111_62 : Bool), v111 = .bool x111_62 ∧ Aside0 (chalklinelaw35_FeedNoAlias.j4 kq l0 x7_2 t483 x111_62 t465 t466 t467 t468 x477004_31 t472 = some r) ∧ Aside0 (kq ≤ kj31) ∧ Aside0 (Kd.S k25 25 wc w.heap.size (fun k_ => some k_ ≠ (u477004 : Value).ownBlock ∧ some k_ ≠ (u483001 : Value).ownBlock ∧ some k_ ≠ ((.slice Ao70 t490.length co70) : Value).ownBlock) u7 x7_2) ∧ Aside0 (Kd.R k60 60 wc w.heap.size (fun k_ => some k_ ≠ (u483001 : Value).ownBlock ∧ some k_ ≠ ((.slice Ao70 t490.length co70) : Value).ownBlock) u477004 x477004_31) ∧ Aside0 (Kd.R k64 64 wc w.heap.size (fun k_ => some k_ ≠ ((.slice Ao71 t493.length co71) : Value).ownBlock) (.slice Ao38 t472.length co38) t472) ∧ Aside0 (Kd.R k60 60 wc w.heap.size (fun k_ => some k_ ≠ (u477004 : Value).ownBlock ∧ some k_ ≠ ((.slice Ao70 t490.length co70) : Value).ownBlock) u483001 x483001_31) ∧ Aside0 (Kd.R k60 60 wc w.heap.size (fun k_ => some k_ ≠ (u477004 : Value).ownBlock ∧ some k_ ≠ (u483001 : Value).ownBlock) (.slice Ao70 t490.length co70) t490) ∧ Aside0 (Kd.R k64 64 wc w.heap.size (fun k_ => some k_ ≠ ((.slice Ao38 t472.length co38) : Value).ownBlock) (.slice Ao71 t493.length co71) t493) ∧ Aside0 (wc.heap[gb448]? = some (.cells #[.int .i64 a2_0, (.slice A2_1 l2_1.length c2_1)] 27 (0, 0))) ∧ Aside0 (wc.heap[gb476]? = some (.cells #[.int .i64 t465, .int .i64 t466, .int .i64 t467, .int .i64 t468, u477004, (.slice Ao38 t472.length co38)] 32 (0, 0))) ∧ Aside0 (wc.heap[gb482]? = some (.cells #[.int .i64 t477, u483001] 27 (0, 0))) ∧ Aside0 (wc.heap[gb497]? = some (.cells #[.int .i64 t486, .int .i64 t487, .int .i64 t488, .int .i64 t489, (.slice Ao70 t490.length co70), (.slice Ao71 t493.length co71)] 32 (0, 0))) ∧ Aside0 (Below w.heap.size w wc))
                      case first =>
                        have H := HC63.out
                        clear HC63
                        by_cases c72 : t496 = 0
                        · rw [if_pos c72] at H
                          have c72b0 : (t496 == 0) = true := beq_iff_eq.mpr c72
                          have c72b1 : (t496 != 0) = false := bne_eq_false_iff_eq.mpr c72
                          clear c72
                          (first | rw [c72b0] | (simp only [i64_w, i32_w]; rw [c72b0]) | skip)
                          replace H := Option.bind_eq_some_iff.mp H
                          obtain ⟨t498, A730, H⟩ := H
                          replace H : (chalklinelaw35_FeedNoAlias.j4 kj31 l0 x7_2 t483 (!t498) t465 t466 t467 t468 x477004_31 t472) = some r := H
                          have A73 := Aside0.mk A730
                          clear A730
                          have H' := Aside0.mk H
                          clear H
                          have hnb74 := NB476_448.out
                          have hnc74 := NB448_476.out
                          have hnb75 := NB476_482.out
                          have hnc75 := NB482_476.out
                          have hnb76 := NB476_497.out
                          have hnc76 := NB497_476.out
                          have hcz77_0 : w65.cell? ⟨gb476, 0, none⟩ = some (.int .i64 t465) := (blk_cell BK476.out 0).trans rfl
                          have hcz77_1 : w65.cell? ⟨gb476, 1, none⟩ = some (.int .i64 t466) := (blk_cell BK476.out 1).trans rfl
                          have hcz77_2 : w65.cell? ⟨gb476, 2, none⟩ = some (.int .i64 t467) := (blk_cell BK476.out 2).trans rfl
                          have hcz77_3 : w65.cell? ⟨gb476, 3, none⟩ = some (.int .i64 t468) := (blk_cell BK476.out 3).trans rfl
                          have hcz77_4 : w65.cell? ⟨gb476, 4, none⟩ = some (u477004) := (blk_cell BK476.out 4).trans rfl
                          have hcz77_5 : w65.cell? ⟨gb476, 5, none⟩ = some (.slice Ao38 t472.length co38) := (blk_cell BK476.out 5).trans rfl
                          have hfz77_0 := blk_frozen BK476.out 0
                          have hfz77_1 := blk_frozen BK476.out 1
                          have hfz77_2 := blk_frozen BK476.out 2
                          have hfz77_3 := blk_frozen BK476.out 3
                          have hfz77_4 := blk_frozen BK476.out 4
                          have hfz77_5 := blk_frozen BK476.out 5
                          have hnb78 := NB497_448.out
                          have hnc78 := NB448_497.out
                          have hnb79 := NB497_482.out
                          have hnc79 := NB482_497.out
                          have hcz80_0 : w65.cell? ⟨gb497, 0, none⟩ = some (.int .i64 0) := (blk_cell BK497.out 0).trans rfl
                          have hcz80_1 : w65.cell? ⟨gb497, 1, none⟩ = some (.int .i64 0) := (blk_cell BK497.out 1).trans rfl
                          have hcz80_2 : w65.cell? ⟨gb497, 2, none⟩ = some (.int .i64 0) := (blk_cell BK497.out 2).trans rfl
                          have hcz80_3 : w65.cell? ⟨gb497, 3, none⟩ = some (.int .i64 0) := (blk_cell BK497.out 3).trans rfl
                          have hcz80_4 : w65.cell? ⟨gb497, 4, none⟩ = some (.slice none 0 0) := (blk_cell BK497.out 4).trans rfl
                          have hcz80_5 : w65.cell? ⟨gb497, 5, none⟩ = some (.slice none 0 0) := (blk_cell BK497.out 5).trans rfl
                          have hfz80_0 := blk_frozen BK497.out 0
                          have hfz80_1 := blk_frozen BK497.out 1
                          have hfz80_2 := blk_frozen BK497.out 2
                          have hfz80_3 := blk_frozen BK497.out 3
                          have hfz80_4 := blk_frozen BK497.out 4
                          have hfz80_5 := blk_frozen BK497.out 5
                          obtain ⟨Ao81, co81, eo81⟩ := Kd.R_slice HO_477004.out
                          subst eo81
                          go_wp2_with (first | (go_at_call 15; (with_reducible refine (chalklineref35_Msgs.calls kj31 t465 t466 t467 t468 _ _ x477004_31 _ _ t472 t486 t487 t488 t489 _ _ t490 _ _ t493 t498 _ ?side1 ?side2 ?side3 ?side4 ?side5 ?side6 ?side7 ?side8 A73.out).mono ?_); (case side1 => refine (Kd.R_reads' (e := 60) (base := w.heap.size) (ok := fun k_ => (some k_ ≠ (u483001 : Value).ownBlock ∧ some k_ ≠ (.slice Ao70 t490.length co70 : Value).ownBlock)) (n := x477004_31.length) (c := co81) ?_).2.2; exact (by (with_reducible repeat (first | apply Kd.R_alloc | apply Kd.R_drewN | apply Kd.R_drew)); exact (Kd.R_mono (Kd.R_far (p := ⟨gb497, 5, none⟩) (Kd.R_far (p := ⟨gb497, 4, none⟩) (Kd.R_far (p := ⟨gb497, 3, none⟩) (Kd.R_far (p := ⟨gb497, 2, none⟩) (Kd.R_far (p := ⟨gb497, 1, none⟩) (Kd.R_far (p := ⟨gb497, 0, none⟩) (Kd.R_types HO_477004.out BK497.out (by decide)) (fun _ hk => hk.2) (.int .i64 t486)) (fun _ hk => hk.2) (.int .i64 t487)) (fun _ hk => hk.2) (.int .i64 t488)) (fun _ hk => hk.2) (.int .i64 t489)) (fun _ hk => hk.2) (.slice Ao70 t490.length co70)) (fun _ hk => hk.2) (.slice Ao71 t493.length co71)) (fun _ h_ => h_.1)))); (case side2 => exact (Kd.R_reads' HO_477004.out).2.1); (case side3 => refine (Kd.R_reads' (e := 64) (base := w.heap.size) (ok := fun k_ => (True ∧ some k_ ≠ (.slice Ao71 t493.length co71 : Value).ownBlock)) (n := t472.length) (c := co38) ?_).2.2; exact (by (with_reducible repeat (first | apply Kd.R_alloc | apply Kd.R_drewN | apply Kd.R_drew)); exact (Kd.R_mono (Kd.R_far (p := ⟨gb497, 5, none⟩) (Kd.R_far (p := ⟨gb497, 4, none⟩) (Kd.R_far (p := ⟨gb497, 3, none⟩) (Kd.R_far (p := ⟨gb497, 2, none⟩) (Kd.R_far (p := ⟨gb497, 1, none⟩) (Kd.R_far (p := ⟨gb497, 0, none⟩) (Kd.R_types HO_477005.out BK497.out (by decide)) (fun _ hk => hk.2) (.int .i64 t486)) (fun _ hk => hk.2) (.int .i64 t487)) (fun _ hk => hk.2) (.int .i64 t488)) (fun _ hk => hk.2) (.int .i64 t489)) (fun _ hk => hk.2) (.slice Ao70 t490.length co70)) (fun _ hk => hk.2) (.slice Ao71 t493.length co71)) (fun _ h_ => h_.1)))); (case side4 => exact (Kd.R_reads' HO_477005.out).2.1); (case side5 => refine (Kd.R_reads' (e := 60) (base := w.heap.size) (ok := fun k_ => ((True ∧ some k_ ≠ (.slice Ao81 x477004_31.length co81 : Value).ownBlock) ∧ some k_ ≠ (u483001 : Value).ownBlock)) (n := t490.length) (c := co70) ?_).2.2; exact (by (with_reducible repeat (first | apply Kd.R_alloc | apply Kd.R_drewN | apply Kd.R_drew)); exact (Kd.R_mono (Kd.R_far (p := ⟨gb497, 5, none⟩) (Kd.R_far (p := ⟨gb497, 4, none⟩) (Kd.R_far (p := ⟨gb497, 3, none⟩) (Kd.R_far (p := ⟨gb497, 2, none⟩) (Kd.R_far (p := ⟨gb497, 1, none⟩) (Kd.R_far (p := ⟨gb497, 0, none⟩) (Kd.R_types HO492.out BK497.out (by decide)) (fun _ hk => hk.2) (.int .i64 t486)) (fun _ hk => hk.2) (.int .i64 t487)) (fun _ hk => hk.2) (.int .i64 t488)) (fun _ hk => hk.2) (.int .i64 t489)) (fun _ hk => hk.2) (.slice Ao70 t490.length co70)) (fun _ hk => hk.2) (.slice Ao71 t493.length co71)) (fun _ h_ => h_.1)))); (case side6 => exact (Kd.R_reads' HO492.out).2.1); (case side7 => refine (Kd.R_reads' (e := 64) (base := w.heap.size) (ok := fun k_ => (True ∧ some k_ ≠ (.slice Ao38 t472.length co38 : Value).ownBlock)) (n := t493.length) (c := co71) ?_).2.2; exact (by (with_reducible repeat (first | apply Kd.R_alloc | apply Kd.R_drewN | apply Kd.R_drew)); exact (Kd.R_mono (Kd.R_far (p := ⟨gb497, 5, none⟩) (Kd.R_far (p := ⟨gb497, 4, none⟩) (Kd.R_far (p := ⟨gb497, 3, none⟩) (Kd.R_far (p := ⟨gb497, 2, none⟩) (Kd.R_far (p := ⟨gb497, 1, none⟩) (Kd.R_far (p := ⟨gb497, 0, none⟩) (Kd.R_types HO495.out BK497.out (by decide)) (fun _ hk => hk.2) (.int .i64 t486)) (fun _ hk => hk.2) (.int .i64 t487)) (fun _ hk => hk.2) (.int .i64 t488)) (fun _ hk => hk.2) (.int .i64 t489)) (fun _ hk => hk.2) (.slice Ao70 t490.length co70)) (fun _ hk => hk.2) (.slice Ao71 t493.length co71)) (fun _ h_ => h_.1)))); (case side8 => exact (Kd.R_reads' HO495.out).2.1); rintro e w82 ⟨rfl, hb⟩; have n0_ := Aside0.mk (Kd.S_below (by (with_reducible repeat (first | apply Kd.S_alloc | apply Kd.S_drewN | apply Kd.S_drew)); exact (Kd.S_mono (Kd.S_far (p := ⟨gb497, 5, none⟩) (Kd.S_far (p := ⟨gb497, 4, none⟩) (Kd.S_far (p := ⟨gb497, 3, none⟩) (Kd.S_far (p := ⟨gb497, 2, none⟩) (Kd.S_far (p := ⟨gb497, 1, none⟩) (Kd.S_far (p := ⟨gb497, 0, none⟩) (Kd.S_types HO_7.out BK497.out (by decide)) (fun _ hk => hk.2) (.int .i64 t486)) (fun _ hk => hk.2) (.int .i64 t487)) (fun _ hk => hk.2) (.int .i64 t488)) (fun _ hk => hk.2) (.int .i64 t489)) (fun _ hk => hk.2) (.slice Ao70 t490.length co70)) (fun _ hk => hk.2) (.slice Ao71 t493.length co71)) (fun _ h_ => h_.1))) hb); have n1_ := Aside0.mk (Kd.R_below (by (with_reducible repeat (first | apply Kd.R_alloc | apply Kd.R_drewN | apply Kd.R_drew)); exact (Kd.R_mono (Kd.R_far (p := ⟨gb497, 5, none⟩) (Kd.R_far (p := ⟨gb497, 4, none⟩) (Kd.R_far (p := ⟨gb497, 3, none⟩) (Kd.R_far (p := ⟨gb497, 2, none⟩) (Kd.R_far (p := ⟨gb497, 1, none⟩) (Kd.R_far (p := ⟨gb497, 0, none⟩) (Kd.R_types HO_477004.out BK497.out (by decide)) (fun _ hk => hk.2) (.int .i64 t486)) (fun _ hk => hk.2) (.int .i64 t487)) (fun _ hk => hk.2) (.int .i64 t488)) (fun _ hk => hk.2) (.int .i64 t489)) (fun _ hk => hk.2) (.slice Ao70 t490.length co70)) (fun _ hk => hk.2) (.slice Ao71 t493.length co71)) (fun _ h_ => h_.1))) hb); have n2_ := Aside0.mk (Kd.R_below (by (with_reducible repeat (first | apply Kd.R_alloc | apply Kd.R_drewN | apply Kd.R_drew)); exact (Kd.R_mono (Kd.R_far (p := ⟨gb497, 5, none⟩) (Kd.R_far (p := ⟨gb497, 4, none⟩) (Kd.R_far (p := ⟨gb497, 3, none⟩) (Kd.R_far (p := ⟨gb497, 2, none⟩) (Kd.R_far (p := ⟨gb497, 1, none⟩) (Kd.R_far (p := ⟨gb497, 0, none⟩) (Kd.R_types HO_477005.out BK497.out (by decide)) (fun _ hk => hk.2) (.int .i64 t486)) (fun _ hk => hk.2) (.int .i64 t487)) (fun _ hk => hk.2) (.int .i64 t488)) (fun _ hk => hk.2) (.int .i64 t489)) (fun _ hk => hk.2) (.slice Ao70 t490.length co70)) (fun _ hk => hk.2) (.slice Ao71 t493.length co71)) (fun _ h_ => h_.1))) hb); have n3_ := Aside0.mk (Kd.R_below (by (with_reducible repeat (first | apply Kd.R_alloc | apply Kd.R_drewN | apply Kd.R_drew)); exact (Kd.R_mono (Kd.R_far (p := ⟨gb497, 5, none⟩) (Kd.R_far (p := ⟨gb497, 4, none⟩) (Kd.R_far (p := ⟨gb497, 3, none⟩) (Kd.R_far (p := ⟨gb497, 2, none⟩) (Kd.R_far (p := ⟨gb497, 1, none⟩) (Kd.R_far (p := ⟨gb497, 0, none⟩) (Kd.R_types HO_483001.out BK497.out (by decide)) (fun _ hk => hk.2) (.int .i64 t486)) (fun _ hk => hk.2) (.int .i64 t487)) (fun _ hk => hk.2) (.int .i64 t488)) (fun _ hk => hk.2) (.int .i64 t489)) (fun _ hk => hk.2) (.slice Ao70 t490.length co70)) (fun _ hk => hk.2) (.slice Ao71 t493.length co71)) (fun _ h_ => h_.1))) hb); have n4_ := Aside0.mk (Kd.R_below (by (with_reducible repeat (first | apply Kd.R_alloc | apply Kd.R_drewN | apply Kd.R_drew)); exact (Kd.R_mono (Kd.R_far (p := ⟨gb497, 5, none⟩) (Kd.R_far (p := ⟨gb497, 4, none⟩) (Kd.R_far (p := ⟨gb497, 3, none⟩) (Kd.R_far (p := ⟨gb497, 2, none⟩) (Kd.R_far (p := ⟨gb497, 1, none⟩) (Kd.R_far (p := ⟨gb497, 0, none⟩) (Kd.R_types HO492.out BK497.out (by decide)) (fun _ hk => hk.2) (.int .i64 t486)) (fun _ hk => hk.2) (.int .i64 t487)) (fun _ hk => hk.2) (.int .i64 t488)) (fun _ hk => hk.2) (.int .i64 t489)) (fun _ hk => hk.2) (.slice Ao70 t490.length co70)) (fun _ hk => hk.2) (.slice Ao71 t493.length co71)) (fun _ h_ => h_.1))) hb); have n5_ := Aside0.mk (Kd.R_below (by (with_reducible repeat (first | apply Kd.R_alloc | apply Kd.R_drewN | apply Kd.R_drew)); exact (Kd.R_mono (Kd.R_far (p := ⟨gb497, 5, none⟩) (Kd.R_far (p := ⟨gb497, 4, none⟩) (Kd.R_far (p := ⟨gb497, 3, none⟩) (Kd.R_far (p := ⟨gb497, 2, none⟩) (Kd.R_far (p := ⟨gb497, 1, none⟩) (Kd.R_far (p := ⟨gb497, 0, none⟩) (Kd.R_types HO495.out BK497.out (by decide)) (fun _ hk => hk.2) (.int .i64 t486)) (fun _ hk => hk.2) (.int .i64 t487)) (fun _ hk => hk.2) (.int .i64 t488)) (fun _ hk => hk.2) (.int .i64 t489)) (fun _ hk => hk.2) (.slice Ao70 t490.length co70)) (fun _ hk => hk.2) (.slice Ao71 t493.length co71)) (fun _ h_ => h_.1))) hb); have n6_ := Aside0.mk (blk_below (g := gb448) (o := .cells #[.int .i64 a2_0, .slice A2_1 l2_1.length c2_1] 27 (0, 0)) (by (with_reducible repeat (first | refine blk_drewN ?_ _ | refine blk_drew ?_ | refine blk_alloc ?_ _)); refine blk_far ?_ NB448_497.out _; (with_reducible repeat (first | refine blk_drewN ?_ _ | refine blk_drew ?_ | refine blk_alloc ?_ _)); refine blk_far ?_ NB448_497.out _; (with_reducible repeat (first | refine blk_drewN ?_ _ | refine blk_drew ?_ | refine blk_alloc ?_ _)); refine blk_far ?_ NB448_497.out _; (with_reducible repeat (first | refine blk_drewN ?_ _ | refine blk_drew ?_ | refine blk_alloc ?_ _)); refine blk_far ?_ NB448_497.out _; (with_reducible repeat (first | refine blk_drewN ?_ _ | refine blk_drew ?_ | refine blk_alloc ?_ _)); refine blk_far ?_ NB448_497.out _; (with_reducible repeat (first | refine blk_drewN ?_ _ | refine blk_drew ?_ | refine blk_alloc ?_ _)); refine blk_far ?_ NB448_497.out _; (with_reducible repeat (first | refine blk_drewN ?_ _ | refine blk_drew ?_ | refine blk_alloc ?_ _)); exact BK448.out) hb); have n7_ := Aside0.mk (blk_below (g := gb476) (o := .cells #[.int .i64 t465, .int .i64 t466, .int .i64 t467, .int .i64 t468, .slice Ao81 x477004_31.length co81, .slice Ao38 t472.length co38] 32 (0, 0)) (by (with_reducible repeat (first | refine blk_drewN ?_ _ | refine blk_drew ?_ | refine blk_alloc ?_ _)); refine blk_far ?_ NB476_497.out _; (with_reducible repeat (first | refine blk_drewN ?_ _ | refine blk_drew ?_ | refine blk_alloc ?_ _)); refine blk_far ?_ NB476_497.out _; (with_reducible repeat (first | refine blk_drewN ?_ _ | refine blk_drew ?_ | refine blk_alloc ?_ _)); refine blk_far ?_ NB476_497.out _; (with_reducible repeat (first | refine blk_drewN ?_ _ | refine blk_drew ?_ | refine blk_alloc ?_ _)); refine blk_far ?_ NB476_497.out _; (with_reducible repeat (first | refine blk_drewN ?_ _ | refine blk_drew ?_ | refine blk_alloc ?_ _)); refine blk_far ?_ NB476_497.out _; (with_reducible repeat (first | refine blk_drewN ?_ _ | refine blk_drew ?_ | refine blk_alloc ?_ _)); refine blk_far ?_ NB476_497.out _; (with_reducible repeat (first | refine blk_drewN ?_ _ | refine blk_drew ?_ | refine blk_alloc ?_ _)); exact BK476.out) hb); have n8_ := Aside0.mk (blk_below (g := gb482) (o := .cells #[.int .i64 t477, u483001] 27 (0, 0)) (by (with_reducible repeat (first | refine blk_drewN ?_ _ | refine blk_drew ?_ | refine blk_alloc ?_ _)); refine blk_far ?_ NB482_497.out _; (with_reducible repeat (first | refine blk_drewN ?_ _ | refine blk_drew ?_ | refine blk_alloc ?_ _)); refine blk_far ?_ NB482_497.out _; (with_reducible repeat (first | refine blk_drewN ?_ _ | refine blk_drew ?_ | refine blk_alloc ?_ _)); refine blk_far ?_ NB482_497.out _; (with_reducible repeat (first | refine blk_drewN ?_ _ | refine blk_drew ?_ | refine blk_alloc ?_ _)); refine blk_far ?_ NB482_497.out _; (with_reducible repeat (first | refine blk_drewN ?_ _ | refine blk_drew ?_ | refine blk_alloc ?_ _)); refine blk_far ?_ NB482_497.out _; (with_reducible repeat (first | refine blk_drewN ?_ _ | refine blk_drew ?_ | refine blk_alloc ?_ _)); refine blk_far ?_ NB482_497.out _; (with_reducible repeat (first | refine blk_drewN ?_ _ | refine blk_drew ?_ | refine blk_alloc ?_ _)); exact BK482.out) hb); have n9_ := Aside0.mk (blk_below (g := gb497) (o := .cells #[.int .i64 t486, .int .i64 t487, .int .i64 t488, .int .i64 t489, .slice Ao70 t490.length co70, .slice Ao71 t493.length co71] 32 (0, 0)) (by (with_reducible repeat (first | refine blk_drewN ?_ _ | refine blk_drew ?_ | refine blk_alloc ?_ _)); refine blk_put (cs := #[.int .i64 t486, .int .i64 t487, .int .i64 t488, .int .i64 t489, .slice Ao70 t490.length co70, .slice none 0 0]) ?_ 5 _ rfl; (with_reducible repeat (first | refine blk_drewN ?_ _ | refine blk_drew ?_ | refine blk_alloc ?_ _)); refine blk_put (cs := #[.int .i64 t486, .int .i64 t487, .int .i64 t488, .int .i64 t489, .slice none 0 0, .slice none 0 0]) ?_ 4 _ rfl; (with_reducible repeat (first | refine blk_drewN ?_ _ | refine blk_drew ?_ | refine blk_alloc ?_ _)); refine blk_put (cs := #[.int .i64 t486, .int .i64 t487, .int .i64 t488, .int .i64 0, .slice none 0 0, .slice none 0 0]) ?_ 3 _ rfl; (with_reducible repeat (first | refine blk_drewN ?_ _ | refine blk_drew ?_ | refine blk_alloc ?_ _)); refine blk_put (cs := #[.int .i64 t486, .int .i64 t487, .int .i64 0, .int .i64 0, .slice none 0 0, .slice none 0 0]) ?_ 2 _ rfl; (with_reducible repeat (first | refine blk_drewN ?_ _ | refine blk_drew ?_ | refine blk_alloc ?_ _)); refine blk_put (cs := #[.int .i64 t486, .int .i64 0, .int .i64 0, .int .i64 0, .slice none 0 0, .slice none 0 0]) ?_ 1 _ rfl; (with_reducible repeat (first | refine blk_drewN ?_ _ | refine blk_drew ?_ | refine blk_alloc ?_ _)); refine blk_put (cs := #[.int .i64 0, .int .i64 0, .int .i64 0, .int .i64 0, .slice none 0 0, .slice none 0 0]) ?_ 0 _ rfl; (with_reducible repeat (first | refine blk_drewN ?_ _ | refine blk_drew ?_ | refine blk_alloc ?_ _)); exact BK497.out) hb); have n10_ := Aside0.mk (below_step (by repeat (first | (with_reducible first | exact HB.out | apply below_alloc | apply pw_below_drewN | apply below_drew1 | refine below_set ?_ GE448.out | refine below_set ?_ GE476.out | refine below_set ?_ GE482.out | refine below_set ?_ GE497.out) | exact HB.out)) hb); clear HO_7; clear HO_477004; clear HO_477005; clear HO_483001; clear HO492; clear HO495; clear BK448; clear BK476; clear BK482; clear BK497; clear HB; have HO_7 := n0_; have HO_477004 := n1_; have HO_477005 := n2_; have HO_483001 := n3_; have HO492 := n4_; have HO495 := n5_; have BK448 := n6_; have BK476 := n7_; have BK482 := n8_; have BK497 := n9_; have HB := n10_; clear n0_ n1_ n2_ n3_ n4_ n5_ n6_ n7_ n8_ n9_ n10_; (try clear hb); (try clear hb2); (try clear hk); (try clear hi)))
                          go_meet
                          case rel => exact ⟨_, (!t498), (by first | rfl | (simp; done) | (simp [*]; done)), H', ⟨by have := HJ5.out; have := HK2.out; have := HJ31.out; first | omega | exact Nat.le_refl _⟩, ⟨by (with_reducible repeat (first | apply Kd.S_alloc | apply Kd.S_drewN | apply Kd.S_drew)); exact Kd.S_mono HO_7.out (fun _ hk => ⟨hk.1.1, ⟨hk.1.2, hk.2⟩⟩)⟩, ⟨by (with_reducible repeat (first | apply Kd.R_alloc | apply Kd.R_drewN | apply Kd.R_drew)); exact HO_477004.out⟩, ⟨by (with_reducible repeat (first | apply Kd.R_alloc | apply Kd.R_drewN | apply Kd.R_drew)); exact Kd.R_mono HO_477005.out (fun _ hk => hk.2)⟩, ⟨by (with_reducible repeat (first | apply Kd.R_alloc | apply Kd.R_drewN | apply Kd.R_drew)); exact HO_483001.out⟩, ⟨by (with_reducible repeat (first | apply Kd.R_alloc | apply Kd.R_drewN | apply Kd.R_drew)); exact Kd.R_mono HO492.out (fun _ hk => ⟨hk.1.2, hk.2⟩)⟩, ⟨by (with_reducible repeat (first | apply Kd.R_alloc | apply Kd.R_drewN | apply Kd.R_drew)); exact Kd.R_mono HO495.out (fun _ hk => hk.2)⟩, ⟨by (with_reducible repeat (first | refine blk_drewN ?_ _ | refine blk_drew ?_ | refine blk_alloc ?_ _)); exact BK448.out⟩, ⟨by (with_reducible repeat (first | refine blk_drewN ?_ _ | refine blk_drew ?_ | refine blk_alloc ?_ _)); exact BK476.out⟩, ⟨by (with_reducible repeat (first | refine blk_drewN ?_ _ | refine blk_drew ?_ | refine blk_alloc ?_ _)); exact BK482.out⟩, ⟨by (with_reducible repeat (first | refine blk_drewN ?_ _ | refine blk_drew ?_ | refine blk_alloc ?_ _)); exact BK497.out⟩, ⟨by repeat (first | (with_reducible first | exact HB.out | apply below_alloc | apply pw_below_drewN | apply below_drew1 | refine below_set ?_ GE448.out | refine below_set ?_ GE476.out | refine below_set ?_ GE482.out | refine below_set ?_ GE497.out) | exact HB.out)⟩⟩
                        · rw [if_neg c72] at H
                          have c72b0 : (t496 == 0) = false := beq_eq_false_iff_ne.mpr c72
                          have c72b1 : (t496 != 0) = true := bne_iff_ne.mpr c72
                          (first | rw [c72b0] | (simp only [i64_w, i32_w]; rw [c72b0]) | skip)
                          have H' := Aside0.mk H
                          clear H
                          go_wp2
                          go_meet
                          case rel => exact ⟨_, (true), (by first | rfl | (simp; done) | (simp [*]; done)), H', ⟨by have := HJ5.out; have := HK2.out; have := HJ31.out; first | omega | exact Nat.le_refl _⟩, ⟨by (with_reducible repeat (first | apply Kd.S_alloc | apply Kd.S_drewN | apply Kd.S_drew)); exact Kd.S_mono (Kd.S_far (p := ⟨gb497, 5, none⟩) (Kd.S_far (p := ⟨gb497, 4, none⟩) (Kd.S_far (p := ⟨gb497, 3, none⟩) (Kd.S_far (p := ⟨gb497, 2, none⟩) (Kd.S_far (p := ⟨gb497, 1, none⟩) (Kd.S_far (p := ⟨gb497, 0, none⟩) (Kd.S_types HO_7.out BK497.out (by decide)) (fun _ hk => hk.2) (.int .i64 t486)) (fun _ hk => hk.2) (.int .i64 t487)) (fun _ hk => hk.2) (.int .i64 t488)) (fun _ hk => hk.2) (.int .i64 t489)) (fun _ hk => hk.2) (.slice Ao70 t490.length co70)) (fun _ hk => hk.2) (.slice Ao71 t493.length co71)) (fun _ hk => ⟨hk.1.1.1, ⟨hk.1.1.2, hk.1.2⟩⟩)⟩, ⟨by (with_reducible repeat (first | apply Kd.R_alloc | apply Kd.R_drewN | apply Kd.R_drew)); exact Kd.R_mono (Kd.R_far (p := ⟨gb497, 5, none⟩) (Kd.R_far (p := ⟨gb497, 4, none⟩) (Kd.R_far (p := ⟨gb497, 3, none⟩) (Kd.R_far (p := ⟨gb497, 2, none⟩) (Kd.R_far (p := ⟨gb497, 1, none⟩) (Kd.R_far (p := ⟨gb497, 0, none⟩) (Kd.R_types HO_477004.out BK497.out (by decide)) (fun _ hk => hk.2) (.int .i64 t486)) (fun _ hk => hk.2) (.int .i64 t487)) (fun _ hk => hk.2) (.int .i64 t488)) (fun _ hk => hk.2) (.int .i64 t489)) (fun _ hk => hk.2) (.slice Ao70 t490.length co70)) (fun _ hk => hk.2) (.slice Ao71 t493.length co71)) (fun _ hk => ⟨hk.1.1, hk.1.2⟩)⟩, ⟨by (with_reducible repeat (first | apply Kd.R_alloc | apply Kd.R_drewN | apply Kd.R_drew)); exact Kd.R_mono (Kd.R_far (p := ⟨gb497, 5, none⟩) (Kd.R_far (p := ⟨gb497, 4, none⟩) (Kd.R_far (p := ⟨gb497, 3, none⟩) (Kd.R_far (p := ⟨gb497, 2, none⟩) (Kd.R_far (p := ⟨gb497, 1, none⟩) (Kd.R_far (p := ⟨gb497, 0, none⟩) (Kd.R_types HO_477005.out BK497.out (by decide)) (fun _ hk => hk.2) (.int .i64 t486)) (fun _ hk => hk.2) (.int .i64 t487)) (fun _ hk => hk.2) (.int .i64 t488)) (fun _ hk => hk.2) (.int .i64 t489)) (fun _ hk => hk.2) (.slice Ao70 t490.length co70)) (fun _ hk => hk.2) (.slice Ao71 t493.length co71)) (fun _ hk => hk.1.2)⟩, ⟨by (with_reducible repeat (first | apply Kd.R_alloc | apply Kd.R_drewN | apply Kd.R_drew)); exact Kd.R_mono (Kd.R_far (p := ⟨gb497, 5, none⟩) (Kd.R_far (p := ⟨gb497, 4, none⟩) (Kd.R_far (p := ⟨gb497, 3, none⟩) (Kd.R_far (p := ⟨gb497, 2, none⟩) (Kd.R_far (p := ⟨gb497, 1, none⟩) (Kd.R_far (p := ⟨gb497, 0, none⟩) (Kd.R_types HO_483001.out BK497.out (by decide)) (fun _ hk => hk.2) (.int .i64 t486)) (fun _ hk => hk.2) (.int .i64 t487)) (fun _ hk => hk.2) (.int .i64 t488)) (fun _ hk => hk.2) (.int .i64 t489)) (fun _ hk => hk.2) (.slice Ao70 t490.length co70)) (fun _ hk => hk.2) (.slice Ao71 t493.length co71)) (fun _ hk => ⟨hk.1.1, hk.1.2⟩)⟩, ⟨by (with_reducible repeat (first | apply Kd.R_alloc | apply Kd.R_drewN | apply Kd.R_drew)); exact Kd.R_mono (Kd.R_far (p := ⟨gb497, 5, none⟩) (Kd.R_far (p := ⟨gb497, 4, none⟩) (Kd.R_far (p := ⟨gb497, 3, none⟩) (Kd.R_far (p := ⟨gb497, 2, none⟩) (Kd.R_far (p := ⟨gb497, 1, none⟩) (Kd.R_far (p := ⟨gb497, 0, none⟩) (Kd.R_types HO492.out BK497.out (by decide)) (fun _ hk => hk.2) (.int .i64 t486)) (fun _ hk => hk.2) (.int .i64 t487)) (fun _ hk => hk.2) (.int .i64 t488)) (fun _ hk => hk.2) (.int .i64 t489)) (fun _ hk => hk.2) (.slice Ao70 t490.length co70)) (fun _ hk => hk.2) (.slice Ao71 t493.length co71)) (fun _ hk => ⟨hk.1.1.2, hk.1.2⟩)⟩, ⟨by (with_reducible repeat (first | apply Kd.R_alloc | apply Kd.R_drewN | apply Kd.R_drew)); exact Kd.R_mono (Kd.R_far (p := ⟨gb497, 5, none⟩) (Kd.R_far (p := ⟨gb497, 4, none⟩) (Kd.R_far (p := ⟨gb497, 3, none⟩) (Kd.R_far (p := ⟨gb497, 2, none⟩) (Kd.R_far (p := ⟨gb497, 1, none⟩) (Kd.R_far (p := ⟨gb497, 0, none⟩) (Kd.R_types HO495.out BK497.out (by decide)) (fun _ hk => hk.2) (.int .i64 t486)) (fun _ hk => hk.2) (.int .i64 t487)) (fun _ hk => hk.2) (.int .i64 t488)) (fun _ hk => hk.2) (.int .i64 t489)) (fun _ hk => hk.2) (.slice Ao70 t490.length co70)) (fun _ hk => hk.2) (.slice Ao71 t493.length co71)) (fun _ hk => hk.1.2)⟩, ⟨by (with_reducible repeat (first | refine blk_drewN ?_ _ | refine blk_drew ?_ | refine blk_alloc ?_ _)); refine blk_far ?_ NB448_497.out _; (with_reducible repeat (first | refine blk_drewN ?_ _ | refine blk_drew ?_ | refine blk_alloc ?_ _)); refine blk_far ?_ NB448_497.out _; (with_reducible repeat (first | refine blk_drewN ?_ _ | refine blk_drew ?_ | refine blk_alloc ?_ _)); refine blk_far ?_ NB448_497.out _; (with_reducible repeat (first | refine blk_drewN ?_ _ | refine blk_drew ?_ | refine blk_alloc ?_ _)); refine blk_far ?_ NB448_497.out _; (with_reducible repeat (first | refine blk_drewN ?_ _ | refine blk_drew ?_ | refine blk_alloc ?_ _)); refine blk_far ?_ NB448_497.out _; (with_reducible repeat (first | refine blk_drewN ?_ _ | refine blk_drew ?_ | refine blk_alloc ?_ _)); refine blk_far ?_ NB448_497.out _; (with_reducible repeat (first | refine blk_drewN ?_ _ | refine blk_drew ?_ | refine blk_alloc ?_ _)); exact BK448.out⟩, ⟨by (with_reducible repeat (first | refine blk_drewN ?_ _ | refine blk_drew ?_ | refine blk_alloc ?_ _)); refine blk_far ?_ NB476_497.out _; (with_reducible repeat (first | refine blk_drewN ?_ _ | refine blk_drew ?_ | refine blk_alloc ?_ _)); refine blk_far ?_ NB476_497.out _; (with_reducible repeat (first | refine blk_drewN ?_ _ | refine blk_drew ?_ | refine blk_alloc ?_ _)); refine blk_far ?_ NB476_497.out _; (with_reducible repeat (first | refine blk_drewN ?_ _ | refine blk_drew ?_ | refine blk_alloc ?_ _)); refine blk_far ?_ NB476_497.out _; (with_reducible repeat (first | refine blk_drewN ?_ _ | refine blk_drew ?_ | refine blk_alloc ?_ _)); refine blk_far ?_ NB476_497.out _; (with_reducible repeat (first | refine blk_drewN ?_ _ | refine blk_drew ?_ | refine blk_alloc ?_ _)); refine blk_far ?_ NB476_497.out _; (with_reducible repeat (first | refine blk_drewN ?_ _ | refine blk_drew ?_ | refine blk_alloc ?_ _)); exact BK476.out⟩, ⟨by (with_reducible repeat (first | refine blk_drewN ?_ _ | refine blk_drew ?_ | refine blk_alloc ?_ _)); refine blk_far ?_ NB482_497.out _; (with_reducible repeat (first | refine blk_drewN ?_ _ | refine blk_drew ?_ | refine blk_alloc ?_ _)); refine blk_far ?_ NB482_497.out _; (with_reducible repeat (first | refine blk_drewN ?_ _ | refine blk_drew ?_ | refine blk_alloc ?_ _)); refine blk_far ?_ NB482_497.out _; (with_reducible repeat (first | refine blk_drewN ?_ _ | refine blk_drew ?_ | refine blk_alloc ?_ _)); refine blk_far ?_ NB482_497.out _; (with_reducible repeat (first | refine blk_drewN ?_ _ | refine blk_drew ?_ | refine blk_alloc ?_ _)); refine blk_far ?_ NB482_497.out _; (with_reducible repeat (first | refine blk_drewN ?_ _ | refine blk_drew ?_ | refine blk_alloc ?_ _)); refine blk_far ?_ NB482_497.out _; (with_reducible repeat (first | refine blk_drewN ?_ _ | refine blk_drew ?_ | refine blk_alloc ?_ _)); exact BK482.out⟩, ⟨by (with_reducible repeat (first | refine blk_drewN ?_ _ | refine blk_drew ?_ | refine blk_alloc ?_ _)); refine blk_put (cs := #[.int .i64 t486, .int .i64 t487, .int .i64 t488, .int .i64 t489, .slice Ao70 t490.length co70, .slice none 0 0]) ?_ 5 _ rfl; (with_reducible repeat (first | refine blk_drewN ?_ _ | refine blk_drew ?_ | refine blk_alloc ?_ _)); refine blk_put (cs := #[.int .i64 t486, .int .i64 t487, .int .i64 t488, .int .i64 t489, .slice none 0 0, .slice none 0 0]) ?_ 4 _ rfl; (with_reducible repeat (first | refine blk_drewN ?_ _ | refine blk_drew ?_ | refine blk_alloc ?_ _)); refine blk_put (cs := #[.int .i64 t486, .int .i64 t487, .int .i64 t488, .int .i64 0, .slice none 0 0, .slice none 0 0]) ?_ 3 _ rfl; (with_reducible repeat (first | refine blk_drewN ?_ _ | refine blk_drew ?_ | refine blk_alloc ?_ _)); refine blk_put (cs := #[.int .i64 t486, .int .i64 t487, .int .i64 0, .int .i64 0, .slice none 0 0, .slice none 0 0]) ?_ 2 _ rfl; (with_reducible repeat (first | refine blk_drewN ?_ _ | refine blk_drew ?_ | refine blk_alloc ?_ _)); refine blk_put (cs := #[.int .i64 t486, .int .i64 0, .int .i64 0, .int .i64 0, .slice none 0 0, .slice none 0 0]) ?_ 1 _ rfl; (with_reducible repeat (first | refine blk_drewN ?_ _ | refine blk_drew ?_ | refine blk_alloc ?_ _)); refine blk_put (cs := #[.int .i64 0, .int .i64 0, .int .i64 0, .int .i64 0, .slice none 0 0, .slice none 0 0]) ?_ 0 _ rfl; (with_reducible repeat (first | refine blk_drewN ?_ _ | refine blk_drew ?_ | refine blk_alloc ?_ _)); exact BK497.out⟩, ⟨by repeat (first | (with_reducible first | exact HB.out | apply below_alloc | apply pw_below_drewN | apply below_drew1 | refine below_set ?_ GE448.out | refine below_set ?_ GE476.out | refine below_set ?_ GE482.out | refine below_set ?_ GE497.out) | exact HB.out)⟩⟩
                      case rest =>
                        clear HC63
                        try clear c1
                        try clear c2
                        try clear p2
                        try clear c3
                        try clear c4
                        try clear p4
                        try clear q4
                        try clear hx4
                        try clear c5
                        try clear p5
                        try clear q5
                        try clear hx5
                        try clear hf5
                        try clear c6
                        try clear p6
                        try clear c7
                        try clear c10
                        try clear c11
                        try clear c11b0
                        try clear c11b1
                        try clear c12
                        try clear c13
                        try clear c15
                        try clear c16
                        try clear c19
                        try clear c19b0
                        try clear c20
                        try clear c20b0
                        try clear c21
                        try clear c22
                        try clear c29
                        try clear c29b0
                        try clear c29b1
                        try clear c35
                        try clear c42
                        try clear c43
                        try clear c45
                        try clear p45
                        try clear q45
                        try clear hx45
                        try clear c48
                        try clear c48b0
                        try clear c48b1
                        try clear p48
                        try clear q48
                        try clear hx48
                        try clear c49
                        try clear c49b0
                        try clear c50
                        try clear c50b0
                        try clear c51
                        try clear p51
                        try clear q51
                        try clear hx51
                        try clear hf51
                        try clear c52
                        try clear c53
                        try clear c57
                        try clear c58
                        try clear c59
                        try clear p64
                        try clear c66
                        try clear c67
                        try clear c68
                        try clear c72
                        try clear c72b0
                        try clear c72b1
                        try clear c74
                        try clear c75
                        try clear c76
                        try clear c78
                        try clear c79
                        try clear hcz12_0
                        try clear hcz12_1
                        try clear hcz14_0
                        try clear hcz14_1
                        try clear hcz36_0
                        try clear hcz36_1
                        try clear hcz36_2
                        try clear hcz36_3
                        try clear hcz36_4
                        try clear hcz36_5
                        try clear hcz39_0
                        try clear hcz39_1
                        try clear hcz44_0
                        try clear hcz44_1
                        try clear hcz46_0
                        try clear hcz46_1
                        try clear hcz46_2
                        try clear hcz46_3
                        try clear hcz46_4
                        try clear hcz46_5
                        try clear hcz54_0
                        try clear hcz54_1
                        try clear hcz60_0
                        try clear hcz60_1
                        try clear hcz69_0
                        try clear hcz69_1
                        try clear hcz69_2
                        try clear hcz69_3
                        try clear hcz69_4
                        try clear hcz69_5
                        try clear hcz77_0
                        try clear hcz77_1
                        try clear hcz77_2
                        try clear hcz77_3
                        try clear hcz77_4
                        try clear hcz77_5
                        try clear hcz80_0
                        try clear hcz80_1
                        try clear hcz80_2
                        try clear hcz80_3
                        try clear hcz80_4
                        try clear hcz80_5
                        try clear hfz12_0
                        try clear hfz12_1
                        try clear hfz14_0
                        try clear hfz14_1
                        try clear hfz36_0
                        try clear hfz36_1
                        try clear hfz36_2
                        try clear hfz36_3
                        try clear hfz36_4
                        try clear hfz36_5
                        try clear hfz39_0
                        try clear hfz39_1
                        try clear hfz44_0
                        try clear hfz44_1
                        try clear hfz46_0
                        try clear hfz46_1
                        try clear hfz46_2
                        try clear hfz46_3
                        try clear hfz46_4
                        try clear hfz46_5
                        try clear hfz54_0
                        try clear hfz54_1
                        try clear hfz60_0
                        try clear hfz60_1
                        try clear hfz69_0
                        try clear hfz69_1
                        try clear hfz69_2
                        try clear hfz69_3
                        try clear hfz69_4
                        try clear hfz69_5
                        try clear hfz77_0
                        try clear hfz77_1
                        try clear hfz77_2
                        try clear hfz77_3
                        try clear hfz77_4
                        try clear hfz77_5
                        try clear hfz80_0
                        try clear hfz80_1
                        try clear hfz80_2
                        try clear hfz80_3
                        try clear hfz80_4
                        try clear hfz80_5
                        try clear hx458_0
                        try clear hx458_1
                        try clear hx458_2
                        try clear hx458_3
                        try clear hx484_0
                        try clear hx484_1
                        try clear hx51_0
                        try clear hx51_1
                        try clear p2
                        try clear p4
                        try clear p45
                        try clear p458
                        try clear p48
                        try clear p484
                        try clear p5
                        try clear p51
                        try clear p6
                        try clear q4
                        try clear q45
                        try clear q458
                        try clear q48
                        try clear q484
                        try clear q5
                        try clear q51
                        obtain ⟨kq, x111_62, rfl, HA, HJ62, HO_7, HO_477004, HO_477005, HO_483001, HO_498004, HO_498005, BK448, BK476, BK482, BK497, HB⟩ := hcut
                        cases kq with
                        | zero => exact absurd HA.out (by simp [chalklinelaw35_FeedNoAlias.j4])
                        | succ kj62 =>
                          have H := HA.out
                          clear HA
                          simp only [chalklinelaw35_FeedNoAlias.j4] at H
                          by_cases c83 : x111_62 = true
                          · subst c83
                            have H1 : (some false) = some r := by rw [if_pos rfl] at H; exact H
                            clear H
                            have H := H1
                            clear H1
                            obtain rfl := Option.some.inj H
                            go_wp2
                            go_ret
                            exact ⟨by first | rfl | (simp [errW_none, errW_some] <;> rfl) | (simp [*, errW_none, errW_some] <;> rfl), by repeat (first | (with_reducible first | exact HB.out | apply below_alloc | apply pw_below_drewN | apply below_drew1 | refine below_set ?_ GE448.out | refine below_set ?_ GE476.out | refine below_set ?_ GE482.out | refine below_set ?_ GE497.out) | exact HB.out)⟩
                          · replace c83 := Bool.eq_false_iff.mpr c83
                            subst c83
                            have H1 : (chalklinelaw35_FeedNoAlias.l2 kj62 l0 x7_2 t483 0 t465 t466 t467 t468 x477004_31 t472) = some r := by rw [if_neg (show ¬ (false = true) by decide)] at H; exact H
                            clear H
                            have H := H1
                            clear H1
                            have H' := Aside0.mk H
                            clear H
                            go_wp2
                            go_loopg [17] kj62 (fun kq v17 w' => ∃ (x17_5 : Int) (x477004_5 : List (S60)) (x483001_5 : List (S60)) (x498004_5 : List (S60)) (u477004 : Value) (u483001 : Value) (u498004 : Value), v17 = .int .i64 x17_5 ∧ Aside0 (chalklinelaw35_FeedNoAlias.l2 kq l0 x7_2 t483 x17_5 t465 t466 t467 t468 x477004_5 t472 = some r) ∧ Aside0 (kq ≤ kj62) ∧ Aside0 (Kd.S k25 25 w' w.heap.size (fun k_ => some k_ ≠ (u477004 : Value).ownBlock ∧ some k_ ≠ (u483001 : Value).ownBlock ∧ some k_ ≠ (u498004 : Value).ownBlock) u7 x7_2) ∧ Aside0 (Kd.R k60 60 w' w.heap.size (fun k_ => some k_ ≠ (u483001 : Value).ownBlock ∧ some k_ ≠ (u498004 : Value).ownBlock) u477004 x477004_5) ∧ Aside0 (Kd.R k64 64 w' w.heap.size (fun k_ => some k_ ≠ ((.slice Ao71 t493.length co71) : Value).ownBlock) (.slice Ao38 t472.length co38) t472) ∧ Aside0 (Kd.R k60 60 w' w.heap.size (fun k_ => some k_ ≠ (u477004 : Value).ownBlock ∧ some k_ ≠ (u498004 : Value).ownBlock) u483001 x483001_5) ∧ Aside0 (Kd.R k60 60 w' w.heap.size (fun k_ => some k_ ≠ (u477004 : Value).ownBlock ∧ some k_ ≠ (u483001 : Value).ownBlock) u498004 x498004_5) ∧ Aside0 (Kd.R k64 64 w' w.heap.size (fun k_ => some k_ ≠ ((.slice Ao38 t472.length co38) : Value).ownBlock) (.slice Ao71 t493.length co71) t493) ∧ Aside0 (w'.heap[gb448]? = some (.cells #[.int .i64 a2_0, (.slice A2_1 l2_1.length c2_1)] 27 (0, 0))) ∧ Aside0 (w'.heap[gb476]? = some (.cells #[.int .i64 t465, .int .i64 t466, .int .i64 t467, .int .i64 t468, u477004, (.slice Ao38 t472.length co38)] 32 (0, 0))) ∧ Aside0 (w'.heap[gb482]? = some (.cells #[.int .i64 t477, u483001] 27 (0, 0))) ∧ Aside0 (w'.heap[gb497]? = some (.cells #[.int .i64 t486, .int .i64 t487, .int .i64 t488, .int .i64 t489, u498004, (.slice Ao71 t493.length co71)] 32 (0, 0))) ∧ Aside0 (Below w.heap.size w w'))
                            case atStart => exact ⟨(0), (x477004_31), (x483001_31), (t490), (u477004), (u483001), (.slice Ao70 t490.length co70), (by first | rfl | (simp; done) | (simp [*]; done)), H', ⟨Nat.le_refl _⟩, ⟨by (with_reducible repeat (first | apply Kd.S_alloc | apply Kd.S_drewN | apply Kd.S_drew)); exact HO_7.out⟩, ⟨by (with_reducible repeat (first | apply Kd.R_alloc | apply Kd.R_drewN | apply Kd.R_drew)); exact HO_477004.out⟩, ⟨by (with_reducible repeat (first | apply Kd.R_alloc | apply Kd.R_drewN | apply Kd.R_drew)); exact HO_477005.out⟩, ⟨by (with_reducible repeat (first | apply Kd.R_alloc | apply Kd.R_drewN | apply Kd.R_drew)); exact HO_483001.out⟩, ⟨by (with_reducible repeat (first | apply Kd.R_alloc | apply Kd.R_drewN | apply Kd.R_drew)); exact HO_498004.out⟩, ⟨by (with_reducible repeat (first | apply Kd.R_alloc | apply Kd.R_drewN | apply Kd.R_drew)); exact HO_498005.out⟩, ⟨by (with_reducible repeat (first | refine blk_drewN ?_ _ | refine blk_drew ?_ | refine blk_alloc ?_ _)); exact BK448.out⟩, ⟨by (with_reducible repeat (first | refine blk_drewN ?_ _ | refine blk_drew ?_ | refine blk_alloc ?_ _)); exact BK476.out⟩, ⟨by (with_reducible repeat (first | refine blk_drewN ?_ _ | refine blk_drew ?_ | refine blk_alloc ?_ _)); exact BK482.out⟩, ⟨by (with_reducible repeat (first | refine blk_drewN ?_ _ | refine blk_drew ?_ | refine blk_alloc ?_ _)); exact BK497.out⟩, ⟨by repeat (first | (with_reducible first | exact HB.out | apply below_alloc | apply pw_below_drewN | apply below_drew1 | refine below_set ?_ GE448.out | refine below_set ?_ GE476.out | refine below_set ?_ GE482.out | refine below_set ?_ GE497.out) | exact HB.out)⟩⟩
                            case round =>
                              clear H'
                              try clear c1
                              try clear c2
                              try clear p2
                              try clear c3
                              try clear c4
                              try clear p4
                              try clear q4
                              try clear hx4
                              try clear c5
                              try clear p5
                              try clear q5
                              try clear hx5
                              try clear hf5
                              try clear c6
                              try clear p6
                              try clear c7
                              try clear c8
                              try clear c10
                              try clear c11
                              try clear c11b0
                              try clear c11b1
                              try clear c12
                              try clear c13
                              try clear c15
                              try clear c16
                              try clear c19
                              try clear c19b0
                              try clear c20
                              try clear c20b0
                              try clear c21
                              try clear c22
                              try clear c29
                              try clear c29b0
                              try clear c29b1
                              try clear c35
                              try clear c42
                              try clear c43
                              try clear c45
                              try clear p45
                              try clear q45
                              try clear hx45
                              try clear c48
                              try clear c48b0
                              try clear c48b1
                              try clear p48
                              try clear q48
                              try clear hx48
                              try clear c49
                              try clear c49b0
                              try clear c50
                              try clear c50b0
                              try clear c51
                              try clear p51
                              try clear q51
                              try clear hx51
                              try clear hf51
                              try clear c52
                              try clear c53
                              try clear c57
                              try clear c58
                              try clear c59
                              try clear p64
                              try clear c66
                              try clear c67
                              try clear c68
                              try clear c72
                              try clear c72b0
                              try clear c72b1
                              try clear c74
                              try clear c75
                              try clear c76
                              try clear c78
                              try clear c79
                              try clear c83
                              try clear hcz12_0
                              try clear hcz12_1
                              try clear hcz14_0
                              try clear hcz14_1
                              try clear hcz36_0
                              try clear hcz36_1
                              try clear hcz36_2
                              try clear hcz36_3
                              try clear hcz36_4
                              try clear hcz36_5
                              try clear hcz39_0
                              try clear hcz39_1
                              try clear hcz44_0
                              try clear hcz44_1
                              try clear hcz46_0
                              try clear hcz46_1
                              try clear hcz46_2
                              try clear hcz46_3
                              try clear hcz46_4
                              try clear hcz46_5
                              try clear hcz54_0
                              try clear hcz54_1
                              try clear hcz60_0
                              try clear hcz60_1
                              try clear hcz69_0
                              try clear hcz69_1
                              try clear hcz69_2
                              try clear hcz69_3
                              try clear hcz69_4
                              try clear hcz69_5
                              try clear hcz77_0
                              try clear hcz77_1
                              try clear hcz77_2
                              try clear hcz77_3
                              try clear hcz77_4
                              try clear hcz77_5
                              try clear hcz80_0
                              try clear hcz80_1
                              try clear hcz80_2
                              try clear hcz80_3
                              try clear hcz80_4
                              try clear hcz80_5
                              try clear hfz12_0
                              try clear hfz12_1
                              try clear hfz14_0
                              try clear hfz14_1
                              try clear hfz36_0
                              try clear hfz36_1
                              try clear hfz36_2
                              try clear hfz36_3
                              try clear hfz36_4
                              try clear hfz36_5
                              try clear hfz39_0
                              try clear hfz39_1
                              try clear hfz44_0
                              try clear hfz44_1
                              try clear hfz46_0
                              try clear hfz46_1
                              try clear hfz46_2
                              try clear hfz46_3
                              try clear hfz46_4
                              try clear hfz46_5
                              try clear hfz54_0
                              try clear hfz54_1
                              try clear hfz60_0
                              try clear hfz60_1
                              try clear hfz69_0
                              try clear hfz69_1
                              try clear hfz69_2
                              try clear hfz69_3
                              try clear hfz69_4
                              try clear hfz69_5
                              try clear hfz77_0
                              try clear hfz77_1
                              try clear hfz77_2
                              try clear hfz77_3
                              try clear hfz77_4
                              try clear hfz77_5
                              try clear hfz80_0
                              try clear hfz80_1
                              try clear hfz80_2
                              try clear hfz80_3
                              try clear hfz80_4
                              try clear hfz80_5
                              try clear hx458_0
                              try clear hx458_1
                              try clear hx458_2
                              try clear hx458_3
                              try clear hx484_0
                              try clear hx484_1
                              try clear hx51_0
                              try clear hx51_1
                              try clear p2
                              try clear p4
                              try clear p45
                              try clear p458
                              try clear p48
                              try clear p484
                              try clear p5
                              try clear p51
                              try clear p6
                              try clear p64
                              try clear q4
                              try clear q45
                              try clear q458
                              try clear q48
                              try clear q484
                              try clear q5
                              try clear q51
                              obtain ⟨x17_5, x477004_5, x483001_5, x498004_5, u477004, u483001, u498004, rfl, HA, HK5, HO_7, HO_477004, HO_477005, HO_483001, HO_498004, HO_498005, BK448, BK476, BK482, BK497, HB⟩ := hrel
                              cases gk with
                              | zero => exact absurd HA.out (by simp [chalklinelaw35_FeedNoAlias.l2])
                              | succ k5 =>
                                have H := HA.out
                                clear HA
                                simp only [chalklinelaw35_FeedNoAlias.l2] at H
                                by_cases c84 : x17_5 < (x477004_5.length : Int)
                                · rw [if_pos c84] at H
                                  have c84b0 : decide (x17_5 < (x477004_5.length : Int)) = true := decide_eq_true c84
                                  clear c84
                                  by_cases c85 : 0 ≤ x17_5
                                  · rw [if_pos c85] at H
                                    have c85b0 : decide (0 ≤ x17_5) = true := decide_eq_true c85
                                    clear c85
                                    obtain ⟨y499, hy499⟩ : ∃ y_ : List (S60), y_ = (x477004_5.set (x17_5 : Int).toNat (⟨(-1), (rd_T60 x477004_5 x17_5).f1⟩ : S60)) := ⟨_, rfl⟩
                                    replace H : (chalklinelaw35_FeedNoAlias.l2 k5 l0 x7_2 t483 (wrap64 (x17_5 + 1)) t465 t466 t467 t468 y499 t472) = some r := by first | (rw [hy499]; with_reducible exact H) | (have H2_ := (Option.bind_some _ _).symm.trans H; rw [hy499]; with_reducible exact H2_) | (have H2_ := (Option.bind_some _ _).symm.trans H; with_reducible exact H2_) | with_reducible exact H | (rw [hy499]; exact H) | exact H
                                    have Ny499 := Aside0.mk hy499
                                    clear hy499
                                    have H' := Aside0.mk H
                                    clear H
                                    have hnb87 := NB476_448.out
                                    have hnc87 := NB448_476.out
                                    have hnb88 := NB476_482.out
                                    have hnc88 := NB482_476.out
                                    have hnb89 := NB476_497.out
                                    have hnc89 := NB497_476.out
                                    have hcz90_0 : wr.cell? ⟨gb476, 0, none⟩ = some (.int .i64 t465) := (blk_cell BK476.out 0).trans rfl
                                    have hcz90_1 : wr.cell? ⟨gb476, 1, none⟩ = some (.int .i64 t466) := (blk_cell BK476.out 1).trans rfl
                                    have hcz90_2 : wr.cell? ⟨gb476, 2, none⟩ = some (.int .i64 t467) := (blk_cell BK476.out 2).trans rfl
                                    have hcz90_3 : wr.cell? ⟨gb476, 3, none⟩ = some (.int .i64 t468) := (blk_cell BK476.out 3).trans rfl
                                    have hcz90_4 : wr.cell? ⟨gb476, 4, none⟩ = some (u477004) := (blk_cell BK476.out 4).trans rfl
                                    have hcz90_5 : wr.cell? ⟨gb476, 5, none⟩ = some (.slice Ao38 t472.length co38) := (blk_cell BK476.out 5).trans rfl
                                    have hfz90_0 := blk_frozen BK476.out 0
                                    have hfz90_1 := blk_frozen BK476.out 1
                                    have hfz90_2 := blk_frozen BK476.out 2
                                    have hfz90_3 := blk_frozen BK476.out 3
                                    have hfz90_4 := blk_frozen BK476.out 4
                                    have hfz90_5 := blk_frozen BK476.out 5
                                    obtain ⟨Ao91, co91, eo91⟩ := Kd.R_slice HO_477004.out
                                    subst eo91
                                    have p86 : 0 ≤ (x17_5 : Int) := of_decide_eq_true (by first | (with_reducible assumption) | assumption)
                                    have q86 : (x17_5 : Int) < ((x477004_5.length : Int) : Int) := of_decide_eq_true (by first | (with_reducible assumption) | assumption)
                                    obtain ⟨go86, co86, eo86, gb86, gl86, cl86, HG86⟩ := Kd.R_form HO_477004.out (by omega)
                                    (first | cases eo86 | (injection eo86 with ea_ en_ ec_; (first | subst ea_ | (injection ea_ with ea_; subst ea_)); subst ec_; clear en_))
                                    have GB86 := Aside0.mk gb86
                                    have GG86 := Aside0.mk HG86
                                    clear gb86 gl86 HG86
                                    obtain ⟨ce86, hcl86, hM86, hcc86, hfr86⟩ := Kd.R_elem HO_477004.out z60 (x17_5 : Int) p86 q86
                                    obtain rfl := k60_openM hM86
                                    have hx86_0 : wr.cell? ⟨go86, (x17_5 : Int).toNat * 2, none⟩ = some (.int .i64 ((rd_T60 x477004_5 x17_5).f0)) := hcc86 0 _ rfl
                                    have hx86_1 : wr.cell? ⟨go86, (x17_5 : Int).toNat * 2 + 1, none⟩ = some (.int .i64 ((rd_T60 x477004_5 x17_5).f1)) := hcc86 1 _ rfl
                                    have hf86_0 : wr.frozen? ⟨go86, (x17_5 : Int).toNat * 2, none⟩ = false := hfr86 0
                                    have hf86_1 : wr.frozen? ⟨go86, (x17_5 : Int).toNat * 2 + 1, none⟩ = false := hfr86 1
                                    clear hcl86 hcc86 hfr86 hM86
                                    replace p86 := eq_true p86
                                    replace q86 := eq_true q86
                                    have HX92 := Aside0.mk (show Kd.R k60 60 wr w.heap.size (fun k_ => some k_ ≠ (u483001 : Value).ownBlock ∧ some k_ ≠ (u498004 : Value).ownBlock) (.slice (some ⟨go86, 0, none⟩) x477004_5.length co91) x477004_5 from (by (with_reducible repeat (first | apply Kd.R_alloc | apply Kd.R_drewN | apply Kd.R_drew)); exact HO_477004.out))
                                    obtain ⟨ce92, hcl92, hM92, hcc92, hfr92⟩ := Kd.R_elem HX92.out z60 (x17_5 : Int) (of_decide_eq_true (by first | (with_reducible assumption) | assumption)) (by have h_ : (x17_5 : Int) < ((x477004_5.length : Int) : Int) := of_decide_eq_true (by first | (with_reducible assumption) | assumption); first | exact h_ | (have e_ := (Kd.R_reads' HO_477004.out).1; omega) | simpa using h_)
                                    obtain rfl := k60_openM hM92
                                    have HP92 := Kd.R_seg HX92.out (x17_5 : Int) (of_decide_eq_true (by first | (with_reducible assumption) | assumption)) (by have h_ : (x17_5 : Int) < ((x477004_5.length : Int) : Int) := of_decide_eq_true (by first | (with_reducible assumption) | assumption); first | exact h_ | (have e_ := (Kd.R_reads' HO_477004.out).1; omega) | simpa using h_) (seg := [.int .i64 (-1)]) (j := 0) hcl92 hcc92 (show 1 ≤ 2 from by decide) (x' := (⟨(-1), (rd_T60 x477004_5 x17_5).f1⟩ : S60)) (k60_mkM _ _ _ (⟨(-1), (rd_T60 x477004_5 x17_5).f1⟩ : S60) ) (fun _ hk => hk)
                                    have hx92_0 := hcc92 0 _ rfl
                                    (try simp only [show (k60).sz = 2 from rfl, Nat.mul_one, Nat.add_zero] at hx92_0)
                                    have hf92_0 := hfr92 0
                                    (try simp only [show (k60).sz = 2 from rfl, Nat.mul_one, Nat.add_zero] at hf92_0)
                                    clear hcl92 hcc92 hfr92 hM92
                                    go_wp2_with (first | ((with_reducible refine gate_store (t := 3) (p := 125) rfl ?_); refine store_event (t := 3) (p := 125) (v := ?vo_w93) (w1 := (wr.setCell ⟨go86, (x17_5 : Int).toNat * 2, none⟩ (.int .i64 (-1)))) ?hg ?ho ?hn ?hr ?_; (case ho => rfl); (case hg => rfl); (case hn => rfl); (case hr => first | (go_simp; done) | (go_simp; rfl)); intro w93 hw; have hg : wr.grownBy w93 (some go86) := (by rw [hw]; exact HP92.2); have hp_ : Kd.R k60 60 w93 w.heap.size (fun k_ => some k_ ≠ (u483001 : Value).ownBlock ∧ some k_ ≠ (u498004 : Value).ownBlock) (.slice (some ⟨go86, 0, none⟩) x477004_5.length co91) y499 := (by rw [hw, Ny499.out]; exact HP92.1); clear HP92; have n0_ := Aside0.mk (Kd.S_after (v := (.slice (some ⟨go86, 0, none⟩) x477004_5.length co91)) (v1 := (.slice (some ⟨go86, 0, none⟩) x477004_5.length co91)) (ok := (fun k_ => some k_ ≠ (u483001 : Value).ownBlock ∧ some k_ ≠ (u498004 : Value).ownBlock)) (by (with_reducible repeat (first | apply Kd.S_alloc | apply Kd.S_drewN | apply Kd.S_drew)); exact Kd.S_mono HO_7.out (fun _ hk => ⟨⟨hk.2.1, hk.2.2⟩, hk.1⟩)) hg (.inl rfl)); have n1_ := Aside0.mk (hp_); have n2_ := Aside0.mk (Kd.R_over' (v := (.slice (some ⟨go86, 0, none⟩) x477004_5.length co91)) (by (with_reducible repeat (first | apply Kd.R_alloc | apply Kd.R_drewN | apply Kd.R_drew)); exact HO_477005.out) (Kd.R_typed HO_477004.out) (by decide) hg); have n3_ := Aside0.mk (Kd.R_after (v := (.slice (some ⟨go86, 0, none⟩) x477004_5.length co91)) (v1 := (.slice (some ⟨go86, 0, none⟩) x477004_5.length co91)) (ok := (fun k_ => some k_ ≠ (u498004 : Value).ownBlock)) (by (with_reducible repeat (first | apply Kd.R_alloc | apply Kd.R_drewN | apply Kd.R_drew)); exact Kd.R_mono HO_483001.out (fun _ hk => ⟨hk.2, hk.1⟩)) hg (.inl rfl)); have n4_ := Aside0.mk (Kd.R_after (v := (.slice (some ⟨go86, 0, none⟩) x477004_5.length co91)) (v1 := (.slice (some ⟨go86, 0, none⟩) x477004_5.length co91)) (ok := (fun k_ => some k_ ≠ (u483001 : Value).ownBlock)) (by (with_reducible repeat (first | apply Kd.R_alloc | apply Kd.R_drewN | apply Kd.R_drew)); exact Kd.R_mono HO_498004.out (fun _ hk => ⟨hk.2, hk.1⟩)) hg (.inl rfl)); have n5_ := Aside0.mk (Kd.R_over' (v := (.slice (some ⟨go86, 0, none⟩) x477004_5.length co91)) (by (with_reducible repeat (first | apply Kd.R_alloc | apply Kd.R_drewN | apply Kd.R_drew)); exact HO_498005.out) (Kd.R_typed HO_477004.out) (by decide) hg); have n6_ := Aside0.mk (blk_grown (g := gb448) (o := .cells #[.int .i64 a2_0, .slice A2_1 l2_1.length c2_1] 27 (0, 0)) (by (with_reducible repeat (first | refine blk_drewN ?_ _ | refine blk_drew ?_ | refine blk_alloc ?_ _)); exact BK448.out) hg (Kd.R_ne HO_477004.out BK448.out (by decide))); have n7_ := Aside0.mk (blk_grown (g := gb476) (o := .cells #[.int .i64 t465, .int .i64 t466, .int .i64 t467, .int .i64 t468, .slice (some ⟨go86, 0, none⟩) x477004_5.length co91, .slice Ao38 t472.length co38] 32 (0, 0)) (by (with_reducible repeat (first | refine blk_drewN ?_ _ | refine blk_drew ?_ | refine blk_alloc ?_ _)); exact BK476.out) hg (Kd.R_ne HO_477004.out BK476.out (by decide))); have n8_ := Aside0.mk (blk_grown (g := gb482) (o := .cells #[.int .i64 t477, u483001] 27 (0, 0)) (by (with_reducible repeat (first | refine blk_drewN ?_ _ | refine blk_drew ?_ | refine blk_alloc ?_ _)); exact BK482.out) hg (Kd.R_ne HO_477004.out BK482.out (by decide))); have n9_ := Aside0.mk (blk_grown (g := gb497) (o := .cells #[.int .i64 t486, .int .i64 t487, .int .i64 t488, .int .i64 t489, u498004, .slice Ao71 t493.length co71] 32 (0, 0)) (by (with_reducible repeat (first | refine blk_drewN ?_ _ | refine blk_drew ?_ | refine blk_alloc ?_ _)); exact BK497.out) hg (Kd.R_ne HO_477004.out BK497.out (by decide))); have n10_ := Aside0.mk ((by rw [hw]; exact below_set (HB.out) GB86.out : Below w.heap.size w w93)); clear HO_7; clear HO_477004; clear HO_477005; clear HO_483001; clear HO_498004; clear HO_498005; clear BK448; clear BK476; clear BK482; clear BK497; clear HB; have HO_7 := n0_; have HO_477004 := n1_; have HO_477005 := n2_; have HO_483001 := n3_; have HO_498004 := n4_; have HO_498005 := n5_; have BK448 := n6_; have BK476 := n7_; have BK482 := n8_; have BK497 := n9_; have HB := n10_; clear n0_ n1_ n2_ n3_ n4_ n5_ n6_ n7_ n8_ n9_ n10_; clear hg hw hp_))
                                    go_roundg k5
                                    case measure => have := HJ5.out; have := HK2.out; have := HJ31.out; have := HJ62.out; have := HK5.out; omega
                                    case rel => exact ⟨(wrap64 (x17_5 + 1)), (y499), (x483001_5), (x498004_5), (.slice (some ⟨go86, 0, none⟩) x477004_5.length co91), (u483001), (u498004), (by first | rfl | (simp; done) | (simp [*]; done)), H', ⟨by have := HJ5.out; have := HK2.out; have := HJ31.out; have := HJ62.out; have := HK5.out; omega⟩, ⟨by (with_reducible repeat (first | apply Kd.S_alloc | apply Kd.S_drewN | apply Kd.S_drew)); exact Kd.S_mono HO_7.out (fun _ hk => ⟨hk.2, ⟨hk.1.1, hk.1.2⟩⟩)⟩, ⟨by (with_reducible repeat (first | apply Kd.R_alloc | apply Kd.R_drewN | apply Kd.R_drew)); exact HO_477004.out⟩, ⟨by (with_reducible repeat (first | apply Kd.R_alloc | apply Kd.R_drewN | apply Kd.R_drew)); exact HO_477005.out⟩, ⟨by (with_reducible repeat (first | apply Kd.R_alloc | apply Kd.R_drewN | apply Kd.R_drew)); exact Kd.R_mono HO_483001.out (fun _ hk => ⟨hk.2, hk.1⟩)⟩, ⟨by (with_reducible repeat (first | apply Kd.R_alloc | apply Kd.R_drewN | apply Kd.R_drew)); exact Kd.R_mono HO_498004.out (fun _ hk => ⟨hk.2, hk.1⟩)⟩, ⟨by (with_reducible repeat (first | apply Kd.R_alloc | apply Kd.R_drewN | apply Kd.R_drew)); exact HO_498005.out⟩, ⟨by (with_reducible repeat (first | refine blk_drewN ?_ _ | refine blk_drew ?_ | refine blk_alloc ?_ _)); exact BK448.out⟩, ⟨by (with_reducible repeat (first | refine blk_drewN ?_ _ | refine blk_drew ?_ | refine blk_alloc ?_ _)); exact BK476.out⟩, ⟨by (with_reducible repeat (first | refine blk_drewN ?_ _ | refine blk_drew ?_ | refine blk_alloc ?_ _)); exact BK482.out⟩, ⟨by (with_reducible repeat (first | refine blk_drewN ?_ _ | refine blk_drew ?_ | refine blk_alloc ?_ _)); exact BK497.out⟩, ⟨by repeat (first | (with_reducible first | exact HB.out | apply below_alloc | apply pw_below_drewN | apply below_drew1 | refine below_set ?_ GE448.out | refine below_set ?_ GE476.out | refine below_set ?_ GE482.out | refine below_set ?_ GE497.out) | exact HB.out)⟩⟩
                                  · rw [if_neg c85] at H
                                    exact absurd H (by simp)
                                · rw [if_neg c84] at H
                                  have c84b0 : decide (x17_5 < (x477004_5.length : Int)) = false := decide_eq_false c84
                                  clear c84
                                  have H' := Aside0.mk H
                                  clear H
                                  have hnb94 := NB476_448.out
                                  have hnc94 := NB448_476.out
                                  have hnb95 := NB476_482.out
                                  have hnc95 := NB482_476.out
                                  have hnb96 := NB476_497.out
                                  have hnc96 := NB497_476.out
                                  have hcz97_0 : wr.cell? ⟨gb476, 0, none⟩ = some (.int .i64 t465) := (blk_cell BK476.out 0).trans rfl
                                  have hcz97_1 : wr.cell? ⟨gb476, 1, none⟩ = some (.int .i64 t466) := (blk_cell BK476.out 1).trans rfl
                                  have hcz97_2 : wr.cell? ⟨gb476, 2, none⟩ = some (.int .i64 t467) := (blk_cell BK476.out 2).trans rfl
                                  have hcz97_3 : wr.cell? ⟨gb476, 3, none⟩ = some (.int .i64 t468) := (blk_cell BK476.out 3).trans rfl
                                  have hcz97_4 : wr.cell? ⟨gb476, 4, none⟩ = some (u477004) := (blk_cell BK476.out 4).trans rfl
                                  have hcz97_5 : wr.cell? ⟨gb476, 5, none⟩ = some (.slice Ao38 t472.length co38) := (blk_cell BK476.out 5).trans rfl
                                  have hfz97_0 := blk_frozen BK476.out 0
                                  have hfz97_1 := blk_frozen BK476.out 1
                                  have hfz97_2 := blk_frozen BK476.out 2
                                  have hfz97_3 := blk_frozen BK476.out 3
                                  have hfz97_4 := blk_frozen BK476.out 4
                                  have hfz97_5 := blk_frozen BK476.out 5
                                  obtain ⟨Ao98, co98, eo98⟩ := Kd.R_slice HO_477004.out
                                  subst eo98
                                  go_wp2
                                  go_loopg [18] k5 (fun kq v18 w' => ∃ (x18_6 : Int), v18 = .int .i64 x18_6 ∧ Aside0 (chalklinelaw35_FeedNoAlias.l3 kq l0 x7_2 t483 x18_6 = some r) ∧ Aside0 (kq ≤ k5) ∧ Aside0 (Kd.S k25 25 w' w.heap.size (fun k_ => some k_ ≠ ((.slice Ao98 x477004_5.length co98) : Value).ownBlock ∧ some k_ ≠ (u483001 : Value).ownBlock ∧ some k_ ≠ (u498004 : Value).ownBlock) u7 x7_2) ∧ Aside0 (Kd.R k60 60 w' w.heap.size (fun k_ => some k_ ≠ (u483001 : Value).ownBlock ∧ some k_ ≠ (u498004 : Value).ownBlock) (.slice Ao98 x477004_5.length co98) x477004_5) ∧ Aside0 (Kd.R k64 64 w' w.heap.size (fun k_ => some k_ ≠ ((.slice Ao71 t493.length co71) : Value).ownBlock) (.slice Ao38 t472.length co38) t472) ∧ Aside0 (Kd.R k60 60 w' w.heap.size (fun k_ => some k_ ≠ ((.slice Ao98 x477004_5.length co98) : Value).ownBlock ∧ some k_ ≠ (u498004 : Value).ownBlock) u483001 x483001_5) ∧ Aside0 (Kd.R k60 60 w' w.heap.size (fun k_ => some k_ ≠ ((.slice Ao98 x477004_5.length co98) : Value).ownBlock ∧ some k_ ≠ (u483001 : Value).ownBlock) u498004 x498004_5) ∧ Aside0 (Kd.R k64 64 w' w.heap.size (fun k_ => some k_ ≠ ((.slice Ao38 t472.length co38) : Value).ownBlock) (.slice Ao71 t493.length co71) t493) ∧ Aside0 (w'.heap[gb448]? = some (.cells #[.int .i64 a2_0, (.slice A2_1 l2_1.length c2_1)] 27 (0, 0))) ∧ Aside0 (w'.heap[gb476]? = some (.cells #[.int .i64 t465, .int .i64 t466, .int .i64 t467, .int .i64 t468, (.slice Ao98 x477004_5.length co98), (.slice Ao38 t472.length co38)] 32 (0, 0))) ∧ Aside0 (w'.heap[gb482]? = some (.cells #[.int .i64 t477, u483001] 27 (0, 0))) ∧ Aside0 (w'.heap[gb497]? = some (.cells #[.int .i64 t486, .int .i64 t487, .int .i64 t488, .int .i64 t489, u498004, (.slice Ao71 t493.length co71)] 32 (0, 0))) ∧ Aside0 (Below w.heap.size w w'))
                                  case atStart => exact ⟨(0), (by first | rfl | (simp; done) | (simp [*]; done)), H', ⟨Nat.le_refl _⟩, ⟨by (with_reducible repeat (first | apply Kd.S_alloc | apply Kd.S_drewN | apply Kd.S_drew)); exact HO_7.out⟩, ⟨by (with_reducible repeat (first | apply Kd.R_alloc | apply Kd.R_drewN | apply Kd.R_drew)); exact HO_477004.out⟩, ⟨by (with_reducible repeat (first | apply Kd.R_alloc | apply Kd.R_drewN | apply Kd.R_drew)); exact HO_477005.out⟩, ⟨by (with_reducible repeat (first | apply Kd.R_alloc | apply Kd.R_drewN | apply Kd.R_drew)); exact HO_483001.out⟩, ⟨by (with_reducible repeat (first | apply Kd.R_alloc | apply Kd.R_drewN | apply Kd.R_drew)); exact HO_498004.out⟩, ⟨by (with_reducible repeat (first | apply Kd.R_alloc | apply Kd.R_drewN | apply Kd.R_drew)); exact HO_498005.out⟩, ⟨by (with_reducible repeat (first | refine blk_drewN ?_ _ | refine blk_drew ?_ | refine blk_alloc ?_ _)); exact BK448.out⟩, ⟨by (with_reducible repeat (first | refine blk_drewN ?_ _ | refine blk_drew ?_ | refine blk_alloc ?_ _)); exact BK476.out⟩, ⟨by (with_reducible repeat (first | refine blk_drewN ?_ _ | refine blk_drew ?_ | refine blk_alloc ?_ _)); exact BK482.out⟩, ⟨by (with_reducible repeat (first | refine blk_drewN ?_ _ | refine blk_drew ?_ | refine blk_alloc ?_ _)); exact BK497.out⟩, ⟨by repeat (first | (with_reducible first | exact HB.out | apply below_alloc | apply pw_below_drewN | apply below_drew1 | refine below_set ?_ GE448.out | refine below_set ?_ GE476.out | refine below_set ?_ GE482.out | refine below_set ?_ GE497.out) | exact HB.out)⟩⟩
                                  case round =>
                                    clear H'
                                    try clear c1
                                    try clear c2
                                    try clear p2
                                    try clear c3
                                    try clear c4
                                    try clear p4
                                    try clear q4
                                    try clear hx4
                                    try clear c5
                                    try clear p5
                                    try clear q5
                                    try clear hx5
                                    try clear hf5
                                    try clear c6
                                    try clear p6
                                    try clear c7
                                    try clear c8
                                    try clear p8
                                    try clear q8
                                    try clear hx8
                                    try clear hf8
                                    try clear c9
                                    try clear hx9
                                    try clear hf9
                                    try clear c10
                                    try clear c11
                                    try clear c11b0
                                    try clear c11b1
                                    try clear c12
                                    try clear c13
                                    try clear c15
                                    try clear c16
                                    try clear c19
                                    try clear c19b0
                                    try clear c20
                                    try clear c20b0
                                    try clear c21
                                    try clear c22
                                    try clear c29
                                    try clear c29b0
                                    try clear c29b1
                                    try clear c35
                                    try clear c42
                                    try clear c43
                                    try clear c45
                                    try clear p45
                                    try clear q45
                                    try clear hx45
                                    try clear c48
                                    try clear c48b0
                                    try clear c48b1
                                    try clear p48
                                    try clear q48
                                    try clear hx48
                                    try clear c49
                                    try clear c49b0
                                    try clear c50
                                    try clear c50b0
                                    try clear c51
                                    try clear p51
                                    try clear q51
                                    try clear hx51
                                    try clear hf51
                                    try clear c52
                                    try clear c53
                                    try clear c57
                                    try clear c58
                                    try clear c59
                                    try clear p64
                                    try clear c66
                                    try clear c67
                                    try clear c68
                                    try clear c72
                                    try clear c72b0
                                    try clear c72b1
                                    try clear c74
                                    try clear c75
                                    try clear c76
                                    try clear c78
                                    try clear c79
                                    try clear c83
                                    try clear c84
                                    try clear c84b0
                                    try clear c85
                                    try clear c85b0
                                    try clear c86
                                    try clear p86
                                    try clear q86
                                    try clear hx86
                                    try clear hf86
                                    try clear c87
                                    try clear c88
                                    try clear c89
                                    try clear c92
                                    try clear hx92
                                    try clear hf92
                                    try clear c94
                                    try clear c95
                                    try clear c96
                                    try clear hcz12_0
                                    try clear hcz12_1
                                    try clear hcz14_0
                                    try clear hcz14_1
                                    try clear hcz36_0
                                    try clear hcz36_1
                                    try clear hcz36_2
                                    try clear hcz36_3
                                    try clear hcz36_4
                                    try clear hcz36_5
                                    try clear hcz39_0
                                    try clear hcz39_1
                                    try clear hcz44_0
                                    try clear hcz44_1
                                    try clear hcz46_0
                                    try clear hcz46_1
                                    try clear hcz46_2
                                    try clear hcz46_3
                                    try clear hcz46_4
                                    try clear hcz46_5
                                    try clear hcz54_0
                                    try clear hcz54_1
                                    try clear hcz60_0
                                    try clear hcz60_1
                                    try clear hcz69_0
                                    try clear hcz69_1
                                    try clear hcz69_2
                                    try clear hcz69_3
                                    try clear hcz69_4
                                    try clear hcz69_5
                                    try clear hcz77_0
                                    try clear hcz77_1
                                    try clear hcz77_2
                                    try clear hcz77_3
                                    try clear hcz77_4
                                    try clear hcz77_5
                                    try clear hcz80_0
                                    try clear hcz80_1
                                    try clear hcz80_2
                                    try clear hcz80_3
                                    try clear hcz80_4
                                    try clear hcz80_5
                                    try clear hcz90_0
                                    try clear hcz90_1
                                    try clear hcz90_2
                                    try clear hcz90_3
                                    try clear hcz90_4
                                    try clear hcz90_5
                                    try clear hcz97_0
                                    try clear hcz97_1
                                    try clear hcz97_2
                                    try clear hcz97_3
                                    try clear hcz97_4
                                    try clear hcz97_5
                                    try clear hfz12_0
                                    try clear hfz12_1
                                    try clear hfz14_0
                                    try clear hfz14_1
                                    try clear hfz36_0
                                    try clear hfz36_1
                                    try clear hfz36_2
                                    try clear hfz36_3
                                    try clear hfz36_4
                                    try clear hfz36_5
                                    try clear hfz39_0
                                    try clear hfz39_1
                                    try clear hfz44_0
                                    try clear hfz44_1
                                    try clear hfz46_0
                                    try clear hfz46_1
                                    try clear hfz46_2
                                    try clear hfz46_3
                                    try clear hfz46_4
                                    try clear hfz46_5
                                    try clear hfz54_0
                                    try clear hfz54_1
                                    try clear hfz60_0
                                    try clear hfz60_1
                                    try clear hfz69_0
                                    try clear hfz69_1
                                    try clear hfz69_2
                                    try clear hfz69_3
                                    try clear hfz69_4
                                    try clear hfz69_5
                                    try clear hfz77_0
                                    try clear hfz77_1
                                    try clear hfz77_2
                                    try clear hfz77_3
                                    try clear hfz77_4
                                    try clear hfz77_5
                                    try clear hfz80_0
                                    try clear hfz80_1
                                    try clear hfz80_2
                                    try clear hfz80_3
                                    try clear hfz80_4
                                    try clear hfz80_5
                                    try clear hfz90_0
                                    try clear hfz90_1
                                    try clear hfz90_2
                                    try clear hfz90_3
                                    try clear hfz90_4
                                    try clear hfz90_5
                                    try clear hfz97_0
                                    try clear hfz97_1
                                    try clear hfz97_2
                                    try clear hfz97_3
                                    try clear hfz97_4
                                    try clear hfz97_5
                                    try clear hx458_0
                                    try clear hx458_1
                                    try clear hx458_2
                                    try clear hx458_3
                                    try clear hx484_0
                                    try clear hx484_1
                                    try clear hx51_0
                                    try clear hx51_1
                                    try clear hx86_0
                                    try clear hx86_1
                                    try clear hx92_0
                                    try clear p2
                                    try clear p4
                                    try clear p45
                                    try clear p458
                                    try clear p48
                                    try clear p484
                                    try clear p5
                                    try clear p51
                                    try clear p6
                                    try clear p64
                                    try clear p86
                                    try clear q4
                                    try clear q45
                                    try clear q458
                                    try clear q48
                                    try clear q484
                                    try clear q5
                                    try clear q51
                                    try clear q86
                                    obtain ⟨x18_6, rfl, HA, HK6, HO_7, HO_477004, HO_477005, HO_483001, HO_498004, HO_498005, BK448, BK476, BK482, BK497, HB⟩ := hrel
                                    cases gk with
                                    | zero => exact absurd HA.out (by simp [chalklinelaw35_FeedNoAlias.l3])
                                    | succ k6 =>
                                      have H := HA.out
                                      clear HA
                                      simp only [chalklinelaw35_FeedNoAlias.l3] at H
                                      by_cases c99 : x18_6 < (l0.length : Int)
                                      · rw [if_pos c99] at H
                                        have c99b0 : decide (x18_6 < (l0.length : Int)) = true := decide_eq_true c99
                                        clear c99
                                        by_cases c100 : 0 ≤ x18_6
                                        · rw [if_pos c100] at H
                                          have c100b0 : decide (0 ≤ x18_6) = true := decide_eq_true c100
                                          clear c100
                                          by_cases c101 : x18_6 < (x7_2.length : Int)
                                          · rw [if_pos c101] at H
                                            have c101b0 : decide (x18_6 < (x7_2.length : Int)) = true := decide_eq_true c101
                                            clear c101
                                            replace H := Option.bind_eq_some_iff.mp H
                                            obtain ⟨t502, A1020, H⟩ := H
                                            replace H : (if t502 = true then (chalklinelaw35_FeedNoAlias.l3 k6 l0 x7_2 t483 (wrap64 (x18_6 + 1))) else (some false)) = some r := H
                                            have A102 := Aside0.mk A1020
                                            clear A1020
                                            by_cases c103 : t502 = true
                                            · subst c103
                                              have H1 : (chalklinelaw35_FeedNoAlias.l3 k6 l0 x7_2 t483 (wrap64 (x18_6 + 1))) = some r := by rw [if_pos rfl] at H; exact H
                                              clear H
                                              have H := H1
                                              clear H1
                                              have H' := Aside0.mk H
                                              clear H
                                              try go_wp2
                                              have n0_ := Aside0.mk (Kd.S_drew HO_7.out)
                                              have n1_ := Aside0.mk (Kd.R_drew HO_477004.out)
                                              have n2_ := Aside0.mk (Kd.R_drew HO_477005.out)
                                              have n3_ := Aside0.mk (Kd.R_drew HO_483001.out)
                                              have n4_ := Aside0.mk (Kd.R_drew HO_498004.out)
                                              have n5_ := Aside0.mk (Kd.R_drew HO_498005.out)
                                              have n6_ := Aside0.mk (blk_drew BK448.out)
                                              have n7_ := Aside0.mk (blk_drew BK476.out)
                                              have n8_ := Aside0.mk (blk_drew BK482.out)
                                              have n9_ := Aside0.mk (blk_drew BK497.out)
                                              have n10_ := Aside0.mk (below_drew1 HB.out)
                                              clear HO_7
                                              clear HO_477004
                                              clear HO_477005
                                              clear HO_483001
                                              clear HO_498004
                                              clear HO_498005
                                              clear BK448
                                              clear BK476
                                              clear BK482
                                              clear BK497
                                              clear HB
                                              have HO_7 := n0_
                                              have HO_477004 := n1_
                                              have HO_477005 := n2_
                                              have HO_483001 := n3_
                                              have HO_498004 := n4_
                                              have HO_498005 := n5_
                                              have BK448 := n6_
                                              have BK476 := n7_
                                              have BK482 := n8_
                                              have BK497 := n9_
                                              have HB := n10_
                                              clear n0_ n1_ n2_ n3_ n4_ n5_ n6_ n7_ n8_ n9_ n10_
                                              have p500 : 0 ≤ (x18_6 : Int) := of_decide_eq_true (by first | (with_reducible assumption) | assumption)
                                              have q500 : x18_6 < (l0.length : Int) := of_decide_eq_true (by first | (with_reducible assumption) | assumption)
                                              obtain ⟨ad500, A500_1, c500_1, e500, hx500_0, hx500_1, hx500_2, hx500_3, hl500_1, hi500_1⟩ := at_T52 HR0.out x18_6 p500 q500
                                              have hw500_3 := hx500_3
                                              have hw500_2 := hx500_2
                                              have hw500_1 := hx500_1
                                              have hw500_0 := hx500_0
                                              cases e500
                                              replace hx500_0 := (HB.out.cell (World.block_lt_of_cell? w _ hx500_0)).trans hx500_0
                                              replace hx500_1 := (HB.out.cell (World.block_lt_of_cell? w _ hx500_1)).trans hx500_1
                                              replace hx500_2 := (HB.out.cell (World.block_lt_of_cell? w _ hx500_2)).trans hx500_2
                                              replace hx500_3 := (HB.out.cell (World.block_lt_of_cell? w _ hx500_3)).trans hx500_3
                                              have HR500_1 := Aside0.mk hi500_1
                                              have HC500_1 := Aside0.mk hl500_1
                                              clear hi500_1 hl500_1
                                              replace p500 := eq_true p500
                                              replace q500 := eq_true q500
                                              obtain ⟨Ao105, co105, eo105⟩ := Kd.S_slice HO_7.out
                                              (first | subst eo105 | (injection eo105 with f1_ f2_ f3_; have f4_ := f1_.symm; have f5_ := f3_.symm; clear f1_ f2_ f3_; subst f4_; subst f5_))
                                              have p501 : 0 ≤ (x18_6 : Int) := of_decide_eq_true (by first | (with_reducible assumption) | assumption)
                                              have q501 : x18_6 < (x7_2.length : Int) := of_decide_eq_true (by first | (with_reducible assumption) | assumption)
                                              obtain ⟨ad501, A501_0, c501_0, e501, hx501_0, hl501_0, hi501_0⟩ := at_T25 (Kd.S_reads' HO_7.out).2.2 x18_6 p501 q501
                                              cases e501
                                              obtain ⟨ce501, hce501, hMe501, hcc501⟩ := Kd.S_get HO_7.out z25 x18_6 p501 (by first | exact q501 | exact of_decide_eq_true (by first | (with_reducible assumption) | assumption) | (have e_ := (Kd.S_reads' HO_7.out).1; omega))
                                              obtain ⟨ve501_0, rfl, ge501_0⟩ := k25_openM hMe501
                                              have hv501_0 := hcc501 0 _ rfl
                                              rw [Nat.add_zero, show (k25).sz = 1 from rfl, Nat.mul_one] at hv501_0
                                              replace hv501_0 := Option.some.inj (hv501_0.symm.trans hx501_0)
                                              rw [hv501_0] at ge501_0
                                              have HL501_0 := Aside0.mk (show Kd.R k60 60 _ _ _ _ ((rd_T25 x7_2 x18_6).f0) from ge501_0)
                                              clear hv501_0 ge501_0
                                              clear hcc501 hce501
                                              have HR501_0 := Aside0.mk hi501_0
                                              have HC501_0 := Aside0.mk hl501_0
                                              clear hi501_0 hl501_0
                                              replace p501 := eq_true p501
                                              replace q501 := eq_true q501
                                              refine start_ (n := 11) (S := fun w' => w'.cell? (ad500.add ((x18_6).toNat * 4)) = some (.int .i64 ((rd_T52 l0 x18_6).f0)) ∧ w'.cell? ⟨(ad500.add ((x18_6).toNat * 4)).block, (ad500.add ((x18_6).toNat * 4)).off + 1, none⟩ = some (.slice A500_1 ((rd_T52 l0 x18_6).f1.f0).length c500_1) ∧ w'.cell? ⟨(ad500.add ((x18_6).toNat * 4)).block, (ad500.add ((x18_6).toNat * 4)).off + 2, none⟩ = some (.int .i64 ((rd_T52 l0 x18_6).f2)) ∧ w'.cell? ⟨(ad500.add ((x18_6).toNat * 4)).block, (ad500.add ((x18_6).toNat * 4)).off + 3, none⟩ = some (.bool ((rd_T52 l0 x18_6).f3)) ∧ w'.cell? (ad501.add (x18_6).toNat) = some (.slice A501_0 ((rd_T25 x7_2 x18_6).f0).length c501_0)) (ds := []) #[false, false, false, false, false, false, false, false, false, false, false] (by kernel_rfl) rfl rfl ⟨((HB.out.cell (World.block_lt_of_cell? w _ hw500_0)).trans hw500_0), ((HB.out.cell (World.block_lt_of_cell? w _ hw500_1)).trans hw500_1), ((HB.out.cell (World.block_lt_of_cell? w _ hw500_2)).trans hw500_2), ((HB.out.cell (World.block_lt_of_cell? w _ hw500_3)).trans hw500_3), hx501_0⟩ (fun hHeld => ?_); refine with_tabW chalklinelaw35_FeedNoAlias.tab29 chalklinelaw35_FeedNoAlias.bits29 (fun HT_ HW_ => ?_)
                                              generalize wr.drew = w104 at HO_7 HO_477004 HO_477005 HO_483001 HO_498004 HO_498005 BK448 BK476 BK482 BK497 HB HL501_0 HR500_1 HR501_0 hx500_0 hx500_1 hx500_2 hx500_3 hx501_0 hHeld ⊢
                                              refine pure_ (i := 0) (N := some 132) (v := ?_) (a' := ?_) #[true, false, false, false, false, false, false, false, false, false, false] rfl rfl (any_of HT_.out (by kernel_rfl)) (fun _ _ _ h => h) (Or.inl ⟨by rfl, ?_⟩) ?_ ?_
                                              rotate_left
                                              · intro w'
                                                go_simp
                                                with_reducible rfl
                                              rotate_left
                                              · simp only [Act.put, List.setIfInBounds_toArray, List.set_cons_zero, List.set_cons_succ, i64_w, i32_w]
                                                rfl
                                              refine pure_ (i := 1) (N := some 133) (v := ?_) (a' := ?_) #[true, true, false, false, false, false, false, false, false, false, false] rfl rfl (any_of HT_.out (by kernel_rfl)) (fun _ _ _ h => h) (Or.inl ⟨by rfl, ?_⟩) ?_ ?_
                                              rotate_left
                                              · intro w'
                                                go_simp
                                                with_reducible rfl
                                              rotate_left
                                              · simp only [Act.put, List.setIfInBounds_toArray, List.set_cons_zero, List.set_cons_succ, i64_w, i32_w]
                                                rfl
                                              refine pure_ (i := 2) (N := some 134) (v := ?_) (a' := ?_) #[true, true, true, false, false, false, false, false, false, false, false] rfl rfl (any_of HT_.out (by kernel_rfl)) (fun _ _ _ h => h) (Or.inl ⟨by rfl, ?_⟩) ?_ ?_
                                              rotate_left
                                              · intro w'
                                                go_simp
                                                with_reducible rfl
                                              rotate_left
                                              · simp only [Act.put, List.setIfInBounds_toArray, List.set_cons_zero, List.set_cons_succ, i64_w, i32_w]
                                                rfl
                                              refine pure_ (i := 3) (N := some 135) (v := ?_) (a' := ?_) #[true, true, true, true, false, false, false, false, false, false, false] rfl rfl (any_of HT_.out (by kernel_rfl)) (fun _ _ _ h => h) (Or.inl ⟨by rfl, ?_⟩) ?_ ?_
                                              rotate_left
                                              · intro w'
                                                go_simp
                                                with_reducible rfl
                                              rotate_left
                                              · simp only [Act.put, List.setIfInBounds_toArray, List.set_cons_zero, List.set_cons_succ, i64_w, i32_w]
                                                rfl
                                              refine pure_ (i := 5) (N := some 137) (v := ?_) (a' := ?_) #[true, true, true, true, false, true, false, false, false, false, false] rfl rfl (any_of HT_.out (by kernel_rfl)) (fun _ _ _ h => h) (Or.inl ⟨by rfl, ?_⟩) ?_ ?_
                                              rotate_left
                                              · intro w'
                                                go_simp
                                                with_reducible rfl
                                              rotate_left
                                              · simp only [Act.put, List.setIfInBounds_toArray, List.set_cons_zero, List.set_cons_succ, i64_w, i32_w]
                                                rfl
                                              refine pure_ (i := 6) (N := some 138) (v := ?_) (a' := ?_) #[true, true, true, true, false, true, true, false, false, false, false] rfl rfl (any_of HT_.out (by kernel_rfl)) (fun _ _ _ h => h) (Or.inl ⟨by rfl, ?_⟩) ?_ ?_
                                              rotate_left
                                              · intro w'
                                                go_simp
                                                with_reducible rfl
                                              rotate_left
                                              · simp only [Act.put, List.setIfInBounds_toArray, List.set_cons_zero, List.set_cons_succ, i64_w, i32_w]
                                                rfl
                                              refine pure_ (i := 7) (N := some 139) (v := ?_) (a' := ?_) #[true, true, true, true, false, true, true, true, false, false, false] rfl rfl (any_of HT_.out (by kernel_rfl)) (fun _ _ _ h => h) (Or.inl ⟨by rfl, ?_⟩) ?_ ?_
                                              rotate_left
                                              · intro w'
                                                go_simp
                                                with_reducible rfl
                                              rotate_left
                                              · simp only [Act.put, List.setIfInBounds_toArray, List.set_cons_zero, List.set_cons_succ, i64_w, i32_w]
                                                rfl
                                              refine take_ (i := 4) (N := some 136) (v := ?_) (a' := ?_) #[true, true, true, true, true, true, true, true, false, false, false] rfl rfl (take_ofW HT_.out HW_.out (by kernel_rfl)) (fun _ _ _ h => h) (Or.inl ⟨by rfl, ?_⟩) hHeld ?_ ?_
                                              rotate_left
                                              · rintro w' ⟨s0, s1, s2, s3, s4⟩
                                                go_simp
                                                with_reducible rfl
                                              rotate_left
                                              · simp only [Act.put, List.setIfInBounds_toArray, List.set_cons_zero, List.set_cons_succ, i64_w, i32_w]
                                                rfl
                                              refine take_ (i := 8) (N := some 140) (v := ?_) (a' := ?_) #[true, true, true, true, true, true, true, true, true, false, false] rfl rfl (take_ofW HT_.out HW_.out (by kernel_rfl)) (fun _ _ _ h => h) (Or.inl ⟨by rfl, ?_⟩) hHeld ?_ ?_
                                              rotate_left
                                              · rintro w' ⟨s0, s1, s2, s3, s4⟩
                                                go_simp
                                                with_reducible rfl
                                              rotate_left
                                              · simp only [Act.put, List.setIfInBounds_toArray, List.set_cons_zero, List.set_cons_succ, i64_w, i32_w]
                                                rfl
                                              refine one_ (i := 9) (N := some 141) #[true, true, true, true, true, true, true, true, true, true, false] rfl rfl (one_of HT_.out (by kernel_rfl)) (by decide) (fun K hK => ?_)
                                              refine goes_ Try.func27 (by kernel_rfl) rfl #[.agg #[.slice A500_1 ((rd_T52 l0 x18_6).f1.f0).length c500_1], .agg #[.slice A501_0 ((rd_T25 x7_2 x18_6).f0).length c501_0]] (by rfl) rfl rfl (by (try simp only [List.map_toArray, List.map_cons, List.map_nil]); first | done | rfl | (simp only [List.length_drop, List.length_take]; rfl)) ?_
                                              with_reducible refine (chalklineref04_Same.calls k6 _ _ ((rd_T52 l0 x18_6).f1.f0) _ _ ((rd_T25 x7_2 x18_6).f0) true _ ?side1 ?side2 ?side3 ?side4 A102.out).mono ?_
                                              (case side1 => repeat (first | exact (Kd.C_below HR500_1.out HB.out) | (with_reducible refine Kd.C_alloc ?_ _) | (with_reducible refine Kd.C_drewN ?_ _) | (with_reducible refine Kd.C_drew ?_)))
                                              (case side2 => exact HC500_1.out)
                                              (case side3 => repeat (first | exact (by repeat (first | (with_reducible exact HR501_0.out) | (with_reducible refine Kd.C_alloc ?_ _) | (with_reducible refine Kd.C_drewN ?_ _) | (with_reducible refine Kd.C_drew ?_) | exact HR501_0.out)) | (with_reducible refine Kd.C_alloc ?_ _) | (with_reducible refine Kd.C_drewN ?_ _) | (with_reducible refine Kd.C_drew ?_)))
                                              (case side4 => exact HC501_0.out)
                                              rintro e w106 ⟨rfl, hb⟩
                                              have HS4_ := (hb.cell (World.block_lt_of_cell? _ _ (hHeld.2.2.2.2))).trans (hHeld.2.2.2.2)
                                              refine ⟨_, rfl, ?_⟩
                                              have n0_ := Aside0.mk (Kd.S_below (by (with_reducible repeat (first | apply Kd.S_alloc | apply Kd.S_drewN | apply Kd.S_drew)); exact HO_7.out) hb)
                                              have n1_ := Aside0.mk (Kd.R_below (by (with_reducible repeat (first | apply Kd.R_alloc | apply Kd.R_drewN | apply Kd.R_drew)); exact HO_477004.out) hb)
                                              have n2_ := Aside0.mk (Kd.R_below (by (with_reducible repeat (first | apply Kd.R_alloc | apply Kd.R_drewN | apply Kd.R_drew)); exact HO_477005.out) hb)
                                              have n3_ := Aside0.mk (Kd.R_below (by (with_reducible repeat (first | apply Kd.R_alloc | apply Kd.R_drewN | apply Kd.R_drew)); exact HO_483001.out) hb)
                                              have n4_ := Aside0.mk (Kd.R_below (by (with_reducible repeat (first | apply Kd.R_alloc | apply Kd.R_drewN | apply Kd.R_drew)); exact HO_498004.out) hb)
                                              have n5_ := Aside0.mk (Kd.R_below (by (with_reducible repeat (first | apply Kd.R_alloc | apply Kd.R_drewN | apply Kd.R_drew)); exact HO_498005.out) hb)
                                              have n6_ := Aside0.mk (Kd.R_below (by (with_reducible repeat (first | apply Kd.R_alloc | apply Kd.R_drewN | apply Kd.R_drew)); exact HL501_0.out) hb)
                                              have n7_ := Aside0.mk (blk_below (g := gb448) (o := .cells #[.int .i64 a2_0, .slice A2_1 l2_1.length c2_1] 27 (0, 0)) (by (with_reducible repeat (first | refine blk_drewN ?_ _ | refine blk_drew ?_ | refine blk_alloc ?_ _)); exact BK448.out) hb)
                                              have n8_ := Aside0.mk (blk_below (g := gb476) (o := .cells #[.int .i64 t465, .int .i64 t466, .int .i64 t467, .int .i64 t468, .slice Ao98 x477004_5.length co98, .slice Ao38 t472.length co38] 32 (0, 0)) (by (with_reducible repeat (first | refine blk_drewN ?_ _ | refine blk_drew ?_ | refine blk_alloc ?_ _)); exact BK476.out) hb)
                                              have n9_ := Aside0.mk (blk_below (g := gb482) (o := .cells #[.int .i64 t477, u483001] 27 (0, 0)) (by (with_reducible repeat (first | refine blk_drewN ?_ _ | refine blk_drew ?_ | refine blk_alloc ?_ _)); exact BK482.out) hb)
                                              have n10_ := Aside0.mk (blk_below (g := gb497) (o := .cells #[.int .i64 t486, .int .i64 t487, .int .i64 t488, .int .i64 t489, u498004, .slice Ao71 t493.length co71] 32 (0, 0)) (by (with_reducible repeat (first | refine blk_drewN ?_ _ | refine blk_drew ?_ | refine blk_alloc ?_ _)); exact BK497.out) hb)
                                              have n11_ := Aside0.mk (Kd.C_below (by repeat (first | (with_reducible exact HR501_0.out) | (with_reducible refine Kd.C_alloc ?_ _) | (with_reducible refine Kd.C_drewN ?_ _) | (with_reducible refine Kd.C_drew ?_) | exact HR501_0.out)) hb)
                                              have n12_ := Aside0.mk (below_step (by repeat (first | (with_reducible first | exact HB.out | apply below_alloc | apply pw_below_drewN | apply below_drew1 | refine below_set ?_ GE448.out | refine below_set ?_ GE476.out | refine below_set ?_ GE482.out | refine below_set ?_ GE497.out) | exact HB.out)) hb)
                                              clear HO_7
                                              clear HO_477004
                                              clear HO_477005
                                              clear HO_483001
                                              clear HO_498004
                                              clear HO_498005
                                              clear HL501_0
                                              clear BK448
                                              clear BK476
                                              clear BK482
                                              clear BK497
                                              clear HR501_0
                                              clear HB
                                              have HO_7 := n0_
                                              have HO_477004 := n1_
                                              have HO_477005 := n2_
                                              have HO_483001 := n3_
                                              have HO_498004 := n4_
                                              have HO_498005 := n5_
                                              have HL501_0 := n6_
                                              have BK448 := n7_
                                              have BK476 := n8_
                                              have BK482 := n9_
                                              have BK497 := n10_
                                              have HR501_0 := n11_
                                              have HB := n12_
                                              clear n0_ n1_ n2_ n3_ n4_ n5_ n6_ n7_ n8_ n9_ n10_ n11_ n12_
                                              (try clear hb)
                                              (try clear hb2)
                                              (try clear hk)
                                              (try clear hi)
                                              refine hK.out _ _ ⟨((HB.out.cell (World.block_lt_of_cell? w _ hw500_0)).trans hw500_0), ((HB.out.cell (World.block_lt_of_cell? w _ hw500_1)).trans hw500_1), ((HB.out.cell (World.block_lt_of_cell? w _ hw500_2)).trans hw500_2), ((HB.out.cell (World.block_lt_of_cell? w _ hw500_3)).trans hw500_3), HS4_⟩ (fun hHeld => ?_)
                                              clear hK K
                                              refine norm_ (a' := ?_) ?_ ?_
                                              rotate_left
                                              · show Act.put _ (some 141) _ = _
                                                simp only [Act.put, List.setIfInBounds_toArray, List.set_cons_zero, List.set_cons_succ, i64_w, i32_w]
                                                rfl
                                              refine pure_ (i := 10) (N := some 142) (v := ?_) (a' := ?_) #[true, true, true, true, true, true, true, true, true, true, true] rfl rfl (any_of HT_.out (by kernel_rfl)) (fun _ _ _ h => h) (Or.inl ⟨by rfl, ?_⟩) ?_ ?_
                                              rotate_left
                                              · intro w'
                                                go_simp
                                                with_reducible rfl
                                              rotate_left
                                              · simp only [Act.put, List.setIfInBounds_toArray, List.set_cons_zero, List.set_cons_succ, i64_w, i32_w]
                                                rfl
                                              refine done_ (done_of HT_.out (by kernel_rfl)) ?_
                                              try go_wp2
                                              go_roundg k6
                                              case measure => have := HJ5.out; have := HK2.out; have := HJ31.out; have := HJ62.out; have := HK5.out; have := HK6.out; omega
                                              case rel => exact ⟨(wrap64 (x18_6 + 1)), (by first | rfl | (simp; done) | (simp [*]; done)), H', ⟨by have := HJ5.out; have := HK2.out; have := HJ31.out; have := HJ62.out; have := HK5.out; have := HK6.out; omega⟩, ⟨by (with_reducible repeat (first | apply Kd.S_alloc | apply Kd.S_drewN | apply Kd.S_drew)); exact HO_7.out⟩, ⟨by (with_reducible repeat (first | apply Kd.R_alloc | apply Kd.R_drewN | apply Kd.R_drew)); exact HO_477004.out⟩, ⟨by (with_reducible repeat (first | apply Kd.R_alloc | apply Kd.R_drewN | apply Kd.R_drew)); exact HO_477005.out⟩, ⟨by (with_reducible repeat (first | apply Kd.R_alloc | apply Kd.R_drewN | apply Kd.R_drew)); exact HO_483001.out⟩, ⟨by (with_reducible repeat (first | apply Kd.R_alloc | apply Kd.R_drewN | apply Kd.R_drew)); exact HO_498004.out⟩, ⟨by (with_reducible repeat (first | apply Kd.R_alloc | apply Kd.R_drewN | apply Kd.R_drew)); exact HO_498005.out⟩, ⟨by (with_reducible repeat (first | refine blk_drewN ?_ _ | refine blk_drew ?_ | refine blk_alloc ?_ _)); exact BK448.out⟩, ⟨by (with_reducible repeat (first | refine blk_drewN ?_ _ | refine blk_drew ?_ | refine blk_alloc ?_ _)); exact BK476.out⟩, ⟨by (with_reducible repeat (first | refine blk_drewN ?_ _ | refine blk_drew ?_ | refine blk_alloc ?_ _)); exact BK482.out⟩, ⟨by (with_reducible repeat (first | refine blk_drewN ?_ _ | refine blk_drew ?_ | refine blk_alloc ?_ _)); exact BK497.out⟩, ⟨by repeat (first | (with_reducible first | exact HB.out | apply below_alloc | apply pw_below_drewN | apply below_drew1 | refine below_set ?_ GE448.out | refine below_set ?_ GE476.out | refine below_set ?_ GE482.out | refine below_set ?_ GE497.out) | exact HB.out)⟩⟩
                                            · replace c103 := Bool.eq_false_iff.mpr c103
                                              subst c103
                                              have H1 : (some false) = some r := by rw [if_neg (show ¬ (false = true) by decide)] at H; exact H
                                              clear H
                                              have H := H1
                                              clear H1
                                              obtain rfl := Option.some.inj H
                                              try go_wp2
                                              have n0_ := Aside0.mk (Kd.S_drew HO_7.out)
                                              have n1_ := Aside0.mk (Kd.R_drew HO_477004.out)
                                              have n2_ := Aside0.mk (Kd.R_drew HO_477005.out)
                                              have n3_ := Aside0.mk (Kd.R_drew HO_483001.out)
                                              have n4_ := Aside0.mk (Kd.R_drew HO_498004.out)
                                              have n5_ := Aside0.mk (Kd.R_drew HO_498005.out)
                                              have n6_ := Aside0.mk (blk_drew BK448.out)
                                              have n7_ := Aside0.mk (blk_drew BK476.out)
                                              have n8_ := Aside0.mk (blk_drew BK482.out)
                                              have n9_ := Aside0.mk (blk_drew BK497.out)
                                              have n10_ := Aside0.mk (below_drew1 HB.out)
                                              clear HO_7
                                              clear HO_477004
                                              clear HO_477005
                                              clear HO_483001
                                              clear HO_498004
                                              clear HO_498005
                                              clear BK448
                                              clear BK476
                                              clear BK482
                                              clear BK497
                                              clear HB
                                              have HO_7 := n0_
                                              have HO_477004 := n1_
                                              have HO_477005 := n2_
                                              have HO_483001 := n3_
                                              have HO_498004 := n4_
                                              have HO_498005 := n5_
                                              have BK448 := n6_
                                              have BK476 := n7_
                                              have BK482 := n8_
                                              have BK497 := n9_
                                              have HB := n10_
                                              clear n0_ n1_ n2_ n3_ n4_ n5_ n6_ n7_ n8_ n9_ n10_
                                              have p500 : 0 ≤ (x18_6 : Int) := of_decide_eq_true (by first | (with_reducible assumption) | assumption)
                                              have q500 : x18_6 < (l0.length : Int) := of_decide_eq_true (by first | (with_reducible assumption) | assumption)
                                              obtain ⟨ad500, A500_1, c500_1, e500, hx500_0, hx500_1, hx500_2, hx500_3, hl500_1, hi500_1⟩ := at_T52 HR0.out x18_6 p500 q500
                                              have hw500_3 := hx500_3
                                              have hw500_2 := hx500_2
                                              have hw500_1 := hx500_1
                                              have hw500_0 := hx500_0
                                              cases e500
                                              replace hx500_0 := (HB.out.cell (World.block_lt_of_cell? w _ hx500_0)).trans hx500_0
                                              replace hx500_1 := (HB.out.cell (World.block_lt_of_cell? w _ hx500_1)).trans hx500_1
                                              replace hx500_2 := (HB.out.cell (World.block_lt_of_cell? w _ hx500_2)).trans hx500_2
                                              replace hx500_3 := (HB.out.cell (World.block_lt_of_cell? w _ hx500_3)).trans hx500_3
                                              have HR500_1 := Aside0.mk hi500_1
                                              have HC500_1 := Aside0.mk hl500_1
                                              clear hi500_1 hl500_1
                                              replace p500 := eq_true p500
                                              replace q500 := eq_true q500
                                              obtain ⟨Ao108, co108, eo108⟩ := Kd.S_slice HO_7.out
                                              (first | subst eo108 | (injection eo108 with f1_ f2_ f3_; have f4_ := f1_.symm; have f5_ := f3_.symm; clear f1_ f2_ f3_; subst f4_; subst f5_))
                                              have p501 : 0 ≤ (x18_6 : Int) := of_decide_eq_true (by first | (with_reducible assumption) | assumption)
                                              have q501 : x18_6 < (x7_2.length : Int) := of_decide_eq_true (by first | (with_reducible assumption) | assumption)
                                              obtain ⟨ad501, A501_0, c501_0, e501, hx501_0, hl501_0, hi501_0⟩ := at_T25 (Kd.S_reads' HO_7.out).2.2 x18_6 p501 q501
                                              cases e501
                                              obtain ⟨ce501, hce501, hMe501, hcc501⟩ := Kd.S_get HO_7.out z25 x18_6 p501 (by first | exact q501 | exact of_decide_eq_true (by first | (with_reducible assumption) | assumption) | (have e_ := (Kd.S_reads' HO_7.out).1; omega))
                                              obtain ⟨ve501_0, rfl, ge501_0⟩ := k25_openM hMe501
                                              have hv501_0 := hcc501 0 _ rfl
                                              rw [Nat.add_zero, show (k25).sz = 1 from rfl, Nat.mul_one] at hv501_0
                                              replace hv501_0 := Option.some.inj (hv501_0.symm.trans hx501_0)
                                              rw [hv501_0] at ge501_0
                                              have HL501_0 := Aside0.mk (show Kd.R k60 60 _ _ _ _ ((rd_T25 x7_2 x18_6).f0) from ge501_0)
                                              clear hv501_0 ge501_0
                                              clear hcc501 hce501
                                              have HR501_0 := Aside0.mk hi501_0
                                              have HC501_0 := Aside0.mk hl501_0
                                              clear hi501_0 hl501_0
                                              replace p501 := eq_true p501
                                              replace q501 := eq_true q501
                                              refine start_ (n := 11) (S := fun w' => w'.cell? (ad500.add ((x18_6).toNat * 4)) = some (.int .i64 ((rd_T52 l0 x18_6).f0)) ∧ w'.cell? ⟨(ad500.add ((x18_6).toNat * 4)).block, (ad500.add ((x18_6).toNat * 4)).off + 1, none⟩ = some (.slice A500_1 ((rd_T52 l0 x18_6).f1.f0).length c500_1) ∧ w'.cell? ⟨(ad500.add ((x18_6).toNat * 4)).block, (ad500.add ((x18_6).toNat * 4)).off + 2, none⟩ = some (.int .i64 ((rd_T52 l0 x18_6).f2)) ∧ w'.cell? ⟨(ad500.add ((x18_6).toNat * 4)).block, (ad500.add ((x18_6).toNat * 4)).off + 3, none⟩ = some (.bool ((rd_T52 l0 x18_6).f3)) ∧ w'.cell? (ad501.add (x18_6).toNat) = some (.slice A501_0 ((rd_T25 x7_2 x18_6).f0).length c501_0)) (ds := []) #[false, false, false, false, false, false, false, false, false, false, false] (by kernel_rfl) rfl rfl ⟨((HB.out.cell (World.block_lt_of_cell? w _ hw500_0)).trans hw500_0), ((HB.out.cell (World.block_lt_of_cell? w _ hw500_1)).trans hw500_1), ((HB.out.cell (World.block_lt_of_cell? w _ hw500_2)).trans hw500_2), ((HB.out.cell (World.block_lt_of_cell? w _ hw500_3)).trans hw500_3), hx501_0⟩ (fun hHeld => ?_); refine with_tabW chalklinelaw35_FeedNoAlias.tab29 chalklinelaw35_FeedNoAlias.bits29 (fun HT_ HW_ => ?_)
                                              generalize wr.drew = w107 at HO_7 HO_477004 HO_477005 HO_483001 HO_498004 HO_498005 BK448 BK476 BK482 BK497 HB HL501_0 HR500_1 HR501_0 hx500_0 hx500_1 hx500_2 hx500_3 hx501_0 hHeld ⊢
                                              refine pure_ (i := 0) (N := some 132) (v := ?_) (a' := ?_) #[true, false, false, false, false, false, false, false, false, false, false] rfl rfl (any_of HT_.out (by kernel_rfl)) (fun _ _ _ h => h) (Or.inl ⟨by rfl, ?_⟩) ?_ ?_
                                              rotate_left
                                              · intro w'
                                                go_simp
                                                with_reducible rfl
                                              rotate_left
                                              · simp only [Act.put, List.setIfInBounds_toArray, List.set_cons_zero, List.set_cons_succ, i64_w, i32_w]
                                                rfl
                                              refine pure_ (i := 1) (N := some 133) (v := ?_) (a' := ?_) #[true, true, false, false, false, false, false, false, false, false, false] rfl rfl (any_of HT_.out (by kernel_rfl)) (fun _ _ _ h => h) (Or.inl ⟨by rfl, ?_⟩) ?_ ?_
                                              rotate_left
                                              · intro w'
                                                go_simp
                                                with_reducible rfl
                                              rotate_left
                                              · simp only [Act.put, List.setIfInBounds_toArray, List.set_cons_zero, List.set_cons_succ, i64_w, i32_w]
                                                rfl
                                              refine pure_ (i := 2) (N := some 134) (v := ?_) (a' := ?_) #[true, true, true, false, false, false, false, false, false, false, false] rfl rfl (any_of HT_.out (by kernel_rfl)) (fun _ _ _ h => h) (Or.inl ⟨by rfl, ?_⟩) ?_ ?_
                                              rotate_left
                                              · intro w'
                                                go_simp
                                                with_reducible rfl
                                              rotate_left
                                              · simp only [Act.put, List.setIfInBounds_toArray, List.set_cons_zero, List.set_cons_succ, i64_w, i32_w]
                                                rfl
                                              refine pure_ (i := 3) (N := some 135) (v := ?_) (a' := ?_) #[true, true, true, true, false, false, false, false, false, false, false] rfl rfl (any_of HT_.out (by kernel_rfl)) (fun _ _ _ h => h) (Or.inl ⟨by rfl, ?_⟩) ?_ ?_
                                              rotate_left
                                              · intro w'
                                                go_simp
                                                with_reducible rfl
                                              rotate_left
                                              · simp only [Act.put, List.setIfInBounds_toArray, List.set_cons_zero, List.set_cons_succ, i64_w, i32_w]
                                                rfl
                                              refine pure_ (i := 5) (N := some 137) (v := ?_) (a' := ?_) #[true, true, true, true, false, true, false, false, false, false, false] rfl rfl (any_of HT_.out (by kernel_rfl)) (fun _ _ _ h => h) (Or.inl ⟨by rfl, ?_⟩) ?_ ?_
                                              rotate_left
                                              · intro w'
                                                go_simp
                                                with_reducible rfl
                                              rotate_left
                                              · simp only [Act.put, List.setIfInBounds_toArray, List.set_cons_zero, List.set_cons_succ, i64_w, i32_w]
                                                rfl
                                              refine pure_ (i := 6) (N := some 138) (v := ?_) (a' := ?_) #[true, true, true, true, false, true, true, false, false, false, false] rfl rfl (any_of HT_.out (by kernel_rfl)) (fun _ _ _ h => h) (Or.inl ⟨by rfl, ?_⟩) ?_ ?_
                                              rotate_left
                                              · intro w'
                                                go_simp
                                                with_reducible rfl
                                              rotate_left
                                              · simp only [Act.put, List.setIfInBounds_toArray, List.set_cons_zero, List.set_cons_succ, i64_w, i32_w]
                                                rfl
                                              refine pure_ (i := 7) (N := some 139) (v := ?_) (a' := ?_) #[true, true, true, true, false, true, true, true, false, false, false] rfl rfl (any_of HT_.out (by kernel_rfl)) (fun _ _ _ h => h) (Or.inl ⟨by rfl, ?_⟩) ?_ ?_
                                              rotate_left
                                              · intro w'
                                                go_simp
                                                with_reducible rfl
                                              rotate_left
                                              · simp only [Act.put, List.setIfInBounds_toArray, List.set_cons_zero, List.set_cons_succ, i64_w, i32_w]
                                                rfl
                                              refine take_ (i := 4) (N := some 136) (v := ?_) (a' := ?_) #[true, true, true, true, true, true, true, true, false, false, false] rfl rfl (take_ofW HT_.out HW_.out (by kernel_rfl)) (fun _ _ _ h => h) (Or.inl ⟨by rfl, ?_⟩) hHeld ?_ ?_
                                              rotate_left
                                              · rintro w' ⟨s0, s1, s2, s3, s4⟩
                                                go_simp
                                                with_reducible rfl
                                              rotate_left
                                              · simp only [Act.put, List.setIfInBounds_toArray, List.set_cons_zero, List.set_cons_succ, i64_w, i32_w]
                                                rfl
                                              refine take_ (i := 8) (N := some 140) (v := ?_) (a' := ?_) #[true, true, true, true, true, true, true, true, true, false, false] rfl rfl (take_ofW HT_.out HW_.out (by kernel_rfl)) (fun _ _ _ h => h) (Or.inl ⟨by rfl, ?_⟩) hHeld ?_ ?_
                                              rotate_left
                                              · rintro w' ⟨s0, s1, s2, s3, s4⟩
                                                go_simp
                                                with_reducible rfl
                                              rotate_left
                                              · simp only [Act.put, List.setIfInBounds_toArray, List.set_cons_zero, List.set_cons_succ, i64_w, i32_w]
                                                rfl
                                              refine one_ (i := 9) (N := some 141) #[true, true, true, true, true, true, true, true, true, true, false] rfl rfl (one_of HT_.out (by kernel_rfl)) (by decide) (fun K hK => ?_)
                                              refine goes_ Try.func27 (by kernel_rfl) rfl #[.agg #[.slice A500_1 ((rd_T52 l0 x18_6).f1.f0).length c500_1], .agg #[.slice A501_0 ((rd_T25 x7_2 x18_6).f0).length c501_0]] (by rfl) rfl rfl (by (try simp only [List.map_toArray, List.map_cons, List.map_nil]); first | done | rfl | (simp only [List.length_drop, List.length_take]; rfl)) ?_
                                              with_reducible refine (chalklineref04_Same.calls k6 _ _ ((rd_T52 l0 x18_6).f1.f0) _ _ ((rd_T25 x7_2 x18_6).f0) false _ ?side1 ?side2 ?side3 ?side4 A102.out).mono ?_
                                              (case side1 => repeat (first | exact (Kd.C_below HR500_1.out HB.out) | (with_reducible refine Kd.C_alloc ?_ _) | (with_reducible refine Kd.C_drewN ?_ _) | (with_reducible refine Kd.C_drew ?_)))
                                              (case side2 => exact HC500_1.out)
                                              (case side3 => repeat (first | exact (by repeat (first | (with_reducible exact HR501_0.out) | (with_reducible refine Kd.C_alloc ?_ _) | (with_reducible refine Kd.C_drewN ?_ _) | (with_reducible refine Kd.C_drew ?_) | exact HR501_0.out)) | (with_reducible refine Kd.C_alloc ?_ _) | (with_reducible refine Kd.C_drewN ?_ _) | (with_reducible refine Kd.C_drew ?_)))
                                              (case side4 => exact HC501_0.out)
                                              rintro e w109 ⟨rfl, hb⟩
                                              have HS4_ := (hb.cell (World.block_lt_of_cell? _ _ (hHeld.2.2.2.2))).trans (hHeld.2.2.2.2)
                                              refine ⟨_, rfl, ?_⟩
                                              have n0_ := Aside0.mk (Kd.S_below (by (with_reducible repeat (first | apply Kd.S_alloc | apply Kd.S_drewN | apply Kd.S_drew)); exact HO_7.out) hb)
                                              have n1_ := Aside0.mk (Kd.R_below (by (with_reducible repeat (first | apply Kd.R_alloc | apply Kd.R_drewN | apply Kd.R_drew)); exact HO_477004.out) hb)
                                              have n2_ := Aside0.mk (Kd.R_below (by (with_reducible repeat (first | apply Kd.R_alloc | apply Kd.R_drewN | apply Kd.R_drew)); exact HO_477005.out) hb)
                                              have n3_ := Aside0.mk (Kd.R_below (by (with_reducible repeat (first | apply Kd.R_alloc | apply Kd.R_drewN | apply Kd.R_drew)); exact HO_483001.out) hb)
                                              have n4_ := Aside0.mk (Kd.R_below (by (with_reducible repeat (first | apply Kd.R_alloc | apply Kd.R_drewN | apply Kd.R_drew)); exact HO_498004.out) hb)
                                              have n5_ := Aside0.mk (Kd.R_below (by (with_reducible repeat (first | apply Kd.R_alloc | apply Kd.R_drewN | apply Kd.R_drew)); exact HO_498005.out) hb)
                                              have n6_ := Aside0.mk (Kd.R_below (by (with_reducible repeat (first | apply Kd.R_alloc | apply Kd.R_drewN | apply Kd.R_drew)); exact HL501_0.out) hb)
                                              have n7_ := Aside0.mk (blk_below (g := gb448) (o := .cells #[.int .i64 a2_0, .slice A2_1 l2_1.length c2_1] 27 (0, 0)) (by (with_reducible repeat (first | refine blk_drewN ?_ _ | refine blk_drew ?_ | refine blk_alloc ?_ _)); exact BK448.out) hb)
                                              have n8_ := Aside0.mk (blk_below (g := gb476) (o := .cells #[.int .i64 t465, .int .i64 t466, .int .i64 t467, .int .i64 t468, .slice Ao98 x477004_5.length co98, .slice Ao38 t472.length co38] 32 (0, 0)) (by (with_reducible repeat (first | refine blk_drewN ?_ _ | refine blk_drew ?_ | refine blk_alloc ?_ _)); exact BK476.out) hb)
                                              have n9_ := Aside0.mk (blk_below (g := gb482) (o := .cells #[.int .i64 t477, u483001] 27 (0, 0)) (by (with_reducible repeat (first | refine blk_drewN ?_ _ | refine blk_drew ?_ | refine blk_alloc ?_ _)); exact BK482.out) hb)
                                              have n10_ := Aside0.mk (blk_below (g := gb497) (o := .cells #[.int .i64 t486, .int .i64 t487, .int .i64 t488, .int .i64 t489, u498004, .slice Ao71 t493.length co71] 32 (0, 0)) (by (with_reducible repeat (first | refine blk_drewN ?_ _ | refine blk_drew ?_ | refine blk_alloc ?_ _)); exact BK497.out) hb)
                                              have n11_ := Aside0.mk (Kd.C_below (by repeat (first | (with_reducible exact HR501_0.out) | (with_reducible refine Kd.C_alloc ?_ _) | (with_reducible refine Kd.C_drewN ?_ _) | (with_reducible refine Kd.C_drew ?_) | exact HR501_0.out)) hb)
                                              have n12_ := Aside0.mk (below_step (by repeat (first | (with_reducible first | exact HB.out | apply below_alloc | apply pw_below_drewN | apply below_drew1 | refine below_set ?_ GE448.out | refine below_set ?_ GE476.out | refine below_set ?_ GE482.out | refine below_set ?_ GE497.out) | exact HB.out)) hb)
                                              clear HO_7
                                              clear HO_477004
                                              clear HO_477005
                                              clear HO_483001
                                              clear HO_498004
                                              clear HO_498005
                                              clear HL501_0
                                              clear BK448
                                              clear BK476
                                              clear BK482
                                              clear BK497
                                              clear HR501_0
                                              clear HB
                                              have HO_7 := n0_
                                              have HO_477004 := n1_
                                              have HO_477005 := n2_
                                              have HO_483001 := n3_
                                              have HO_498004 := n4_
                                              have HO_498005 := n5_
                                              have HL501_0 := n6_
                                              have BK448 := n7_
                                              have BK476 := n8_
                                              have BK482 := n9_
                                              have BK497 := n10_
                                              have HR501_0 := n11_
                                              have HB := n12_
                                              clear n0_ n1_ n2_ n3_ n4_ n5_ n6_ n7_ n8_ n9_ n10_ n11_ n12_
                                              (try clear hb)
                                              (try clear hb2)
                                              (try clear hk)
                                              (try clear hi)
                                              refine hK.out _ _ ⟨((HB.out.cell (World.block_lt_of_cell? w _ hw500_0)).trans hw500_0), ((HB.out.cell (World.block_lt_of_cell? w _ hw500_1)).trans hw500_1), ((HB.out.cell (World.block_lt_of_cell? w _ hw500_2)).trans hw500_2), ((HB.out.cell (World.block_lt_of_cell? w _ hw500_3)).trans hw500_3), HS4_⟩ (fun hHeld => ?_)
                                              clear hK K
                                              refine norm_ (a' := ?_) ?_ ?_
                                              rotate_left
                                              · show Act.put _ (some 141) _ = _
                                                simp only [Act.put, List.setIfInBounds_toArray, List.set_cons_zero, List.set_cons_succ, i64_w, i32_w]
                                                rfl
                                              refine pure_ (i := 10) (N := some 142) (v := ?_) (a' := ?_) #[true, true, true, true, true, true, true, true, true, true, true] rfl rfl (any_of HT_.out (by kernel_rfl)) (fun _ _ _ h => h) (Or.inl ⟨by rfl, ?_⟩) ?_ ?_
                                              rotate_left
                                              · intro w'
                                                go_simp
                                                with_reducible rfl
                                              rotate_left
                                              · simp only [Act.put, List.setIfInBounds_toArray, List.set_cons_zero, List.set_cons_succ, i64_w, i32_w]
                                                rfl
                                              refine done_ (done_of HT_.out (by kernel_rfl)) ?_
                                              try go_wp2
                                              go_ret
                                              exact ⟨by first | rfl | (simp [errW_none, errW_some] <;> rfl) | (simp [*, errW_none, errW_some] <;> rfl), by repeat (first | (with_reducible first | exact HB.out | apply below_alloc | apply pw_below_drewN | apply below_drew1 | refine below_set ?_ GE448.out | refine below_set ?_ GE476.out | refine below_set ?_ GE482.out | refine below_set ?_ GE497.out) | exact HB.out)⟩
                                          · rw [if_neg c101] at H
                                            exact absurd H (by simp)
                                        · rw [if_neg c100] at H
                                          exact absurd H (by simp)
                                      · rw [if_neg c99] at H
                                        have c99b0 : decide (x18_6 < (l0.length : Int)) = false := decide_eq_false c99
                                        clear c99
                                        obtain rfl := Option.some.inj H
                                        go_wp2
                                        go_ret
                                        exact ⟨by first | rfl | (simp [errW_none, errW_some] <;> rfl) | (simp [*, errW_none, errW_some] <;> rfl), by repeat (first | (with_reducible first | exact HB.out | apply below_alloc | apply pw_below_drewN | apply below_drew1 | refine below_set ?_ GE448.out | refine below_set ?_ GE476.out | refine below_set ?_ GE482.out | refine below_set ?_ GE497.out) | exact HB.out)⟩
                · rw [if_neg c29] at H
                  have c29b0 : (t475 == 0) = false := beq_eq_false_iff_ne.mpr c29
                  have c29b1 : (t475 != 0) = true := bne_iff_ne.mpr c29
                  obtain rfl := Option.some.inj H
                  go_wp2_with (first | ((with_reducible refine gate_callee (f := 13) rfl ?_); refine goesL_ (some 58) rfl rfl Try.func13 (by kernel_rfl) rfl #[.slice A0 l0.length c0, .int .i64 a1, .int .i64 0] rfl (by (try simp only [List.map_toArray, List.map_cons, List.map_nil]); first | done | rfl | (simp only [List.length_drop, List.length_take]; rfl)) ?_; (with_reducible refine (feed_Reply.calls k2 _ _ l0 a1 0 t465 t466 t467 t468 t469 t472 t475 _ ?side1 ?side2 A28.out).mono ?_); (case side1 => repeat (first | exact (Kd.C_below HR0.out HB.out) | (with_reducible refine Kd.C_alloc ?_ _) | (with_reducible refine Kd.C_drewN ?_ _) | (with_reducible refine Kd.C_drew ?_))); (case side2 => exact HC0.out); rintro e w110 ⟨v470, v473, rfl, ho0, ho1, hb⟩; refine ⟨_, rfl, ?_⟩; have n0_ := Aside0.mk (Kd.S_elder' (by (with_reducible repeat (first | apply Kd.S_alloc | apply Kd.S_drewN | apply Kd.S_drew)); exact HO_7.out) (Kd.R_base ho0) hb); have n1_ := Aside0.mk (Kd.R_lower ho0 (below_size (by repeat (first | (with_reducible first | exact HB.out | apply below_alloc | apply pw_below_drewN | apply below_drew1 | refine below_set ?_ GE448.out) | exact HB.out)))); have n2_ := Aside0.mk (Kd.R_lower ho1 (below_size (by repeat (first | (with_reducible first | exact HB.out | apply below_alloc | apply pw_below_drewN | apply below_drew1 | refine below_set ?_ GE448.out) | exact HB.out)))); have n3_ := Aside0.mk (blk_below (g := gb448) (o := .cells #[.int .i64 a2_0, .slice A2_1 l2_1.length c2_1] 27 (0, 0)) (by (with_reducible repeat (first | refine blk_drewN ?_ _ | refine blk_drew ?_ | refine blk_alloc ?_ _)); exact BK448.out) hb); have n4_ := Aside0.mk (below_step (by repeat (first | (with_reducible first | exact HB.out | apply below_alloc | apply pw_below_drewN | apply below_drew1 | refine below_set ?_ GE448.out) | exact HB.out)) hb); clear HO_7; clear BK448; clear HB; have HO_7 := n0_; have HO471 := n1_; have HO474 := n2_; have BK448 := n3_; have HB := n4_; clear n0_ n1_ n2_ n3_ n4_; (try clear hb); (try clear hb2); (try clear hk); (try clear hi); (try clear ho0); (try clear ho1)) | ((with_reducible refine gate_dst (N := 9) rfl ?_); (try (refine gate_guard (by rfl) ?_; dsimp only)); refine box_event ?hg (N := 9) ?hd (cs := #[.int .i64 0, .int .i64 0, .int .i64 0, .int .i64 0, .slice none 0 0, .slice none 0 0]) (t := 32) ?hr ?_; (case hd => rfl); (case hg => rfl); (case hr => first | (go_simp; done) | (go_simp; rfl)); intro gb476 hg w111 hbox hb; have n0_ := Aside0.mk (Kd.S_below (by (with_reducible repeat (first | apply Kd.S_alloc | apply Kd.S_drewN | apply Kd.S_drew)); exact HO_7.out) hb); have n1_ := Aside0.mk (Kd.R_below (by (with_reducible repeat (first | apply Kd.R_alloc | apply Kd.R_drewN | apply Kd.R_drew)); exact HO471.out) hb); have n2_ := Aside0.mk (Kd.R_below (by (with_reducible repeat (first | apply Kd.R_alloc | apply Kd.R_drewN | apply Kd.R_drew)); exact HO474.out) hb); have n3_ := Aside0.mk (blk_below (g := gb448) (o := .cells #[.int .i64 a2_0, .slice A2_1 l2_1.length c2_1] 27 (0, 0)) (by (with_reducible repeat (first | refine blk_drewN ?_ _ | refine blk_drew ?_ | refine blk_alloc ?_ _)); exact BK448.out) hb); have n4_ := Aside0.mk (below_step (by repeat (first | (with_reducible first | exact HB.out | apply below_alloc | apply pw_below_drewN | apply below_drew1 | refine below_set ?_ GE448.out) | exact HB.out)) hb); have n5_ := Aside0.mk (hbox); have n6_ := Aside0.mk ((by rw [hg]; exact (below_size (by repeat (first | (with_reducible first | exact HB.out | apply below_alloc | apply pw_below_drewN | apply below_drew1 | refine below_set ?_ GE448.out) | exact HB.out))) : w.heap.size ≤ gb476)); have n7_ := Aside0.mk ((by rw [hg]; exact (below_size (by repeat (first | (with_reducible first | exact HB.out | apply below_alloc | apply pw_below_drewN | apply below_drew1 | refine below_set ?_ GE448.out) | exact HB.out))) : w.heap.size ≤ gb476)); have n8_ := Aside0.mk ((by rw [hg]; exact Nat.ne_of_lt (blk_lt (g := gb448) (o := .cells #[.int .i64 a2_0, .slice A2_1 l2_1.length c2_1] 27 (0, 0)) (by (with_reducible repeat (first | refine blk_drewN ?_ _ | refine blk_drew ?_ | refine blk_alloc ?_ _)); exact BK448.out)) : gb448 ≠ gb476)); have n9_ := Aside0.mk ((by rw [hg]; exact Nat.ne_of_gt (blk_lt (g := gb448) (o := .cells #[.int .i64 a2_0, .slice A2_1 l2_1.length c2_1] 27 (0, 0)) (by (with_reducible repeat (first | refine blk_drewN ?_ _ | refine blk_drew ?_ | refine blk_alloc ?_ _)); exact BK448.out)) : gb476 ≠ gb448)); clear HO_7; clear HO471; clear HO474; clear BK448; clear HB; have HO_7 := n0_; have HO471 := n1_; have HO474 := n2_; have BK448 := n3_; have HB := n4_; have BK476 := n5_; have GW476 := n6_; have GE476 := n7_; have NB448_476 := n8_; have NB476_448 := n9_; clear n0_ n1_ n2_ n3_ n4_ n5_ n6_ n7_ n8_ n9_; clear hb hbox hg; have hnb112 := NB476_448.out; have hnc112 := NB448_476.out; have hcz113_0 : w111.cell? ⟨gb476, 0, none⟩ = some (.int .i64 0) := (blk_cell BK476.out 0).trans rfl; have hcz113_1 : w111.cell? ⟨gb476, 1, none⟩ = some (.int .i64 0) := (blk_cell BK476.out 1).trans rfl; have hcz113_2 : w111.cell? ⟨gb476, 2, none⟩ = some (.int .i64 0) := (blk_cell BK476.out 2).trans rfl; have hcz113_3 : w111.cell? ⟨gb476, 3, none⟩ = some (.int .i64 0) := (blk_cell BK476.out 3).trans rfl; have hcz113_4 : w111.cell? ⟨gb476, 4, none⟩ = some (.slice none 0 0) := (blk_cell BK476.out 4).trans rfl; have hcz113_5 : w111.cell? ⟨gb476, 5, none⟩ = some (.slice none 0 0) := (blk_cell BK476.out 5).trans rfl; have hfz113_0 := blk_frozen BK476.out 0; have hfz113_1 := blk_frozen BK476.out 1; have hfz113_2 := blk_frozen BK476.out 2; have hfz113_3 := blk_frozen BK476.out 3; have hfz113_4 := blk_frozen BK476.out 4; have hfz113_5 := blk_frozen BK476.out 5; obtain ⟨Ao114, co114, eo114⟩ := Kd.R_slice HO471.out; subst eo114; obtain ⟨Ao115, co115, eo115⟩ := Kd.R_slice HO474.out; subst eo115))
                  go_ret
                  exact ⟨by first | rfl | (simp [errW_none, errW_some] <;> rfl) | (simp [*, errW_none, errW_some] <;> rfl), by repeat (first | (with_reducible first | exact HB.out | apply below_alloc | apply pw_below_drewN | apply below_drew1 | refine below_set ?_ GE448.out | refine below_set ?_ GE476.out) | exact HB.out)⟩
  · replace c5 := Bool.eq_false_iff.mpr c5
    subst c5
    have H1 : (some false) = some r := by rw [if_neg (show ¬ (false = true) by decide)] at H; exact H
    clear H
    have H := H1
    clear H1
    obtain rfl := Option.some.inj H
    go_enter Try.func10, Try.ntmps10
    go_wp2_with (first | ((with_reducible refine gate_dst (N := 5) rfl ?_); (try (refine gate_guard (by rfl) ?_; dsimp only)); refine box_event ?hg (N := 5) ?hd (cs := #[.int .i64 a2_0, .slice A2_1 l2_1.length c2_1]) (t := 27) ?hr ?_; (case hd => rfl); (case hg => rfl); (case hr => first | (go_simp; done) | (go_simp; rfl)); intro gb448 hg w116 hbox hb; have n0_ := Aside0.mk (below_step (by repeat (first | (with_reducible first | exact HB.out | apply below_alloc | apply pw_below_drewN | apply below_drew1) | exact HB.out)) hb); have n1_ := Aside0.mk (hbox); have n2_ := Aside0.mk ((by rw [hg]; exact (below_size (by repeat (first | (with_reducible first | exact HB.out | apply below_alloc | apply pw_below_drewN | apply below_drew1) | exact HB.out))) : w.heap.size ≤ gb448)); have n3_ := Aside0.mk ((by rw [hg]; exact (below_size (by repeat (first | (with_reducible first | exact HB.out | apply below_alloc | apply pw_below_drewN | apply below_drew1) | exact HB.out))) : w.heap.size ≤ gb448)); clear HB; have HB := n0_; have BK448 := n1_; have GW448 := n2_; have GE448 := n3_; clear n0_ n1_ n2_ n3_; clear hb hbox hg) | ((with_reducible refine gate_callee (f := 11) rfl ?_); refine goesL_ (some 19) rfl rfl Try.func11 (by kernel_rfl) rfl #[] rfl (by (try simp only [List.map_toArray, List.map_cons, List.map_nil]); first | done | rfl | (simp only [List.length_drop, List.length_take]; rfl)) ?_; (with_reducible refine (chalklinelaw35_live.calls  false _ A4.out).mono ?_); rintro e w117 ⟨rfl, hb⟩; refine ⟨_, rfl, ?_⟩; have n0_ := Aside0.mk (blk_below (g := gb448) (o := .cells #[.int .i64 a2_0, .slice A2_1 l2_1.length c2_1] 27 (0, 0)) (by (with_reducible repeat (first | refine blk_drewN ?_ _ | refine blk_drew ?_ | refine blk_alloc ?_ _)); exact BK448.out) hb); have n1_ := Aside0.mk (below_step (by repeat (first | (with_reducible first | exact HB.out | apply below_alloc | apply pw_below_drewN | apply below_drew1 | refine below_set ?_ GE448.out) | exact HB.out)) hb); clear BK448; clear HB; have BK448 := n0_; have HB := n1_; clear n0_ n1_; (try clear hb); (try clear hb2); (try clear hk); (try clear hi)))
    go_ret
    exact ⟨by first | rfl | (simp [errW_none, errW_some] <;> rfl) | (simp [*, errW_none, errW_some] <;> rfl), by repeat (first | (with_reducible first | exact HB.out | apply below_alloc | apply pw_below_drewN | apply below_drew1 | refine below_set ?_ GE448.out) | exact HB.out)⟩
end Go.Proofs.Ytfdhnmijaobbdaa.S
end
section
namespace Go.Proofs.YtfdhnmijaobbdaaW.PrintMore
open Go.RowKit Go.Proofs.YtfdhnmijaobbdaaW.PrintWords Go.Proofs.YtfdhnmijaobbdaaW.PrintLast Go.ChangeShapes Go.WideShapes
def Opens {α : Type} (P : Program) (t : TypeId) (d : Kd α) (wf : α → Prop) : Prop :=
  ∀ (H : Type) (enc : TypeId × Value → H) (w : World) (base : Nat) (spare : Nat → Bool) (held : Bool) (fuel : Nat) (cs : List Value) (x : DataW H × List MemPlace), DataW.trod enc P w base spare held fuel t cs = some x → ∃ y, d.K w y cs ∧ wf y
section
variable {P : Program} {t : TypeId}
theorem opens_int {k : IntKind} (ht : P.underlying t = some (.int k)) : Opens P t (Kd.int k) (fun n => (Lit.int k n).wf = true) := by
  intro H enc w base spare held fuel cs x h
  obtain ⟨n, rfl, _, hw⟩ := DataW.trod_int ht h
  exact ⟨n, rfl, hw⟩
theorem opens_bool (ht : P.underlying t = some .bool) : Opens P t Kd.bool (fun _ => True) := by
  intro H enc w base spare held fuel cs x h
  cases fuel with
  | zero => simp [DataW.trod] at h
  | succ n =>
    unfold DataW.trod at h
    rw [ht] at h
    split at h
    case h_1 => exact ⟨_, rfl, trivial⟩
    all_goals simp_all
theorem cells_cell {w : World} {base n : Nat} {a : Addr} {cs : List Value} (h : w.cells? base a n = some cs) : cs.length = n ∧ ∀ i u, cs[i]? = some u → w.cell? (a.add i) = some u := by
  obtain ⟨_, hl, hc⟩ := World.cells?_some h
  refine ⟨hl, fun i u hu => ?_⟩
  have hi : i < n := by rw [← hl]; exact (List.getElem?_eq_some_iff.1 hu).1
  rw [hc i hi, hu]
theorem opens_slice {α : Type} {e : TypeId} {d : Kd α} {wf : α → Prop} (ht : P.underlying t = some (.slice e)) (hsz : P.cellsOf e = d.sz) (h : Opens P e d wf) :
    Opens P t (Kd.slice e d) (fun l => l.length ≤ maxLen ∧ ∀ x ∈ l, wf x) := by
  intro H enc w base spare held fuel cs x hx
  rcases Deep.open_slice ht hx with ⟨rfl, _⟩ | ⟨a, len, cap, m, n, D, Pl, rfl, _, hl, hm, hmm, _, hel⟩
  · exact ⟨[], ⟨none, 0, rfl, Nat.le_refl _, Kd.C_nil _ _⟩, Nat.zero_le _, fun x hx => by cases hx⟩
  · have hlm : len ≤ m := by rw [hmm]; split <;> omega
    have hone : ∀ i, i < len → ∃ y : α, wf y ∧ ∃ c, c.length = d.sz ∧ d.K w y c ∧ ∀ j u, c[j]? = some u → w.cell? ((a.add (i * d.sz)).add j) = some u := by
      intro i hi
      obtain ⟨cs', hc, ht'⟩ := hel i (by omega)
      obtain ⟨y, hK, hw⟩ := h H enc w base spare held n cs' _ ht'
      rw [hsz] at hc
      obtain ⟨hlen, hcell⟩ := cells_cell hc
      exact ⟨y, hw, cs', hlen, hK, hcell⟩
    let f : Nat → Option α := fun i => if hi : i < len then some (Classical.choose (hone i hi)) else none
    have hf : ∀ i (hi : i < len), f i = some (Classical.choose (hone i hi)) := fun i hi => dif_pos hi
    let l : List α := (List.range len).filterMap f
    have hln : ∀ m, m ≤ len → ((List.range m).filterMap f).length = m ∧ ∀ i (hi : i < len), i < m → ((List.range m).filterMap f)[i]? = some (Classical.choose (hone i hi)) := by
      intro m
      induction m with
      | zero => exact fun _ => ⟨rfl, fun i _ h0 => absurd h0 (Nat.not_lt_zero _)⟩
      | succ m ih =>
        intro hm'
        obtain ⟨h1, h2⟩ := ih (by omega)
        rw [List.range_succ, List.filterMap_append]
        have he : [m].filterMap f = [Classical.choose (hone m (by omega))] := by simp [hf m (by omega)]
        rw [he]
        refine ⟨by simp [h1], fun i hi him => ?_⟩
        rcases Nat.lt_succ_iff_lt_or_eq.1 him with hlt | rfl
        · rw [List.getElem?_append_left (by omega)]
          exact h2 i hi hlt
        · rw [List.getElem?_append_right (by omega), h1]
          simp
    obtain ⟨hlen, hget⟩ := hln len (Nat.le_refl _)
    have hmax : cap ≤ 9223372036854775807 := by unfold maxLen at hm; omega
    refine ⟨l, ⟨some a, cap, ?_, ?_, ?_⟩, ?_, ?_⟩
    · show [Value.slice (some a) len cap] = _
      rw [hlen]
    · rw [hlen]; exact hl
    · refine ⟨rfl, by rw [hlen]; omega, fun _ => ⟨a, rfl, fun j p hp => ?_⟩⟩
      have hj : j < len := by rw [← hlen]; exact (List.getElem?_eq_some_iff.1 hp).1
      rw [hget j hj hj] at hp
      obtain rfl := Option.some.inj hp
      obtain ⟨_, c, hc1, hc2, hc3⟩ := Classical.choose_spec (hone j hj)
      exact ⟨c, hc1, hc2, fun i u hu => by rw [← Deep.add_add]; exact hc3 i u hu⟩
    · rw [hlen]; omega
    · intro x hx
      obtain ⟨j, hj⟩ := List.getElem?_of_mem hx
      have hj' : j < len := by rw [← hlen]; exact (List.getElem?_eq_some_iff.1 hj).1
      rw [hget j hj' hj'] at hj
      obtain rfl := Option.some.inj hj
      exact (Classical.choose_spec (hone j hj')).1
def OpensF {α : Type} (P : Program) (fs : List Field) (off : Nat) (d : Kd α) (wf : α → Prop) : Prop :=
  ∀ (H : Type) (enc : TypeId × Value → H) (w : World) (base : Nat) (spare : Nat → Bool) (held : Bool) (n : Nat) (cs : List Value), cs.length = off + d.sz →
    (∀ f ∈ fs, ∃ y, DataW.trod enc P w base spare held n f.type ((cs.drop f.offset).take (P.cellsOf f.type)) = some y) → ∃ y, d.K w y (cs.drop off) ∧ wf y
theorem opensF_one {α : Type} {f : Field} {d : Kd α} {wf : α → Prop} (hsz : P.cellsOf f.type = d.sz) (h : Opens P f.type d wf) : OpensF P [f] f.offset d wf := by
  intro H enc w base spare held n cs hl hf
  obtain ⟨y, hy⟩ := hf f (List.mem_singleton.2 rfl)
  rw [List.take_of_length_le (by rw [List.length_drop, hl, hsz]; omega)] at hy
  exact h H enc w base spare held n _ _ hy
theorem opensF_cons {α β : Type} {f : Field} {fs : List Field} {d : Kd α} {d' : Kd β} {wf : α → Prop} {wf' : β → Prop} (hsz : P.cellsOf f.type = d.sz) (h : Opens P f.type d wf) (h' : OpensF P fs (f.offset + d.sz) d' wf') :
    OpensF P (f :: fs) f.offset (Kd.pair d d') (fun x => wf x.1 ∧ wf' x.2) := by
  intro H enc w base spare held n cs hl hf
  have hl' : cs.length = f.offset + (d.sz + d'.sz) := hl
  obtain ⟨y, hy⟩ := hf f (List.mem_cons_self)
  rw [hsz] at hy
  obtain ⟨a, hK, hw⟩ := h H enc w base spare held n _ _ hy
  obtain ⟨b, hK', hw'⟩ := h' H enc w base spare held n cs (by rw [hl']; omega) (fun g hg => hf g (List.mem_cons_of_mem _ hg))
  refine ⟨(a, b), ⟨(cs.drop f.offset).take d.sz, cs.drop (f.offset + d.sz), ?_, hK, hK'⟩, hw, hw'⟩
  rw [← List.drop_drop, List.take_append_drop]
theorem opens_struct {α : Type} {fs : Array Field} {d : Kd α} {wf : α → Prop} (ht : P.underlying t = some (.struct fs)) (hsz : P.cellsOf t = d.sz) (h : OpensF P fs.toList 0 d wf) : Opens P t d wf := by
  intro H enc w base spare held fuel cs x hx
  obtain ⟨xs, n, _, _, hl, hlen, hf⟩ := DataW.trod_struct ht hx
  obtain ⟨y, hK, hw⟩ := h H enc w base spare held n cs (by rw [hl, hsz]; omega) (fun f hm => by
    obtain ⟨i, hi⟩ := List.getElem?_of_mem hm
    have hi' : fs[i]? = some f := by simpa using hi
    have hlt : i < xs.length := by rw [hlen]; exact (Array.getElem?_eq_some_iff.1 hi').1
    exact ⟨xs[i], by rw [hf i f hi', List.getElem?_eq_getElem hlt]⟩)
  exact ⟨y, by simpa using hK, hw⟩
theorem opens_iso {α β : Type} {d : Kd α} {wf : α → Prop} (f : β → α) (g : α → β) (hfg : ∀ a, f (g a) = a) (h : Opens P t d wf) : Opens P t (Kd.iso d f) (fun b => wf (f b)) := by
  intro H enc w base spare held fuel cs x hx
  obtain ⟨y, hK, hw⟩ := h H enc w base spare held fuel cs x hx
  exact ⟨g y, by show d.K w (f (g y)) cs; rw [hfg]; exact hK, by show wf (f (g y)); rw [hfg]; exact hw⟩
theorem arg_slice {α : Type} {e : TypeId} {d : Kd α} {wf : List α → Prop} {r : Reach} {W : World} {b0 : Nat} {v : Value} (ht : P.underlying t = some (.slice e)) (ho : Opens P t (Kd.slice e d) wf) (hv : Value.okWide P W r b0 t v)
    {H : Type} {enc : TypeId × Value → H} {base : Nat} {spare : Nat → Bool} {held : Bool} {dd : DataW H} {ps : List MemPlace} (h : DataW.Trod enc P W base spare held t v dd ps) :
    ∃ (A : Option Addr) (c : Nat) (l : List α), v = .slice A l.length c ∧ l.length ≤ c ∧ d.C W A l.length l ∧ wf l := by
  obtain ⟨a, len, cap, rfl⟩ := okWide_slice ht hv
  obtain ⟨fuel, hf⟩ := h
  obtain ⟨l, ⟨A, c, he, hl, hC⟩, hw⟩ := ho H enc W base spare held fuel _ _ hf
  have he' : Value.slice a len cap = Value.slice A l.length c := by simpa [Value.cells] using he
  exact ⟨A, c, l, he', hl, hC, hw⟩
theorem arg_struct {α : Type} {fs : Array Field} {d : Kd α} {wf : α → Prop} {r : Reach} {W : World} {b0 : Nat} {v : Value} (ht : P.underlying t = some (.struct fs)) (ho : Opens P t d wf) (hv : Value.okWide P W r b0 t v)
    {H : Type} {enc : TypeId × Value → H} {base : Nat} {spare : Nat → Bool} {held : Bool} {dd : DataW H} {ps : List MemPlace} (h : DataW.Trod enc P W base spare held t v dd ps) :
    ∃ (x : α) (cs : List Value), v = .agg cs.toArray ∧ d.K W x cs ∧ wf x := by
  obtain ⟨cs, rfl, _⟩ := okWide_struct ht hv
  obtain ⟨fuel, hf⟩ := h
  obtain ⟨x, hK, hw⟩ := ho H enc W base spare held fuel _ _ hf
  exact ⟨x, cs.toList, by simp, by simpa [Value.cells] using hK, hw⟩
end
end Go.Proofs.YtfdhnmijaobbdaaW.PrintMore
namespace Go.Proofs.YtfdhnmijaobbdaaW.PrintMore
open Go.RowKit Go.ChangeShapes Go.WideShapes
theorem sized_any {H : Type} {enc : TypeId × Value → H} {P : Program} {W : World} {base : Nat} {spare : Nat → Bool} {held : Bool} {t e : TypeId} {a : Option Addr} {len cap : Nat} {d : DataW H} {ps : List MemPlace} {ts : List TypeId} {ds : List (DataW H)} {j : Nat}
    (hsz : (DataW.weightsEach P ts ds).all (· ≤ reachBytes) = true) (ht : ts[j]? = some t) (hd : ds[j]? = some d) (hu : P.underlying t = some (.slice e)) {B : Nat} (hB : P.bytesOf e = B)
    (h : DataW.Trod enc P W base spare held t (.slice a len cap) d ps) : len * B ≤ 140737488351232 := by
  obtain ⟨fuel, hf⟩ := h
  rcases Deep.open_slice hu hf with ⟨hcs, _⟩ | ⟨x, l, c, m, n, D, Pl, hcs, _, hl, _, hm, hx, _⟩
  · simp [Value.cells] at hcs
    obtain ⟨rfl, rfl, rfl⟩ := hcs
    simp
  · simp [Value.cells] at hcs
    obtain ⟨rfl, rfl, rfl⟩ := hcs
    obtain ⟨hx, _⟩ := Prod.mk.inj hx
    subst hx
    have z := sized_slice hsz ht hd hu
    rw [hB] at z
    refine Nat.le_trans (Nat.mul_le_mul_right _ ?_) z
    simp
end Go.Proofs.YtfdhnmijaobbdaaW.PrintMore
end
section
namespace Go.Proofs.Ytfdhnmijaobbdaa.S
open Go.RowKit Go.Proofs.YtfdhnmijaobbdaaW.PrintWords Go.Proofs.YtfdhnmijaobbdaaW.PrintLast Go.Proofs.YtfdhnmijaobbdaaW.PrintMore
set_option linter.unusedVariables false
def wf60 (x : S60) : Prop := (Lit.int .i64 x.f0).wf = true ∧ (Lit.int .i64 x.f1).wf = true
theorem opens60 : Opens Try.prog 60 k60 wf60 := opens_iso (fun x : S60 => (x.f0, x.f1)) (fun p => ⟨p.1, p.2⟩) (fun _ => rfl) (opens_struct Try.underlying60 (by kernel_rfl) (opensF_cons (by kernel_rfl) (opens_int Try.underlying3) (opensF_one (by kernel_rfl) (opens_int Try.underlying3))))
def wf25 (x : S25) : Prop := (x.f0.length ≤ maxLen ∧ ∀ z_ ∈ x.f0, wf60 z_)
theorem opens25 : Opens Try.prog 25 k25 wf25 := opens_iso (fun x : S25 => (x.f0)) (fun p => ⟨p⟩) (fun _ => rfl) (opens_struct Try.underlying25 (by kernel_rfl) (opensF_one (by kernel_rfl) (opens_slice Try.underlying23 (by kernel_rfl) opens60)))
def wf52 (x : S52) : Prop := (Lit.int .i64 x.f0).wf = true ∧ wf25 x.f1 ∧ (Lit.int .i64 x.f2).wf = true ∧ True
theorem opens52 : Opens Try.prog 52 k52 wf52 := opens_iso (fun x : S52 => (x.f0, x.f1, x.f2, x.f3)) (fun p => ⟨p.1, p.2.1, p.2.2.1, p.2.2.2⟩) (fun _ => rfl) (opens_struct Try.underlying52 (by kernel_rfl) (opensF_cons (by kernel_rfl) (opens_int Try.underlying3) (opensF_cons (by kernel_rfl) opens25 (opensF_cons (by kernel_rfl) (opens_int Try.underlying3) (opensF_one (by kernel_rfl) (opens_bool Try.underlying4))))))
def wf27 (x : S27) : Prop := (Lit.int .i64 x.f0).wf = true ∧ wf25 x.f1
theorem opens27 : Opens Try.prog 27 k27 wf27 := opens_iso (fun x : S27 => (x.f0, x.f1)) (fun p => ⟨p.1, p.2⟩) (fun _ => rfl) (opens_struct Try.underlying27 (by kernel_rfl) (opensF_cons (by kernel_rfl) (opens_int Try.underlying3) (opensF_one (by kernel_rfl) opens25)))
end Go.Proofs.Ytfdhnmijaobbdaa.S
end
section
namespace Go.Proofs.Ytfdhnmijaobbdaa.S
open Go.RowKit Go.Proofs.YtfdhnmijaobbdaaW.PrintWords Go.Proofs.YtfdhnmijaobbdaaW.PrintLast Go.Proofs.YtfdhnmijaobbdaaW.PrintMore
attribute [local go_sem] max2_int min2_int max_two min_two max_three min_three max_four min_four   -- for this text's walks alone
set_option linter.unusedVariables false
set_option linter.unusedSimpArgs false
mutual
def chalklineref35_may.l0 : Nat → Int → List (S60) → Option (Bool)
  | 0, _, _ => none
  | k + 1, x3, x165000 => if x3 < (x165000.length : Int) then (chalklineref35_may.j1 k x3 (decide (x3 < 65)) x165000) else (chalklineref35_may.j1 k x3 false x165000)
def chalklineref35_may.j1 : Nat → Int → Bool → List (S60) → Option (Bool)
  | 0, _, _, _ => none
  | k + 1, x3, x13, x165000 => if x13 = true then (if 0 ≤ x3 then (if x3 < (x165000.length : Int) then (if ((rd_T60 x165000 x3).f0) < 0 then (some false) else (if ((rd_T60 x165000 x3).f0) ≥ 50 then (some false) else (if ((rd_T60 x165000 x3).f1) < 0 then (some false) else (if ((rd_T60 x165000 x3).f1) ≥ 32 then (some false) else (chalklineref35_may.l0 k (wrap64 (x3 + 1)) x165000))))) else (none)) else (none)) else (some (decide ((x165000.length : Int) ≤ 64)))
end
def chalklineref35_may.f (k : Nat) (l0_0 : List (S60)) : Option (Bool) := chalklineref35_may.l0 k 0 l0_0
end Go.Proofs.Ytfdhnmijaobbdaa.S
end
section
namespace Go.Proofs.Ytfdhnmijaobbdaa.S
open Go.RowKit Go.Proofs.YtfdhnmijaobbdaaW.PrintWords Go.Proofs.YtfdhnmijaobbdaaW.PrintLast Go.Proofs.YtfdhnmijaobbdaaW.PrintMore
attribute [local go_sem] max2_int min2_int max_two min_two max_three min_three max_four min_four   -- for this text's walks alone
set_option linter.unusedVariables false
set_option linter.unusedSimpArgs false
def chalklineref35_Check.l0 : Nat → List (S52) → Int → Option (Int)
  | 0, _, _ => none
  | k + 1, x0, x3 => if x3 < (x0.length : Int) then (if 0 ≤ x3 then (if ((rd_T52 x0 x3).f0) = (wrap64 (x3 + 1)) then (if ((rd_T52 x0 x3).f2) < 0 then (some 1) else (if ((rd_T52 x0 x3).f2) > 1099511627776 then (some 1) else ((chalklineref35_may.f k ((rd_T52 x0 x3).f1.f0)).bind fun t171 => (if t171 = true then (chalklineref35_Check.l0 k x0 (wrap64 (x3 + 1))) else (some 1))))) else (some 1)) else (none)) else (some 0)
end Go.Proofs.Ytfdhnmijaobbdaa.S
end
