/- weekBijection_holds: part 6 of the proof: the plain functions, the walks of the program's functions and the laws about them. Conditions: those that each theorem states. -/
import Derived.Deep.Slices
import Derived.ChangeSame
import Derived.WideShapes
import Derived.OpenShut
import Derived.SizedLaws
import Derived.ProofKit
import Derived.HandedShaped
import Derived.LaidMore
import Derived.Shelf.Vars
import Derived.Stop.Joined
import Derived.SevenTiedAt
import Derived.WalkKit
import Derived.ShutString
import Derived.ChangeOld
import Derived.Below
import Derived.Test.YtjdajlnigiicaaaDoorBijection1
import Derived.Test.YtjdajlnigiicaaaDoorBijection2
import Derived.Test.YtjdajlnigiicaaaDoorBijection3
import Derived.Test.YtjdajlnigiicaaaDoorBijection4
import Derived.Test.YtjdajlnigiicaaaDoorBijection5
section
namespace Go.Proofs.YtjdajlnigiicaaaDoor.S
open Go.RowKit Go.Proofs.YtjdajlnigiicaaaDoorW.PrintWords Go.Proofs.YtjdajlnigiicaaaDoorW.PrintLast Go.Proofs.YtjdajlnigiicaaaDoorW.PrintMore
attribute [local go_sem] max2_int min2_int max_two min_two max_three min_three max_four min_four   -- for this text's walks alone
set_option linter.unusedVariables false
set_option linter.unusedSimpArgs false
mutual
def chalklinelaw04_WeekBijection.j0 : Nat → Bool → List (S87) → List (S91) → List (S95) → List (S98) → List (S101) → Option (Bool)
  | 0, _, _, _, _, _, _ => none
  | k + 1, x32, x415000, x415001, x415002, x415003, x415004 => if x32 = true then (some true) else ((week_Vars.f x415000 x415001 x415002 x415003 x415004).bind fun t417 => (if t417 = (wrap64 ((x415004.length : Int) * (wrap64 ((x415000.length : Int) + (x415001.length : Int))))) then (if 0 ≤ (wrap64 (t417 + 1)) then (if (wrap64 (t417 + 1) : Int).toNat ≤ 281474976710656 then (chalklinelaw04_WeekBijection.l0 k t417 (List.replicate (wrap64 (t417 + 1) : Int).toNat false) 0 0 x415000 x415001 x415002 x415003 x415004) else (none)) else (none)) else (some false)))
def chalklinelaw04_WeekBijection.l0 : Nat → Int → List Bool → Int → Int → List (S87) → List (S91) → List (S95) → List (S98) → List (S101) → Option (Bool)
  | 0, _, _, _, _, _, _, _, _, _ => none
  | k + 1, x3, x4, x5, x6, x415000, x415001, x415002, x415003, x415004 => if x6 < (x415004.length : Int) then (chalklinelaw04_WeekBijection.l1 k x3 x4 x5 x6 0 x415000 x415001 x415002 x415003 x415004) else (if x5 = x3 then ((week_At.f x415000 x415001 x415002 x415003 x415004 (-1) 0).bind fun t421 => (if t421 = 0 then ((week_At.f x415000 x415001 x415002 x415003 x415004 0 (x415000.length : Int)).bind fun t422 => (if t422 = 0 then ((week_In.f x415000 x415001 x415002 x415003 x415004 (x415004.length : Int) 0).bind fun t423 => (some (t423 == 0))) else (some false))) else (some false))) else (some false))
def chalklinelaw04_WeekBijection.l1 : Nat → Int → List Bool → Int → Int → Int → List (S87) → List (S91) → List (S95) → List (S98) → List (S101) → Option (Bool)
  | 0, _, _, _, _, _, _, _, _, _, _ => none
  | k + 1, x3, x4, x5, x6, x7, x415000, x415001, x415002, x415003, x415004 => if x7 < (wrap64 ((x415000.length : Int) + (x415001.length : Int))) then ((week_At.f x415000 x415001 x415002 x415003 x415004 x6 x7).bind fun t424 => (if x7 ≥ (x415000.length : Int) then ((week_In.f x415000 x415001 x415002 x415003 x415004 x6 (wrap64 (x7 - (x415000.length : Int)))).bind fun t425 => (if t425 < 1 then (some false) else (if t425 > x3 then (some false) else (if 0 ≤ t425 then (if t425 < (x4.length : Int) then (if rdOf false x4 t425 = true then (some false) else (chalklinelaw04_WeekBijection.l1 k x3 (x4.set (t425 : Int).toNat true) (wrap64 (x5 + 1)) x6 (wrap64 (x7 + 1)) x415000 x415001 x415002 x415003 x415004)) else (none)) else (none))))) else (if t424 < 1 then (some false) else (if t424 > x3 then (some false) else (if 0 ≤ t424 then (if t424 < (x4.length : Int) then (if rdOf false x4 t424 = true then (some false) else (chalklinelaw04_WeekBijection.l1 k x3 (x4.set (t424 : Int).toNat true) (wrap64 (x5 + 1)) x6 (wrap64 (x7 + 1)) x415000 x415001 x415002 x415003 x415004)) else (none)) else (none)))))) else (chalklinelaw04_WeekBijection.l0 k x3 x4 x5 (wrap64 (x6 + 1)) x415000 x415001 x415002 x415003 x415004)
end
def chalklinelaw04_WeekBijection.f (k : Nat) (l0_0 : List (S87)) (l0_1 : List (S91)) (l0_2 : List (S95)) (l0_3 : List (S98)) (l0_4 : List (S101)) : Option (Bool) := (chalklinelaw04_live.f).bind fun t415 => (if t415 = true then ((chalklinelaw04_few.f k l0_0 l0_1 l0_2 l0_3 l0_4 ([] : List (S55))).bind fun t416 => (if t416 = true then (if (l0_4.length : Int) > 20 then (chalklinelaw04_WeekBijection.j0 k true l0_0 l0_1 l0_2 l0_3 l0_4) else (if (l0_0.length : Int) > 60 then (chalklinelaw04_WeekBijection.j0 k true l0_0 l0_1 l0_2 l0_3 l0_4) else (chalklinelaw04_WeekBijection.j0 k (decide ((l0_1.length : Int) > 40)) l0_0 l0_1 l0_2 l0_3 l0_4))) else (chalklinelaw04_WeekBijection.j0 k true l0_0 l0_1 l0_2 l0_3 l0_4))) else (some false))
set_option maxHeartbeats 8000000 in
set_option maxRecDepth 100000 in
theorem chalklinelaw04_WeekBijection.calls (k : Nat) (A0_0 : Option Addr) (c0_0 : Nat) (l0_0 : List (S87)) (A0_1 : Option Addr) (c0_1 : Nat) (l0_1 : List (S91)) (A0_2 : Option Addr) (c0_2 : Nat) (l0_2 : List (S95)) (A0_3 : Option Addr) (c0_3 : Nat) (l0_3 : List (S98)) (A0_4 : Option Addr) (c0_4 : Nat) (l0_4 : List (S101)) (r : Bool) (w : World) (hr0_0 : Kd.C k87 w A0_0 l0_0.length l0_0) (hc0_0 : l0_0.length ≤ c0_0) (hr0_1 : Kd.C k91 w A0_1 l0_1.length l0_1) (hc0_1 : l0_1.length ≤ c0_1) (hr0_2 : Kd.C k95 w A0_2 l0_2.length l0_2) (hc0_2 : l0_2.length ≤ c0_2) (hr0_3 : Kd.C k98 w A0_3 l0_3.length l0_3) (hc0_3 : l0_3.length ≤ c0_3) (hr0_4 : Kd.C k101 w A0_4 l0_4.length l0_4) (hc0_4 : l0_4.length ≤ c0_4) (hV : VOk w) (h : chalklinelaw04_WeekBijection.f k l0_0 l0_1 l0_2 l0_3 l0_4 = some r) :
    Calls Tryd.prog 7 #[.agg #[.slice A0_0 l0_0.length c0_0, .slice A0_1 l0_1.length c0_1, .slice A0_2 l0_2.length c0_2, .slice A0_3 l0_3.length c0_3, .slice A0_4 l0_4.length c0_4]] w fun e w' => e = .returned (.bool r) ∧ Below w.heap.size w w' := by
  have HV := Aside0.mk hV
  clear hV
  have hu45 := Tryd.underlying45
  have hu24 := Tryd.underlying24
  have HR0_0 := Aside0.mk hr0_0
  have HC0_0 := Aside0.mk hc0_0
  clear hr0_0 hc0_0
  have HR0_1 := Aside0.mk hr0_1
  have HC0_1 := Aside0.mk hc0_1
  clear hr0_1 hc0_1
  have HR0_2 := Aside0.mk hr0_2
  have HC0_2 := Aside0.mk hc0_2
  clear hr0_2 hc0_2
  have HR0_3 := Aside0.mk hr0_3
  have HC0_3 := Aside0.mk hc0_3
  clear hr0_3 hc0_3
  have HR0_4 := Aside0.mk hr0_4
  have HC0_4 := Aside0.mk hc0_4
  clear hr0_4 hc0_4
  have HB := Aside0.mk (Below.refl w.heap.size w)
  have H : ((chalklinelaw04_live.f).bind fun t415 => (if t415 = true then ((chalklinelaw04_few.f k l0_0 l0_1 l0_2 l0_3 l0_4 ([] : List (S55))).bind fun t416 => (if t416 = true then (if (l0_4.length : Int) > 20 then (chalklinelaw04_WeekBijection.j0 k true l0_0 l0_1 l0_2 l0_3 l0_4) else (if (l0_0.length : Int) > 60 then (chalklinelaw04_WeekBijection.j0 k true l0_0 l0_1 l0_2 l0_3 l0_4) else (chalklinelaw04_WeekBijection.j0 k (decide ((l0_1.length : Int) > 40)) l0_0 l0_1 l0_2 l0_3 l0_4))) else (chalklinelaw04_WeekBijection.j0 k true l0_0 l0_1 l0_2 l0_3 l0_4))) else (some false))) = some r := h
  clear h
  replace H := Option.bind_eq_some_iff.mp H
  obtain ⟨t415, A20, H⟩ := H
  replace H : (if t415 = true then ((chalklinelaw04_few.f k l0_0 l0_1 l0_2 l0_3 l0_4 ([] : List (S55))).bind fun t416 => (if t416 = true then (if (l0_4.length : Int) > 20 then (chalklinelaw04_WeekBijection.j0 k true l0_0 l0_1 l0_2 l0_3 l0_4) else (if (l0_0.length : Int) > 60 then (chalklinelaw04_WeekBijection.j0 k true l0_0 l0_1 l0_2 l0_3 l0_4) else (chalklinelaw04_WeekBijection.j0 k (decide ((l0_1.length : Int) > 40)) l0_0 l0_1 l0_2 l0_3 l0_4))) else (chalklinelaw04_WeekBijection.j0 k true l0_0 l0_1 l0_2 l0_3 l0_4))) else (some false)) = some r := H
  have A2 := Aside0.mk A20
  clear A20
  by_cases c3 : t415 = true
  rotate_left
  · replace c3 := Bool.eq_false_iff.mpr c3
    subst c3
    have H1 : (some false) = some r := by rw [if_neg (show ¬ (false = true) by decide)] at H; exact H
    clear H
    have H := H1
    clear H1
    obtain rfl := Option.some.inj H
    go_enter Tryd.func7, Tryd.ntmps7
    go_wp2_with (first | ((with_reducible refine gate_dst (N := 1) rfl ?_); (try (refine gate_guard (by rfl) ?_; dsimp only)); refine box_event ?hg (N := 1) ?hd (cs := #[.slice A0_0 l0_0.length c0_0, .slice A0_1 l0_1.length c0_1, .slice A0_2 l0_2.length c0_2, .slice A0_3 l0_3.length c0_3, .slice A0_4 l0_4.length c0_4]) (t := 45) ?hr ?_; (case hd => rfl); (case hg => rfl); (case hr => first | (go_simp; done) | (go_simp; rfl)); intro gb414 hg w112 hbox hb; have n0_ := Aside0.mk (below_step (b_ HB) hb); have n1_ := Aside0.mk (hbox); have n2_ := Aside0.mk ((by rw [hg]; exact (below_size (b_ HB)) : w.heap.size ≤ gb414)); have n3_ := n2_; clear HB; have HB := n0_; have BK414 := n1_; have GW414 := n2_; have GE414 := n3_; clear n0_ n1_ n2_ n3_; clear hb hbox hg) | ((with_reducible refine gate_callee (f := 9) rfl ?_); refine goesL_ (some 9) rfl rfl Tryd.func9 (by kernel_rfl) rfl #[] rfl (by (try simp only [List.map_toArray, List.map_cons, List.map_nil]); first | done | rfl | (simp only [List.length_drop, List.length_take]; rfl)) ?_; (with_reducible refine (chalklinelaw04_live.calls  false _ ?sideV A2.out).mono ?_); (case sideV => exact VOk.below HV.out (b_ HB)); rintro e w113 ⟨rfl, hb⟩; refine ⟨_, rfl, ?_⟩; have n0_ := Aside0.mk (blk_below (k_ BK414) hb); have n1_ := Aside0.mk (below_step (b_ HB) hb); clear BK414; clear HB; have BK414 := n0_; have HB := n1_; clear n0_ n1_; (try clear hb); (try clear hb2); (try clear hk); (try clear hi)))
    go_ret
    exact ⟨by first | rfl | (simp [errW_none, errW_some] <;> rfl) | (simp [*, errW_none, errW_some] <;> rfl), b_ HB⟩
  subst c3
  have H1 : ((chalklinelaw04_few.f k l0_0 l0_1 l0_2 l0_3 l0_4 ([] : List (S55))).bind fun t416 => (if t416 = true then (if (l0_4.length : Int) > 20 then (chalklinelaw04_WeekBijection.j0 k true l0_0 l0_1 l0_2 l0_3 l0_4) else (if (l0_0.length : Int) > 60 then (chalklinelaw04_WeekBijection.j0 k true l0_0 l0_1 l0_2 l0_3 l0_4) else (chalklinelaw04_WeekBijection.j0 k (decide ((l0_1.length : Int) > 40)) l0_0 l0_1 l0_2 l0_3 l0_4))) else (chalklinelaw04_WeekBijection.j0 k true l0_0 l0_1 l0_2 l0_3 l0_4))) = some r := by rw [if_pos rfl] at H; exact H
  clear H
  have H := H1
  clear H1
  have HC4 := Aside0.mk H
  clear H
  go_enter Tryd.func7, Tryd.ntmps7
  go_upto_region 3 with (first | ((with_reducible refine gate_dst (N := 1) rfl ?_); (try (refine gate_guard (by rfl) ?_; dsimp only)); refine box_event ?hg (N := 1) ?hd (cs := #[.slice A0_0 l0_0.length c0_0, .slice A0_1 l0_1.length c0_1, .slice A0_2 l0_2.length c0_2, .slice A0_3 l0_3.length c0_3, .slice A0_4 l0_4.length c0_4]) (t := 45) ?hr ?_; (case hd => rfl); (case hg => rfl); (case hr => first | (go_simp; done) | (go_simp; rfl)); intro gb414 hg w5 hbox hb; have n0_ := Aside0.mk (below_step (b_ HB) hb); have n1_ := Aside0.mk (hbox); have n2_ := Aside0.mk ((by rw [hg]; exact (below_size (b_ HB)) : w.heap.size ≤ gb414)); have n3_ := n2_; clear HB; have HB := n0_; have BK414 := n1_; have GW414 := n2_; have GE414 := n3_; clear n0_ n1_ n2_ n3_; clear hb hbox hg) | ((with_reducible refine gate_callee (f := 9) rfl ?_); refine goesL_ (some 9) rfl rfl Tryd.func9 (by kernel_rfl) rfl #[] rfl (by (try simp only [List.map_toArray, List.map_cons, List.map_nil]); first | done | rfl | (simp only [List.length_drop, List.length_take]; rfl)) ?_; (with_reducible refine (chalklinelaw04_live.calls  true _ ?sideV A2.out).mono ?_); (case sideV => exact VOk.below HV.out (b_ HB)); rintro e w6 ⟨rfl, hb⟩; refine ⟨_, rfl, ?_⟩; have n0_ := Aside0.mk (blk_below (k_ BK414) hb); have n1_ := Aside0.mk (below_step (b_ HB) hb); clear BK414; clear HB; have BK414 := n0_; have HB := n1_; clear n0_ n1_; (try clear hb); (try clear hb2); (try clear hk); (try clear hi)))
  (try simp only [Act.put, List.setIfInBounds_toArray, List.set_cons_zero, List.set_cons_succ])
  go_cut [32] (fun v32 wc => ∃ (kq : Nat) (x32_3 : Bool), v32 = .bool x32_3 ∧ Aside0 (chalklinelaw04_WeekBijection.j0 kq x32_3 l0_0 l0_1 l0_2 l0_3 l0_4 = some r) ∧ Aside0 (kq ≤ k) ∧ Aside0 (wc.heap[gb414]? = some (.cells #[(.slice A0_0 l0_0.length c0_0), (.slice A0_1 l0_1.length c0_1), (.slice A0_2 l0_2.length c0_2), (.slice A0_3 l0_3.length c0_3), (.slice A0_4 l0_4.length c0_4)] 45 (0, 0))) ∧ Aside0 (Below w.heap.size w wc))
  case first =>
    have H := HC4.out
    clear HC4
    replace H := Option.bind_eq_some_iff.mp H
    obtain ⟨t416, A70, H⟩ := H
    replace H : (if t416 = true then (if (l0_4.length : Int) > 20 then (chalklinelaw04_WeekBijection.j0 k true l0_0 l0_1 l0_2 l0_3 l0_4) else (if (l0_0.length : Int) > 60 then (chalklinelaw04_WeekBijection.j0 k true l0_0 l0_1 l0_2 l0_3 l0_4) else (chalklinelaw04_WeekBijection.j0 k (decide ((l0_1.length : Int) > 40)) l0_0 l0_1 l0_2 l0_3 l0_4))) else (chalklinelaw04_WeekBijection.j0 k true l0_0 l0_1 l0_2 l0_3 l0_4)) = some r := H
    have A7 := Aside0.mk A70
    clear A70
    by_cases c8 : t416 = true
    rotate_left
    · replace c8 := Bool.eq_false_iff.mpr c8
      subst c8
      have H1 : (chalklinelaw04_WeekBijection.j0 k true l0_0 l0_1 l0_2 l0_3 l0_4) = some r := by rw [if_neg (show ¬ (false = true) by decide)] at H; exact H
      clear H
      have H := H1
      clear H1
      have H' := Aside0.mk H
      clear H
      have hcz20_0 : w6.cell? ⟨gb414, 0, none⟩ = some (.slice A0_0 l0_0.length c0_0) := (blk_cell BK414.out 0).trans rfl
      have hcz20_1 : w6.cell? ⟨gb414, 1, none⟩ = some (.slice A0_1 l0_1.length c0_1) := (blk_cell BK414.out 1).trans rfl
      have hcz20_2 : w6.cell? ⟨gb414, 2, none⟩ = some (.slice A0_2 l0_2.length c0_2) := (blk_cell BK414.out 2).trans rfl
      have hcz20_3 : w6.cell? ⟨gb414, 3, none⟩ = some (.slice A0_3 l0_3.length c0_3) := (blk_cell BK414.out 3).trans rfl
      have hcz20_4 : w6.cell? ⟨gb414, 4, none⟩ = some (.slice A0_4 l0_4.length c0_4) := (blk_cell BK414.out 4).trans rfl
      have hfz20_0 := blk_frozen BK414.out 0
      have hfz20_1 := blk_frozen BK414.out 1
      have hfz20_2 := blk_frozen BK414.out 2
      have hfz20_3 := blk_frozen BK414.out 3
      have hfz20_4 := blk_frozen BK414.out 4
      go_wp2_with (first | ((with_reducible refine gate_callee (f := 20) rfl ?_); refine goesL_ (some 13) rfl rfl Tryd.func20 (by kernel_rfl) rfl #[.agg #[.slice A0_0 l0_0.length c0_0, .slice A0_1 l0_1.length c0_1, .slice A0_2 l0_2.length c0_2, .slice A0_3 l0_3.length c0_3, .slice A0_4 l0_4.length c0_4], .agg #[.slice none 0 0]] rfl (by (try simp only [List.map_toArray, List.map_cons, List.map_nil]); first | done | rfl | (simp only [List.length_drop, List.length_take]; rfl)) ?_; (refine (chalklinelaw04_few.calls k _ _ l0_0 _ _ l0_1 _ _ l0_2 _ _ l0_3 _ _ l0_4 _ _ ([] : List (S55)) false _ ?side1 ?side2 ?side3 ?side4 ?side5 ?side6 ?side7 ?side8 ?side9 ?side10 ?side11 ?side12 A7.out).mono ?_); (case side1 => repeat (first | exact (Kd.C_below HR0_0.out HB.out) | (with_reducible refine Kd.C_alloc ?_ _) | (with_reducible refine Kd.C_drewN ?_ _) | (with_reducible refine Kd.C_drew ?_))); (case side2 => exact HC0_0.out); (case side3 => repeat (first | exact (Kd.C_below HR0_1.out HB.out) | (with_reducible refine Kd.C_alloc ?_ _) | (with_reducible refine Kd.C_drewN ?_ _) | (with_reducible refine Kd.C_drew ?_))); (case side4 => exact HC0_1.out); (case side5 => repeat (first | exact (Kd.C_below HR0_2.out HB.out) | (with_reducible refine Kd.C_alloc ?_ _) | (with_reducible refine Kd.C_drewN ?_ _) | (with_reducible refine Kd.C_drew ?_))); (case side6 => exact HC0_2.out); (case side7 => repeat (first | exact (Kd.C_below HR0_3.out HB.out) | (with_reducible refine Kd.C_alloc ?_ _) | (with_reducible refine Kd.C_drewN ?_ _) | (with_reducible refine Kd.C_drew ?_))); (case side8 => exact HC0_3.out); (case side9 => repeat (first | exact (Kd.C_below HR0_4.out HB.out) | (with_reducible refine Kd.C_alloc ?_ _) | (with_reducible refine Kd.C_drewN ?_ _) | (with_reducible refine Kd.C_drew ?_))); (case side10 => exact HC0_4.out); (case side11 => exact Kd.C_nil _ _); (case side12 => exact Nat.le_refl _); rintro e w21 ⟨rfl, hb⟩; refine ⟨_, rfl, ?_⟩; have n0_ := Aside0.mk (blk_below (k_ BK414) hb); have n1_ := Aside0.mk (below_step (b_ HB) hb); clear BK414; clear HB; have BK414 := n0_; have HB := n1_; clear n0_ n1_; (try clear hb); (try clear hb2); (try clear hk); (try clear hi)))
      go_meet
      case rel => exact ⟨_, (true), (by first | rfl | (simp; done) | (simp [*]; done)), H', ⟨by first | omega | exact Nat.le_refl _⟩, ⟨k_ BK414⟩, ⟨b_ HB⟩⟩
    subst c8
    have H1 : (if (l0_4.length : Int) > 20 then (chalklinelaw04_WeekBijection.j0 k true l0_0 l0_1 l0_2 l0_3 l0_4) else (if (l0_0.length : Int) > 60 then (chalklinelaw04_WeekBijection.j0 k true l0_0 l0_1 l0_2 l0_3 l0_4) else (chalklinelaw04_WeekBijection.j0 k (decide ((l0_1.length : Int) > 40)) l0_0 l0_1 l0_2 l0_3 l0_4))) = some r := by rw [if_pos rfl] at H; exact H
    clear H
    have H := H1
    clear H1
    by_cases c9 : (l0_4.length : Int) > 20
    · rw [if_pos c9] at H
      have c9b0 : decide (20 < (l0_4.length : Int)) = true := decide_eq_true c9
      have c9b1 : decide (20 < l0_4.length) = true := decide_eq_true (by omega)
      clear c9
      (first | rw [c9b0] | (simp only [i64_w, i32_w]; rw [c9b0]) | skip)
      have H' := Aside0.mk H
      clear H
      have hcz10_0 : w6.cell? ⟨gb414, 0, none⟩ = some (.slice A0_0 l0_0.length c0_0) := (blk_cell BK414.out 0).trans rfl
      have hcz10_1 : w6.cell? ⟨gb414, 1, none⟩ = some (.slice A0_1 l0_1.length c0_1) := (blk_cell BK414.out 1).trans rfl
      have hcz10_2 : w6.cell? ⟨gb414, 2, none⟩ = some (.slice A0_2 l0_2.length c0_2) := (blk_cell BK414.out 2).trans rfl
      have hcz10_3 : w6.cell? ⟨gb414, 3, none⟩ = some (.slice A0_3 l0_3.length c0_3) := (blk_cell BK414.out 3).trans rfl
      have hcz10_4 : w6.cell? ⟨gb414, 4, none⟩ = some (.slice A0_4 l0_4.length c0_4) := (blk_cell BK414.out 4).trans rfl
      have hfz10_0 := blk_frozen BK414.out 0
      have hfz10_1 := blk_frozen BK414.out 1
      have hfz10_2 := blk_frozen BK414.out 2
      have hfz10_3 := blk_frozen BK414.out 3
      have hfz10_4 := blk_frozen BK414.out 4
      go_wp2_with (first | ((with_reducible refine gate_callee (f := 20) rfl ?_); refine goesL_ (some 13) rfl rfl Tryd.func20 (by kernel_rfl) rfl #[.agg #[.slice A0_0 l0_0.length c0_0, .slice A0_1 l0_1.length c0_1, .slice A0_2 l0_2.length c0_2, .slice A0_3 l0_3.length c0_3, .slice A0_4 l0_4.length c0_4], .agg #[.slice none 0 0]] rfl (by (try simp only [List.map_toArray, List.map_cons, List.map_nil]); first | done | rfl | (simp only [List.length_drop, List.length_take]; rfl)) ?_; (refine (chalklinelaw04_few.calls k _ _ l0_0 _ _ l0_1 _ _ l0_2 _ _ l0_3 _ _ l0_4 _ _ ([] : List (S55)) true _ ?side1 ?side2 ?side3 ?side4 ?side5 ?side6 ?side7 ?side8 ?side9 ?side10 ?side11 ?side12 A7.out).mono ?_); (case side1 => repeat (first | exact (Kd.C_below HR0_0.out HB.out) | (with_reducible refine Kd.C_alloc ?_ _) | (with_reducible refine Kd.C_drewN ?_ _) | (with_reducible refine Kd.C_drew ?_))); (case side2 => exact HC0_0.out); (case side3 => repeat (first | exact (Kd.C_below HR0_1.out HB.out) | (with_reducible refine Kd.C_alloc ?_ _) | (with_reducible refine Kd.C_drewN ?_ _) | (with_reducible refine Kd.C_drew ?_))); (case side4 => exact HC0_1.out); (case side5 => repeat (first | exact (Kd.C_below HR0_2.out HB.out) | (with_reducible refine Kd.C_alloc ?_ _) | (with_reducible refine Kd.C_drewN ?_ _) | (with_reducible refine Kd.C_drew ?_))); (case side6 => exact HC0_2.out); (case side7 => repeat (first | exact (Kd.C_below HR0_3.out HB.out) | (with_reducible refine Kd.C_alloc ?_ _) | (with_reducible refine Kd.C_drewN ?_ _) | (with_reducible refine Kd.C_drew ?_))); (case side8 => exact HC0_3.out); (case side9 => repeat (first | exact (Kd.C_below HR0_4.out HB.out) | (with_reducible refine Kd.C_alloc ?_ _) | (with_reducible refine Kd.C_drewN ?_ _) | (with_reducible refine Kd.C_drew ?_))); (case side10 => exact HC0_4.out); (case side11 => exact Kd.C_nil _ _); (case side12 => exact Nat.le_refl _); rintro e w11 ⟨rfl, hb⟩; refine ⟨_, rfl, ?_⟩; have n0_ := Aside0.mk (blk_below (k_ BK414) hb); have n1_ := Aside0.mk (below_step (b_ HB) hb); clear BK414; clear HB; have BK414 := n0_; have HB := n1_; clear n0_ n1_; (try clear hb); (try clear hb2); (try clear hk); (try clear hi); have hcz12_0 : w11.cell? ⟨gb414, 0, none⟩ = some (.slice A0_0 l0_0.length c0_0) := (blk_cell BK414.out 0).trans rfl; have hcz12_1 : w11.cell? ⟨gb414, 1, none⟩ = some (.slice A0_1 l0_1.length c0_1) := (blk_cell BK414.out 1).trans rfl; have hcz12_2 : w11.cell? ⟨gb414, 2, none⟩ = some (.slice A0_2 l0_2.length c0_2) := (blk_cell BK414.out 2).trans rfl; have hcz12_3 : w11.cell? ⟨gb414, 3, none⟩ = some (.slice A0_3 l0_3.length c0_3) := (blk_cell BK414.out 3).trans rfl; have hcz12_4 : w11.cell? ⟨gb414, 4, none⟩ = some (.slice A0_4 l0_4.length c0_4) := (blk_cell BK414.out 4).trans rfl; have hfz12_0 := blk_frozen BK414.out 0; have hfz12_1 := blk_frozen BK414.out 1; have hfz12_2 := blk_frozen BK414.out 2; have hfz12_3 := blk_frozen BK414.out 3; have hfz12_4 := blk_frozen BK414.out 4))
      go_meet
      case rel => exact ⟨_, (true), (by first | rfl | (simp; done) | (simp [*]; done)), H', ⟨by first | omega | exact Nat.le_refl _⟩, ⟨k_ BK414⟩, ⟨b_ HB⟩⟩
    rw [if_neg c9] at H
    have c9b0 : decide (20 < (l0_4.length : Int)) = false := decide_eq_false c9
    have c9b1 : decide (20 < l0_4.length) = false := decide_eq_false (by omega)
    clear c9
    (first | rw [c9b0] | (simp only [i64_w, i32_w]; rw [c9b0]) | skip)
    by_cases c13 : (l0_0.length : Int) > 60
    rotate_left
    · rw [if_neg c13] at H
      have c13b0 : decide (60 < (l0_0.length : Int)) = false := decide_eq_false c13
      have c13b1 : decide (60 < l0_0.length) = false := decide_eq_false (by omega)
      clear c13
      have H' := Aside0.mk H
      clear H
      have hcz17_0 : w6.cell? ⟨gb414, 0, none⟩ = some (.slice A0_0 l0_0.length c0_0) := (blk_cell BK414.out 0).trans rfl
      have hcz17_1 : w6.cell? ⟨gb414, 1, none⟩ = some (.slice A0_1 l0_1.length c0_1) := (blk_cell BK414.out 1).trans rfl
      have hcz17_2 : w6.cell? ⟨gb414, 2, none⟩ = some (.slice A0_2 l0_2.length c0_2) := (blk_cell BK414.out 2).trans rfl
      have hcz17_3 : w6.cell? ⟨gb414, 3, none⟩ = some (.slice A0_3 l0_3.length c0_3) := (blk_cell BK414.out 3).trans rfl
      have hcz17_4 : w6.cell? ⟨gb414, 4, none⟩ = some (.slice A0_4 l0_4.length c0_4) := (blk_cell BK414.out 4).trans rfl
      have hfz17_0 := blk_frozen BK414.out 0
      have hfz17_1 := blk_frozen BK414.out 1
      have hfz17_2 := blk_frozen BK414.out 2
      have hfz17_3 := blk_frozen BK414.out 3
      have hfz17_4 := blk_frozen BK414.out 4
      go_wp2_with (first | ((with_reducible refine gate_callee (f := 20) rfl ?_); refine goesL_ (some 13) rfl rfl Tryd.func20 (by kernel_rfl) rfl #[.agg #[.slice A0_0 l0_0.length c0_0, .slice A0_1 l0_1.length c0_1, .slice A0_2 l0_2.length c0_2, .slice A0_3 l0_3.length c0_3, .slice A0_4 l0_4.length c0_4], .agg #[.slice none 0 0]] rfl (by (try simp only [List.map_toArray, List.map_cons, List.map_nil]); first | done | rfl | (simp only [List.length_drop, List.length_take]; rfl)) ?_; (refine (chalklinelaw04_few.calls k _ _ l0_0 _ _ l0_1 _ _ l0_2 _ _ l0_3 _ _ l0_4 _ _ ([] : List (S55)) true _ ?side1 ?side2 ?side3 ?side4 ?side5 ?side6 ?side7 ?side8 ?side9 ?side10 ?side11 ?side12 A7.out).mono ?_); (case side1 => repeat (first | exact (Kd.C_below HR0_0.out HB.out) | (with_reducible refine Kd.C_alloc ?_ _) | (with_reducible refine Kd.C_drewN ?_ _) | (with_reducible refine Kd.C_drew ?_))); (case side2 => exact HC0_0.out); (case side3 => repeat (first | exact (Kd.C_below HR0_1.out HB.out) | (with_reducible refine Kd.C_alloc ?_ _) | (with_reducible refine Kd.C_drewN ?_ _) | (with_reducible refine Kd.C_drew ?_))); (case side4 => exact HC0_1.out); (case side5 => repeat (first | exact (Kd.C_below HR0_2.out HB.out) | (with_reducible refine Kd.C_alloc ?_ _) | (with_reducible refine Kd.C_drewN ?_ _) | (with_reducible refine Kd.C_drew ?_))); (case side6 => exact HC0_2.out); (case side7 => repeat (first | exact (Kd.C_below HR0_3.out HB.out) | (with_reducible refine Kd.C_alloc ?_ _) | (with_reducible refine Kd.C_drewN ?_ _) | (with_reducible refine Kd.C_drew ?_))); (case side8 => exact HC0_3.out); (case side9 => repeat (first | exact (Kd.C_below HR0_4.out HB.out) | (with_reducible refine Kd.C_alloc ?_ _) | (with_reducible refine Kd.C_drewN ?_ _) | (with_reducible refine Kd.C_drew ?_))); (case side10 => exact HC0_4.out); (case side11 => exact Kd.C_nil _ _); (case side12 => exact Nat.le_refl _); rintro e w18 ⟨rfl, hb⟩; refine ⟨_, rfl, ?_⟩; have n0_ := Aside0.mk (blk_below (k_ BK414) hb); have n1_ := Aside0.mk (below_step (b_ HB) hb); clear BK414; clear HB; have BK414 := n0_; have HB := n1_; clear n0_ n1_; (try clear hb); (try clear hb2); (try clear hk); (try clear hi); have hcz19_0 : w18.cell? ⟨gb414, 0, none⟩ = some (.slice A0_0 l0_0.length c0_0) := (blk_cell BK414.out 0).trans rfl; have hcz19_1 : w18.cell? ⟨gb414, 1, none⟩ = some (.slice A0_1 l0_1.length c0_1) := (blk_cell BK414.out 1).trans rfl; have hcz19_2 : w18.cell? ⟨gb414, 2, none⟩ = some (.slice A0_2 l0_2.length c0_2) := (blk_cell BK414.out 2).trans rfl; have hcz19_3 : w18.cell? ⟨gb414, 3, none⟩ = some (.slice A0_3 l0_3.length c0_3) := (blk_cell BK414.out 3).trans rfl; have hcz19_4 : w18.cell? ⟨gb414, 4, none⟩ = some (.slice A0_4 l0_4.length c0_4) := (blk_cell BK414.out 4).trans rfl; have hfz19_0 := blk_frozen BK414.out 0; have hfz19_1 := blk_frozen BK414.out 1; have hfz19_2 := blk_frozen BK414.out 2; have hfz19_3 := blk_frozen BK414.out 3; have hfz19_4 := blk_frozen BK414.out 4))
      go_meet
      case rel => exact ⟨_, (decide ((l0_1.length : Int) > 40)), (by first | rfl | (simp; done) | (simp [*]; done)), H', ⟨by first | omega | exact Nat.le_refl _⟩, ⟨k_ BK414⟩, ⟨b_ HB⟩⟩
    rw [if_pos c13] at H
    have c13b0 : decide (60 < (l0_0.length : Int)) = true := decide_eq_true c13
    have c13b1 : decide (60 < l0_0.length) = true := decide_eq_true (by omega)
    clear c13
    have H' := Aside0.mk H
    clear H
    have hcz14_0 : w6.cell? ⟨gb414, 0, none⟩ = some (.slice A0_0 l0_0.length c0_0) := (blk_cell BK414.out 0).trans rfl
    have hcz14_1 : w6.cell? ⟨gb414, 1, none⟩ = some (.slice A0_1 l0_1.length c0_1) := (blk_cell BK414.out 1).trans rfl
    have hcz14_2 : w6.cell? ⟨gb414, 2, none⟩ = some (.slice A0_2 l0_2.length c0_2) := (blk_cell BK414.out 2).trans rfl
    have hcz14_3 : w6.cell? ⟨gb414, 3, none⟩ = some (.slice A0_3 l0_3.length c0_3) := (blk_cell BK414.out 3).trans rfl
    have hcz14_4 : w6.cell? ⟨gb414, 4, none⟩ = some (.slice A0_4 l0_4.length c0_4) := (blk_cell BK414.out 4).trans rfl
    have hfz14_0 := blk_frozen BK414.out 0
    have hfz14_1 := blk_frozen BK414.out 1
    have hfz14_2 := blk_frozen BK414.out 2
    have hfz14_3 := blk_frozen BK414.out 3
    have hfz14_4 := blk_frozen BK414.out 4
    go_wp2_with (first | ((with_reducible refine gate_callee (f := 20) rfl ?_); refine goesL_ (some 13) rfl rfl Tryd.func20 (by kernel_rfl) rfl #[.agg #[.slice A0_0 l0_0.length c0_0, .slice A0_1 l0_1.length c0_1, .slice A0_2 l0_2.length c0_2, .slice A0_3 l0_3.length c0_3, .slice A0_4 l0_4.length c0_4], .agg #[.slice none 0 0]] rfl (by (try simp only [List.map_toArray, List.map_cons, List.map_nil]); first | done | rfl | (simp only [List.length_drop, List.length_take]; rfl)) ?_; (refine (chalklinelaw04_few.calls k _ _ l0_0 _ _ l0_1 _ _ l0_2 _ _ l0_3 _ _ l0_4 _ _ ([] : List (S55)) true _ ?side1 ?side2 ?side3 ?side4 ?side5 ?side6 ?side7 ?side8 ?side9 ?side10 ?side11 ?side12 A7.out).mono ?_); (case side1 => repeat (first | exact (Kd.C_below HR0_0.out HB.out) | (with_reducible refine Kd.C_alloc ?_ _) | (with_reducible refine Kd.C_drewN ?_ _) | (with_reducible refine Kd.C_drew ?_))); (case side2 => exact HC0_0.out); (case side3 => repeat (first | exact (Kd.C_below HR0_1.out HB.out) | (with_reducible refine Kd.C_alloc ?_ _) | (with_reducible refine Kd.C_drewN ?_ _) | (with_reducible refine Kd.C_drew ?_))); (case side4 => exact HC0_1.out); (case side5 => repeat (first | exact (Kd.C_below HR0_2.out HB.out) | (with_reducible refine Kd.C_alloc ?_ _) | (with_reducible refine Kd.C_drewN ?_ _) | (with_reducible refine Kd.C_drew ?_))); (case side6 => exact HC0_2.out); (case side7 => repeat (first | exact (Kd.C_below HR0_3.out HB.out) | (with_reducible refine Kd.C_alloc ?_ _) | (with_reducible refine Kd.C_drewN ?_ _) | (with_reducible refine Kd.C_drew ?_))); (case side8 => exact HC0_3.out); (case side9 => repeat (first | exact (Kd.C_below HR0_4.out HB.out) | (with_reducible refine Kd.C_alloc ?_ _) | (with_reducible refine Kd.C_drewN ?_ _) | (with_reducible refine Kd.C_drew ?_))); (case side10 => exact HC0_4.out); (case side11 => exact Kd.C_nil _ _); (case side12 => exact Nat.le_refl _); rintro e w15 ⟨rfl, hb⟩; refine ⟨_, rfl, ?_⟩; have n0_ := Aside0.mk (blk_below (k_ BK414) hb); have n1_ := Aside0.mk (below_step (b_ HB) hb); clear BK414; clear HB; have BK414 := n0_; have HB := n1_; clear n0_ n1_; (try clear hb); (try clear hb2); (try clear hk); (try clear hi); have hcz16_0 : w15.cell? ⟨gb414, 0, none⟩ = some (.slice A0_0 l0_0.length c0_0) := (blk_cell BK414.out 0).trans rfl; have hcz16_1 : w15.cell? ⟨gb414, 1, none⟩ = some (.slice A0_1 l0_1.length c0_1) := (blk_cell BK414.out 1).trans rfl; have hcz16_2 : w15.cell? ⟨gb414, 2, none⟩ = some (.slice A0_2 l0_2.length c0_2) := (blk_cell BK414.out 2).trans rfl; have hcz16_3 : w15.cell? ⟨gb414, 3, none⟩ = some (.slice A0_3 l0_3.length c0_3) := (blk_cell BK414.out 3).trans rfl; have hcz16_4 : w15.cell? ⟨gb414, 4, none⟩ = some (.slice A0_4 l0_4.length c0_4) := (blk_cell BK414.out 4).trans rfl; have hfz16_0 := blk_frozen BK414.out 0; have hfz16_1 := blk_frozen BK414.out 1; have hfz16_2 := blk_frozen BK414.out 2; have hfz16_3 := blk_frozen BK414.out 3; have hfz16_4 := blk_frozen BK414.out 4))
    go_meet
    case rel => exact ⟨_, (true), (by first | rfl | (simp; done) | (simp [*]; done)), H', ⟨by first | omega | exact Nat.le_refl _⟩, ⟨k_ BK414⟩, ⟨b_ HB⟩⟩
  case rest =>
    clear HC4
    try clear c3
    obtain ⟨kq, x32_3, rfl, HA, HJ3, BK414, HB⟩ := hcut
    cases kq with
    | zero => exact absurd HA.out (by simp [chalklinelaw04_WeekBijection.j0])
    | succ kj3 =>
      have H := HA.out
      clear HA
      simp only [chalklinelaw04_WeekBijection.j0] at H
      by_cases c22 : x32_3 = true
      · subst c22
        have H1 : (some true) = some r := by rw [if_pos rfl] at H; exact H
        clear H
        have H := H1
        clear H1
        obtain rfl := Option.some.inj H
        go_wp2
        go_ret
        exact ⟨by first | rfl | (simp [errW_none, errW_some] <;> rfl) | (simp [*, errW_none, errW_some] <;> rfl), b_ HB⟩
      replace c22 := Bool.eq_false_iff.mpr c22
      subst c22
      have H1 : ((week_Vars.f l0_0 l0_1 l0_2 l0_3 l0_4).bind fun t417 => (if t417 = (wrap64 ((l0_4.length : Int) * (wrap64 ((l0_0.length : Int) + (l0_1.length : Int))))) then (if 0 ≤ (wrap64 (t417 + 1)) then (if (wrap64 (t417 + 1) : Int).toNat ≤ 281474976710656 then (chalklinelaw04_WeekBijection.l0 kj3 t417 (List.replicate (wrap64 (t417 + 1) : Int).toNat false) 0 0 l0_0 l0_1 l0_2 l0_3 l0_4) else (none)) else (none)) else (some false))) = some r := by rw [if_neg (show ¬ (false = true) by decide)] at H; exact H
      clear H
      have H := H1
      clear H1
      replace H := Option.bind_eq_some_iff.mp H
      obtain ⟨t417, A230, H⟩ := H
      replace H : (if t417 = (wrap64 ((l0_4.length : Int) * (wrap64 ((l0_0.length : Int) + (l0_1.length : Int))))) then (if 0 ≤ (wrap64 (t417 + 1)) then (if (wrap64 (t417 + 1) : Int).toNat ≤ 281474976710656 then (chalklinelaw04_WeekBijection.l0 kj3 t417 (List.replicate (wrap64 (t417 + 1) : Int).toNat false) 0 0 l0_0 l0_1 l0_2 l0_3 l0_4) else (none)) else (none)) else (some false)) = some r := H
      have A23 := Aside0.mk A230
      clear A230
      by_cases c24 : t417 = (wrap64 ((l0_4.length : Int) * (wrap64 ((l0_0.length : Int) + (l0_1.length : Int)))))
      rotate_left
      · rw [if_neg c24] at H
        have c24b0 : (t417 == (wrap64 ((l0_4.length : Int) * (wrap64 ((l0_0.length : Int) + (l0_1.length : Int)))))) = false := beq_eq_false_iff_ne.mpr c24
        have c24b1 : (t417 != (wrap64 ((l0_4.length : Int) * (wrap64 ((l0_0.length : Int) + (l0_1.length : Int)))))) = true := bne_iff_ne.mpr c24
        obtain rfl := Option.some.inj H
        have hcz109_0 : wc.cell? ⟨gb414, 0, none⟩ = some (.slice A0_0 l0_0.length c0_0) := (blk_cell BK414.out 0).trans rfl
        have hcz109_1 : wc.cell? ⟨gb414, 1, none⟩ = some (.slice A0_1 l0_1.length c0_1) := (blk_cell BK414.out 1).trans rfl
        have hcz109_2 : wc.cell? ⟨gb414, 2, none⟩ = some (.slice A0_2 l0_2.length c0_2) := (blk_cell BK414.out 2).trans rfl
        have hcz109_3 : wc.cell? ⟨gb414, 3, none⟩ = some (.slice A0_3 l0_3.length c0_3) := (blk_cell BK414.out 3).trans rfl
        have hcz109_4 : wc.cell? ⟨gb414, 4, none⟩ = some (.slice A0_4 l0_4.length c0_4) := (blk_cell BK414.out 4).trans rfl
        have hfz109_0 := blk_frozen BK414.out 0
        have hfz109_1 := blk_frozen BK414.out 1
        have hfz109_2 := blk_frozen BK414.out 2
        have hfz109_3 := blk_frozen BK414.out 3
        have hfz109_4 := blk_frozen BK414.out 4
        go_wp2_with (first | ((with_reducible refine gate_callee (f := 23) rfl ?_); refine goesL_ (some 34) rfl rfl Tryd.func23 (by kernel_rfl) rfl #[.agg #[.slice A0_0 l0_0.length c0_0, .slice A0_1 l0_1.length c0_1, .slice A0_2 l0_2.length c0_2, .slice A0_3 l0_3.length c0_3, .slice A0_4 l0_4.length c0_4]] rfl (by (try simp only [List.map_toArray, List.map_cons, List.map_nil]); first | done | rfl | (simp only [List.length_drop, List.length_take]; rfl)) ?_; (with_reducible refine (week_Vars.calls _ _ l0_0 _ _ l0_1 _ _ l0_2 _ _ l0_3 _ _ l0_4 t417 _ ?side1 ?side2 ?side3 ?side4 ?side5 ?side6 ?side7 ?side8 ?side9 ?side10 A23.out).mono ?_); (case side1 => repeat (first | exact (Kd.C_below HR0_0.out HB.out) | (with_reducible refine Kd.C_alloc ?_ _) | (with_reducible refine Kd.C_drewN ?_ _) | (with_reducible refine Kd.C_drew ?_))); (case side2 => exact HC0_0.out); (case side3 => repeat (first | exact (Kd.C_below HR0_1.out HB.out) | (with_reducible refine Kd.C_alloc ?_ _) | (with_reducible refine Kd.C_drewN ?_ _) | (with_reducible refine Kd.C_drew ?_))); (case side4 => exact HC0_1.out); (case side5 => repeat (first | exact (Kd.C_below HR0_2.out HB.out) | (with_reducible refine Kd.C_alloc ?_ _) | (with_reducible refine Kd.C_drewN ?_ _) | (with_reducible refine Kd.C_drew ?_))); (case side6 => exact HC0_2.out); (case side7 => repeat (first | exact (Kd.C_below HR0_3.out HB.out) | (with_reducible refine Kd.C_alloc ?_ _) | (with_reducible refine Kd.C_drewN ?_ _) | (with_reducible refine Kd.C_drew ?_))); (case side8 => exact HC0_3.out); (case side9 => repeat (first | exact (Kd.C_below HR0_4.out HB.out) | (with_reducible refine Kd.C_alloc ?_ _) | (with_reducible refine Kd.C_drewN ?_ _) | (with_reducible refine Kd.C_drew ?_))); (case side10 => exact HC0_4.out); rintro e w110 ⟨rfl, hb⟩; refine ⟨_, rfl, ?_⟩; have n0_ := Aside0.mk (blk_below (k_ BK414) hb); have n1_ := Aside0.mk (below_step (b_ HB) hb); clear BK414; clear HB; have BK414 := n0_; have HB := n1_; clear n0_ n1_; (try clear hb); (try clear hb2); (try clear hk); (try clear hi); have hcz111_0 : w110.cell? ⟨gb414, 0, none⟩ = some (.slice A0_0 l0_0.length c0_0) := (blk_cell BK414.out 0).trans rfl; have hcz111_1 : w110.cell? ⟨gb414, 1, none⟩ = some (.slice A0_1 l0_1.length c0_1) := (blk_cell BK414.out 1).trans rfl; have hcz111_2 : w110.cell? ⟨gb414, 2, none⟩ = some (.slice A0_2 l0_2.length c0_2) := (blk_cell BK414.out 2).trans rfl; have hcz111_3 : w110.cell? ⟨gb414, 3, none⟩ = some (.slice A0_3 l0_3.length c0_3) := (blk_cell BK414.out 3).trans rfl; have hcz111_4 : w110.cell? ⟨gb414, 4, none⟩ = some (.slice A0_4 l0_4.length c0_4) := (blk_cell BK414.out 4).trans rfl; have hfz111_0 := blk_frozen BK414.out 0; have hfz111_1 := blk_frozen BK414.out 1; have hfz111_2 := blk_frozen BK414.out 2; have hfz111_3 := blk_frozen BK414.out 3; have hfz111_4 := blk_frozen BK414.out 4))
        go_ret
        exact ⟨by first | rfl | (simp [errW_none, errW_some] <;> rfl) | (simp [*, errW_none, errW_some] <;> rfl), b_ HB⟩
      rw [if_pos c24] at H
      have c24b0 : (t417 == (wrap64 ((l0_4.length : Int) * (wrap64 ((l0_0.length : Int) + (l0_1.length : Int)))))) = true := beq_iff_eq.mpr c24
      have c24b1 : (t417 != (wrap64 ((l0_4.length : Int) * (wrap64 ((l0_0.length : Int) + (l0_1.length : Int)))))) = false := bne_eq_false_iff_eq.mpr c24
      clear c24
      obtain ⟨ji25, hji25⟩ : ∃ j_ : Int, (wrap64 (t417 + 1)) = j_ := ⟨_, rfl⟩
      replace H : (if 0 ≤ (ji25) then (if (ji25 : Int).toNat ≤ 281474976710656 then (chalklinelaw04_WeekBijection.l0 kj3 t417 (List.replicate (ji25 : Int).toNat false) 0 0 l0_0 l0_1 l0_2 l0_3 l0_4) else (none)) else (none)) = some r := by first | (rw [hji25] at H; exact H) | (simp only [hji25] at H ⊢; exact H)
      (try rw [hji25] at A23)
      have hji25w : (IntKind.i64.wrap (t417 + 1)) = ji25 := (i64_w _).trans hji25
      by_cases c26 : 0 ≤ (ji25)
      rotate_left
      · rw [if_neg c26] at H
        exact absurd H (by simp)
      rw [if_pos c26] at H
      have c26b0 := eq_true c26
      have c26b1 : decide (0 ≤ (ji25)) = true := decide_eq_true c26
      clear c26
      by_cases c27 : (ji25 : Int).toNat ≤ 281474976710656
      rotate_left
      · rw [if_neg c27] at H
        exact absurd H (by simp)
      rw [if_pos c27] at H
      have c27b0 := eq_true c27
      have c27b1 : decide ((ji25 : Int).toNat ≤ 281474976710656) = true := decide_eq_true c27
      clear c27
      obtain ⟨y418, hy418⟩ : ∃ y_ : List Bool, y_ = (List.replicate (ji25 : Int).toNat false) := ⟨_, rfl⟩
      replace H : (chalklinelaw04_WeekBijection.l0 kj3 t417 y418 0 0 l0_0 l0_1 l0_2 l0_3 l0_4) = some r := by first | (rw [hy418]; with_reducible exact H) | (have H2_ := (Option.bind_some _ _).symm.trans H; rw [hy418]; with_reducible exact H2_) | (have H2_ := (Option.bind_some _ _).symm.trans H; with_reducible exact H2_) | with_reducible exact H | (rw [hy418]; exact H) | exact H
      have Ny418 := Aside0.mk hy418
      clear hy418
      have H' := Aside0.mk H
      clear H
      have hcz28_0 : wc.cell? ⟨gb414, 0, none⟩ = some (.slice A0_0 l0_0.length c0_0) := (blk_cell BK414.out 0).trans rfl
      have hcz28_1 : wc.cell? ⟨gb414, 1, none⟩ = some (.slice A0_1 l0_1.length c0_1) := (blk_cell BK414.out 1).trans rfl
      have hcz28_2 : wc.cell? ⟨gb414, 2, none⟩ = some (.slice A0_2 l0_2.length c0_2) := (blk_cell BK414.out 2).trans rfl
      have hcz28_3 : wc.cell? ⟨gb414, 3, none⟩ = some (.slice A0_3 l0_3.length c0_3) := (blk_cell BK414.out 3).trans rfl
      have hcz28_4 : wc.cell? ⟨gb414, 4, none⟩ = some (.slice A0_4 l0_4.length c0_4) := (blk_cell BK414.out 4).trans rfl
      have hfz28_0 := blk_frozen BK414.out 0
      have hfz28_1 := blk_frozen BK414.out 1
      have hfz28_2 := blk_frozen BK414.out 2
      have hfz28_3 := blk_frozen BK414.out 3
      have hfz28_4 := blk_frozen BK414.out 4
      go_wp2_with (first | ((with_reducible refine gate_callee (f := 23) rfl ?_); refine goesL_ (some 34) rfl rfl Tryd.func23 (by kernel_rfl) rfl #[.agg #[.slice A0_0 l0_0.length c0_0, .slice A0_1 l0_1.length c0_1, .slice A0_2 l0_2.length c0_2, .slice A0_3 l0_3.length c0_3, .slice A0_4 l0_4.length c0_4]] rfl (by (try simp only [List.map_toArray, List.map_cons, List.map_nil]); first | done | rfl | (simp only [List.length_drop, List.length_take]; rfl)) ?_; (with_reducible refine (week_Vars.calls _ _ l0_0 _ _ l0_1 _ _ l0_2 _ _ l0_3 _ _ l0_4 t417 _ ?side1 ?side2 ?side3 ?side4 ?side5 ?side6 ?side7 ?side8 ?side9 ?side10 A23.out).mono ?_); (case side1 => repeat (first | exact (Kd.C_below HR0_0.out HB.out) | (with_reducible refine Kd.C_alloc ?_ _) | (with_reducible refine Kd.C_drewN ?_ _) | (with_reducible refine Kd.C_drew ?_))); (case side2 => exact HC0_0.out); (case side3 => repeat (first | exact (Kd.C_below HR0_1.out HB.out) | (with_reducible refine Kd.C_alloc ?_ _) | (with_reducible refine Kd.C_drewN ?_ _) | (with_reducible refine Kd.C_drew ?_))); (case side4 => exact HC0_1.out); (case side5 => repeat (first | exact (Kd.C_below HR0_2.out HB.out) | (with_reducible refine Kd.C_alloc ?_ _) | (with_reducible refine Kd.C_drewN ?_ _) | (with_reducible refine Kd.C_drew ?_))); (case side6 => exact HC0_2.out); (case side7 => repeat (first | exact (Kd.C_below HR0_3.out HB.out) | (with_reducible refine Kd.C_alloc ?_ _) | (with_reducible refine Kd.C_drewN ?_ _) | (with_reducible refine Kd.C_drew ?_))); (case side8 => exact HC0_3.out); (case side9 => repeat (first | exact (Kd.C_below HR0_4.out HB.out) | (with_reducible refine Kd.C_alloc ?_ _) | (with_reducible refine Kd.C_drewN ?_ _) | (with_reducible refine Kd.C_drew ?_))); (case side10 => exact HC0_4.out); rintro e w29 ⟨rfl, hb⟩; refine ⟨_, rfl, ?_⟩; have n0_ := Aside0.mk (blk_below (k_ BK414) hb); have n1_ := Aside0.mk (below_step (b_ HB) hb); clear BK414; clear HB; have BK414 := n0_; have HB := n1_; clear n0_ n1_; (try clear hb); (try clear hb2); (try clear hk); (try clear hi); have hcz30_0 : w29.cell? ⟨gb414, 0, none⟩ = some (.slice A0_0 l0_0.length c0_0) := (blk_cell BK414.out 0).trans rfl; have hcz30_1 : w29.cell? ⟨gb414, 1, none⟩ = some (.slice A0_1 l0_1.length c0_1) := (blk_cell BK414.out 1).trans rfl; have hcz30_2 : w29.cell? ⟨gb414, 2, none⟩ = some (.slice A0_2 l0_2.length c0_2) := (blk_cell BK414.out 2).trans rfl; have hcz30_3 : w29.cell? ⟨gb414, 3, none⟩ = some (.slice A0_3 l0_3.length c0_3) := (blk_cell BK414.out 3).trans rfl; have hcz30_4 : w29.cell? ⟨gb414, 4, none⟩ = some (.slice A0_4 l0_4.length c0_4) := (blk_cell BK414.out 4).trans rfl; have hfz30_0 := blk_frozen BK414.out 0; have hfz30_1 := blk_frozen BK414.out 1; have hfz30_2 := blk_frozen BK414.out 2; have hfz30_3 := blk_frozen BK414.out 3; have hfz30_4 := blk_frozen BK414.out 4) | ((with_reducible refine gate_dst (N := 50) rfl ?_); (try (refine gate_guard (by rfl) ?_; dsimp only)); refine Kd.R_make Kd.bool _ 4 rfl (N := 50) rfl 46 _ _ rfl ji25 rfl rfl Tryd.underlying46 (.bool false) 1 info4 rfl (by decide) (by omega) false (ok := fun _ => True) (okp := fun _ => True) rfl (fun _ hk => hk) trivial (of_decide_eq_true (by first | (with_reducible assumption) | assumption)) (Nat.le_trans (Nat.mul_le_mul_right _ (of_decide_eq_true (by first | (with_reducible assumption) | assumption) : ji25.toNat ≤ 281474976710656)) (by omega)) (Below.refl _ _) (Nat.le_refl _) ?_; intro v419 w31 ho32 hb hg_ hnew_; clear hg_ hnew_; (first | rw [← Ny418.out] at ho32 | (simp only [Int.reduceToNat] at ho32; rw [← Ny418.out] at ho32)); have n0_ := Aside0.mk (Kd.R_lower ho32 (below_size (b_ HB))); have n1_ := Aside0.mk (blk_below (k_ BK414) hb); have n2_ := Aside0.mk (below_step (b_ HB) hb); clear BK414; clear HB; have HO420 := n0_; have BK414 := n1_; have HB := n2_; clear n0_ n1_ n2_; clear hb ho32))
      go_loopg [5, 6] kj3 (fun kq v5 v6 w' => ∃ (x4_2 : List Bool) (x5_2 : Int) (x6_2 : Int), v5 = .int .i64 x5_2 ∧ v6 = .int .i64 x6_2 ∧ Aside0 (chalklinelaw04_WeekBijection.l0 kq t417 x4_2 x5_2 x6_2 l0_0 l0_1 l0_2 l0_3 l0_4 = some r) ∧ Aside0 (kq ≤ kj3) ∧ Aside0 (Kd.R Kd.bool 4 w' w.heap.size (fun _ => True) v419 x4_2) ∧ Aside0 (w'.heap[gb414]? = some (.cells #[(.slice A0_0 l0_0.length c0_0), (.slice A0_1 l0_1.length c0_1), (.slice A0_2 l0_2.length c0_2), (.slice A0_3 l0_3.length c0_3), (.slice A0_4 l0_4.length c0_4)] 45 (0, 0))) ∧ Aside0 (Below w.heap.size w w'))
      case atStart => exact ⟨(y418), (0), (0), (by first | rfl | (simp; done) | (simp [*]; done)), (by first | rfl | (simp; done) | (simp [*]; done)), H', ⟨Nat.le_refl _⟩, ⟨by (with_reducible repeat (first | apply Kd.R_alloc | apply Kd.R_drewN | apply Kd.R_drew)); exact HO420.out⟩, ⟨k_ BK414⟩, ⟨b_ HB⟩⟩
      case round =>
        clear H'
        (try clear c3); (try clear c22); (try clear c24); (try clear c24b0); (try clear c24b1); (try clear c26); (try clear c26b0); (try clear c26b1); (try clear c27); (try clear c27b0); (try clear c27b1); (try clear hcz28_0); (try clear hcz28_1); (try clear hcz28_2); (try clear hcz28_3); (try clear hcz28_4); (try clear hcz30_0); (try clear hcz30_1); (try clear hcz30_2); (try clear hcz30_3); (try clear hcz30_4); (try clear hfz28_0); (try clear hfz28_1); (try clear hfz28_2); (try clear hfz28_3); (try clear hfz28_4); (try clear hfz30_0); (try clear hfz30_1); (try clear hfz30_2); (try clear hfz30_3); (try clear hfz30_4)
        obtain ⟨x4_2, x5_2, x6_2, rfl, rfl, HA, HK2, HO_4, BK414, HB⟩ := hrel
        cases gk with
        | zero => exact absurd HA.out (by simp [chalklinelaw04_WeekBijection.l0])
        | succ k2 =>
          have H := HA.out
          clear HA
          simp only [chalklinelaw04_WeekBijection.l0] at H
          by_cases c33 : x6_2 < (l0_4.length : Int)
          rotate_left
          · rw [if_neg c33] at H
            have c33b0 : decide (x6_2 < (l0_4.length : Int)) = false := decide_eq_false c33
            clear c33
            by_cases c90 : x5_2 = t417
            rotate_left
            · rw [if_neg c90] at H
              have c90b0 : (x5_2 == t417) = false := beq_eq_false_iff_ne.mpr c90
              have c90b1 : (x5_2 != t417) = true := bne_iff_ne.mpr c90
              obtain rfl := Option.some.inj H
              have hcz108_0 : wr.cell? ⟨gb414, 0, none⟩ = some (.slice A0_0 l0_0.length c0_0) := (blk_cell BK414.out 0).trans rfl
              have hcz108_1 : wr.cell? ⟨gb414, 1, none⟩ = some (.slice A0_1 l0_1.length c0_1) := (blk_cell BK414.out 1).trans rfl
              have hcz108_2 : wr.cell? ⟨gb414, 2, none⟩ = some (.slice A0_2 l0_2.length c0_2) := (blk_cell BK414.out 2).trans rfl
              have hcz108_3 : wr.cell? ⟨gb414, 3, none⟩ = some (.slice A0_3 l0_3.length c0_3) := (blk_cell BK414.out 3).trans rfl
              have hcz108_4 : wr.cell? ⟨gb414, 4, none⟩ = some (.slice A0_4 l0_4.length c0_4) := (blk_cell BK414.out 4).trans rfl
              have hfz108_0 := blk_frozen BK414.out 0
              have hfz108_1 := blk_frozen BK414.out 1
              have hfz108_2 := blk_frozen BK414.out 2
              have hfz108_3 := blk_frozen BK414.out 3
              have hfz108_4 := blk_frozen BK414.out 4
              go_wp2
              go_ret
              exact ⟨by first | rfl | (simp [errW_none, errW_some] <;> rfl) | (simp only [← hji25]; first | rfl | (simp [errW_none, errW_some] <;> rfl)) | (simp [*, errW_none, errW_some] <;> rfl), b_ HB⟩
            rw [if_pos c90] at H
            have c90b0 : (x5_2 == t417) = true := beq_iff_eq.mpr c90
            have c90b1 : (x5_2 != t417) = false := bne_eq_false_iff_eq.mpr c90
            clear c90
            replace H := Option.bind_eq_some_iff.mp H
            obtain ⟨t421, A910, H⟩ := H
            replace H : (if t421 = 0 then ((week_At.f l0_0 l0_1 l0_2 l0_3 l0_4 0 (l0_0.length : Int)).bind fun t422 => (if t422 = 0 then ((week_In.f l0_0 l0_1 l0_2 l0_3 l0_4 (l0_4.length : Int) 0).bind fun t423 => (some (t423 == 0))) else (some false))) else (some false)) = some r := H
            have A91 := Aside0.mk A910
            clear A910
            by_cases c92 : t421 = 0
            rotate_left
            · rw [if_neg c92] at H
              have c92b0 : (t421 == 0) = false := beq_eq_false_iff_ne.mpr c92
              have c92b1 : (t421 != 0) = true := bne_iff_ne.mpr c92
              obtain rfl := Option.some.inj H
              have hcz106_0 : wr.cell? ⟨gb414, 0, none⟩ = some (.slice A0_0 l0_0.length c0_0) := (blk_cell BK414.out 0).trans rfl
              have hcz106_1 : wr.cell? ⟨gb414, 1, none⟩ = some (.slice A0_1 l0_1.length c0_1) := (blk_cell BK414.out 1).trans rfl
              have hcz106_2 : wr.cell? ⟨gb414, 2, none⟩ = some (.slice A0_2 l0_2.length c0_2) := (blk_cell BK414.out 2).trans rfl
              have hcz106_3 : wr.cell? ⟨gb414, 3, none⟩ = some (.slice A0_3 l0_3.length c0_3) := (blk_cell BK414.out 3).trans rfl
              have hcz106_4 : wr.cell? ⟨gb414, 4, none⟩ = some (.slice A0_4 l0_4.length c0_4) := (blk_cell BK414.out 4).trans rfl
              have hfz106_0 := blk_frozen BK414.out 0
              have hfz106_1 := blk_frozen BK414.out 1
              have hfz106_2 := blk_frozen BK414.out 2
              have hfz106_3 := blk_frozen BK414.out 3
              have hfz106_4 := blk_frozen BK414.out 4
              go_wp2_with (first | (go_at_call 29; (with_reducible refine (week_At.calls _ _ l0_0 _ _ l0_1 _ _ l0_2 _ _ l0_3 _ _ l0_4 (-1) 0 t421 _ ?side1 ?side2 ?side3 ?side4 ?side5 ?side6 ?side7 ?side8 ?side9 ?side10 A91.out).mono ?_); (case side1 => repeat (first | exact (Kd.C_below HR0_0.out HB.out) | (with_reducible refine Kd.C_alloc ?_ _) | (with_reducible refine Kd.C_drewN ?_ _) | (with_reducible refine Kd.C_drew ?_))); (case side2 => exact HC0_0.out); (case side3 => repeat (first | exact (Kd.C_below HR0_1.out HB.out) | (with_reducible refine Kd.C_alloc ?_ _) | (with_reducible refine Kd.C_drewN ?_ _) | (with_reducible refine Kd.C_drew ?_))); (case side4 => exact HC0_1.out); (case side5 => repeat (first | exact (Kd.C_below HR0_2.out HB.out) | (with_reducible refine Kd.C_alloc ?_ _) | (with_reducible refine Kd.C_drewN ?_ _) | (with_reducible refine Kd.C_drew ?_))); (case side6 => exact HC0_2.out); (case side7 => repeat (first | exact (Kd.C_below HR0_3.out HB.out) | (with_reducible refine Kd.C_alloc ?_ _) | (with_reducible refine Kd.C_drewN ?_ _) | (with_reducible refine Kd.C_drew ?_))); (case side8 => exact HC0_3.out); (case side9 => repeat (first | exact (Kd.C_below HR0_4.out HB.out) | (with_reducible refine Kd.C_alloc ?_ _) | (with_reducible refine Kd.C_drewN ?_ _) | (with_reducible refine Kd.C_drew ?_))); (case side10 => exact HC0_4.out); rintro e w107 ⟨rfl, hb⟩; have n0_ := Aside0.mk (Kd.R_below (r_ HO_4) hb); have n1_ := Aside0.mk (blk_below (k_ BK414) hb); have n2_ := Aside0.mk (below_step (b_ HB) hb); clear HO_4; clear BK414; clear HB; have HO_4 := n0_; have BK414 := n1_; have HB := n2_; clear n0_ n1_ n2_; (try clear hb); (try clear hb2); (try clear hk); (try clear hi)))
              go_ret
              exact ⟨by first | rfl | (simp [errW_none, errW_some] <;> rfl) | (simp only [← hji25]; first | rfl | (simp [errW_none, errW_some] <;> rfl)) | (simp [*, errW_none, errW_some] <;> rfl), b_ HB⟩
            rw [if_pos c92] at H
            have c92b0 : (t421 == 0) = true := beq_iff_eq.mpr c92
            have c92b1 : (t421 != 0) = false := bne_eq_false_iff_eq.mpr c92
            clear c92
            replace H := Option.bind_eq_some_iff.mp H
            obtain ⟨t422, A930, H⟩ := H
            replace H : (if t422 = 0 then ((week_In.f l0_0 l0_1 l0_2 l0_3 l0_4 (l0_4.length : Int) 0).bind fun t423 => (some (t423 == 0))) else (some false)) = some r := H
            have A93 := Aside0.mk A930
            clear A930
            by_cases c94 : t422 = 0
            rotate_left
            · rw [if_neg c94] at H
              have c94b0 : (t422 == 0) = false := beq_eq_false_iff_ne.mpr c94
              have c94b1 : (t422 != 0) = true := bne_iff_ne.mpr c94
              obtain rfl := Option.some.inj H
              have hcz102_0 : wr.cell? ⟨gb414, 0, none⟩ = some (.slice A0_0 l0_0.length c0_0) := (blk_cell BK414.out 0).trans rfl
              have hcz102_1 : wr.cell? ⟨gb414, 1, none⟩ = some (.slice A0_1 l0_1.length c0_1) := (blk_cell BK414.out 1).trans rfl
              have hcz102_2 : wr.cell? ⟨gb414, 2, none⟩ = some (.slice A0_2 l0_2.length c0_2) := (blk_cell BK414.out 2).trans rfl
              have hcz102_3 : wr.cell? ⟨gb414, 3, none⟩ = some (.slice A0_3 l0_3.length c0_3) := (blk_cell BK414.out 3).trans rfl
              have hcz102_4 : wr.cell? ⟨gb414, 4, none⟩ = some (.slice A0_4 l0_4.length c0_4) := (blk_cell BK414.out 4).trans rfl
              have hfz102_0 := blk_frozen BK414.out 0
              have hfz102_1 := blk_frozen BK414.out 1
              have hfz102_2 := blk_frozen BK414.out 2
              have hfz102_3 := blk_frozen BK414.out 3
              have hfz102_4 := blk_frozen BK414.out 4
              go_wp2_with (first | (go_at_call 29; (with_reducible refine (week_At.calls _ _ l0_0 _ _ l0_1 _ _ l0_2 _ _ l0_3 _ _ l0_4 (-1) 0 t421 _ ?side1 ?side2 ?side3 ?side4 ?side5 ?side6 ?side7 ?side8 ?side9 ?side10 A91.out).mono ?_); (case side1 => repeat (first | exact (Kd.C_below HR0_0.out HB.out) | (with_reducible refine Kd.C_alloc ?_ _) | (with_reducible refine Kd.C_drewN ?_ _) | (with_reducible refine Kd.C_drew ?_))); (case side2 => exact HC0_0.out); (case side3 => repeat (first | exact (Kd.C_below HR0_1.out HB.out) | (with_reducible refine Kd.C_alloc ?_ _) | (with_reducible refine Kd.C_drewN ?_ _) | (with_reducible refine Kd.C_drew ?_))); (case side4 => exact HC0_1.out); (case side5 => repeat (first | exact (Kd.C_below HR0_2.out HB.out) | (with_reducible refine Kd.C_alloc ?_ _) | (with_reducible refine Kd.C_drewN ?_ _) | (with_reducible refine Kd.C_drew ?_))); (case side6 => exact HC0_2.out); (case side7 => repeat (first | exact (Kd.C_below HR0_3.out HB.out) | (with_reducible refine Kd.C_alloc ?_ _) | (with_reducible refine Kd.C_drewN ?_ _) | (with_reducible refine Kd.C_drew ?_))); (case side8 => exact HC0_3.out); (case side9 => repeat (first | exact (Kd.C_below HR0_4.out HB.out) | (with_reducible refine Kd.C_alloc ?_ _) | (with_reducible refine Kd.C_drewN ?_ _) | (with_reducible refine Kd.C_drew ?_))); (case side10 => exact HC0_4.out); rintro e w103 ⟨rfl, hb⟩; have n0_ := Aside0.mk (Kd.R_below (r_ HO_4) hb); have n1_ := Aside0.mk (blk_below (k_ BK414) hb); have n2_ := Aside0.mk (below_step (b_ HB) hb); clear HO_4; clear BK414; clear HB; have HO_4 := n0_; have BK414 := n1_; have HB := n2_; clear n0_ n1_ n2_; (try clear hb); (try clear hb2); (try clear hk); (try clear hi); have hcz104_0 : w103.cell? ⟨gb414, 0, none⟩ = some (.slice A0_0 l0_0.length c0_0) := (blk_cell BK414.out 0).trans rfl; have hcz104_1 : w103.cell? ⟨gb414, 1, none⟩ = some (.slice A0_1 l0_1.length c0_1) := (blk_cell BK414.out 1).trans rfl; have hcz104_2 : w103.cell? ⟨gb414, 2, none⟩ = some (.slice A0_2 l0_2.length c0_2) := (blk_cell BK414.out 2).trans rfl; have hcz104_3 : w103.cell? ⟨gb414, 3, none⟩ = some (.slice A0_3 l0_3.length c0_3) := (blk_cell BK414.out 3).trans rfl; have hcz104_4 : w103.cell? ⟨gb414, 4, none⟩ = some (.slice A0_4 l0_4.length c0_4) := (blk_cell BK414.out 4).trans rfl; have hfz104_0 := blk_frozen BK414.out 0; have hfz104_1 := blk_frozen BK414.out 1; have hfz104_2 := blk_frozen BK414.out 2; have hfz104_3 := blk_frozen BK414.out 3; have hfz104_4 := blk_frozen BK414.out 4) | (go_at_call 29; (with_reducible refine (week_At.calls _ _ l0_0 _ _ l0_1 _ _ l0_2 _ _ l0_3 _ _ l0_4 0 (l0_0.length : Int) t422 _ ?side1 ?side2 ?side3 ?side4 ?side5 ?side6 ?side7 ?side8 ?side9 ?side10 A93.out).mono ?_); (case side1 => repeat (first | exact (Kd.C_below HR0_0.out HB.out) | (with_reducible refine Kd.C_alloc ?_ _) | (with_reducible refine Kd.C_drewN ?_ _) | (with_reducible refine Kd.C_drew ?_))); (case side2 => exact HC0_0.out); (case side3 => repeat (first | exact (Kd.C_below HR0_1.out HB.out) | (with_reducible refine Kd.C_alloc ?_ _) | (with_reducible refine Kd.C_drewN ?_ _) | (with_reducible refine Kd.C_drew ?_))); (case side4 => exact HC0_1.out); (case side5 => repeat (first | exact (Kd.C_below HR0_2.out HB.out) | (with_reducible refine Kd.C_alloc ?_ _) | (with_reducible refine Kd.C_drewN ?_ _) | (with_reducible refine Kd.C_drew ?_))); (case side6 => exact HC0_2.out); (case side7 => repeat (first | exact (Kd.C_below HR0_3.out HB.out) | (with_reducible refine Kd.C_alloc ?_ _) | (with_reducible refine Kd.C_drewN ?_ _) | (with_reducible refine Kd.C_drew ?_))); (case side8 => exact HC0_3.out); (case side9 => repeat (first | exact (Kd.C_below HR0_4.out HB.out) | (with_reducible refine Kd.C_alloc ?_ _) | (with_reducible refine Kd.C_drewN ?_ _) | (with_reducible refine Kd.C_drew ?_))); (case side10 => exact HC0_4.out); rintro e w105 ⟨rfl, hb⟩; have n0_ := Aside0.mk (Kd.R_below (r_ HO_4) hb); have n1_ := Aside0.mk (blk_below (k_ BK414) hb); have n2_ := Aside0.mk (below_step (b_ HB) hb); clear HO_4; clear BK414; clear HB; have HO_4 := n0_; have BK414 := n1_; have HB := n2_; clear n0_ n1_ n2_; (try clear hb); (try clear hb2); (try clear hk); (try clear hi)))
              go_ret
              exact ⟨by first | rfl | (simp [errW_none, errW_some] <;> rfl) | (simp only [← hji25]; first | rfl | (simp [errW_none, errW_some] <;> rfl)) | (simp [*, errW_none, errW_some] <;> rfl), b_ HB⟩
            rw [if_pos c94] at H
            have c94b0 : (t422 == 0) = true := beq_iff_eq.mpr c94
            have c94b1 : (t422 != 0) = false := bne_eq_false_iff_eq.mpr c94
            clear c94
            replace H := Option.bind_eq_some_iff.mp H
            obtain ⟨t423, A950, H⟩ := H
            replace H : (some (t423 == 0)) = some r := H
            have A95 := Aside0.mk A950
            clear A950
            obtain rfl := Option.some.inj H
            have hcz96_0 : wr.cell? ⟨gb414, 0, none⟩ = some (.slice A0_0 l0_0.length c0_0) := (blk_cell BK414.out 0).trans rfl
            have hcz96_1 : wr.cell? ⟨gb414, 1, none⟩ = some (.slice A0_1 l0_1.length c0_1) := (blk_cell BK414.out 1).trans rfl
            have hcz96_2 : wr.cell? ⟨gb414, 2, none⟩ = some (.slice A0_2 l0_2.length c0_2) := (blk_cell BK414.out 2).trans rfl
            have hcz96_3 : wr.cell? ⟨gb414, 3, none⟩ = some (.slice A0_3 l0_3.length c0_3) := (blk_cell BK414.out 3).trans rfl
            have hcz96_4 : wr.cell? ⟨gb414, 4, none⟩ = some (.slice A0_4 l0_4.length c0_4) := (blk_cell BK414.out 4).trans rfl
            have hfz96_0 := blk_frozen BK414.out 0
            have hfz96_1 := blk_frozen BK414.out 1
            have hfz96_2 := blk_frozen BK414.out 2
            have hfz96_3 := blk_frozen BK414.out 3
            have hfz96_4 := blk_frozen BK414.out 4
            go_wp2_with (first | (go_at_call 29; (with_reducible refine (week_At.calls _ _ l0_0 _ _ l0_1 _ _ l0_2 _ _ l0_3 _ _ l0_4 (-1) 0 t421 _ ?side1 ?side2 ?side3 ?side4 ?side5 ?side6 ?side7 ?side8 ?side9 ?side10 A91.out).mono ?_); (case side1 => repeat (first | exact (Kd.C_below HR0_0.out HB.out) | (with_reducible refine Kd.C_alloc ?_ _) | (with_reducible refine Kd.C_drewN ?_ _) | (with_reducible refine Kd.C_drew ?_))); (case side2 => exact HC0_0.out); (case side3 => repeat (first | exact (Kd.C_below HR0_1.out HB.out) | (with_reducible refine Kd.C_alloc ?_ _) | (with_reducible refine Kd.C_drewN ?_ _) | (with_reducible refine Kd.C_drew ?_))); (case side4 => exact HC0_1.out); (case side5 => repeat (first | exact (Kd.C_below HR0_2.out HB.out) | (with_reducible refine Kd.C_alloc ?_ _) | (with_reducible refine Kd.C_drewN ?_ _) | (with_reducible refine Kd.C_drew ?_))); (case side6 => exact HC0_2.out); (case side7 => repeat (first | exact (Kd.C_below HR0_3.out HB.out) | (with_reducible refine Kd.C_alloc ?_ _) | (with_reducible refine Kd.C_drewN ?_ _) | (with_reducible refine Kd.C_drew ?_))); (case side8 => exact HC0_3.out); (case side9 => repeat (first | exact (Kd.C_below HR0_4.out HB.out) | (with_reducible refine Kd.C_alloc ?_ _) | (with_reducible refine Kd.C_drewN ?_ _) | (with_reducible refine Kd.C_drew ?_))); (case side10 => exact HC0_4.out); rintro e w97 ⟨rfl, hb⟩; have n0_ := Aside0.mk (Kd.R_below (r_ HO_4) hb); have n1_ := Aside0.mk (blk_below (k_ BK414) hb); have n2_ := Aside0.mk (below_step (b_ HB) hb); clear HO_4; clear BK414; clear HB; have HO_4 := n0_; have BK414 := n1_; have HB := n2_; clear n0_ n1_ n2_; (try clear hb); (try clear hb2); (try clear hk); (try clear hi); have hcz98_0 : w97.cell? ⟨gb414, 0, none⟩ = some (.slice A0_0 l0_0.length c0_0) := (blk_cell BK414.out 0).trans rfl; have hcz98_1 : w97.cell? ⟨gb414, 1, none⟩ = some (.slice A0_1 l0_1.length c0_1) := (blk_cell BK414.out 1).trans rfl; have hcz98_2 : w97.cell? ⟨gb414, 2, none⟩ = some (.slice A0_2 l0_2.length c0_2) := (blk_cell BK414.out 2).trans rfl; have hcz98_3 : w97.cell? ⟨gb414, 3, none⟩ = some (.slice A0_3 l0_3.length c0_3) := (blk_cell BK414.out 3).trans rfl; have hcz98_4 : w97.cell? ⟨gb414, 4, none⟩ = some (.slice A0_4 l0_4.length c0_4) := (blk_cell BK414.out 4).trans rfl; have hfz98_0 := blk_frozen BK414.out 0; have hfz98_1 := blk_frozen BK414.out 1; have hfz98_2 := blk_frozen BK414.out 2; have hfz98_3 := blk_frozen BK414.out 3; have hfz98_4 := blk_frozen BK414.out 4) | (go_at_call 29; (with_reducible refine (week_At.calls _ _ l0_0 _ _ l0_1 _ _ l0_2 _ _ l0_3 _ _ l0_4 0 (l0_0.length : Int) t422 _ ?side1 ?side2 ?side3 ?side4 ?side5 ?side6 ?side7 ?side8 ?side9 ?side10 A93.out).mono ?_); (case side1 => repeat (first | exact (Kd.C_below HR0_0.out HB.out) | (with_reducible refine Kd.C_alloc ?_ _) | (with_reducible refine Kd.C_drewN ?_ _) | (with_reducible refine Kd.C_drew ?_))); (case side2 => exact HC0_0.out); (case side3 => repeat (first | exact (Kd.C_below HR0_1.out HB.out) | (with_reducible refine Kd.C_alloc ?_ _) | (with_reducible refine Kd.C_drewN ?_ _) | (with_reducible refine Kd.C_drew ?_))); (case side4 => exact HC0_1.out); (case side5 => repeat (first | exact (Kd.C_below HR0_2.out HB.out) | (with_reducible refine Kd.C_alloc ?_ _) | (with_reducible refine Kd.C_drewN ?_ _) | (with_reducible refine Kd.C_drew ?_))); (case side6 => exact HC0_2.out); (case side7 => repeat (first | exact (Kd.C_below HR0_3.out HB.out) | (with_reducible refine Kd.C_alloc ?_ _) | (with_reducible refine Kd.C_drewN ?_ _) | (with_reducible refine Kd.C_drew ?_))); (case side8 => exact HC0_3.out); (case side9 => repeat (first | exact (Kd.C_below HR0_4.out HB.out) | (with_reducible refine Kd.C_alloc ?_ _) | (with_reducible refine Kd.C_drewN ?_ _) | (with_reducible refine Kd.C_drew ?_))); (case side10 => exact HC0_4.out); rintro e w99 ⟨rfl, hb⟩; have n0_ := Aside0.mk (Kd.R_below (r_ HO_4) hb); have n1_ := Aside0.mk (blk_below (k_ BK414) hb); have n2_ := Aside0.mk (below_step (b_ HB) hb); clear HO_4; clear BK414; clear HB; have HO_4 := n0_; have BK414 := n1_; have HB := n2_; clear n0_ n1_ n2_; (try clear hb); (try clear hb2); (try clear hk); (try clear hi); have hcz100_0 : w99.cell? ⟨gb414, 0, none⟩ = some (.slice A0_0 l0_0.length c0_0) := (blk_cell BK414.out 0).trans rfl; have hcz100_1 : w99.cell? ⟨gb414, 1, none⟩ = some (.slice A0_1 l0_1.length c0_1) := (blk_cell BK414.out 1).trans rfl; have hcz100_2 : w99.cell? ⟨gb414, 2, none⟩ = some (.slice A0_2 l0_2.length c0_2) := (blk_cell BK414.out 2).trans rfl; have hcz100_3 : w99.cell? ⟨gb414, 3, none⟩ = some (.slice A0_3 l0_3.length c0_3) := (blk_cell BK414.out 3).trans rfl; have hcz100_4 : w99.cell? ⟨gb414, 4, none⟩ = some (.slice A0_4 l0_4.length c0_4) := (blk_cell BK414.out 4).trans rfl; have hfz100_0 := blk_frozen BK414.out 0; have hfz100_1 := blk_frozen BK414.out 1; have hfz100_2 := blk_frozen BK414.out 2; have hfz100_3 := blk_frozen BK414.out 3; have hfz100_4 := blk_frozen BK414.out 4) | (go_at_call 30; (with_reducible refine (week_In.calls _ _ l0_0 _ _ l0_1 _ _ l0_2 _ _ l0_3 _ _ l0_4 (l0_4.length : Int) 0 t423 _ ?side1 ?side2 ?side3 ?side4 ?side5 ?side6 ?side7 ?side8 ?side9 ?side10 A95.out).mono ?_); (case side1 => repeat (first | exact (Kd.C_below HR0_0.out HB.out) | (with_reducible refine Kd.C_alloc ?_ _) | (with_reducible refine Kd.C_drewN ?_ _) | (with_reducible refine Kd.C_drew ?_))); (case side2 => exact HC0_0.out); (case side3 => repeat (first | exact (Kd.C_below HR0_1.out HB.out) | (with_reducible refine Kd.C_alloc ?_ _) | (with_reducible refine Kd.C_drewN ?_ _) | (with_reducible refine Kd.C_drew ?_))); (case side4 => exact HC0_1.out); (case side5 => repeat (first | exact (Kd.C_below HR0_2.out HB.out) | (with_reducible refine Kd.C_alloc ?_ _) | (with_reducible refine Kd.C_drewN ?_ _) | (with_reducible refine Kd.C_drew ?_))); (case side6 => exact HC0_2.out); (case side7 => repeat (first | exact (Kd.C_below HR0_3.out HB.out) | (with_reducible refine Kd.C_alloc ?_ _) | (with_reducible refine Kd.C_drewN ?_ _) | (with_reducible refine Kd.C_drew ?_))); (case side8 => exact HC0_3.out); (case side9 => repeat (first | exact (Kd.C_below HR0_4.out HB.out) | (with_reducible refine Kd.C_alloc ?_ _) | (with_reducible refine Kd.C_drewN ?_ _) | (with_reducible refine Kd.C_drew ?_))); (case side10 => exact HC0_4.out); rintro e w101 ⟨rfl, hb⟩; have n0_ := Aside0.mk (Kd.R_below (r_ HO_4) hb); have n1_ := Aside0.mk (blk_below (k_ BK414) hb); have n2_ := Aside0.mk (below_step (b_ HB) hb); clear HO_4; clear BK414; clear HB; have HO_4 := n0_; have BK414 := n1_; have HB := n2_; clear n0_ n1_ n2_; (try clear hb); (try clear hb2); (try clear hk); (try clear hi)))
            go_ret
            exact ⟨by first | rfl | (simp [errW_none, errW_some] <;> rfl) | (simp only [← hji25]; first | rfl | (simp [errW_none, errW_some] <;> rfl)) | (simp [*, errW_none, errW_some] <;> rfl), b_ HB⟩
          rw [if_pos c33] at H
          have c33b0 : decide (x6_2 < (l0_4.length : Int)) = true := decide_eq_true c33
          clear c33
          have H' := Aside0.mk H
          clear H
          have hcz34_0 : wr.cell? ⟨gb414, 0, none⟩ = some (.slice A0_0 l0_0.length c0_0) := (blk_cell BK414.out 0).trans rfl
          have hcz34_1 : wr.cell? ⟨gb414, 1, none⟩ = some (.slice A0_1 l0_1.length c0_1) := (blk_cell BK414.out 1).trans rfl
          have hcz34_2 : wr.cell? ⟨gb414, 2, none⟩ = some (.slice A0_2 l0_2.length c0_2) := (blk_cell BK414.out 2).trans rfl
          have hcz34_3 : wr.cell? ⟨gb414, 3, none⟩ = some (.slice A0_3 l0_3.length c0_3) := (blk_cell BK414.out 3).trans rfl
          have hcz34_4 : wr.cell? ⟨gb414, 4, none⟩ = some (.slice A0_4 l0_4.length c0_4) := (blk_cell BK414.out 4).trans rfl
          have hfz34_0 := blk_frozen BK414.out 0
          have hfz34_1 := blk_frozen BK414.out 1
          have hfz34_2 := blk_frozen BK414.out 2
          have hfz34_3 := blk_frozen BK414.out 3
          have hfz34_4 := blk_frozen BK414.out 4
          go_wp2
          go_loopg [5, 7] k2 (fun kq v5 v7 w' => ∃ (x4_3 : List Bool) (x5_3 : Int) (x7_3 : Int), v5 = .int .i64 x5_3 ∧ v7 = .int .i64 x7_3 ∧ Aside0 (chalklinelaw04_WeekBijection.l1 kq t417 x4_3 x5_3 x6_2 x7_3 l0_0 l0_1 l0_2 l0_3 l0_4 = some r) ∧ Aside0 (kq ≤ k2) ∧ Aside0 (Kd.R Kd.bool 4 w' w.heap.size (fun _ => True) v419 x4_3) ∧ Aside0 (w'.heap[gb414]? = some (.cells #[(.slice A0_0 l0_0.length c0_0), (.slice A0_1 l0_1.length c0_1), (.slice A0_2 l0_2.length c0_2), (.slice A0_3 l0_3.length c0_3), (.slice A0_4 l0_4.length c0_4)] 45 (0, 0))) ∧ Aside0 (Below w.heap.size w w'))
          case atStart => exact ⟨(x4_2), (x5_2), (0), (by first | rfl | (simp; done) | (simp [*]; done)), (by first | rfl | (simp; done) | (simp [*]; done)), H', ⟨Nat.le_refl _⟩, ⟨by (with_reducible repeat (first | apply Kd.R_alloc | apply Kd.R_drewN | apply Kd.R_drew)); exact HO_4.out⟩, ⟨k_ BK414⟩, ⟨b_ HB⟩⟩
          case round =>
            clear H'
            (try clear c3); (try clear c22); (try clear c24); (try clear c24b0); (try clear c24b1); (try clear c26); (try clear c26b0); (try clear c26b1); (try clear c27); (try clear c27b0); (try clear c27b1); (try clear c33); (try clear c33b0); (try clear hcz28_0); (try clear hcz28_1); (try clear hcz28_2); (try clear hcz28_3); (try clear hcz28_4); (try clear hcz30_0); (try clear hcz30_1); (try clear hcz30_2); (try clear hcz30_3); (try clear hcz30_4); (try clear hcz34_0); (try clear hcz34_1); (try clear hcz34_2); (try clear hcz34_3); (try clear hcz34_4); (try clear hfz28_0); (try clear hfz28_1); (try clear hfz28_2); (try clear hfz28_3); (try clear hfz28_4); (try clear hfz30_0); (try clear hfz30_1); (try clear hfz30_2); (try clear hfz30_3); (try clear hfz30_4); (try clear hfz34_0); (try clear hfz34_1); (try clear hfz34_2); (try clear hfz34_3); (try clear hfz34_4)
            obtain ⟨x4_3, x5_3, x7_3, rfl, rfl, HA, HK3, HO_4, BK414, HB⟩ := hrel
            cases gk with
            | zero => exact absurd HA.out (by simp [chalklinelaw04_WeekBijection.l1])
            | succ k3 =>
              have H := HA.out
              clear HA
              simp only [chalklinelaw04_WeekBijection.l1] at H
              by_cases c35 : x7_3 < (wrap64 ((l0_0.length : Int) + (l0_1.length : Int)))
              rotate_left
              · rw [if_neg c35] at H
                have c35b0 : decide (x7_3 < (wrap64 ((l0_0.length : Int) + (l0_1.length : Int)))) = false := decide_eq_false c35
                clear c35
                have H' := Aside0.mk H
                clear H
                have hcz89_0 : wr.cell? ⟨gb414, 0, none⟩ = some (.slice A0_0 l0_0.length c0_0) := (blk_cell BK414.out 0).trans rfl
                have hcz89_1 : wr.cell? ⟨gb414, 1, none⟩ = some (.slice A0_1 l0_1.length c0_1) := (blk_cell BK414.out 1).trans rfl
                have hcz89_2 : wr.cell? ⟨gb414, 2, none⟩ = some (.slice A0_2 l0_2.length c0_2) := (blk_cell BK414.out 2).trans rfl
                have hcz89_3 : wr.cell? ⟨gb414, 3, none⟩ = some (.slice A0_3 l0_3.length c0_3) := (blk_cell BK414.out 3).trans rfl
                have hcz89_4 : wr.cell? ⟨gb414, 4, none⟩ = some (.slice A0_4 l0_4.length c0_4) := (blk_cell BK414.out 4).trans rfl
                have hfz89_0 := blk_frozen BK414.out 0
                have hfz89_1 := blk_frozen BK414.out 1
                have hfz89_2 := blk_frozen BK414.out 2
                have hfz89_3 := blk_frozen BK414.out 3
                have hfz89_4 := blk_frozen BK414.out 4
                go_wp2
                go_roundg k3
                case measure => have := HJ3.out; have := HK2.out; have := HK3.out; omega
                case rel => exact ⟨(x4_3), (x5_3), (wrap64 (x6_2 + 1)), (by first | rfl | (simp; done) | (simp [*]; done)), (by first | rfl | (simp; done) | (simp [*]; done)), H', ⟨by have := HJ3.out; have := HK2.out; have := HK3.out; omega⟩, ⟨by (with_reducible repeat (first | apply Kd.R_alloc | apply Kd.R_drewN | apply Kd.R_drew)); exact HO_4.out⟩, ⟨k_ BK414⟩, ⟨b_ HB⟩⟩
              rw [if_pos c35] at H
              have c35b0 : decide (x7_3 < (wrap64 ((l0_0.length : Int) + (l0_1.length : Int)))) = true := decide_eq_true c35
              clear c35
              replace H := Option.bind_eq_some_iff.mp H
              obtain ⟨t424, A360, H⟩ := H
              replace H : (if x7_3 ≥ (l0_0.length : Int) then ((week_In.f l0_0 l0_1 l0_2 l0_3 l0_4 x6_2 (wrap64 (x7_3 - (l0_0.length : Int)))).bind fun t425 => (if t425 < 1 then (some false) else (if t425 > t417 then (some false) else (if 0 ≤ t425 then (if t425 < (x4_3.length : Int) then (if rdOf false x4_3 t425 = true then (some false) else (chalklinelaw04_WeekBijection.l1 k3 t417 (x4_3.set (t425 : Int).toNat true) (wrap64 (x5_3 + 1)) x6_2 (wrap64 (x7_3 + 1)) l0_0 l0_1 l0_2 l0_3 l0_4)) else (none)) else (none))))) else (if t424 < 1 then (some false) else (if t424 > t417 then (some false) else (if 0 ≤ t424 then (if t424 < (x4_3.length : Int) then (if rdOf false x4_3 t424 = true then (some false) else (chalklinelaw04_WeekBijection.l1 k3 t417 (x4_3.set (t424 : Int).toNat true) (wrap64 (x5_3 + 1)) x6_2 (wrap64 (x7_3 + 1)) l0_0 l0_1 l0_2 l0_3 l0_4)) else (none)) else (none))))) = some r := H
              have A36 := Aside0.mk A360
              clear A360
              by_cases c37 : x7_3 ≥ (l0_0.length : Int)
              rotate_left
              · rw [if_neg c37] at H
                have c37b0 : decide ((l0_0.length : Int) ≤ x7_3) = false := decide_eq_false c37
                clear c37
                by_cases c66 : t424 < 1
                · rw [if_pos c66] at H
                  have c66b0 : decide (t424 < 1) = true := decide_eq_true c66
                  clear c66
                  obtain rfl := Option.some.inj H
                  have hcz67_0 : wr.cell? ⟨gb414, 0, none⟩ = some (.slice A0_0 l0_0.length c0_0) := (blk_cell BK414.out 0).trans rfl
                  have hcz67_1 : wr.cell? ⟨gb414, 1, none⟩ = some (.slice A0_1 l0_1.length c0_1) := (blk_cell BK414.out 1).trans rfl
                  have hcz67_2 : wr.cell? ⟨gb414, 2, none⟩ = some (.slice A0_2 l0_2.length c0_2) := (blk_cell BK414.out 2).trans rfl
                  have hcz67_3 : wr.cell? ⟨gb414, 3, none⟩ = some (.slice A0_3 l0_3.length c0_3) := (blk_cell BK414.out 3).trans rfl
                  have hcz67_4 : wr.cell? ⟨gb414, 4, none⟩ = some (.slice A0_4 l0_4.length c0_4) := (blk_cell BK414.out 4).trans rfl
                  have hfz67_0 := blk_frozen BK414.out 0
                  have hfz67_1 := blk_frozen BK414.out 1
                  have hfz67_2 := blk_frozen BK414.out 2
                  have hfz67_3 := blk_frozen BK414.out 3
                  have hfz67_4 := blk_frozen BK414.out 4
                  go_wp2_with (first | ((with_reducible refine gate_callee (f := 29) rfl ?_); refine goesL_ (some 72) rfl rfl Tryd.func29 (by kernel_rfl) rfl #[.agg #[.slice A0_0 l0_0.length c0_0, .slice A0_1 l0_1.length c0_1, .slice A0_2 l0_2.length c0_2, .slice A0_3 l0_3.length c0_3, .slice A0_4 l0_4.length c0_4], .int .i64 x6_2, .int .i64 x7_3] rfl (by (try simp only [List.map_toArray, List.map_cons, List.map_nil]); first | done | rfl | (simp only [List.length_drop, List.length_take]; rfl)) ?_; (with_reducible refine (week_At.calls _ _ l0_0 _ _ l0_1 _ _ l0_2 _ _ l0_3 _ _ l0_4 x6_2 x7_3 t424 _ ?side1 ?side2 ?side3 ?side4 ?side5 ?side6 ?side7 ?side8 ?side9 ?side10 A36.out).mono ?_); (case side1 => repeat (first | exact (Kd.C_below HR0_0.out HB.out) | (with_reducible refine Kd.C_alloc ?_ _) | (with_reducible refine Kd.C_drewN ?_ _) | (with_reducible refine Kd.C_drew ?_))); (case side2 => exact HC0_0.out); (case side3 => repeat (first | exact (Kd.C_below HR0_1.out HB.out) | (with_reducible refine Kd.C_alloc ?_ _) | (with_reducible refine Kd.C_drewN ?_ _) | (with_reducible refine Kd.C_drew ?_))); (case side4 => exact HC0_1.out); (case side5 => repeat (first | exact (Kd.C_below HR0_2.out HB.out) | (with_reducible refine Kd.C_alloc ?_ _) | (with_reducible refine Kd.C_drewN ?_ _) | (with_reducible refine Kd.C_drew ?_))); (case side6 => exact HC0_2.out); (case side7 => repeat (first | exact (Kd.C_below HR0_3.out HB.out) | (with_reducible refine Kd.C_alloc ?_ _) | (with_reducible refine Kd.C_drewN ?_ _) | (with_reducible refine Kd.C_drew ?_))); (case side8 => exact HC0_3.out); (case side9 => repeat (first | exact (Kd.C_below HR0_4.out HB.out) | (with_reducible refine Kd.C_alloc ?_ _) | (with_reducible refine Kd.C_drewN ?_ _) | (with_reducible refine Kd.C_drew ?_))); (case side10 => exact HC0_4.out); rintro e w68 ⟨rfl, hb⟩; refine ⟨_, rfl, ?_⟩; have n0_ := Aside0.mk (Kd.R_below (r_ HO_4) hb); have n1_ := Aside0.mk (blk_below (k_ BK414) hb); have n2_ := Aside0.mk (below_step (b_ HB) hb); clear HO_4; clear BK414; clear HB; have HO_4 := n0_; have BK414 := n1_; have HB := n2_; clear n0_ n1_ n2_; (try clear hb); (try clear hb2); (try clear hk); (try clear hi); have hcz69_0 : w68.cell? ⟨gb414, 0, none⟩ = some (.slice A0_0 l0_0.length c0_0) := (blk_cell BK414.out 0).trans rfl; have hcz69_1 : w68.cell? ⟨gb414, 1, none⟩ = some (.slice A0_1 l0_1.length c0_1) := (blk_cell BK414.out 1).trans rfl; have hcz69_2 : w68.cell? ⟨gb414, 2, none⟩ = some (.slice A0_2 l0_2.length c0_2) := (blk_cell BK414.out 2).trans rfl; have hcz69_3 : w68.cell? ⟨gb414, 3, none⟩ = some (.slice A0_3 l0_3.length c0_3) := (blk_cell BK414.out 3).trans rfl; have hcz69_4 : w68.cell? ⟨gb414, 4, none⟩ = some (.slice A0_4 l0_4.length c0_4) := (blk_cell BK414.out 4).trans rfl; have hfz69_0 := blk_frozen BK414.out 0; have hfz69_1 := blk_frozen BK414.out 1; have hfz69_2 := blk_frozen BK414.out 2; have hfz69_3 := blk_frozen BK414.out 3; have hfz69_4 := blk_frozen BK414.out 4))
                  go_ret
                  exact ⟨by first | rfl | (simp [errW_none, errW_some] <;> rfl) | (simp only [← hji25]; first | rfl | (simp [errW_none, errW_some] <;> rfl)) | (simp [*, errW_none, errW_some] <;> rfl), b_ HB⟩
                rw [if_neg c66] at H
                have c66b0 : decide (t424 < 1) = false := decide_eq_false c66
                clear c66
                by_cases c70 : t424 > t417
                · rw [if_pos c70] at H
                  have c70b0 : decide (t417 < t424) = true := decide_eq_true c70
                  clear c70
                  obtain rfl := Option.some.inj H
                  have hcz71_0 : wr.cell? ⟨gb414, 0, none⟩ = some (.slice A0_0 l0_0.length c0_0) := (blk_cell BK414.out 0).trans rfl
                  have hcz71_1 : wr.cell? ⟨gb414, 1, none⟩ = some (.slice A0_1 l0_1.length c0_1) := (blk_cell BK414.out 1).trans rfl
                  have hcz71_2 : wr.cell? ⟨gb414, 2, none⟩ = some (.slice A0_2 l0_2.length c0_2) := (blk_cell BK414.out 2).trans rfl
                  have hcz71_3 : wr.cell? ⟨gb414, 3, none⟩ = some (.slice A0_3 l0_3.length c0_3) := (blk_cell BK414.out 3).trans rfl
                  have hcz71_4 : wr.cell? ⟨gb414, 4, none⟩ = some (.slice A0_4 l0_4.length c0_4) := (blk_cell BK414.out 4).trans rfl
                  have hfz71_0 := blk_frozen BK414.out 0
                  have hfz71_1 := blk_frozen BK414.out 1
                  have hfz71_2 := blk_frozen BK414.out 2
                  have hfz71_3 := blk_frozen BK414.out 3
                  have hfz71_4 := blk_frozen BK414.out 4
                  go_wp2_with (first | ((with_reducible refine gate_callee (f := 29) rfl ?_); refine goesL_ (some 72) rfl rfl Tryd.func29 (by kernel_rfl) rfl #[.agg #[.slice A0_0 l0_0.length c0_0, .slice A0_1 l0_1.length c0_1, .slice A0_2 l0_2.length c0_2, .slice A0_3 l0_3.length c0_3, .slice A0_4 l0_4.length c0_4], .int .i64 x6_2, .int .i64 x7_3] rfl (by (try simp only [List.map_toArray, List.map_cons, List.map_nil]); first | done | rfl | (simp only [List.length_drop, List.length_take]; rfl)) ?_; (with_reducible refine (week_At.calls _ _ l0_0 _ _ l0_1 _ _ l0_2 _ _ l0_3 _ _ l0_4 x6_2 x7_3 t424 _ ?side1 ?side2 ?side3 ?side4 ?side5 ?side6 ?side7 ?side8 ?side9 ?side10 A36.out).mono ?_); (case side1 => repeat (first | exact (Kd.C_below HR0_0.out HB.out) | (with_reducible refine Kd.C_alloc ?_ _) | (with_reducible refine Kd.C_drewN ?_ _) | (with_reducible refine Kd.C_drew ?_))); (case side2 => exact HC0_0.out); (case side3 => repeat (first | exact (Kd.C_below HR0_1.out HB.out) | (with_reducible refine Kd.C_alloc ?_ _) | (with_reducible refine Kd.C_drewN ?_ _) | (with_reducible refine Kd.C_drew ?_))); (case side4 => exact HC0_1.out); (case side5 => repeat (first | exact (Kd.C_below HR0_2.out HB.out) | (with_reducible refine Kd.C_alloc ?_ _) | (with_reducible refine Kd.C_drewN ?_ _) | (with_reducible refine Kd.C_drew ?_))); (case side6 => exact HC0_2.out); (case side7 => repeat (first | exact (Kd.C_below HR0_3.out HB.out) | (with_reducible refine Kd.C_alloc ?_ _) | (with_reducible refine Kd.C_drewN ?_ _) | (with_reducible refine Kd.C_drew ?_))); (case side8 => exact HC0_3.out); (case side9 => repeat (first | exact (Kd.C_below HR0_4.out HB.out) | (with_reducible refine Kd.C_alloc ?_ _) | (with_reducible refine Kd.C_drewN ?_ _) | (with_reducible refine Kd.C_drew ?_))); (case side10 => exact HC0_4.out); rintro e w72 ⟨rfl, hb⟩; refine ⟨_, rfl, ?_⟩; have n0_ := Aside0.mk (Kd.R_below (r_ HO_4) hb); have n1_ := Aside0.mk (blk_below (k_ BK414) hb); have n2_ := Aside0.mk (below_step (b_ HB) hb); clear HO_4; clear BK414; clear HB; have HO_4 := n0_; have BK414 := n1_; have HB := n2_; clear n0_ n1_ n2_; (try clear hb); (try clear hb2); (try clear hk); (try clear hi); have hcz73_0 : w72.cell? ⟨gb414, 0, none⟩ = some (.slice A0_0 l0_0.length c0_0) := (blk_cell BK414.out 0).trans rfl; have hcz73_1 : w72.cell? ⟨gb414, 1, none⟩ = some (.slice A0_1 l0_1.length c0_1) := (blk_cell BK414.out 1).trans rfl; have hcz73_2 : w72.cell? ⟨gb414, 2, none⟩ = some (.slice A0_2 l0_2.length c0_2) := (blk_cell BK414.out 2).trans rfl; have hcz73_3 : w72.cell? ⟨gb414, 3, none⟩ = some (.slice A0_3 l0_3.length c0_3) := (blk_cell BK414.out 3).trans rfl; have hcz73_4 : w72.cell? ⟨gb414, 4, none⟩ = some (.slice A0_4 l0_4.length c0_4) := (blk_cell BK414.out 4).trans rfl; have hfz73_0 := blk_frozen BK414.out 0; have hfz73_1 := blk_frozen BK414.out 1; have hfz73_2 := blk_frozen BK414.out 2; have hfz73_3 := blk_frozen BK414.out 3; have hfz73_4 := blk_frozen BK414.out 4))
                  go_ret
                  exact ⟨by first | rfl | (simp [errW_none, errW_some] <;> rfl) | (simp only [← hji25]; first | rfl | (simp [errW_none, errW_some] <;> rfl)) | (simp [*, errW_none, errW_some] <;> rfl), b_ HB⟩
                rw [if_neg c70] at H
                have c70b0 : decide (t417 < t424) = false := decide_eq_false c70
                clear c70
                by_cases c74 : 0 ≤ t424
                rotate_left
                · rw [if_neg c74] at H
                  exact absurd H (by simp)
                rw [if_pos c74] at H
                have c74b0 : decide (0 ≤ t424) = true := decide_eq_true c74
                clear c74
                by_cases c75 : t424 < (x4_3.length : Int)
                rotate_left
                · rw [if_neg c75] at H
                  exact absurd H (by simp)
                rw [if_pos c75] at H
                have c75b0 : decide (t424 < (x4_3.length : Int)) = true := decide_eq_true c75
                clear c75
                obtain ⟨bq76, hbq76⟩ : ∃ b_ : Bool, b_ = (rdOf false x4_3 t424) := ⟨_, rfl⟩
                replace H : (if bq76 = true then (some false) else (chalklinelaw04_WeekBijection.l1 k3 t417 (x4_3.set (t424 : Int).toNat true) (wrap64 (x5_3 + 1)) x6_2 (wrap64 (x7_3 + 1)) l0_0 l0_1 l0_2 l0_3 l0_4)) = some r := by rw [← hbq76] at H; exact H
                have Nbq76 := Aside0.mk hbq76
                clear hbq76
                by_cases c77 : bq76 = true
                · subst c77
                  have H1 : (some false) = some r := by rw [if_pos rfl] at H; exact H
                  clear H
                  have H := H1
                  clear H1
                  obtain rfl := Option.some.inj H
                  have hcz78_0 : wr.cell? ⟨gb414, 0, none⟩ = some (.slice A0_0 l0_0.length c0_0) := (blk_cell BK414.out 0).trans rfl
                  have hcz78_1 : wr.cell? ⟨gb414, 1, none⟩ = some (.slice A0_1 l0_1.length c0_1) := (blk_cell BK414.out 1).trans rfl
                  have hcz78_2 : wr.cell? ⟨gb414, 2, none⟩ = some (.slice A0_2 l0_2.length c0_2) := (blk_cell BK414.out 2).trans rfl
                  have hcz78_3 : wr.cell? ⟨gb414, 3, none⟩ = some (.slice A0_3 l0_3.length c0_3) := (blk_cell BK414.out 3).trans rfl
                  have hcz78_4 : wr.cell? ⟨gb414, 4, none⟩ = some (.slice A0_4 l0_4.length c0_4) := (blk_cell BK414.out 4).trans rfl
                  have hfz78_0 := blk_frozen BK414.out 0
                  have hfz78_1 := blk_frozen BK414.out 1
                  have hfz78_2 := blk_frozen BK414.out 2
                  have hfz78_3 := blk_frozen BK414.out 3
                  have hfz78_4 := blk_frozen BK414.out 4
                  go_wp2_with (first | ((with_reducible refine gate_callee (f := 29) rfl ?_); refine goesL_ (some 72) rfl rfl Tryd.func29 (by kernel_rfl) rfl #[.agg #[.slice A0_0 l0_0.length c0_0, .slice A0_1 l0_1.length c0_1, .slice A0_2 l0_2.length c0_2, .slice A0_3 l0_3.length c0_3, .slice A0_4 l0_4.length c0_4], .int .i64 x6_2, .int .i64 x7_3] rfl (by (try simp only [List.map_toArray, List.map_cons, List.map_nil]); first | done | rfl | (simp only [List.length_drop, List.length_take]; rfl)) ?_; (with_reducible refine (week_At.calls _ _ l0_0 _ _ l0_1 _ _ l0_2 _ _ l0_3 _ _ l0_4 x6_2 x7_3 t424 _ ?side1 ?side2 ?side3 ?side4 ?side5 ?side6 ?side7 ?side8 ?side9 ?side10 A36.out).mono ?_); (case side1 => repeat (first | exact (Kd.C_below HR0_0.out HB.out) | (with_reducible refine Kd.C_alloc ?_ _) | (with_reducible refine Kd.C_drewN ?_ _) | (with_reducible refine Kd.C_drew ?_))); (case side2 => exact HC0_0.out); (case side3 => repeat (first | exact (Kd.C_below HR0_1.out HB.out) | (with_reducible refine Kd.C_alloc ?_ _) | (with_reducible refine Kd.C_drewN ?_ _) | (with_reducible refine Kd.C_drew ?_))); (case side4 => exact HC0_1.out); (case side5 => repeat (first | exact (Kd.C_below HR0_2.out HB.out) | (with_reducible refine Kd.C_alloc ?_ _) | (with_reducible refine Kd.C_drewN ?_ _) | (with_reducible refine Kd.C_drew ?_))); (case side6 => exact HC0_2.out); (case side7 => repeat (first | exact (Kd.C_below HR0_3.out HB.out) | (with_reducible refine Kd.C_alloc ?_ _) | (with_reducible refine Kd.C_drewN ?_ _) | (with_reducible refine Kd.C_drew ?_))); (case side8 => exact HC0_3.out); (case side9 => repeat (first | exact (Kd.C_below HR0_4.out HB.out) | (with_reducible refine Kd.C_alloc ?_ _) | (with_reducible refine Kd.C_drewN ?_ _) | (with_reducible refine Kd.C_drew ?_))); (case side10 => exact HC0_4.out); rintro e w79 ⟨rfl, hb⟩; refine ⟨_, rfl, ?_⟩; have n0_ := Aside0.mk (Kd.R_below (r_ HO_4) hb); have n1_ := Aside0.mk (blk_below (k_ BK414) hb); have n2_ := Aside0.mk (below_step (b_ HB) hb); clear HO_4; clear BK414; clear HB; have HO_4 := n0_; have BK414 := n1_; have HB := n2_; clear n0_ n1_ n2_; (try clear hb); (try clear hb2); (try clear hk); (try clear hi); have hcz80_0 : w79.cell? ⟨gb414, 0, none⟩ = some (.slice A0_0 l0_0.length c0_0) := (blk_cell BK414.out 0).trans rfl; have hcz80_1 : w79.cell? ⟨gb414, 1, none⟩ = some (.slice A0_1 l0_1.length c0_1) := (blk_cell BK414.out 1).trans rfl; have hcz80_2 : w79.cell? ⟨gb414, 2, none⟩ = some (.slice A0_2 l0_2.length c0_2) := (blk_cell BK414.out 2).trans rfl; have hcz80_3 : w79.cell? ⟨gb414, 3, none⟩ = some (.slice A0_3 l0_3.length c0_3) := (blk_cell BK414.out 3).trans rfl; have hcz80_4 : w79.cell? ⟨gb414, 4, none⟩ = some (.slice A0_4 l0_4.length c0_4) := (blk_cell BK414.out 4).trans rfl; have hfz80_0 := blk_frozen BK414.out 0; have hfz80_1 := blk_frozen BK414.out 1; have hfz80_2 := blk_frozen BK414.out 2; have hfz80_3 := blk_frozen BK414.out 3; have hfz80_4 := blk_frozen BK414.out 4; obtain ⟨Ao81, co81, eo81⟩ := Kd.R_slice HO_4.out; subst eo81; have p428 : 0 ≤ (t424 : Int) := of_decide_eq_true (by first | (with_reducible assumption) | assumption); have q428 : t424 < (x4_3.length : Int) := of_decide_eq_true (by first | (with_reducible assumption) | assumption); obtain ⟨ad428, e428, hx428_0⟩ := Kd.at_bool (Kd.R_reads' HO_4.out).2.2 t424 p428 q428; (try rw [← Nbq76.out] at hx428_0); cases e428; replace p428 := eq_true p428; replace q428 := eq_true q428))
                  go_ret
                  exact ⟨by first | rfl | (simp [errW_none, errW_some] <;> rfl) | (simp only [← hji25]; first | rfl | (simp [errW_none, errW_some] <;> rfl)) | (simp [*, errW_none, errW_some] <;> rfl), b_ HB⟩
                replace c77 := Bool.eq_false_iff.mpr c77
                subst c77
                have H1 : (chalklinelaw04_WeekBijection.l1 k3 t417 (x4_3.set (t424 : Int).toNat true) (wrap64 (x5_3 + 1)) x6_2 (wrap64 (x7_3 + 1)) l0_0 l0_1 l0_2 l0_3 l0_4) = some r := by rw [if_neg (show ¬ (false = true) by decide)] at H; exact H
                clear H
                have H := H1
                clear H1
                obtain ⟨y429, hy429⟩ : ∃ y_ : List Bool, y_ = (x4_3.set (t424 : Int).toNat true) := ⟨_, rfl⟩
                replace H : (chalklinelaw04_WeekBijection.l1 k3 t417 y429 (wrap64 (x5_3 + 1)) x6_2 (wrap64 (x7_3 + 1)) l0_0 l0_1 l0_2 l0_3 l0_4) = some r := by first | (rw [hy429]; with_reducible exact H) | (have H2_ := (Option.bind_some _ _).symm.trans H; rw [hy429]; with_reducible exact H2_) | (have H2_ := (Option.bind_some _ _).symm.trans H; with_reducible exact H2_) | with_reducible exact H | (rw [hy429]; exact H) | exact H
                have Ny429 := Aside0.mk hy429
                clear hy429
                have H' := Aside0.mk H
                clear H
                have hcz83_0 : wr.cell? ⟨gb414, 0, none⟩ = some (.slice A0_0 l0_0.length c0_0) := (blk_cell BK414.out 0).trans rfl
                have hcz83_1 : wr.cell? ⟨gb414, 1, none⟩ = some (.slice A0_1 l0_1.length c0_1) := (blk_cell BK414.out 1).trans rfl
                have hcz83_2 : wr.cell? ⟨gb414, 2, none⟩ = some (.slice A0_2 l0_2.length c0_2) := (blk_cell BK414.out 2).trans rfl
                have hcz83_3 : wr.cell? ⟨gb414, 3, none⟩ = some (.slice A0_3 l0_3.length c0_3) := (blk_cell BK414.out 3).trans rfl
                have hcz83_4 : wr.cell? ⟨gb414, 4, none⟩ = some (.slice A0_4 l0_4.length c0_4) := (blk_cell BK414.out 4).trans rfl
                have hfz83_0 := blk_frozen BK414.out 0
                have hfz83_1 := blk_frozen BK414.out 1
                have hfz83_2 := blk_frozen BK414.out 2
                have hfz83_3 := blk_frozen BK414.out 3
                have hfz83_4 := blk_frozen BK414.out 4
                go_wp2_with (first | ((with_reducible refine gate_callee (f := 29) rfl ?_); refine goesL_ (some 72) rfl rfl Tryd.func29 (by kernel_rfl) rfl #[.agg #[.slice A0_0 l0_0.length c0_0, .slice A0_1 l0_1.length c0_1, .slice A0_2 l0_2.length c0_2, .slice A0_3 l0_3.length c0_3, .slice A0_4 l0_4.length c0_4], .int .i64 x6_2, .int .i64 x7_3] rfl (by (try simp only [List.map_toArray, List.map_cons, List.map_nil]); first | done | rfl | (simp only [List.length_drop, List.length_take]; rfl)) ?_; (with_reducible refine (week_At.calls _ _ l0_0 _ _ l0_1 _ _ l0_2 _ _ l0_3 _ _ l0_4 x6_2 x7_3 t424 _ ?side1 ?side2 ?side3 ?side4 ?side5 ?side6 ?side7 ?side8 ?side9 ?side10 A36.out).mono ?_); (case side1 => repeat (first | exact (Kd.C_below HR0_0.out HB.out) | (with_reducible refine Kd.C_alloc ?_ _) | (with_reducible refine Kd.C_drewN ?_ _) | (with_reducible refine Kd.C_drew ?_))); (case side2 => exact HC0_0.out); (case side3 => repeat (first | exact (Kd.C_below HR0_1.out HB.out) | (with_reducible refine Kd.C_alloc ?_ _) | (with_reducible refine Kd.C_drewN ?_ _) | (with_reducible refine Kd.C_drew ?_))); (case side4 => exact HC0_1.out); (case side5 => repeat (first | exact (Kd.C_below HR0_2.out HB.out) | (with_reducible refine Kd.C_alloc ?_ _) | (with_reducible refine Kd.C_drewN ?_ _) | (with_reducible refine Kd.C_drew ?_))); (case side6 => exact HC0_2.out); (case side7 => repeat (first | exact (Kd.C_below HR0_3.out HB.out) | (with_reducible refine Kd.C_alloc ?_ _) | (with_reducible refine Kd.C_drewN ?_ _) | (with_reducible refine Kd.C_drew ?_))); (case side8 => exact HC0_3.out); (case side9 => repeat (first | exact (Kd.C_below HR0_4.out HB.out) | (with_reducible refine Kd.C_alloc ?_ _) | (with_reducible refine Kd.C_drewN ?_ _) | (with_reducible refine Kd.C_drew ?_))); (case side10 => exact HC0_4.out); rintro e w84 ⟨rfl, hb⟩; refine ⟨_, rfl, ?_⟩; have n0_ := Aside0.mk (Kd.R_below (r_ HO_4) hb); have n1_ := Aside0.mk (blk_below (k_ BK414) hb); have n2_ := Aside0.mk (below_step (b_ HB) hb); clear HO_4; clear BK414; clear HB; have HO_4 := n0_; have BK414 := n1_; have HB := n2_; clear n0_ n1_ n2_; (try clear hb); (try clear hb2); (try clear hk); (try clear hi); have hcz85_0 : w84.cell? ⟨gb414, 0, none⟩ = some (.slice A0_0 l0_0.length c0_0) := (blk_cell BK414.out 0).trans rfl; have hcz85_1 : w84.cell? ⟨gb414, 1, none⟩ = some (.slice A0_1 l0_1.length c0_1) := (blk_cell BK414.out 1).trans rfl; have hcz85_2 : w84.cell? ⟨gb414, 2, none⟩ = some (.slice A0_2 l0_2.length c0_2) := (blk_cell BK414.out 2).trans rfl; have hcz85_3 : w84.cell? ⟨gb414, 3, none⟩ = some (.slice A0_3 l0_3.length c0_3) := (blk_cell BK414.out 3).trans rfl; have hcz85_4 : w84.cell? ⟨gb414, 4, none⟩ = some (.slice A0_4 l0_4.length c0_4) := (blk_cell BK414.out 4).trans rfl; have hfz85_0 := blk_frozen BK414.out 0; have hfz85_1 := blk_frozen BK414.out 1; have hfz85_2 := blk_frozen BK414.out 2; have hfz85_3 := blk_frozen BK414.out 3; have hfz85_4 := blk_frozen BK414.out 4; obtain ⟨Ao86, co86, eo86⟩ := Kd.R_slice HO_4.out; subst eo86; have p428 : 0 ≤ (t424 : Int) := of_decide_eq_true (by first | (with_reducible assumption) | assumption); have q428 : t424 < (x4_3.length : Int) := of_decide_eq_true (by first | (with_reducible assumption) | assumption); obtain ⟨ad428, e428, hx428_0⟩ := Kd.at_bool (Kd.R_reads' HO_4.out).2.2 t424 p428 q428; (try rw [← Nbq76.out] at hx428_0); cases e428; replace p428 := eq_true p428; replace q428 := eq_true q428; have p82 : 0 ≤ (t424 : Int) := of_decide_eq_true (by first | (with_reducible assumption) | assumption); have q82 : (t424 : Int) < ((x4_3.length : Int) : Int) := of_decide_eq_true (by first | (with_reducible assumption) | assumption); obtain ⟨go82, co82, eo82, gb82, gl82, cl82, HG82⟩ := Kd.R_form HO_4.out (by omega); (first | cases eo82 | (injection eo82 with ea_ en_ ec_; (first | subst ea_ | (injection ea_ with ea_; subst ea_)); subst ec_; clear en_)); have GB82 := Aside0.mk gb82; have GG82 := Aside0.mk HG82; clear gb82 gl82 HG82; (first | simp only [add_plain] at hx428_0 | skip); obtain ⟨hx82_0, hf82_0⟩ := Kd.R_celln false HO_4.out (t424 : Int) p82 q82; replace p82 := eq_true p82; replace q82 := eq_true q82; obtain ⟨hy87_, hz87_⟩ := Kd.R_celln false HO_4.out (t424 : Int) (of_decide_eq_true (by first | (with_reducible assumption) | assumption)) (of_decide_eq_true (by first | (with_reducible assumption) | assumption)); have HP87 := Kd.R_putg HO_4.out (t424 : Int) true) | ((with_reducible refine gate_store (t := 4) (p := 101) rfl ?_); refine store_event (t := 4) (p := 101) (v := ?vo_w88) (w1 := (w84.setCell ⟨go82, (t424 : Int).toNat, none⟩ (.bool true))) ?hg ?ho ?hn ?hr ?_; (case ho => rfl); (case hg => rfl); (case hn => rfl); (case hr => first | (go_simp; done) | (go_simp; rfl)); intro w88 hw; have hg : w84.grownBy w88 (some go82) := (by rw [hw]; exact HP87.2); have hp_ : Kd.R Kd.bool 4 w88 w.heap.size (fun _ => True) (.slice (some ⟨go82, 0, none⟩) x4_3.length co86) y429 := (by rw [hw, Ny429.out]; exact HP87.1); clear HP87; have n0_ := Aside0.mk (hp_); have n1_ := Aside0.mk (blk_grown (g := gb414) (o := .cells #[.slice A0_0 l0_0.length c0_0, .slice A0_1 l0_1.length c0_1, .slice A0_2 l0_2.length c0_2, .slice A0_3 l0_3.length c0_3, .slice A0_4 l0_4.length c0_4] 45 (0, 0)) (k_ BK414) hg (Kd.R_ne HO_4.out BK414.out (by decide))); have n2_ := Aside0.mk ((by rw [hw]; exact below_set (HB.out) GB82.out : Below w.heap.size w w88)); clear HO_4; clear BK414; clear HB; have HO_4 := n0_; have BK414 := n1_; have HB := n2_; clear n0_ n1_ n2_; clear hg hw hp_))
                go_roundg k3
                case measure => have := HJ3.out; have := HK2.out; have := HK3.out; omega
                case rel => exact ⟨(y429), (wrap64 (x5_3 + 1)), (wrap64 (x7_3 + 1)), (by first | rfl | (simp; done) | (simp [*]; done)), (by first | rfl | (simp; done) | (simp [*]; done)), H', ⟨by have := HJ3.out; have := HK2.out; have := HK3.out; omega⟩, ⟨by (with_reducible repeat (first | apply Kd.R_alloc | apply Kd.R_drewN | apply Kd.R_drew)); exact HO_4.out⟩, ⟨k_ BK414⟩, ⟨b_ HB⟩⟩
              rw [if_pos c37] at H
              have c37b0 : decide ((l0_0.length : Int) ≤ x7_3) = true := decide_eq_true c37
              clear c37
              replace H := Option.bind_eq_some_iff.mp H
              obtain ⟨t425, A380, H⟩ := H
              replace H : (if t425 < 1 then (some false) else (if t425 > t417 then (some false) else (if 0 ≤ t425 then (if t425 < (x4_3.length : Int) then (if rdOf false x4_3 t425 = true then (some false) else (chalklinelaw04_WeekBijection.l1 k3 t417 (x4_3.set (t425 : Int).toNat true) (wrap64 (x5_3 + 1)) x6_2 (wrap64 (x7_3 + 1)) l0_0 l0_1 l0_2 l0_3 l0_4)) else (none)) else (none)))) = some r := H
              have A38 := Aside0.mk A380
              clear A380
              by_cases c39 : t425 < 1
              · rw [if_pos c39] at H
                have c39b0 : decide (t425 < 1) = true := decide_eq_true c39
                clear c39
                obtain rfl := Option.some.inj H
                have hcz40_0 : wr.cell? ⟨gb414, 0, none⟩ = some (.slice A0_0 l0_0.length c0_0) := (blk_cell BK414.out 0).trans rfl
                have hcz40_1 : wr.cell? ⟨gb414, 1, none⟩ = some (.slice A0_1 l0_1.length c0_1) := (blk_cell BK414.out 1).trans rfl
                have hcz40_2 : wr.cell? ⟨gb414, 2, none⟩ = some (.slice A0_2 l0_2.length c0_2) := (blk_cell BK414.out 2).trans rfl
                have hcz40_3 : wr.cell? ⟨gb414, 3, none⟩ = some (.slice A0_3 l0_3.length c0_3) := (blk_cell BK414.out 3).trans rfl
                have hcz40_4 : wr.cell? ⟨gb414, 4, none⟩ = some (.slice A0_4 l0_4.length c0_4) := (blk_cell BK414.out 4).trans rfl
                have hfz40_0 := blk_frozen BK414.out 0
                have hfz40_1 := blk_frozen BK414.out 1
                have hfz40_2 := blk_frozen BK414.out 2
                have hfz40_3 := blk_frozen BK414.out 3
                have hfz40_4 := blk_frozen BK414.out 4
                go_wp2_with (first | ((with_reducible refine gate_callee (f := 29) rfl ?_); refine goesL_ (some 72) rfl rfl Tryd.func29 (by kernel_rfl) rfl #[.agg #[.slice A0_0 l0_0.length c0_0, .slice A0_1 l0_1.length c0_1, .slice A0_2 l0_2.length c0_2, .slice A0_3 l0_3.length c0_3, .slice A0_4 l0_4.length c0_4], .int .i64 x6_2, .int .i64 x7_3] rfl (by (try simp only [List.map_toArray, List.map_cons, List.map_nil]); first | done | rfl | (simp only [List.length_drop, List.length_take]; rfl)) ?_; (with_reducible refine (week_At.calls _ _ l0_0 _ _ l0_1 _ _ l0_2 _ _ l0_3 _ _ l0_4 x6_2 x7_3 t424 _ ?side1 ?side2 ?side3 ?side4 ?side5 ?side6 ?side7 ?side8 ?side9 ?side10 A36.out).mono ?_); (case side1 => repeat (first | exact (Kd.C_below HR0_0.out HB.out) | (with_reducible refine Kd.C_alloc ?_ _) | (with_reducible refine Kd.C_drewN ?_ _) | (with_reducible refine Kd.C_drew ?_))); (case side2 => exact HC0_0.out); (case side3 => repeat (first | exact (Kd.C_below HR0_1.out HB.out) | (with_reducible refine Kd.C_alloc ?_ _) | (with_reducible refine Kd.C_drewN ?_ _) | (with_reducible refine Kd.C_drew ?_))); (case side4 => exact HC0_1.out); (case side5 => repeat (first | exact (Kd.C_below HR0_2.out HB.out) | (with_reducible refine Kd.C_alloc ?_ _) | (with_reducible refine Kd.C_drewN ?_ _) | (with_reducible refine Kd.C_drew ?_))); (case side6 => exact HC0_2.out); (case side7 => repeat (first | exact (Kd.C_below HR0_3.out HB.out) | (with_reducible refine Kd.C_alloc ?_ _) | (with_reducible refine Kd.C_drewN ?_ _) | (with_reducible refine Kd.C_drew ?_))); (case side8 => exact HC0_3.out); (case side9 => repeat (first | exact (Kd.C_below HR0_4.out HB.out) | (with_reducible refine Kd.C_alloc ?_ _) | (with_reducible refine Kd.C_drewN ?_ _) | (with_reducible refine Kd.C_drew ?_))); (case side10 => exact HC0_4.out); rintro e w41 ⟨rfl, hb⟩; refine ⟨_, rfl, ?_⟩; have n0_ := Aside0.mk (Kd.R_below (r_ HO_4) hb); have n1_ := Aside0.mk (blk_below (k_ BK414) hb); have n2_ := Aside0.mk (below_step (b_ HB) hb); clear HO_4; clear BK414; clear HB; have HO_4 := n0_; have BK414 := n1_; have HB := n2_; clear n0_ n1_ n2_; (try clear hb); (try clear hb2); (try clear hk); (try clear hi); have hcz42_0 : w41.cell? ⟨gb414, 0, none⟩ = some (.slice A0_0 l0_0.length c0_0) := (blk_cell BK414.out 0).trans rfl; have hcz42_1 : w41.cell? ⟨gb414, 1, none⟩ = some (.slice A0_1 l0_1.length c0_1) := (blk_cell BK414.out 1).trans rfl; have hcz42_2 : w41.cell? ⟨gb414, 2, none⟩ = some (.slice A0_2 l0_2.length c0_2) := (blk_cell BK414.out 2).trans rfl; have hcz42_3 : w41.cell? ⟨gb414, 3, none⟩ = some (.slice A0_3 l0_3.length c0_3) := (blk_cell BK414.out 3).trans rfl; have hcz42_4 : w41.cell? ⟨gb414, 4, none⟩ = some (.slice A0_4 l0_4.length c0_4) := (blk_cell BK414.out 4).trans rfl; have hfz42_0 := blk_frozen BK414.out 0; have hfz42_1 := blk_frozen BK414.out 1; have hfz42_2 := blk_frozen BK414.out 2; have hfz42_3 := blk_frozen BK414.out 3; have hfz42_4 := blk_frozen BK414.out 4) | ((with_reducible refine gate_callee (f := 30) rfl ?_); refine goesL_ (some 85) rfl rfl Tryd.func30 (by kernel_rfl) rfl #[.agg #[.slice A0_0 l0_0.length c0_0, .slice A0_1 l0_1.length c0_1, .slice A0_2 l0_2.length c0_2, .slice A0_3 l0_3.length c0_3, .slice A0_4 l0_4.length c0_4], .int .i64 x6_2, .int .i64 (wrap64 (x7_3 - (l0_0.length : Int)))] rfl (by (try simp only [List.map_toArray, List.map_cons, List.map_nil]); first | done | rfl | (simp only [List.length_drop, List.length_take]; rfl)) ?_; (with_reducible refine (week_In.calls _ _ l0_0 _ _ l0_1 _ _ l0_2 _ _ l0_3 _ _ l0_4 x6_2 (wrap64 (x7_3 - (l0_0.length : Int))) t425 _ ?side1 ?side2 ?side3 ?side4 ?side5 ?side6 ?side7 ?side8 ?side9 ?side10 A38.out).mono ?_); (case side1 => repeat (first | exact (Kd.C_below HR0_0.out HB.out) | (with_reducible refine Kd.C_alloc ?_ _) | (with_reducible refine Kd.C_drewN ?_ _) | (with_reducible refine Kd.C_drew ?_))); (case side2 => exact HC0_0.out); (case side3 => repeat (first | exact (Kd.C_below HR0_1.out HB.out) | (with_reducible refine Kd.C_alloc ?_ _) | (with_reducible refine Kd.C_drewN ?_ _) | (with_reducible refine Kd.C_drew ?_))); (case side4 => exact HC0_1.out); (case side5 => repeat (first | exact (Kd.C_below HR0_2.out HB.out) | (with_reducible refine Kd.C_alloc ?_ _) | (with_reducible refine Kd.C_drewN ?_ _) | (with_reducible refine Kd.C_drew ?_))); (case side6 => exact HC0_2.out); (case side7 => repeat (first | exact (Kd.C_below HR0_3.out HB.out) | (with_reducible refine Kd.C_alloc ?_ _) | (with_reducible refine Kd.C_drewN ?_ _) | (with_reducible refine Kd.C_drew ?_))); (case side8 => exact HC0_3.out); (case side9 => repeat (first | exact (Kd.C_below HR0_4.out HB.out) | (with_reducible refine Kd.C_alloc ?_ _) | (with_reducible refine Kd.C_drewN ?_ _) | (with_reducible refine Kd.C_drew ?_))); (case side10 => exact HC0_4.out); rintro e w43 ⟨rfl, hb⟩; refine ⟨_, rfl, ?_⟩; have n0_ := Aside0.mk (Kd.R_below (r_ HO_4) hb); have n1_ := Aside0.mk (blk_below (k_ BK414) hb); have n2_ := Aside0.mk (below_step (b_ HB) hb); clear HO_4; clear BK414; clear HB; have HO_4 := n0_; have BK414 := n1_; have HB := n2_; clear n0_ n1_ n2_; (try clear hb); (try clear hb2); (try clear hk); (try clear hi)))
                go_ret
                exact ⟨by first | rfl | (simp [errW_none, errW_some] <;> rfl) | (simp only [← hji25]; first | rfl | (simp [errW_none, errW_some] <;> rfl)) | (simp [*, errW_none, errW_some] <;> rfl), b_ HB⟩
              rw [if_neg c39] at H
              have c39b0 : decide (t425 < 1) = false := decide_eq_false c39
              clear c39
              by_cases c44 : t425 > t417
              · rw [if_pos c44] at H
                have c44b0 : decide (t417 < t425) = true := decide_eq_true c44
                clear c44
                obtain rfl := Option.some.inj H
                have hcz45_0 : wr.cell? ⟨gb414, 0, none⟩ = some (.slice A0_0 l0_0.length c0_0) := (blk_cell BK414.out 0).trans rfl
                have hcz45_1 : wr.cell? ⟨gb414, 1, none⟩ = some (.slice A0_1 l0_1.length c0_1) := (blk_cell BK414.out 1).trans rfl
                have hcz45_2 : wr.cell? ⟨gb414, 2, none⟩ = some (.slice A0_2 l0_2.length c0_2) := (blk_cell BK414.out 2).trans rfl
                have hcz45_3 : wr.cell? ⟨gb414, 3, none⟩ = some (.slice A0_3 l0_3.length c0_3) := (blk_cell BK414.out 3).trans rfl
                have hcz45_4 : wr.cell? ⟨gb414, 4, none⟩ = some (.slice A0_4 l0_4.length c0_4) := (blk_cell BK414.out 4).trans rfl
                have hfz45_0 := blk_frozen BK414.out 0
                have hfz45_1 := blk_frozen BK414.out 1
                have hfz45_2 := blk_frozen BK414.out 2
                have hfz45_3 := blk_frozen BK414.out 3
                have hfz45_4 := blk_frozen BK414.out 4
                go_wp2_with (first | ((with_reducible refine gate_callee (f := 29) rfl ?_); refine goesL_ (some 72) rfl rfl Tryd.func29 (by kernel_rfl) rfl #[.agg #[.slice A0_0 l0_0.length c0_0, .slice A0_1 l0_1.length c0_1, .slice A0_2 l0_2.length c0_2, .slice A0_3 l0_3.length c0_3, .slice A0_4 l0_4.length c0_4], .int .i64 x6_2, .int .i64 x7_3] rfl (by (try simp only [List.map_toArray, List.map_cons, List.map_nil]); first | done | rfl | (simp only [List.length_drop, List.length_take]; rfl)) ?_; (with_reducible refine (week_At.calls _ _ l0_0 _ _ l0_1 _ _ l0_2 _ _ l0_3 _ _ l0_4 x6_2 x7_3 t424 _ ?side1 ?side2 ?side3 ?side4 ?side5 ?side6 ?side7 ?side8 ?side9 ?side10 A36.out).mono ?_); (case side1 => repeat (first | exact (Kd.C_below HR0_0.out HB.out) | (with_reducible refine Kd.C_alloc ?_ _) | (with_reducible refine Kd.C_drewN ?_ _) | (with_reducible refine Kd.C_drew ?_))); (case side2 => exact HC0_0.out); (case side3 => repeat (first | exact (Kd.C_below HR0_1.out HB.out) | (with_reducible refine Kd.C_alloc ?_ _) | (with_reducible refine Kd.C_drewN ?_ _) | (with_reducible refine Kd.C_drew ?_))); (case side4 => exact HC0_1.out); (case side5 => repeat (first | exact (Kd.C_below HR0_2.out HB.out) | (with_reducible refine Kd.C_alloc ?_ _) | (with_reducible refine Kd.C_drewN ?_ _) | (with_reducible refine Kd.C_drew ?_))); (case side6 => exact HC0_2.out); (case side7 => repeat (first | exact (Kd.C_below HR0_3.out HB.out) | (with_reducible refine Kd.C_alloc ?_ _) | (with_reducible refine Kd.C_drewN ?_ _) | (with_reducible refine Kd.C_drew ?_))); (case side8 => exact HC0_3.out); (case side9 => repeat (first | exact (Kd.C_below HR0_4.out HB.out) | (with_reducible refine Kd.C_alloc ?_ _) | (with_reducible refine Kd.C_drewN ?_ _) | (with_reducible refine Kd.C_drew ?_))); (case side10 => exact HC0_4.out); rintro e w46 ⟨rfl, hb⟩; refine ⟨_, rfl, ?_⟩; have n0_ := Aside0.mk (Kd.R_below (r_ HO_4) hb); have n1_ := Aside0.mk (blk_below (k_ BK414) hb); have n2_ := Aside0.mk (below_step (b_ HB) hb); clear HO_4; clear BK414; clear HB; have HO_4 := n0_; have BK414 := n1_; have HB := n2_; clear n0_ n1_ n2_; (try clear hb); (try clear hb2); (try clear hk); (try clear hi); have hcz47_0 : w46.cell? ⟨gb414, 0, none⟩ = some (.slice A0_0 l0_0.length c0_0) := (blk_cell BK414.out 0).trans rfl; have hcz47_1 : w46.cell? ⟨gb414, 1, none⟩ = some (.slice A0_1 l0_1.length c0_1) := (blk_cell BK414.out 1).trans rfl; have hcz47_2 : w46.cell? ⟨gb414, 2, none⟩ = some (.slice A0_2 l0_2.length c0_2) := (blk_cell BK414.out 2).trans rfl; have hcz47_3 : w46.cell? ⟨gb414, 3, none⟩ = some (.slice A0_3 l0_3.length c0_3) := (blk_cell BK414.out 3).trans rfl; have hcz47_4 : w46.cell? ⟨gb414, 4, none⟩ = some (.slice A0_4 l0_4.length c0_4) := (blk_cell BK414.out 4).trans rfl; have hfz47_0 := blk_frozen BK414.out 0; have hfz47_1 := blk_frozen BK414.out 1; have hfz47_2 := blk_frozen BK414.out 2; have hfz47_3 := blk_frozen BK414.out 3; have hfz47_4 := blk_frozen BK414.out 4) | ((with_reducible refine gate_callee (f := 30) rfl ?_); refine goesL_ (some 85) rfl rfl Tryd.func30 (by kernel_rfl) rfl #[.agg #[.slice A0_0 l0_0.length c0_0, .slice A0_1 l0_1.length c0_1, .slice A0_2 l0_2.length c0_2, .slice A0_3 l0_3.length c0_3, .slice A0_4 l0_4.length c0_4], .int .i64 x6_2, .int .i64 (wrap64 (x7_3 - (l0_0.length : Int)))] rfl (by (try simp only [List.map_toArray, List.map_cons, List.map_nil]); first | done | rfl | (simp only [List.length_drop, List.length_take]; rfl)) ?_; (with_reducible refine (week_In.calls _ _ l0_0 _ _ l0_1 _ _ l0_2 _ _ l0_3 _ _ l0_4 x6_2 (wrap64 (x7_3 - (l0_0.length : Int))) t425 _ ?side1 ?side2 ?side3 ?side4 ?side5 ?side6 ?side7 ?side8 ?side9 ?side10 A38.out).mono ?_); (case side1 => repeat (first | exact (Kd.C_below HR0_0.out HB.out) | (with_reducible refine Kd.C_alloc ?_ _) | (with_reducible refine Kd.C_drewN ?_ _) | (with_reducible refine Kd.C_drew ?_))); (case side2 => exact HC0_0.out); (case side3 => repeat (first | exact (Kd.C_below HR0_1.out HB.out) | (with_reducible refine Kd.C_alloc ?_ _) | (with_reducible refine Kd.C_drewN ?_ _) | (with_reducible refine Kd.C_drew ?_))); (case side4 => exact HC0_1.out); (case side5 => repeat (first | exact (Kd.C_below HR0_2.out HB.out) | (with_reducible refine Kd.C_alloc ?_ _) | (with_reducible refine Kd.C_drewN ?_ _) | (with_reducible refine Kd.C_drew ?_))); (case side6 => exact HC0_2.out); (case side7 => repeat (first | exact (Kd.C_below HR0_3.out HB.out) | (with_reducible refine Kd.C_alloc ?_ _) | (with_reducible refine Kd.C_drewN ?_ _) | (with_reducible refine Kd.C_drew ?_))); (case side8 => exact HC0_3.out); (case side9 => repeat (first | exact (Kd.C_below HR0_4.out HB.out) | (with_reducible refine Kd.C_alloc ?_ _) | (with_reducible refine Kd.C_drewN ?_ _) | (with_reducible refine Kd.C_drew ?_))); (case side10 => exact HC0_4.out); rintro e w48 ⟨rfl, hb⟩; refine ⟨_, rfl, ?_⟩; have n0_ := Aside0.mk (Kd.R_below (r_ HO_4) hb); have n1_ := Aside0.mk (blk_below (k_ BK414) hb); have n2_ := Aside0.mk (below_step (b_ HB) hb); clear HO_4; clear BK414; clear HB; have HO_4 := n0_; have BK414 := n1_; have HB := n2_; clear n0_ n1_ n2_; (try clear hb); (try clear hb2); (try clear hk); (try clear hi)))
                go_ret
                exact ⟨by first | rfl | (simp [errW_none, errW_some] <;> rfl) | (simp only [← hji25]; first | rfl | (simp [errW_none, errW_some] <;> rfl)) | (simp [*, errW_none, errW_some] <;> rfl), b_ HB⟩
              rw [if_neg c44] at H
              have c44b0 : decide (t417 < t425) = false := decide_eq_false c44
              clear c44
              by_cases c49 : 0 ≤ t425
              rotate_left
              · rw [if_neg c49] at H
                exact absurd H (by simp)
              rw [if_pos c49] at H
              have c49b0 : decide (0 ≤ t425) = true := decide_eq_true c49
              clear c49
              by_cases c50 : t425 < (x4_3.length : Int)
              rotate_left
              · rw [if_neg c50] at H
                exact absurd H (by simp)
              rw [if_pos c50] at H
              have c50b0 : decide (t425 < (x4_3.length : Int)) = true := decide_eq_true c50
              clear c50
              obtain ⟨bq51, hbq51⟩ : ∃ b_ : Bool, b_ = (rdOf false x4_3 t425) := ⟨_, rfl⟩
              replace H : (if bq51 = true then (some false) else (chalklinelaw04_WeekBijection.l1 k3 t417 (x4_3.set (t425 : Int).toNat true) (wrap64 (x5_3 + 1)) x6_2 (wrap64 (x7_3 + 1)) l0_0 l0_1 l0_2 l0_3 l0_4)) = some r := by rw [← hbq51] at H; exact H
              have Nbq51 := Aside0.mk hbq51
              clear hbq51
              by_cases c52 : bq51 = true
              · subst c52
                have H1 : (some false) = some r := by rw [if_pos rfl] at H; exact H
                clear H
                have H := H1
                clear H1
                obtain rfl := Option.some.inj H
                have hcz53_0 : wr.cell? ⟨gb414, 0, none⟩ = some (.slice A0_0 l0_0.length c0_0) := (blk_cell BK414.out 0).trans rfl
                have hcz53_1 : wr.cell? ⟨gb414, 1, none⟩ = some (.slice A0_1 l0_1.length c0_1) := (blk_cell BK414.out 1).trans rfl
                have hcz53_2 : wr.cell? ⟨gb414, 2, none⟩ = some (.slice A0_2 l0_2.length c0_2) := (blk_cell BK414.out 2).trans rfl
                have hcz53_3 : wr.cell? ⟨gb414, 3, none⟩ = some (.slice A0_3 l0_3.length c0_3) := (blk_cell BK414.out 3).trans rfl
                have hcz53_4 : wr.cell? ⟨gb414, 4, none⟩ = some (.slice A0_4 l0_4.length c0_4) := (blk_cell BK414.out 4).trans rfl
                have hfz53_0 := blk_frozen BK414.out 0
                have hfz53_1 := blk_frozen BK414.out 1
                have hfz53_2 := blk_frozen BK414.out 2
                have hfz53_3 := blk_frozen BK414.out 3
                have hfz53_4 := blk_frozen BK414.out 4
                go_wp2_with (first | ((with_reducible refine gate_callee (f := 29) rfl ?_); refine goesL_ (some 72) rfl rfl Tryd.func29 (by kernel_rfl) rfl #[.agg #[.slice A0_0 l0_0.length c0_0, .slice A0_1 l0_1.length c0_1, .slice A0_2 l0_2.length c0_2, .slice A0_3 l0_3.length c0_3, .slice A0_4 l0_4.length c0_4], .int .i64 x6_2, .int .i64 x7_3] rfl (by (try simp only [List.map_toArray, List.map_cons, List.map_nil]); first | done | rfl | (simp only [List.length_drop, List.length_take]; rfl)) ?_; (with_reducible refine (week_At.calls _ _ l0_0 _ _ l0_1 _ _ l0_2 _ _ l0_3 _ _ l0_4 x6_2 x7_3 t424 _ ?side1 ?side2 ?side3 ?side4 ?side5 ?side6 ?side7 ?side8 ?side9 ?side10 A36.out).mono ?_); (case side1 => repeat (first | exact (Kd.C_below HR0_0.out HB.out) | (with_reducible refine Kd.C_alloc ?_ _) | (with_reducible refine Kd.C_drewN ?_ _) | (with_reducible refine Kd.C_drew ?_))); (case side2 => exact HC0_0.out); (case side3 => repeat (first | exact (Kd.C_below HR0_1.out HB.out) | (with_reducible refine Kd.C_alloc ?_ _) | (with_reducible refine Kd.C_drewN ?_ _) | (with_reducible refine Kd.C_drew ?_))); (case side4 => exact HC0_1.out); (case side5 => repeat (first | exact (Kd.C_below HR0_2.out HB.out) | (with_reducible refine Kd.C_alloc ?_ _) | (with_reducible refine Kd.C_drewN ?_ _) | (with_reducible refine Kd.C_drew ?_))); (case side6 => exact HC0_2.out); (case side7 => repeat (first | exact (Kd.C_below HR0_3.out HB.out) | (with_reducible refine Kd.C_alloc ?_ _) | (with_reducible refine Kd.C_drewN ?_ _) | (with_reducible refine Kd.C_drew ?_))); (case side8 => exact HC0_3.out); (case side9 => repeat (first | exact (Kd.C_below HR0_4.out HB.out) | (with_reducible refine Kd.C_alloc ?_ _) | (with_reducible refine Kd.C_drewN ?_ _) | (with_reducible refine Kd.C_drew ?_))); (case side10 => exact HC0_4.out); rintro e w54 ⟨rfl, hb⟩; refine ⟨_, rfl, ?_⟩; have n0_ := Aside0.mk (Kd.R_below (r_ HO_4) hb); have n1_ := Aside0.mk (blk_below (k_ BK414) hb); have n2_ := Aside0.mk (below_step (b_ HB) hb); clear HO_4; clear BK414; clear HB; have HO_4 := n0_; have BK414 := n1_; have HB := n2_; clear n0_ n1_ n2_; (try clear hb); (try clear hb2); (try clear hk); (try clear hi); have hcz55_0 : w54.cell? ⟨gb414, 0, none⟩ = some (.slice A0_0 l0_0.length c0_0) := (blk_cell BK414.out 0).trans rfl; have hcz55_1 : w54.cell? ⟨gb414, 1, none⟩ = some (.slice A0_1 l0_1.length c0_1) := (blk_cell BK414.out 1).trans rfl; have hcz55_2 : w54.cell? ⟨gb414, 2, none⟩ = some (.slice A0_2 l0_2.length c0_2) := (blk_cell BK414.out 2).trans rfl; have hcz55_3 : w54.cell? ⟨gb414, 3, none⟩ = some (.slice A0_3 l0_3.length c0_3) := (blk_cell BK414.out 3).trans rfl; have hcz55_4 : w54.cell? ⟨gb414, 4, none⟩ = some (.slice A0_4 l0_4.length c0_4) := (blk_cell BK414.out 4).trans rfl; have hfz55_0 := blk_frozen BK414.out 0; have hfz55_1 := blk_frozen BK414.out 1; have hfz55_2 := blk_frozen BK414.out 2; have hfz55_3 := blk_frozen BK414.out 3; have hfz55_4 := blk_frozen BK414.out 4) | ((with_reducible refine gate_callee (f := 30) rfl ?_); refine goesL_ (some 85) rfl rfl Tryd.func30 (by kernel_rfl) rfl #[.agg #[.slice A0_0 l0_0.length c0_0, .slice A0_1 l0_1.length c0_1, .slice A0_2 l0_2.length c0_2, .slice A0_3 l0_3.length c0_3, .slice A0_4 l0_4.length c0_4], .int .i64 x6_2, .int .i64 (wrap64 (x7_3 - (l0_0.length : Int)))] rfl (by (try simp only [List.map_toArray, List.map_cons, List.map_nil]); first | done | rfl | (simp only [List.length_drop, List.length_take]; rfl)) ?_; (with_reducible refine (week_In.calls _ _ l0_0 _ _ l0_1 _ _ l0_2 _ _ l0_3 _ _ l0_4 x6_2 (wrap64 (x7_3 - (l0_0.length : Int))) t425 _ ?side1 ?side2 ?side3 ?side4 ?side5 ?side6 ?side7 ?side8 ?side9 ?side10 A38.out).mono ?_); (case side1 => repeat (first | exact (Kd.C_below HR0_0.out HB.out) | (with_reducible refine Kd.C_alloc ?_ _) | (with_reducible refine Kd.C_drewN ?_ _) | (with_reducible refine Kd.C_drew ?_))); (case side2 => exact HC0_0.out); (case side3 => repeat (first | exact (Kd.C_below HR0_1.out HB.out) | (with_reducible refine Kd.C_alloc ?_ _) | (with_reducible refine Kd.C_drewN ?_ _) | (with_reducible refine Kd.C_drew ?_))); (case side4 => exact HC0_1.out); (case side5 => repeat (first | exact (Kd.C_below HR0_2.out HB.out) | (with_reducible refine Kd.C_alloc ?_ _) | (with_reducible refine Kd.C_drewN ?_ _) | (with_reducible refine Kd.C_drew ?_))); (case side6 => exact HC0_2.out); (case side7 => repeat (first | exact (Kd.C_below HR0_3.out HB.out) | (with_reducible refine Kd.C_alloc ?_ _) | (with_reducible refine Kd.C_drewN ?_ _) | (with_reducible refine Kd.C_drew ?_))); (case side8 => exact HC0_3.out); (case side9 => repeat (first | exact (Kd.C_below HR0_4.out HB.out) | (with_reducible refine Kd.C_alloc ?_ _) | (with_reducible refine Kd.C_drewN ?_ _) | (with_reducible refine Kd.C_drew ?_))); (case side10 => exact HC0_4.out); rintro e w56 ⟨rfl, hb⟩; refine ⟨_, rfl, ?_⟩; have n0_ := Aside0.mk (Kd.R_below (r_ HO_4) hb); have n1_ := Aside0.mk (blk_below (k_ BK414) hb); have n2_ := Aside0.mk (below_step (b_ HB) hb); clear HO_4; clear BK414; clear HB; have HO_4 := n0_; have BK414 := n1_; have HB := n2_; clear n0_ n1_ n2_; (try clear hb); (try clear hb2); (try clear hk); (try clear hi); obtain ⟨Ao57, co57, eo57⟩ := Kd.R_slice HO_4.out; subst eo57; have p426 : 0 ≤ (t425 : Int) := of_decide_eq_true (by first | (with_reducible assumption) | assumption); have q426 : t425 < (x4_3.length : Int) := of_decide_eq_true (by first | (with_reducible assumption) | assumption); obtain ⟨ad426, e426, hx426_0⟩ := Kd.at_bool (Kd.R_reads' HO_4.out).2.2 t425 p426 q426; (try rw [← Nbq51.out] at hx426_0); cases e426; replace p426 := eq_true p426; replace q426 := eq_true q426))
                go_ret
                exact ⟨by first | rfl | (simp [errW_none, errW_some] <;> rfl) | (simp only [← hji25]; first | rfl | (simp [errW_none, errW_some] <;> rfl)) | (simp [*, errW_none, errW_some] <;> rfl), b_ HB⟩
              replace c52 := Bool.eq_false_iff.mpr c52
              subst c52
              have H1 : (chalklinelaw04_WeekBijection.l1 k3 t417 (x4_3.set (t425 : Int).toNat true) (wrap64 (x5_3 + 1)) x6_2 (wrap64 (x7_3 + 1)) l0_0 l0_1 l0_2 l0_3 l0_4) = some r := by rw [if_neg (show ¬ (false = true) by decide)] at H; exact H
              clear H
              have H := H1
              clear H1
              obtain ⟨y427, hy427⟩ : ∃ y_ : List Bool, y_ = (x4_3.set (t425 : Int).toNat true) := ⟨_, rfl⟩
              replace H : (chalklinelaw04_WeekBijection.l1 k3 t417 y427 (wrap64 (x5_3 + 1)) x6_2 (wrap64 (x7_3 + 1)) l0_0 l0_1 l0_2 l0_3 l0_4) = some r := by first | (rw [hy427]; with_reducible exact H) | (have H2_ := (Option.bind_some _ _).symm.trans H; rw [hy427]; with_reducible exact H2_) | (have H2_ := (Option.bind_some _ _).symm.trans H; with_reducible exact H2_) | with_reducible exact H | (rw [hy427]; exact H) | exact H
              have Ny427 := Aside0.mk hy427
              clear hy427
              have H' := Aside0.mk H
              clear H
              have hcz59_0 : wr.cell? ⟨gb414, 0, none⟩ = some (.slice A0_0 l0_0.length c0_0) := (blk_cell BK414.out 0).trans rfl
              have hcz59_1 : wr.cell? ⟨gb414, 1, none⟩ = some (.slice A0_1 l0_1.length c0_1) := (blk_cell BK414.out 1).trans rfl
              have hcz59_2 : wr.cell? ⟨gb414, 2, none⟩ = some (.slice A0_2 l0_2.length c0_2) := (blk_cell BK414.out 2).trans rfl
              have hcz59_3 : wr.cell? ⟨gb414, 3, none⟩ = some (.slice A0_3 l0_3.length c0_3) := (blk_cell BK414.out 3).trans rfl
              have hcz59_4 : wr.cell? ⟨gb414, 4, none⟩ = some (.slice A0_4 l0_4.length c0_4) := (blk_cell BK414.out 4).trans rfl
              have hfz59_0 := blk_frozen BK414.out 0
              have hfz59_1 := blk_frozen BK414.out 1
              have hfz59_2 := blk_frozen BK414.out 2
              have hfz59_3 := blk_frozen BK414.out 3
              have hfz59_4 := blk_frozen BK414.out 4
              go_wp2_with (first | ((with_reducible refine gate_callee (f := 29) rfl ?_); refine goesL_ (some 72) rfl rfl Tryd.func29 (by kernel_rfl) rfl #[.agg #[.slice A0_0 l0_0.length c0_0, .slice A0_1 l0_1.length c0_1, .slice A0_2 l0_2.length c0_2, .slice A0_3 l0_3.length c0_3, .slice A0_4 l0_4.length c0_4], .int .i64 x6_2, .int .i64 x7_3] rfl (by (try simp only [List.map_toArray, List.map_cons, List.map_nil]); first | done | rfl | (simp only [List.length_drop, List.length_take]; rfl)) ?_; (with_reducible refine (week_At.calls _ _ l0_0 _ _ l0_1 _ _ l0_2 _ _ l0_3 _ _ l0_4 x6_2 x7_3 t424 _ ?side1 ?side2 ?side3 ?side4 ?side5 ?side6 ?side7 ?side8 ?side9 ?side10 A36.out).mono ?_); (case side1 => repeat (first | exact (Kd.C_below HR0_0.out HB.out) | (with_reducible refine Kd.C_alloc ?_ _) | (with_reducible refine Kd.C_drewN ?_ _) | (with_reducible refine Kd.C_drew ?_))); (case side2 => exact HC0_0.out); (case side3 => repeat (first | exact (Kd.C_below HR0_1.out HB.out) | (with_reducible refine Kd.C_alloc ?_ _) | (with_reducible refine Kd.C_drewN ?_ _) | (with_reducible refine Kd.C_drew ?_))); (case side4 => exact HC0_1.out); (case side5 => repeat (first | exact (Kd.C_below HR0_2.out HB.out) | (with_reducible refine Kd.C_alloc ?_ _) | (with_reducible refine Kd.C_drewN ?_ _) | (with_reducible refine Kd.C_drew ?_))); (case side6 => exact HC0_2.out); (case side7 => repeat (first | exact (Kd.C_below HR0_3.out HB.out) | (with_reducible refine Kd.C_alloc ?_ _) | (with_reducible refine Kd.C_drewN ?_ _) | (with_reducible refine Kd.C_drew ?_))); (case side8 => exact HC0_3.out); (case side9 => repeat (first | exact (Kd.C_below HR0_4.out HB.out) | (with_reducible refine Kd.C_alloc ?_ _) | (with_reducible refine Kd.C_drewN ?_ _) | (with_reducible refine Kd.C_drew ?_))); (case side10 => exact HC0_4.out); rintro e w60 ⟨rfl, hb⟩; refine ⟨_, rfl, ?_⟩; have n0_ := Aside0.mk (Kd.R_below (r_ HO_4) hb); have n1_ := Aside0.mk (blk_below (k_ BK414) hb); have n2_ := Aside0.mk (below_step (b_ HB) hb); clear HO_4; clear BK414; clear HB; have HO_4 := n0_; have BK414 := n1_; have HB := n2_; clear n0_ n1_ n2_; (try clear hb); (try clear hb2); (try clear hk); (try clear hi); have hcz61_0 : w60.cell? ⟨gb414, 0, none⟩ = some (.slice A0_0 l0_0.length c0_0) := (blk_cell BK414.out 0).trans rfl; have hcz61_1 : w60.cell? ⟨gb414, 1, none⟩ = some (.slice A0_1 l0_1.length c0_1) := (blk_cell BK414.out 1).trans rfl; have hcz61_2 : w60.cell? ⟨gb414, 2, none⟩ = some (.slice A0_2 l0_2.length c0_2) := (blk_cell BK414.out 2).trans rfl; have hcz61_3 : w60.cell? ⟨gb414, 3, none⟩ = some (.slice A0_3 l0_3.length c0_3) := (blk_cell BK414.out 3).trans rfl; have hcz61_4 : w60.cell? ⟨gb414, 4, none⟩ = some (.slice A0_4 l0_4.length c0_4) := (blk_cell BK414.out 4).trans rfl; have hfz61_0 := blk_frozen BK414.out 0; have hfz61_1 := blk_frozen BK414.out 1; have hfz61_2 := blk_frozen BK414.out 2; have hfz61_3 := blk_frozen BK414.out 3; have hfz61_4 := blk_frozen BK414.out 4) | ((with_reducible refine gate_callee (f := 30) rfl ?_); refine goesL_ (some 85) rfl rfl Tryd.func30 (by kernel_rfl) rfl #[.agg #[.slice A0_0 l0_0.length c0_0, .slice A0_1 l0_1.length c0_1, .slice A0_2 l0_2.length c0_2, .slice A0_3 l0_3.length c0_3, .slice A0_4 l0_4.length c0_4], .int .i64 x6_2, .int .i64 (wrap64 (x7_3 - (l0_0.length : Int)))] rfl (by (try simp only [List.map_toArray, List.map_cons, List.map_nil]); first | done | rfl | (simp only [List.length_drop, List.length_take]; rfl)) ?_; (with_reducible refine (week_In.calls _ _ l0_0 _ _ l0_1 _ _ l0_2 _ _ l0_3 _ _ l0_4 x6_2 (wrap64 (x7_3 - (l0_0.length : Int))) t425 _ ?side1 ?side2 ?side3 ?side4 ?side5 ?side6 ?side7 ?side8 ?side9 ?side10 A38.out).mono ?_); (case side1 => repeat (first | exact (Kd.C_below HR0_0.out HB.out) | (with_reducible refine Kd.C_alloc ?_ _) | (with_reducible refine Kd.C_drewN ?_ _) | (with_reducible refine Kd.C_drew ?_))); (case side2 => exact HC0_0.out); (case side3 => repeat (first | exact (Kd.C_below HR0_1.out HB.out) | (with_reducible refine Kd.C_alloc ?_ _) | (with_reducible refine Kd.C_drewN ?_ _) | (with_reducible refine Kd.C_drew ?_))); (case side4 => exact HC0_1.out); (case side5 => repeat (first | exact (Kd.C_below HR0_2.out HB.out) | (with_reducible refine Kd.C_alloc ?_ _) | (with_reducible refine Kd.C_drewN ?_ _) | (with_reducible refine Kd.C_drew ?_))); (case side6 => exact HC0_2.out); (case side7 => repeat (first | exact (Kd.C_below HR0_3.out HB.out) | (with_reducible refine Kd.C_alloc ?_ _) | (with_reducible refine Kd.C_drewN ?_ _) | (with_reducible refine Kd.C_drew ?_))); (case side8 => exact HC0_3.out); (case side9 => repeat (first | exact (Kd.C_below HR0_4.out HB.out) | (with_reducible refine Kd.C_alloc ?_ _) | (with_reducible refine Kd.C_drewN ?_ _) | (with_reducible refine Kd.C_drew ?_))); (case side10 => exact HC0_4.out); rintro e w62 ⟨rfl, hb⟩; refine ⟨_, rfl, ?_⟩; have n0_ := Aside0.mk (Kd.R_below (r_ HO_4) hb); have n1_ := Aside0.mk (blk_below (k_ BK414) hb); have n2_ := Aside0.mk (below_step (b_ HB) hb); clear HO_4; clear BK414; clear HB; have HO_4 := n0_; have BK414 := n1_; have HB := n2_; clear n0_ n1_ n2_; (try clear hb); (try clear hb2); (try clear hk); (try clear hi); obtain ⟨Ao63, co63, eo63⟩ := Kd.R_slice HO_4.out; subst eo63; have p426 : 0 ≤ (t425 : Int) := of_decide_eq_true (by first | (with_reducible assumption) | assumption); have q426 : t425 < (x4_3.length : Int) := of_decide_eq_true (by first | (with_reducible assumption) | assumption); obtain ⟨ad426, e426, hx426_0⟩ := Kd.at_bool (Kd.R_reads' HO_4.out).2.2 t425 p426 q426; (try rw [← Nbq51.out] at hx426_0); cases e426; replace p426 := eq_true p426; replace q426 := eq_true q426; have p58 : 0 ≤ (t425 : Int) := of_decide_eq_true (by first | (with_reducible assumption) | assumption); have q58 : (t425 : Int) < ((x4_3.length : Int) : Int) := of_decide_eq_true (by first | (with_reducible assumption) | assumption); obtain ⟨go58, co58, eo58, gb58, gl58, cl58, HG58⟩ := Kd.R_form HO_4.out (by omega); (first | cases eo58 | (injection eo58 with ea_ en_ ec_; (first | subst ea_ | (injection ea_ with ea_; subst ea_)); subst ec_; clear en_)); have GB58 := Aside0.mk gb58; have GG58 := Aside0.mk HG58; clear gb58 gl58 HG58; (first | simp only [add_plain] at hx426_0 | skip); obtain ⟨hx58_0, hf58_0⟩ := Kd.R_celln false HO_4.out (t425 : Int) p58 q58; replace p58 := eq_true p58; replace q58 := eq_true q58; obtain ⟨hy64_, hz64_⟩ := Kd.R_celln false HO_4.out (t425 : Int) (of_decide_eq_true (by first | (with_reducible assumption) | assumption)) (of_decide_eq_true (by first | (with_reducible assumption) | assumption)); have HP64 := Kd.R_putg HO_4.out (t425 : Int) true) | ((with_reducible refine gate_store (t := 4) (p := 101) rfl ?_); refine store_event (t := 4) (p := 101) (v := ?vo_w65) (w1 := (w62.setCell ⟨go58, (t425 : Int).toNat, none⟩ (.bool true))) ?hg ?ho ?hn ?hr ?_; (case ho => rfl); (case hg => rfl); (case hn => rfl); (case hr => first | (go_simp; done) | (go_simp; rfl)); intro w65 hw; have hg : w62.grownBy w65 (some go58) := (by rw [hw]; exact HP64.2); have hp_ : Kd.R Kd.bool 4 w65 w.heap.size (fun _ => True) (.slice (some ⟨go58, 0, none⟩) x4_3.length co63) y427 := (by rw [hw, Ny427.out]; exact HP64.1); clear HP64; have n0_ := Aside0.mk (hp_); have n1_ := Aside0.mk (blk_grown (g := gb414) (o := .cells #[.slice A0_0 l0_0.length c0_0, .slice A0_1 l0_1.length c0_1, .slice A0_2 l0_2.length c0_2, .slice A0_3 l0_3.length c0_3, .slice A0_4 l0_4.length c0_4] 45 (0, 0)) (k_ BK414) hg (Kd.R_ne HO_4.out BK414.out (by decide))); have n2_ := Aside0.mk ((by rw [hw]; exact below_set (HB.out) GB58.out : Below w.heap.size w w65)); clear HO_4; clear BK414; clear HB; have HO_4 := n0_; have BK414 := n1_; have HB := n2_; clear n0_ n1_ n2_; clear hg hw hp_))
              go_roundg k3
              case measure => have := HJ3.out; have := HK2.out; have := HK3.out; omega
              case rel => exact ⟨(y427), (wrap64 (x5_3 + 1)), (wrap64 (x7_3 + 1)), (by first | rfl | (simp; done) | (simp [*]; done)), (by first | rfl | (simp; done) | (simp [*]; done)), H', ⟨by have := HJ3.out; have := HK2.out; have := HK3.out; omega⟩, ⟨by (with_reducible repeat (first | apply Kd.R_alloc | apply Kd.R_drewN | apply Kd.R_drew)); exact HO_4.out⟩, ⟨k_ BK414⟩, ⟨b_ HB⟩⟩
end Go.Proofs.YtjdajlnigiicaaaDoor.S
end
section
namespace Go.Proofs.YtjdajlnigiicaaaDoor.S
open Go.RowKit Go.Proofs.YtjdajlnigiicaaaDoorW.PrintWords Go.Proofs.YtjdajlnigiicaaaDoorW.PrintLast Go.Proofs.YtjdajlnigiicaaaDoorW.PrintMore
set_option linter.unusedVariables false
set_option linter.unusedSimpArgs false
def namesR (x : S45) (s : Int) : List ByteArray := if s = 1 then x.f4.map (·.f0) else if s = 2 then x.f0.map (·.f0) else if s = 3 then x.f1.map (·.f0) else if s = 4 then x.f2.map (·.f0) else x.f3.map (·.f0)
theorem names_l0 (x0 : List S87) (x1 : List S91) (x2 : List S95) (x3 : List S98) (x4 : List S101) (hb : x4.length < 8796093022208) : ∀ (d : Nat) (acc : List ByteArray) (i : Nat), i + d = x4.length → acc.length = i → Ev (fun k => chalklineref03_Names.l0 k acc (i : Int) x0 x1 x2 x3 x4) (acc ++ (x4.drop i).map (·.f0))
  | 0, acc, i, h, ha => by
    rw [List.drop_eq_nil_of_le (by omega), List.map_nil, List.append_nil]
    refine Ev.step (f := fun _ => some acc) (fun k => ?_) (Ev.now _)
    simp only [chalklineref03_Names.l0]
    rw [if_neg (by omega)]
  | d + 1, acc, i, h, ha => by
    have hi : i < x4.length := by omega
    have hr : rd_T101 x4 (i : Int) = x4[i] := by simp [rd_T101, hi]
    have ih := names_l0 x0 x1 x2 x3 x4 hb d (acc ++ [x4[i].f0]) (i + 1) (by omega) (by simp [ha])
    rw [List.drop_eq_getElem_cons hi, List.map_cons]
    rw [List.append_assoc, List.singleton_append] at ih
    refine Ev.step (fun k => ?_) ih
    simp only [chalklineref03_Names.l0]
    rw [if_pos (by omega), if_pos (by omega), if_pos (by omega), hr]
    have hw : wrap64 ((i : Int) + 1) = ((i + 1 : Nat) : Int) := by unfold wrap64; omega
    rw [hw]
theorem names_l1 (x0 : List S87) (x1 : List S91) (x2 : List S95) (x3 : List S98) (x4 : List S101) (hb : x0.length < 8796093022208) : ∀ (d : Nat) (acc : List ByteArray) (i : Nat), i + d = x0.length → acc.length = i → Ev (fun k => chalklineref03_Names.l1 k acc (i : Int) x0 x1 x2 x3 x4) (acc ++ (x0.drop i).map (·.f0))
  | 0, acc, i, h, ha => by
    rw [List.drop_eq_nil_of_le (by omega), List.map_nil, List.append_nil]
    refine Ev.step (f := fun _ => some acc) (fun k => ?_) (Ev.now _)
    simp only [chalklineref03_Names.l1]
    rw [if_neg (by omega)]
  | d + 1, acc, i, h, ha => by
    have hi : i < x0.length := by omega
    have hr : rd_T87 x0 (i : Int) = x0[i] := by simp [rd_T87, hi]
    have ih := names_l1 x0 x1 x2 x3 x4 hb d (acc ++ [x0[i].f0]) (i + 1) (by omega) (by simp [ha])
    rw [List.drop_eq_getElem_cons hi, List.map_cons]
    rw [List.append_assoc, List.singleton_append] at ih
    refine Ev.step (fun k => ?_) ih
    simp only [chalklineref03_Names.l1]
    rw [if_pos (by omega), if_pos (by omega), if_pos (by omega), hr]
    have hw : wrap64 ((i : Int) + 1) = ((i + 1 : Nat) : Int) := by unfold wrap64; omega
    rw [hw]
theorem names_l2 (x0 : List S87) (x1 : List S91) (x2 : List S95) (x3 : List S98) (x4 : List S101) (hb : x1.length < 8796093022208) : ∀ (d : Nat) (acc : List ByteArray) (i : Nat), i + d = x1.length → acc.length = i → Ev (fun k => chalklineref03_Names.l2 k acc (i : Int) x0 x1 x2 x3 x4) (acc ++ (x1.drop i).map (·.f0))
  | 0, acc, i, h, ha => by
    rw [List.drop_eq_nil_of_le (by omega), List.map_nil, List.append_nil]
    refine Ev.step (f := fun _ => some acc) (fun k => ?_) (Ev.now _)
    simp only [chalklineref03_Names.l2]
    rw [if_neg (by omega)]
  | d + 1, acc, i, h, ha => by
    have hi : i < x1.length := by omega
    have hr : rd_T91 x1 (i : Int) = x1[i] := by simp [rd_T91, hi]
    have ih := names_l2 x0 x1 x2 x3 x4 hb d (acc ++ [x1[i].f0]) (i + 1) (by omega) (by simp [ha])
    rw [List.drop_eq_getElem_cons hi, List.map_cons]
    rw [List.append_assoc, List.singleton_append] at ih
    refine Ev.step (fun k => ?_) ih
    simp only [chalklineref03_Names.l2]
    rw [if_pos (by omega), if_pos (by omega), if_pos (by omega), hr]
    have hw : wrap64 ((i : Int) + 1) = ((i + 1 : Nat) : Int) := by unfold wrap64; omega
    rw [hw]
theorem names_l3 (x0 : List S87) (x1 : List S91) (x2 : List S95) (x3 : List S98) (x4 : List S101) (hb : x2.length < 8796093022208) : ∀ (d : Nat) (acc : List ByteArray) (i : Nat), i + d = x2.length → acc.length = i → Ev (fun k => chalklineref03_Names.l3 k acc (i : Int) x0 x1 x2 x3 x4) (acc ++ (x2.drop i).map (·.f0))
  | 0, acc, i, h, ha => by
    rw [List.drop_eq_nil_of_le (by omega), List.map_nil, List.append_nil]
    refine Ev.step (f := fun _ => some acc) (fun k => ?_) (Ev.now _)
    simp only [chalklineref03_Names.l3]
    rw [if_neg (by omega)]
  | d + 1, acc, i, h, ha => by
    have hi : i < x2.length := by omega
    have hr : rd_T95 x2 (i : Int) = x2[i] := by simp [rd_T95, hi]
    have ih := names_l3 x0 x1 x2 x3 x4 hb d (acc ++ [x2[i].f0]) (i + 1) (by omega) (by simp [ha])
    rw [List.drop_eq_getElem_cons hi, List.map_cons]
    rw [List.append_assoc, List.singleton_append] at ih
    refine Ev.step (fun k => ?_) ih
    simp only [chalklineref03_Names.l3]
    rw [if_pos (by omega), if_pos (by omega), if_pos (by omega), hr]
    have hw : wrap64 ((i : Int) + 1) = ((i + 1 : Nat) : Int) := by unfold wrap64; omega
    rw [hw]
theorem names_l4 (x0 : List S87) (x1 : List S91) (x2 : List S95) (x3 : List S98) (x4 : List S101) (hb : x3.length < 8796093022208) : ∀ (d : Nat) (acc : List ByteArray) (i : Nat), i + d = x3.length → acc.length = i → Ev (fun k => chalklineref03_Names.l4 k acc (i : Int) x0 x1 x2 x3 x4) (acc ++ (x3.drop i).map (·.f0))
  | 0, acc, i, h, ha => by
    rw [List.drop_eq_nil_of_le (by omega), List.map_nil, List.append_nil]
    refine Ev.step (f := fun _ => some acc) (fun k => ?_) (Ev.now _)
    simp only [chalklineref03_Names.l4]
    rw [if_neg (by omega)]
  | d + 1, acc, i, h, ha => by
    have hi : i < x3.length := by omega
    have hr : rd_T98 x3 (i : Int) = x3[i] := by simp [rd_T98, hi]
    have ih := names_l4 x0 x1 x2 x3 x4 hb d (acc ++ [x3[i].f0]) (i + 1) (by omega) (by simp [ha])
    rw [List.drop_eq_getElem_cons hi, List.map_cons]
    rw [List.append_assoc, List.singleton_append] at ih
    refine Ev.step (fun k => ?_) ih
    simp only [chalklineref03_Names.l4]
    rw [if_pos (by omega), if_pos (by omega), if_pos (by omega), hr]
    have hw : wrap64 ((i : Int) + 1) = ((i + 1 : Nat) : Int) := by unfold wrap64; omega
    rw [hw]
def fitN (x : S45) : Prop := x.f0.length < 8796093022208 ∧ x.f1.length < 8796093022208 ∧ x.f2.length < 8796093022208 ∧ x.f3.length < 8796093022208 ∧ x.f4.length < 8796093022208
theorem names_ev (x : S45) (hx : fitN x) (s : Int) (h1 : 1 ≤ s) (h5 : s ≤ 5) : Ev (fun k => chalklineref03_Names.f k x.f0 x.f1 x.f2 x.f3 x.f4 s) (namesR x s) := by
  unfold namesR chalklineref03_Names.f
  have hc : s = 1 ∨ s = 2 ∨ s = 3 ∨ s = 4 ∨ s = 5 := by omega
  rcases hc with rfl | rfl | rfl | rfl | rfl
  · simpa using names_l0 x.f0 x.f1 x.f2 x.f3 x.f4 hx.2.2.2.2 x.f4.length [] 0 (by omega) rfl
  · simpa using names_l1 x.f0 x.f1 x.f2 x.f3 x.f4 hx.1 x.f0.length [] 0 (by omega) rfl
  · simpa using names_l2 x.f0 x.f1 x.f2 x.f3 x.f4 hx.2.1 x.f1.length [] 0 (by omega) rfl
  · simpa using names_l3 x.f0 x.f1 x.f2 x.f3 x.f4 hx.2.2.1 x.f2.length [] 0 (by omega) rfl
  · simpa using names_l4 x.f0 x.f1 x.f2 x.f3 x.f4 hx.2.2.2.1 x.f3.length [] 0 (by omega) rfl
def FewP (g : Nat → Option Bool) (Q : Prop) : Prop := ∃ b, Ev g b ∧ (b = true → Q)
theorem FewP.step {g f : Nat → Option Bool} {Q : Prop} (h : ∀ k, g (k + 1) = f k) (hf : FewP f Q) : FewP g Q := by
  obtain ⟨b, h1, h2⟩ := hf
  exact ⟨b, Ev.step h h1, h2⟩
theorem FewP.imp {g : Nat → Option Bool} {Q Q' : Prop} (h : FewP g Q) (hq : Q → Q') : FewP g Q' := by
  obtain ⟨b, h1, h2⟩ := h
  exact ⟨b, h1, fun h => hq (h2 h)⟩
theorem few_l4 (x0 : List S87) (x1 : List S91) (x2 : List S95) (x3 : List S98) (x4 : List S101) (a : Int) (L : List ByteArray) (Q : Prop) (hn : ∀ s, FewP (fun k => chalklineref03_Few.l3 k s (wrap64 (a + 1)) x0 x1 x2 x3 x4) Q) : ∀ (d : Nat) (s : Int) (i : Nat), i + d = 80 → FewP (fun k => chalklineref03_Few.l4 k s a L (i : Int) x0 x1 x2 x3 x4) (L.length ≤ 80 ∧ Q)
  | 0, s, i, h => by
    by_cases hl : (L.length : Int) > 80
    · refine ⟨false, Ev.step (f := fun _ => some false) (fun k => ?_) (Ev.now _), fun h => by cases h⟩
      simp only [chalklineref03_Few.l4]
      rw [if_pos (show (i : Int) < L.length by omega), if_neg (show ¬ (i : Int) < 80 by omega), if_pos hl]
    · refine FewP.step (fun k => ?_) ((hn s).imp (fun q => ⟨by omega, q⟩))
      simp only [chalklineref03_Few.l4]
      by_cases hi : (i : Int) < L.length
      · rw [if_pos hi, if_neg (show ¬ (i : Int) < 80 by omega), if_neg hl]
      · rw [if_neg hi, if_neg hl]
  | d + 1, s, i, h => by
    by_cases hi : (i : Int) < L.length
    · refine FewP.step (fun k => ?_) (few_l4 x0 x1 x2 x3 x4 a L Q hn d (wrap64 (s + ((rdOf ByteArray.empty L (i : Int)).size : Int))) (i + 1) (by omega))
      simp only [chalklineref03_Few.l4]
      rw [if_pos hi, if_pos (show (i : Int) < 80 by omega), if_pos (by omega)]
      have hw : wrap64 ((i : Int) + 1) = ((i + 1 : Nat) : Int) := by unfold wrap64; omega
      rw [hw]
    · refine FewP.step (fun k => ?_) ((hn s).imp (fun q => ⟨by omega, q⟩))
      simp only [chalklineref03_Few.l4]
      rw [if_neg hi, if_neg (show ¬ (L.length : Int) > 80 by omega)]
theorem few_l3 (x : S45) (hx : fitN x) : ∀ (d : Nat) (s a : Int), a + d = 6 → 1 ≤ a → FewP (fun k => chalklineref03_Few.l3 k s a x.f0 x.f1 x.f2 x.f3 x.f4) (∀ c, a ≤ c → c ≤ 5 → (namesR x c).length ≤ 80)
  | 0, s, a, h, h1 => by
    refine ⟨_, Ev.step (f := fun _ => some (decide (s ≤ 20000))) (fun k => ?_) (Ev.now _), fun _ c hc h5 => by omega⟩
    simp only [chalklineref03_Few.l3]
    rw [if_neg (by omega)]
  | d + 1, s, a, h, h1 => by
    have hw : wrap64 (a + 1) = a + 1 := by unfold wrap64; omega
    obtain ⟨b, e1, e2⟩ := few_l4 x.f0 x.f1 x.f2 x.f3 x.f4 a (namesR x a) _ (fun s' => by rw [hw]; exact few_l3 x hx d s' (a + 1) (by omega) (by omega)) 80 s 0 (by omega)
    refine ⟨b, Ev.step (f := fun k => (chalklineref03_Names.f k x.f0 x.f1 x.f2 x.f3 x.f4 a).bind fun t => chalklineref03_Few.l4 k s a t 0 x.f0 x.f1 x.f2 x.f3 x.f4) (fun k => ?_) (Ev.bind (names_ev x hx a h1 (by omega)) e1), fun hb c hc h5 => ?_⟩
    · simp only [chalklineref03_Few.l3]
      rw [if_pos (by omega)]
    · obtain ⟨q1, q2⟩ := e2 hb
      by_cases hca : c = a
      · subst hca; exact q1
      · exact q2 c (by omega) h5
theorem few_l2 (x0 : List S87) (x1 : List S91) (x2 : List S95) (x3 : List S98) (x4 : List S101) (Q : Prop) (hn : ∀ s, FewP (fun k => chalklineref03_Few.l3 k s 1 x0 x1 x2 x3 x4) Q) : ∀ (d : Nat) (s : Int) (i : Nat), i + d = 80 → FewP (fun k => chalklineref03_Few.l2 k s (i : Int) x0 x1 x2 x3 x4) Q
  | 0, s, i, h => by
    refine FewP.step (f := fun k => chalklineref03_Few.j5 k s x0 x1 x2 x3 x4) (fun k => ?_) (FewP.step (fun k => ?_) (hn s))
    · simp only [chalklineref03_Few.l2]
      by_cases hi : (i : Int) < x4.length
      · rw [if_pos hi, if_neg (show ¬ (i : Int) < 80 by omega)]
      · rw [if_neg hi]
    · simp only [chalklineref03_Few.j5]
  | d + 1, s, i, h => by
    by_cases hi : (i : Int) < x4.length
    · refine FewP.step (fun k => ?_) (few_l2 x0 x1 x2 x3 x4 Q hn d (wrap64 ((wrap64 (s + (((rd_T101 x4 (i : Int)).f1).length : Int))) + (((rd_T101 x4 (i : Int)).f2).length : Int))) (i + 1) (by omega))
      simp only [chalklineref03_Few.l2]
      rw [if_pos hi, if_pos (show (i : Int) < 80 by omega), if_pos (by omega)]
      have hw : wrap64 ((i : Int) + 1) = ((i + 1 : Nat) : Int) := by unfold wrap64; omega
      rw [hw]
    · refine FewP.step (f := fun k => chalklineref03_Few.j5 k s x0 x1 x2 x3 x4) (fun k => ?_) (FewP.step (fun k => ?_) (hn s))
      · simp only [chalklineref03_Few.l2]
        rw [if_neg hi]
      · simp only [chalklineref03_Few.j5]
theorem few_l1 (x0 : List S87) (x1 : List S91) (x2 : List S95) (x3 : List S98) (x4 : List S101) (Q : Prop) (hn : ∀ s, FewP (fun k => chalklineref03_Few.l2 k s 0 x0 x1 x2 x3 x4) Q) : ∀ (d : Nat) (s : Int) (i : Nat), i + d = 80 → FewP (fun k => chalklineref03_Few.l1 k s (i : Int) x0 x1 x2 x3 x4) Q
  | 0, s, i, h => by
    refine FewP.step (f := fun k => chalklineref03_Few.j3 k s x0 x1 x2 x3 x4) (fun k => ?_) (FewP.step (fun k => ?_) (hn s))
    · simp only [chalklineref03_Few.l1]
      by_cases hi : (i : Int) < x2.length
      · rw [if_pos hi, if_neg (show ¬ (i : Int) < 80 by omega)]
      · rw [if_neg hi]
    · simp only [chalklineref03_Few.j3]
  | d + 1, s, i, h => by
    by_cases hi : (i : Int) < x2.length
    · refine FewP.step (fun k => ?_) (few_l1 x0 x1 x2 x3 x4 Q hn d (wrap64 (s + (((rd_T95 x2 (i : Int)).f1).length : Int))) (i + 1) (by omega))
      simp only [chalklineref03_Few.l1]
      rw [if_pos hi, if_pos (show (i : Int) < 80 by omega), if_pos (by omega)]
      have hw : wrap64 ((i : Int) + 1) = ((i + 1 : Nat) : Int) := by unfold wrap64; omega
      rw [hw]
    · refine FewP.step (f := fun k => chalklineref03_Few.j3 k s x0 x1 x2 x3 x4) (fun k => ?_) (FewP.step (fun k => ?_) (hn s))
      · simp only [chalklineref03_Few.l1]
        rw [if_neg hi]
      · simp only [chalklineref03_Few.j3]
theorem few_l0 (x0 : List S87) (x1 : List S91) (x2 : List S95) (x3 : List S98) (x4 : List S101) (Q : Prop) (hn : ∀ s, FewP (fun k => chalklineref03_Few.l1 k s 0 x0 x1 x2 x3 x4) Q) : ∀ (d : Nat) (s : Int) (i : Nat), i + d = 80 → FewP (fun k => chalklineref03_Few.l0 k s (i : Int) x0 x1 x2 x3 x4) Q
  | 0, s, i, h => by
    refine FewP.step (f := fun k => chalklineref03_Few.j1 k s x0 x1 x2 x3 x4) (fun k => ?_) (FewP.step (fun k => ?_) (hn s))
    · simp only [chalklineref03_Few.l0]
      by_cases hi : (i : Int) < x1.length
      · rw [if_pos hi, if_neg (show ¬ (i : Int) < 80 by omega)]
      · rw [if_neg hi]
    · simp only [chalklineref03_Few.j1]
  | d + 1, s, i, h => by
    by_cases hi : (i : Int) < x1.length
    · refine FewP.step (fun k => ?_) (few_l0 x0 x1 x2 x3 x4 Q hn d (wrap64 (s + (((rd_T91 x1 (i : Int)).f3).length : Int))) (i + 1) (by omega))
      simp only [chalklineref03_Few.l0]
      rw [if_pos hi, if_pos (show (i : Int) < 80 by omega), if_pos (by omega)]
      have hw : wrap64 ((i : Int) + 1) = ((i + 1 : Nat) : Int) := by unfold wrap64; omega
      rw [hw]
    · refine FewP.step (f := fun k => chalklineref03_Few.j1 k s x0 x1 x2 x3 x4) (fun k => ?_) (FewP.step (fun k => ?_) (hn s))
      · simp only [chalklineref03_Few.l0]
        rw [if_neg hi]
      · simp only [chalklineref03_Few.j1]
theorem few_ev (x : S45) (hx : fitN x) : FewP (fun k => chalklineref03_Few.f k x.f0 x.f1 x.f2 x.f3 x.f4) (x.f0.length ≤ 80 ∧ x.f1.length ≤ 80 ∧ x.f2.length ≤ 80 ∧ x.f3.length ≤ 80 ∧ x.f4.length ≤ 80) := by
  have h := few_l0 x.f0 x.f1 x.f2 x.f3 x.f4 _ (fun s => few_l1 x.f0 x.f1 x.f2 x.f3 x.f4 _ (fun s => few_l2 x.f0 x.f1 x.f2 x.f3 x.f4 _ (fun s => few_l3 x hx 5 s 1 (by omega) (by omega)) 80 s 0 (by omega)) 80 s 0 (by omega)) 80 0 0 (by omega)
  refine FewP.imp h (fun q => ?_)
  have q1 := q 1 (by omega) (by omega)
  have q2 := q 2 (by omega) (by omega)
  have q3 := q 3 (by omega) (by omega)
  have q4 := q 4 (by omega) (by omega)
  have q5 := q 5 (by omega) (by omega)
  simp [namesR] at q1 q2 q3 q4 q5
  omega
end Go.Proofs.YtjdajlnigiicaaaDoor.S
end
section
namespace Go.Proofs.YtjdajlnigiicaaaDoorW.PrintMore
open Go.RowKit Go.Proofs.YtjdajlnigiicaaaDoorW.PrintWords Go.Proofs.YtjdajlnigiicaaaDoorW.PrintLast Go.ChangeShapes Go.WideShapes
def Opens {α : Type} (P : Program) (t : TypeId) (d : Kd α) (wf : α → Prop) : Prop :=
  ∀ (H : Type) (enc : TypeId × Value → H) (w : World) (base : Nat) (spare : Nat → Bool) (held : Bool) (fuel : Nat) (cs : List Value) (x : DataW H × List MemPlace), DataW.trod enc P w base spare held fuel t cs = some x → (∀ m ∈ x.1.weights P t, m ≤ reachBytes) → ∃ y, d.K w y cs ∧ wf y
theorem weightsAll_mem {H : Type} {P : Program} {e : TypeId} {d : DataW H} {n : Nat} : ∀ {l : List (DataW H)}, d ∈ l → n ∈ d.weights P e → n ∈ DataW.weightsAll P e l
  | _ :: l, h, hn => by
    simp only [DataW.weightsAll, List.mem_append]
    rcases List.mem_cons.1 h with rfl | h
    · exact .inl hn
    · exact .inr (weightsAll_mem h hn)
section
variable {P : Program} {t : TypeId}
theorem opens_int {k : IntKind} (ht : P.underlying t = some (.int k)) : Opens P t (Kd.int k) (fun n => (Lit.int k n).wf = true) := by
  intro H enc w base spare held fuel cs x h hwt
  obtain ⟨n, rfl, _, hw⟩ := DataW.trod_int ht h
  exact ⟨n, rfl, hw⟩
theorem opens_string (ht : P.underlying t = some .string) : Opens P t Kd.string (fun s => s.size ≤ reachBytes) := by
  intro H enc w base spare held fuel cs x h hwt
  cases fuel with
  | zero => simp [DataW.trod] at h
  | succ n =>
    unfold DataW.trod at h
    rw [ht] at h
    split at h <;> simp_all
    obtain ⟨h1, rfl⟩ := h
    refine ⟨_, rfl, ?_⟩
    have := hwt _ (by simp [DataW.weights]; rfl)
    simpa using this
theorem cells_cell {w : World} {base n : Nat} {a : Addr} {cs : List Value} (h : w.cells? base a n = some cs) : cs.length = n ∧ ∀ i u, cs[i]? = some u → w.cell? (a.add i) = some u := by
  obtain ⟨_, hl, hc⟩ := World.cells?_some h
  refine ⟨hl, fun i u hu => ?_⟩
  have hi : i < n := by rw [← hl]; exact (List.getElem?_eq_some_iff.1 hu).1
  rw [hc i hi, hu]
theorem opens_slice {α : Type} {e : TypeId} {d : Kd α} {wf : α → Prop} (ht : P.underlying t = some (.slice e)) (hsz : P.cellsOf e = d.sz) {B : Nat} (hB : P.bytesOf e = B) (h : Opens P e d wf) :
    Opens P t (Kd.slice e d) (fun l => l.length * B ≤ 140737488351232 ∧ l.length ≤ maxLen ∧ ∀ x ∈ l, wf x) := by
  intro H enc w base spare held fuel cs x hx hwt
  rcases Deep.open_slice ht hx with ⟨rfl, _⟩ | ⟨a, len, cap, m, n, D, Pl, rfl, _, hl, hm, hmm, hxx, hel⟩
  · exact ⟨[], ⟨none, 0, rfl, Nat.le_refl _, Kd.C_nil _ _⟩, by simp, Nat.zero_le _, fun x hx => by cases hx⟩
  · have hlm : len ≤ m := by rw [hmm]; split <;> omega
    have hw0 : len * B ≤ 140737488351232 := by
      have h0 := hwt ((len + (m - len)) * B) (by
        rw [hxx]
        simp only [DataW.weights, ht, hB]
        simp)
      have h1 : len * B ≤ (len + (m - len)) * B := Nat.mul_le_mul_right _ (by omega)
      have h2 : reachBytes = 140737488351232 := by decide
      omega
    have hwi : ∀ i, i < len → ∀ n ∈ (D i).weights P e, n ≤ reachBytes := fun i hi n hn => hwt n (by
      rw [hxx]
      simp only [DataW.weights, ht, List.mem_cons, List.mem_append]
      exact .inr (.inl (weightsAll_mem (List.mem_map.2 ⟨i, List.mem_range.2 hi, rfl⟩) hn)))
    have hone : ∀ i, i < len → ∃ y : α, wf y ∧ ∃ c, c.length = d.sz ∧ d.K w y c ∧ ∀ j u, c[j]? = some u → w.cell? ((a.add (i * d.sz)).add j) = some u := by
      intro i hi
      obtain ⟨cs', hc, ht'⟩ := hel i (by omega)
      obtain ⟨y, hK, hw⟩ := h H enc w base spare held n cs' _ ht' (hwi i hi)
      rw [hsz] at hc
      obtain ⟨hlen, hcell⟩ := cells_cell hc
      exact ⟨y, hw, cs', hlen, hK, hcell⟩
    let f : Nat → Option α := fun i => if hi : i < len then some (Classical.choose (hone i hi)) else none
    have hf : ∀ i (hi : i < len), f i = some (Classical.choose (hone i hi)) := fun i hi => dif_pos hi
    let l : List α := (List.range len).filterMap f
    have hln : ∀ m, m ≤ len → ((List.range m).filterMap f).length = m ∧ ∀ i (hi : i < len), i < m → ((List.range m).filterMap f)[i]? = some (Classical.choose (hone i hi)) := by
      intro m
      induction m with
      | zero => exact fun _ => ⟨rfl, fun i _ h0 => absurd h0 (Nat.not_lt_zero _)⟩
      | succ m ih =>
        intro hm'
        obtain ⟨h1, h2⟩ := ih (by omega)
        rw [List.range_succ, List.filterMap_append]
        have he : [m].filterMap f = [Classical.choose (hone m (by omega))] := by simp [hf m (by omega)]
        rw [he]
        refine ⟨by simp [h1], fun i hi him => ?_⟩
        rcases Nat.lt_succ_iff_lt_or_eq.1 him with hlt | rfl
        · rw [List.getElem?_append_left (by omega)]
          exact h2 i hi hlt
        · rw [List.getElem?_append_right (by omega), h1]
          simp
    obtain ⟨hlen, hget⟩ := hln len (Nat.le_refl _)
    have hmax : cap ≤ 9223372036854775807 := by unfold maxLen at hm; omega
    refine ⟨l, ⟨some a, cap, ?_, ?_, ?_⟩, by rw [hlen]; exact hw0, ?_, ?_⟩
    · show [Value.slice (some a) len cap] = _
      rw [hlen]
    · rw [hlen]; exact hl
    · refine ⟨rfl, by rw [hlen]; omega, fun _ => ⟨a, rfl, fun j p hp => ?_⟩⟩
      have hj : j < len := by rw [← hlen]; exact (List.getElem?_eq_some_iff.1 hp).1
      rw [hget j hj hj] at hp
      obtain rfl := Option.some.inj hp
      obtain ⟨_, c, hc1, hc2, hc3⟩ := Classical.choose_spec (hone j hj)
      exact ⟨c, hc1, hc2, fun i u hu => by rw [← Deep.add_add]; exact hc3 i u hu⟩
    · rw [hlen]; omega
    · intro x hx
      obtain ⟨j, hj⟩ := List.getElem?_of_mem hx
      have hj' : j < len := by rw [← hlen]; exact (List.getElem?_eq_some_iff.1 hj).1
      rw [hget j hj' hj'] at hj
      obtain rfl := Option.some.inj hj
      exact (Classical.choose_spec (hone j hj')).1
def OpensF {α : Type} (P : Program) (fs : List Field) (off : Nat) (d : Kd α) (wf : α → Prop) : Prop :=
  ∀ (H : Type) (enc : TypeId × Value → H) (w : World) (base : Nat) (spare : Nat → Bool) (held : Bool) (n : Nat) (cs : List Value), cs.length = off + d.sz →
    (∀ f ∈ fs, ∃ y, DataW.trod enc P w base spare held n f.type ((cs.drop f.offset).take (P.cellsOf f.type)) = some y ∧ ∀ m ∈ y.1.weights P f.type, m ≤ reachBytes) → ∃ y, d.K w y (cs.drop off) ∧ wf y
theorem opensF_one {α : Type} {f : Field} {d : Kd α} {wf : α → Prop} (hsz : P.cellsOf f.type = d.sz) (h : Opens P f.type d wf) : OpensF P [f] f.offset d wf := by
  intro H enc w base spare held n cs hl hf
  obtain ⟨y, hy, hyw⟩ := hf f (List.mem_singleton.2 rfl)
  rw [List.take_of_length_le (by rw [List.length_drop, hl, hsz]; omega)] at hy
  exact h H enc w base spare held n _ _ hy hyw
theorem opensF_cons {α β : Type} {f : Field} {fs : List Field} {d : Kd α} {d' : Kd β} {wf : α → Prop} {wf' : β → Prop} (hsz : P.cellsOf f.type = d.sz) (h : Opens P f.type d wf) (h' : OpensF P fs (f.offset + d.sz) d' wf') :
    OpensF P (f :: fs) f.offset (Kd.pair d d') (fun x => wf x.1 ∧ wf' x.2) := by
  intro H enc w base spare held n cs hl hf
  have hl' : cs.length = f.offset + (d.sz + d'.sz) := hl
  obtain ⟨y, hy, hyw⟩ := hf f (List.mem_cons_self)
  rw [hsz] at hy
  obtain ⟨a, hK, hw⟩ := h H enc w base spare held n _ _ hy hyw
  obtain ⟨b, hK', hw'⟩ := h' H enc w base spare held n cs (by rw [hl']; omega) (fun g hg => hf g (List.mem_cons_of_mem _ hg))
  refine ⟨(a, b), ⟨(cs.drop f.offset).take d.sz, cs.drop (f.offset + d.sz), ?_, hK, hK'⟩, hw, hw'⟩
  rw [← List.drop_drop, List.take_append_drop]
theorem weightsEach_mem {H : Type} {P : Program} {n : Nat} : ∀ {ts : List TypeId} {ds : List (DataW H)} {i : Nat} {t : TypeId} {d : DataW H}, ts[i]? = some t → ds[i]? = some d → n ∈ d.weights P t → n ∈ DataW.weightsEach P ts ds
  | _ :: _, _ :: _, 0, _, _, h1, h2, hn => by
    simp only [List.getElem?_cons_zero, Option.some.injEq] at h1 h2
    subst h1; subst h2
    simp only [DataW.weightsEach, List.mem_append]
    exact .inl hn
  | _ :: _, _ :: _, i + 1, _, _, h1, h2, hn => by
    simp only [List.getElem?_cons_succ] at h1 h2
    simp only [DataW.weightsEach, List.mem_append]
    exact .inr (weightsEach_mem h1 h2 hn)
  | [], _, _, _, _, h1, _, _ => by simp at h1
  | _ :: _, [], _, _, _, _, h2, _ => by simp at h2
theorem opens_struct {α : Type} {fs : Array Field} {d : Kd α} {wf : α → Prop} (ht : P.underlying t = some (.struct fs)) (hsz : P.cellsOf t = d.sz) (h : OpensF P fs.toList 0 d wf) : Opens P t d wf := by
  intro H enc w base spare held fuel cs x hx hwt
  obtain ⟨xs, n, _, hxx, hl, hlen, hf⟩ := DataW.trod_struct ht hx
  obtain ⟨y, hK, hw⟩ := h H enc w base spare held n cs (by rw [hl, hsz]; omega) (fun f hm => by
    obtain ⟨i, hi⟩ := List.getElem?_of_mem hm
    have hi' : fs[i]? = some f := by simpa using hi
    have hlt : i < xs.length := by rw [hlen]; exact (Array.getElem?_eq_some_iff.1 hi').1
    refine ⟨xs[i], by rw [hf i f hi', List.getElem?_eq_getElem hlt], fun m hm => hwt m ?_⟩
    rw [hxx]
    simp only [DataW.weights, ht]
    exact weightsEach_mem (i := i) (by simp [hi]) (by simp [hlt]) hm)
  exact ⟨y, by simpa using hK, hw⟩
theorem opens_iso {α β : Type} {d : Kd α} {wf : α → Prop} (f : β → α) (g : α → β) (hfg : ∀ a, f (g a) = a) (h : Opens P t d wf) : Opens P t (Kd.iso d f) (fun b => wf (f b)) := by
  intro H enc w base spare held fuel cs x hx hwt
  obtain ⟨y, hK, hw⟩ := h H enc w base spare held fuel cs x hx hwt
  exact ⟨g y, by show d.K w (f (g y)) cs; rw [hfg]; exact hK, by show wf (f (g y)); rw [hfg]; exact hw⟩
theorem arg_struct {α : Type} {fs : Array Field} {d : Kd α} {wf : α → Prop} {r : Reach} {W : World} {b0 : Nat} {v : Value} (ht : P.underlying t = some (.struct fs)) (ho : Opens P t d wf) (hv : Value.okWide P W r b0 t v)
    {H : Type} {enc : TypeId × Value → H} {base : Nat} {spare : Nat → Bool} {held : Bool} {dd : DataW H} {ps : List MemPlace} (h : DataW.Trod enc P W base spare held t v dd ps) (hwt : ∀ m ∈ dd.weights P t, m ≤ reachBytes) :
    ∃ (x : α) (cs : List Value), v = .agg cs.toArray ∧ d.K W x cs ∧ wf x := by
  obtain ⟨cs, rfl, _⟩ := okWide_struct ht hv
  obtain ⟨fuel, hf⟩ := h
  obtain ⟨x, hK, hw⟩ := ho H enc W base spare held fuel _ _ hf hwt
  exact ⟨x, cs.toList, by simp, by simpa [Value.cells] using hK, hw⟩
end
end Go.Proofs.YtjdajlnigiicaaaDoorW.PrintMore
namespace Go.Proofs.YtjdajlnigiicaaaDoorW.PrintMore
open Go.RowKit Go.ChangeShapes Go.WideShapes
theorem weights_arg {H : Type} {P : Program} {ts : List TypeId} {ds : List (DataW H)} (hsz : (DataW.weightsEach P ts ds).all (· ≤ reachBytes) = true) {j : Nat} {t : TypeId} {d : DataW H} (ht : ts[j]? = some t) (hd : ds[j]? = some d) : ∀ m ∈ d.weights P t, m ≤ reachBytes :=
  fun m hm => by simpa using List.all_eq_true.1 hsz m (weightsEach_mem ht hd hm)
end Go.Proofs.YtjdajlnigiicaaaDoorW.PrintMore
end
section
namespace Go.Proofs.YtjdajlnigiicaaaDoor.S
open Go.RowKit Go.Proofs.YtjdajlnigiicaaaDoorW.PrintWords Go.Proofs.YtjdajlnigiicaaaDoorW.PrintLast Go.Proofs.YtjdajlnigiicaaaDoorW.PrintMore
set_option linter.unusedVariables false
def wf87 (x : S87) : Prop := x.f0.size ≤ reachBytes ∧ (Lit.int .i64 x.f1).wf = true ∧ (Lit.int .i64 x.f2).wf = true
theorem opens87 : Opens Tryd.prog 87 k87 wf87 := opens_iso (fun x : S87 => (x.f0, x.f1, x.f2)) (fun p => ⟨p.1, p.2.1, p.2.2⟩) (fun _ => rfl) (opens_struct Tryd.underlying87 (by kernel_rfl) (opensF_cons (by kernel_rfl) (opens_string Tryd.underlying9) (opensF_cons (by kernel_rfl) (opens_int Tryd.underlying3) (opensF_one (by kernel_rfl) (opens_int Tryd.underlying3)))))
def wf91 (x : S91) : Prop := x.f0.size ≤ reachBytes ∧ (Lit.int .i64 x.f1).wf = true ∧ (Lit.int .i64 x.f2).wf = true ∧ (x.f3.length * 8 ≤ 140737488351232 ∧ x.f3.length ≤ maxLen ∧ ∀ z_ ∈ x.f3, (Lit.int .i64 z_).wf = true)
theorem opens91 : Opens Tryd.prog 91 k91 wf91 := opens_iso (fun x : S91 => (x.f0, x.f1, x.f2, x.f3)) (fun p => ⟨p.1, p.2.1, p.2.2.1, p.2.2.2⟩) (fun _ => rfl) (opens_struct Tryd.underlying91 (by kernel_rfl) (opensF_cons (by kernel_rfl) (opens_string Tryd.underlying9) (opensF_cons (by kernel_rfl) (opens_int Tryd.underlying3) (opensF_cons (by kernel_rfl) (opens_int Tryd.underlying3) (opensF_one (by kernel_rfl) (opens_slice Tryd.underlying89 (by kernel_rfl) (by kernel_rfl) (opens_int Tryd.underlying3)))))))
def wf95 (x : S95) : Prop := x.f0.size ≤ reachBytes ∧ (x.f1.length * 8 ≤ 140737488351232 ∧ x.f1.length ≤ maxLen ∧ ∀ z_ ∈ x.f1, (Lit.int .i64 z_).wf = true)
theorem opens95 : Opens Tryd.prog 95 k95 wf95 := opens_iso (fun x : S95 => (x.f0, x.f1)) (fun p => ⟨p.1, p.2⟩) (fun _ => rfl) (opens_struct Tryd.underlying95 (by kernel_rfl) (opensF_cons (by kernel_rfl) (opens_string Tryd.underlying9) (opensF_one (by kernel_rfl) (opens_slice Tryd.underlying89 (by kernel_rfl) (by kernel_rfl) (opens_int Tryd.underlying3)))))
def wf98 (x : S98) : Prop := x.f0.size ≤ reachBytes ∧ (Lit.int .i64 x.f1).wf = true
theorem opens98 : Opens Tryd.prog 98 k98 wf98 := opens_iso (fun x : S98 => (x.f0, x.f1)) (fun p => ⟨p.1, p.2⟩) (fun _ => rfl) (opens_struct Tryd.underlying98 (by kernel_rfl) (opensF_cons (by kernel_rfl) (opens_string Tryd.underlying9) (opensF_one (by kernel_rfl) (opens_int Tryd.underlying3))))
def wf101 (x : S101) : Prop := x.f0.size ≤ reachBytes ∧ (x.f1.length * 8 ≤ 140737488351232 ∧ x.f1.length ≤ maxLen ∧ ∀ z_ ∈ x.f1, (Lit.int .i64 z_).wf = true) ∧ (x.f2.length * 8 ≤ 140737488351232 ∧ x.f2.length ≤ maxLen ∧ ∀ z_ ∈ x.f2, (Lit.int .i64 z_).wf = true)
theorem opens101 : Opens Tryd.prog 101 k101 wf101 := opens_iso (fun x : S101 => (x.f0, x.f1, x.f2)) (fun p => ⟨p.1, p.2.1, p.2.2⟩) (fun _ => rfl) (opens_struct Tryd.underlying101 (by kernel_rfl) (opensF_cons (by kernel_rfl) (opens_string Tryd.underlying9) (opensF_cons (by kernel_rfl) (opens_slice Tryd.underlying89 (by kernel_rfl) (by kernel_rfl) (opens_int Tryd.underlying3)) (opensF_one (by kernel_rfl) (opens_slice Tryd.underlying89 (by kernel_rfl) (by kernel_rfl) (opens_int Tryd.underlying3))))))
def wf45 (x : S45) : Prop := (x.f0.length * 32 ≤ 140737488351232 ∧ x.f0.length ≤ maxLen ∧ ∀ z_ ∈ x.f0, wf87 z_) ∧ (x.f1.length * 56 ≤ 140737488351232 ∧ x.f1.length ≤ maxLen ∧ ∀ z_ ∈ x.f1, wf91 z_) ∧ (x.f2.length * 40 ≤ 140737488351232 ∧ x.f2.length ≤ maxLen ∧ ∀ z_ ∈ x.f2, wf95 z_) ∧ (x.f3.length * 24 ≤ 140737488351232 ∧ x.f3.length ≤ maxLen ∧ ∀ z_ ∈ x.f3, wf98 z_) ∧ (x.f4.length * 64 ≤ 140737488351232 ∧ x.f4.length ≤ maxLen ∧ ∀ z_ ∈ x.f4, wf101 z_)
theorem opens45 : Opens Tryd.prog 45 k45 wf45 := opens_iso (fun x : S45 => (x.f0, x.f1, x.f2, x.f3, x.f4)) (fun p => ⟨p.1, p.2.1, p.2.2.1, p.2.2.2.1, p.2.2.2.2⟩) (fun _ => rfl) (opens_struct Tryd.underlying45 (by kernel_rfl) (opensF_cons (by kernel_rfl) (opens_slice Tryd.underlying39 (by kernel_rfl) (by kernel_rfl) opens87) (opensF_cons (by kernel_rfl) (opens_slice Tryd.underlying40 (by kernel_rfl) (by kernel_rfl) opens91) (opensF_cons (by kernel_rfl) (opens_slice Tryd.underlying41 (by kernel_rfl) (by kernel_rfl) opens95) (opensF_cons (by kernel_rfl) (opens_slice Tryd.underlying42 (by kernel_rfl) (by kernel_rfl) opens98) (opensF_one (by kernel_rfl) (opens_slice Tryd.underlying43 (by kernel_rfl) (by kernel_rfl) opens101)))))))
end Go.Proofs.YtjdajlnigiicaaaDoor.S
end
section
namespace Go.Proofs.YtjdajlnigiicaaaDoor.S
open Go.RowKit Go.Proofs.YtjdajlnigiicaaaDoorW.PrintWords Go.Proofs.YtjdajlnigiicaaaDoorW.PrintLast Go.Proofs.YtjdajlnigiicaaaDoorW.PrintMore
set_option linter.unusedVariables false
set_option linter.unusedSimpArgs false
theorem at_out (x : S45) (lesson n : Int) (h : ¬ (0 ≤ lesson ∧ lesson < x.f4.length ∧ 0 ≤ n ∧ n < x.f0.length)) : week_At.f x.f0 x.f1 x.f2 x.f3 x.f4 lesson n = some 0 := by
  unfold week_At.f
  rw [wwithin_eq, wwithin_eq]
  simp only [inW, Option.bind_some, decide_eq_true_eq]
  by_cases h1 : 0 ≤ lesson ∧ lesson < x.f4.length
  · rw [if_pos h1, if_neg (fun h2 => h ⟨h1.1, h1.2, h2.1, h2.2⟩)]
  · rw [if_neg h1]
theorem in_out (x : S45) (lesson n : Int) (h : ¬ (0 ≤ lesson ∧ lesson < x.f4.length ∧ 0 ≤ n ∧ n < x.f1.length)) : week_In.f x.f0 x.f1 x.f2 x.f3 x.f4 lesson n = some 0 := by
  unfold week_In.f
  rw [wwithin_eq, wwithin_eq]
  simp only [inW, Option.bind_some, decide_eq_true_eq]
  by_cases h1 : 0 ≤ lesson ∧ lesson < x.f4.length
  · rw [if_pos h1, if_neg (fun h2 => h ⟨h1.1, h1.2, h2.1, h2.2⟩)]
  · rw [if_neg h1]
def bijInv (S len Q p r k : Nat) (met : List Bool) : Prop := met.length = len ∧ ∀ v, met.getD v false = true → v ≤ p + min k S ∨ (Q < v ∧ v ≤ Q + r + (k - S))
theorem bij_set {met : List Bool} {v w : Nat} (h : (met.set v true).getD w false = true) : w = v ∨ met.getD w false = true := by
  by_cases hw : w = v
  · exact .inl hw
  · right
    rw [List.getD_eq_getElem?_getD, List.getElem?_set_ne (fun e => hw e.symm), ← List.getD_eq_getElem?_getD] at h
    exact h
theorem wrap_succ (m : Nat) (h : m ≤ 1000000) : wrap64 ((m : Int) + 1) = ((m + 1 : Nat) : Int) := by unfold wrap64; omega
theorem bij_slot {S len Q p r k : Nat} {met : List Bool} (h : bijInv S len Q p r k met) (hk : k < S) (hq : p + S ≤ Q) : met.getD (p + k + 1) false = false ∧ bijInv S len Q p r (k + 1) (met.set (p + k + 1) true) := by
  constructor
  · cases hm : met.getD (p + k + 1) false with
    | false => rfl
    | true => have := h.2 _ hm; omega
  · refine ⟨by rw [List.length_set]; exact h.1, fun v hv => ?_⟩
    rcases bij_set hv with rfl | hv
    · omega
    · have := h.2 v hv
      omega
theorem bij_room {S len Q p r k : Nat} {met : List Bool} (h : bijInv S len Q p r k met) (hk : S ≤ k) (hq : p + S ≤ Q) : met.getD (Q + r + (k - S) + 1) false = false ∧ bijInv S len Q p r (k + 1) (met.set (Q + r + (k - S) + 1) true) := by
  constructor
  · cases hm : met.getD (Q + r + (k - S) + 1) false with
    | false => rfl
    | true => have := h.2 _ hm; omega
  · refine ⟨by rw [List.length_set]; exact h.1, fun v hv => ?_⟩
    rcases bij_set hv with rfl | hv
    · omega
    · have := h.2 v hv
      omega
theorem bij_next {S R len Q p r : Nat} {met : List Bool} (h : bijInv S len Q p r (S + R) met) : bijInv S len Q (p + S) (r + R) 0 met :=
  ⟨h.1, fun v hv => by have := h.2 v hv; omega⟩
theorem bij_l1 (x : S45) (S R L i p r Q U : Nat) (eS : x.f0.length = S) (eR : x.f1.length = R) (eL : x.f4.length = L) (h4 : L ≤ 20) (h0 : S ≤ 60) (h1 : R ≤ 40) (hi : i < L) (hp : i * S = p) (hr : i * R = r) (hQ : L * S = Q) (hU : L * R = U) (b1 : p + S ≤ Q) (b2 : r + R ≤ U) (b3 : Q ≤ 1200) (b4 : U ≤ 800)
    (hn : ∀ met, bijInv S (Q + U + 1) Q (p + S) (r + R) 0 met → Ev (fun n => chalklinelaw04_WeekBijection.l0 n ((Q + U : Nat) : Int) met ((p + r + S + R : Nat) : Int) ((i + 1 : Nat) : Int) x.f0 x.f1 x.f2 x.f3 x.f4) true) :
    ∀ (d k : Nat) (met : List Bool), k + d = S + R → bijInv S (Q + U + 1) Q p r k met →
      Ev (fun n => chalklinelaw04_WeekBijection.l1 n ((Q + U : Nat) : Int) met ((p + r + k : Nat) : Int) (i : Int) (k : Int) x.f0 x.f1 x.f2 x.f3 x.f4) true
  | 0, k, met, hk, hv => by
    have hw := Aside0.mk (show wrap64 ((S : Int) + R) = ((S + R : Nat) : Int) by clear hn hv hp hr hQ hU; unfold wrap64; omega)
    have hw2 := Aside0.mk (show wrap64 ((i : Int) + 1) = ((i + 1 : Nat) : Int) from wrap_succ i (by clear hn hv hp hr hQ hU; omega))
    have hkk : k = S + R := by omega
    subst hkk
    refine Ev.step (fun n => ?_) (hn met (bij_next hv))
    simp only [chalklinelaw04_WeekBijection.l1]
    rw [eS, eR, hw.out, if_neg (Int.lt_irrefl _), hw2.out, Nat.add_assoc (p + r) S R]
  | d + 1, k, met, hk, hv => by
    have hw := Aside0.mk (show wrap64 ((S : Int) + R) = ((S + R : Nat) : Int) by clear hn hv hp hr hQ hU; unfold wrap64; omega)
    have hw2 := Aside0.mk (show wrap64 ((k : Int) + 1) = ((k + 1 : Nat) : Int) from wrap_succ k (by clear hn hv hp hr hQ hU; omega))
    have hm : p + r + k ≤ 4000 := by clear hn hv hp hr hQ hU; omega
    have hw3 := Aside0.mk (show wrap64 (((p + r + k : Nat) : Int) + 1) = ((p + r + (k + 1) : Nat) : Int) by rw [wrap_succ _ (Nat.le_trans hm (by decide)), Nat.add_assoc (p + r) k 1])
    have hlt : (k : Int) < ((S + R : Nat) : Int) := by omega
    have hlen := hv.1
    by_cases hks : k < S
    · have ha := (at_eq x (by omega) (by omega) (i : Int) (k : Int) (by omega) (by omega) (by omega) (by omega)).1
      have hav : atV x (i : Int) (k : Int) = ((p + k + 1 : Nat) : Int) := by unfold atV; rw [eS, ← hp]; simp
      rw [hav] at ha
      obtain ⟨hfree, hinv⟩ := bij_slot hv hks b1
      have ih := bij_l1 x S R L i p r Q U eS eR eL h4 h0 h1 hi hp hr hQ hU b1 b2 b3 b4 hn d (k + 1) _ (by omega) hinv
      have c1 : ¬ (k : Int) ≥ (S : Int) := by omega
      have c2 : ¬ ((p + k + 1 : Nat) : Int) < 1 := by omega
      have c3 : ¬ ((p + k + 1 : Nat) : Int) > ((Q + U : Nat) : Int) := by clear hn hv hp hr hQ hU; omega
      have c4 : (0 : Int) ≤ ((p + k + 1 : Nat) : Int) := by omega
      have c5 : ((p + k + 1 : Nat) : Int) < (met.length : Int) := by rw [hlen]; clear hn hv hp hr hQ hU; omega
      have c6 : ¬ rdOf false met ((p + k + 1 : Nat) : Int) = true := by unfold rdOf; rw [Int.toNat_natCast, hfree]; decide
      refine Ev.step (fun n => ?_) ih
      simp only [chalklinelaw04_WeekBijection.l1]
      rw [eS, eR, hw.out, if_pos hlt, ← eS, ha]
      simp only [Option.bind_some]
      rw [eS, if_neg c1, if_neg c2, if_neg c3, if_pos c4, if_pos c5, if_neg c6, hw2.out, hw3.out, Int.toNat_natCast]
    · have ha := at_out x (i : Int) (k : Int) (by omega)
      have hw4 := Aside0.mk (show wrap64 ((k : Int) - (S : Int)) = ((k - S : Nat) : Int) by clear hn hv hp hr hQ hU; unfold wrap64; omega)
      have hb := (in_eq x (by omega) (by omega) (by omega) (i : Int) ((k - S : Nat) : Int) (by omega) (by omega) (by omega) (by omega)).1
      have hbv : inV x (i : Int) ((k - S : Nat) : Int) = ((Q + r + (k - S) + 1 : Nat) : Int) := by unfold inV; rw [eS, eR, eL, ← hr, ← hQ]; simp
      rw [hbv] at hb
      obtain ⟨hfree, hinv⟩ := bij_room hv (by omega) b1
      have ih := bij_l1 x S R L i p r Q U eS eR eL h4 h0 h1 hi hp hr hQ hU b1 b2 b3 b4 hn d (k + 1) _ (by omega) hinv
      have c1 : (k : Int) ≥ (S : Int) := by omega
      have c2 : ¬ ((Q + r + (k - S) + 1 : Nat) : Int) < 1 := by omega
      have c3 : ¬ ((Q + r + (k - S) + 1 : Nat) : Int) > ((Q + U : Nat) : Int) := by clear hn hv hp hr hQ hU; omega
      have c4 : (0 : Int) ≤ ((Q + r + (k - S) + 1 : Nat) : Int) := by omega
      have c5 : ((Q + r + (k - S) + 1 : Nat) : Int) < (met.length : Int) := by rw [hlen]; clear hn hv hp hr hQ hU; omega
      have c6 : ¬ rdOf false met ((Q + r + (k - S) + 1 : Nat) : Int) = true := by unfold rdOf; rw [Int.toNat_natCast, hfree]; decide
      refine Ev.step (fun n => ?_) ih
      simp only [chalklinelaw04_WeekBijection.l1]
      rw [eS, eR, hw.out, if_pos hlt, ha]
      simp only [Option.bind_some]
      rw [if_pos c1, hw4.out, hb]
      simp only [Option.bind_some]
      rw [if_neg c2, if_neg c3, if_pos c4, if_pos c5, if_neg c6, hw2.out, hw3.out, Int.toNat_natCast]
theorem bij_l0 (x : S45) (S R L Q U : Nat) (eS : x.f0.length = S) (eR : x.f1.length = R) (eL : x.f4.length = L) (h4 : L ≤ 20) (h0 : S ≤ 60) (h1 : R ≤ 40) (hQ : L * S = Q) (hU : L * R = U) (b3 : Q ≤ 1200) (b4 : U ≤ 800) : ∀ (d i p r : Nat) (met : List Bool), i + d = L → i * S = p → i * R = r → bijInv S (Q + U + 1) Q p r 0 met →
      Ev (fun n => chalklinelaw04_WeekBijection.l0 n ((Q + U : Nat) : Int) met ((p + r : Nat) : Int) (i : Int) x.f0 x.f1 x.f2 x.f3 x.f4) true
  | 0, i, p, r, met, hi, hp, hr, hv => by
    have e : i = L := by omega
    subst e
    have ep : p = Q := hp.symm.trans hQ
    have er : r = U := hr.symm.trans hU
    subst ep er
    refine Ev.step (f := fun _ => some true) (fun n => ?_) (Ev.now _)
    simp only [chalklinelaw04_WeekBijection.l0]
    rw [eL, if_neg (Int.lt_irrefl _), if_pos (by first | rfl | trivial), at_out x _ _ (by omega)]
    simp only [Option.bind_some]
    rw [if_pos (by first | rfl | trivial), at_out x _ _ (by omega)]
    simp only [Option.bind_some]
    rw [if_pos (by first | rfl | trivial), in_out x _ _ (by omega)]
    rfl
  | d + 1, i, p, r, met, hi, hp, hr, hv => by
    have hp1 : (i + 1) * S = p + S := by rw [Nat.add_mul, Nat.one_mul, hp]
    have hr1 : (i + 1) * R = r + R := by rw [Nat.add_mul, Nat.one_mul, hr]
    have b1 : p + S ≤ Q := by rw [← hp1, ← hQ]; exact Nat.mul_le_mul_right _ (by omega)
    have b2 : r + R ≤ U := by rw [← hr1, ← hU]; exact Nat.mul_le_mul_right _ (by omega)
    refine Ev.step (fun n => ?_) (bij_l1 x S R L i p r Q U eS eR eL h4 h0 h1 (by omega) hp hr hQ hU b1 b2 b3 b4 (fun met' h => by
      have := bij_l0 x S R L Q U eS eR eL h4 h0 h1 hQ hU b3 b4 d (i + 1) (p + S) (r + R) met' (by omega) hp1 hr1 h
      rw [show p + S + (r + R) = p + r + S + R by omega] at this
      exact this) (S + R) 0 met (by omega) hv)
    simp only [chalklinelaw04_WeekBijection.l0]
    rw [eL, if_pos (by omega)]
    simp
theorem fit_of_wf {x : S45} (h : wf45 x) : fitN x := by
  unfold wf45 at h
  unfold fitN
  omega
end Go.Proofs.YtjdajlnigiicaaaDoor.S
end
section
namespace Go.Proofs.YtjdajlnigiicaaaDoor.Pure
open Go.RowKit Go.Proofs.YtjdajlnigiicaaaDoorW.PrintWords Go.Proofs.YtjdajlnigiicaaaDoorW.PrintLast Go.Proofs.YtjdajlnigiicaaaDoorW.PrintMore
set_option linter.unusedVariables false
set_option linter.unusedSimpArgs false
open Go.Proofs.YtjdajlnigiicaaaDoor.S
theorem few0_ev (x : S45) (l : List S55) {b : Bool} (h : Ev (fun k => chalklineref03_Few.f k x.f0 x.f1 x.f2 x.f3 x.f4) b) : Ev (fun k => chalklinelaw04_few.f k x.f0 x.f1 x.f2 x.f3 x.f4 l) (b && decide ((l.length : Int) ≤ 100)) := by
  unfold chalklinelaw04_few.f
  refine Ev.bind h ?_
  cases b with
  | false => exact Ev.now _
  | true => exact Ev.now _
theorem bij_skip (x : S45) : Ev (fun k => chalklinelaw04_WeekBijection.j0 k true x.f0 x.f1 x.f2 x.f3 x.f4) true :=
  Ev.step (f := fun _ => some true) (fun k => by simp [chalklinelaw04_WeekBijection.j0]) (Ev.now _)
theorem bij_go (x : S45) (h4 : x.f4.length ≤ 20) (h0 : x.f0.length ≤ 60) (h1 : x.f1.length ≤ 40) : Ev (fun k => chalklinelaw04_WeekBijection.j0 k false x.f0 x.f1 x.f2 x.f3 x.f4) true := by
  obtain ⟨S, eS⟩ : ∃ S, x.f0.length = S := ⟨_, rfl⟩
  obtain ⟨R, eR⟩ : ∃ R, x.f1.length = R := ⟨_, rfl⟩
  obtain ⟨L, eL⟩ : ∃ L, x.f4.length = L := ⟨_, rfl⟩
  obtain ⟨Q, hQ⟩ : ∃ Q, L * S = Q := ⟨_, rfl⟩
  obtain ⟨U, hU⟩ : ∃ U, L * R = U := ⟨_, rfl⟩
  have b3 : Q ≤ 1200 := by rw [← hQ]; exact Nat.mul_le_mul (eL ▸ h4) (eS ▸ h0)
  have b4 : U ≤ 800 := by rw [← hU]; exact Nat.mul_le_mul (eL ▸ h4) (eR ▸ h1)
  have hm : (L : Int) * ((S + R : Nat) : Int) = ((Q + U : Nat) : Int) := by rw [← hQ, ← hU, ← Nat.mul_add, Int.natCast_mul]
  have w1 : wrap64 ((S : Int) + R) = ((S + R : Nat) : Int) := by clear hm hQ hU; have := eS ▸ h0; have := eR ▸ h1; unfold wrap64; omega
  have w2 : wrap64 (((Q + U : Nat) : Int)) = ((Q + U : Nat) : Int) := by clear hm hQ hU w1; unfold wrap64; omega
  have w3 : wrap64 (((Q + U : Nat) : Int) + 1) = ((Q + U + 1 : Nat) : Int) := by clear hm hQ hU w1 w2; unfold wrap64; omega
  have z3 : (0 : Int) ≤ ((Q + U + 1 : Nat) : Int) := by clear w1 w2 w3; omega
  have z4 : Q + U + 1 ≤ 281474976710656 := by clear w1 w2 w3; omega
  have hv : week_Vars.f x.f0 x.f1 x.f2 x.f3 x.f4 = some ((Q + U : Nat) : Int) := by
    unfold week_Vars.f
    rw [eS, eR, eL, w1, hm, w2]
  have hi : bijInv S (Q + U + 1) Q 0 0 0 (List.replicate (Q + U + 1) false) := ⟨List.length_replicate, fun v h => by
    rw [List.getD_eq_getElem?_getD, List.getElem?_replicate] at h
    split at h <;> simp at h⟩
  have hstart : Ev (fun n => chalklinelaw04_WeekBijection.l0 n ((Q + U : Nat) : Int) (List.replicate (Q + U + 1) false) 0 0 x.f0 x.f1 x.f2 x.f3 x.f4) true := bij_l0 x S R L Q U eS eR eL (eL ▸ h4) (eS ▸ h0) (eR ▸ h1) hQ hU b3 b4 L 0 0 0 _ (Nat.zero_add _) (Nat.zero_mul _) (Nat.zero_mul _) hi
  refine Ev.step (fun k => ?_) hstart
  simp only [chalklinelaw04_WeekBijection.j0]
  rw [if_neg (show ¬ (false = true) by decide), hv, Option.bind_some, eL, eS, eR, w1, hm, w2, if_pos (by first | rfl | trivial), w3, if_pos z3, Int.toNat_natCast, if_pos z4]
theorem WeekBijection : ∀ (x0 : S45), wf45 x0 → ∃ k, chalklinelaw04_WeekBijection.f k x0.f0 x0.f1 x0.f2 x0.f3 x0.f4 = some true := by
  intro x hx
  obtain ⟨b, hb, hq⟩ := few_ev x (fit_of_wf hx)
  have hf := few0_ev x [] hb
  refine Ev.rounds (g := fun k => chalklinelaw04_WeekBijection.f k x.f0 x.f1 x.f2 x.f3 x.f4) ?_
  unfold chalklinelaw04_WeekBijection.f
  simp only [chalklinelaw04_live.f, Option.bind_some, if_true]
  refine Ev.bind hf ?_
  cases b with
  | false =>
    simp only [Bool.false_and]
    exact bij_skip x
  | true =>
    have hd : (true && decide ((([] : List S55).length : Int) ≤ 100)) = true := rfl
    rw [hd]
    simp only [if_true]
    by_cases h4 : (x.f4.length : Int) > 20
    · simp only [if_pos h4]; exact bij_skip x
    · simp only [if_neg h4]
      by_cases h0 : (x.f0.length : Int) > 60
      · simp only [if_pos h0]; exact bij_skip x
      · simp only [if_neg h0]
        by_cases h1 : (x.f1.length : Int) > 40
        · simp only [decide_eq_true h1]; exact bij_skip x
        · simp only [decide_eq_false h1]; exact bij_go x (by omega) (by omega) (by omega)
end Go.Proofs.YtjdajlnigiicaaaDoor.Pure
end
section
namespace Go.Proofs.YtjdajlnigiicaaaDoorW.PrintMore
section
variable {H : Type} {enc : TypeId × Value → H}
theorem handed_laid {C : Checked} {os : Os} {f : FuncId} {fn : Func} {s : ChangeSpec} {apart fresh handsOn again : Bool} {X : World → Array Value → Prop}
    (own : ownKnob C.prog.godebug = none) (started : os.Started) (noInit : C.prog.inits.idxOf? f = none) (hfn : C.prog.funcs[f]? = some fn)
    (wit : ∃ (w : World) (tape : Tape) (i : Input), w.os = os ∧ (w.forCall tape i).Shaped C.prog ∧ i.vars = [] ∧ Input.okWide C.prog (w.forCall tape i) .any w.heap.size f i ∧
      ((s.pre enc C.prog fn [] apart (w.forCall tape i).memory i.args ∧ X (w.forCall tape i).memory i.args) ∧ sizedMet enc C.prog fn (OpenSpec.ofChange s) apart (w.forCall tape i).memory i.args) ∧ ({} : Assume).holds C.prog (lone (Frame.enter C.prog f i.args .normal) [] (w.forCall tape i)))
    (body : ∀ (W : World) (base : Nat) (args : Array Value) (ds gs : List (DataW H)) (before : List MemPlace), W.ShapedOpen C.prog →
      (∀ (j : Nat) t v, fn.params[j]? = some t → args[j]? = some v → Value.okWide C.prog W .any base t v) → DataW.Whole enc C.prog fn.params.toList s.vars apart W args.toList ds gs before →
      (DataW.weightsEach C.prog (fn.params.toList ++ s.plain.varTypes C.prog) (ds ++ gs)).all (· ≤ reachBytes) = true →
      Calls C.prog f args W fun e W' => ∃ v, e = .returned v ∧ s.post enc C.prog fn apart fresh handsOn again W args v W') :
    ReturnsInHanded {} C os f .any (fun w args => (s.pre enc C.prog fn [] apart w args ∧ X w args) ∧ sizedMet enc C.prog fn (OpenSpec.ofChange s) apart w args) (s.post enc C.prog fn apart fresh handsOn again) := by
  refine returnsInHanded_of_calls own started noInit wit fun w tape i _ shaped _ ok pre _ => ?_
  obtain ⟨_, _, _, g, hg, _, _, _, _, vals⟩ := ok
  obtain rfl : g = fn := Option.some.inj (hg.symm.trans hfn)
  obtain ⟨⟨⟨ds, gs, before, whole, _⟩, _⟩, sized⟩ := pre
  refine (body (w.forCall tape i) w.heap.size i.args ds gs before shaped vals (DataW.Whole.of_heap (w' := w.forCall tape i) (by rfl) whole) (sized.weights whole)).mono fun e W' h => ?_
  obtain ⟨v, rfl, post⟩ := h
  exact ChangeSpec.post_blind post
end
end Go.Proofs.YtjdajlnigiicaaaDoorW.PrintMore
end
section
namespace Go.Proofs.YtjdajlnigiicaaaDoor.weekBijection
open Go.ChangeShapes Go.WideShapes Go.ChangeAt Go.RowKit Go.Proofs.YtjdajlnigiicaaaDoorW.PrintWords Go.Proofs.YtjdajlnigiicaaaDoorW.PrintLast Go.Proofs.YtjdajlnigiicaaaDoorW.PrintMore Go.Proofs.YtjdajlnigiicaaaDoor.S
open Go.ChangeMaps (open_string shut_string)
set_option linter.unusedVariables false
theorem own : ownKnob Tryd.prog.godebug = none := by kernel_rfl
theorem laidOut : laidOutB Tryd.prog = true := by kernel_rfl
theorem doorMet (os : Os) (args : Array Value) : laidMetH Tryd.prog Rows.weekBijectionRow.laid ((World.doorLaid Tryd.prog 400 os).forCall (fun _ _ => 0) ⟨#[], args, []⟩).memory :=
  laidMetH_of_parts3 (fuel := 8) (laidMet_of_run' 8 (by kernel_rfl) (by kernel_rfl)) (by kernel_rfl) (by kernel_rfl)
set_option maxRecDepth 100000 in
theorem lifted (os : Os) (started : os.Started) (H : Type) (enc : TypeId × Value → H) :
    ReturnsInHanded {} Tryd.checked os 7 .any (fun w args => (Rows.weekBijectionSpec.pre enc Tryd.prog Tryd.f7 [] false w args ∧ laidMetH Tryd.prog Rows.weekBijectionRow.laid w) ∧ sizedMet enc Tryd.prog Tryd.f7 (OpenSpec.ofChange Rows.weekBijectionSpec) false w args) (Rows.weekBijectionSpec.post enc Tryd.prog Tryd.f7 false true false false) := by
  refine handed_laid (C := Tryd.checked) (X := fun w _ => laidMetH Tryd.prog Rows.weekBijectionRow.laid w) own started (by kernel_rfl) Tryd.func7
    (ChangeSpec.witness_at (enc := enc) (C := Tryd.checked) (os := os) (X := fun w _ => laidMetH Tryd.prog Rows.weekBijectionRow.laid w) false (World.doorLaid Tryd.prog 400 os) #[.agg #[.slice none 0 0, .slice none 0 0, .slice none 0 0, .slice none 0 0, .slice none 0 0]] 8 rfl (by kernel_rfl) (by kernel_rfl) (by kernel_rfl) (by kernel_rfl) (by kernel_rfl) (doorMet os _)) ?_
  intro W base args ds gs before hSh hval0 hW hsz0
  have hvok : Go.Proofs.YtjdajlnigiicaaaDoor.S.VOk W := Go.Proofs.cell_of_shapedOpen_int (zero := #[.int .i64 0]) (t := 3) hSh (of_decide_eq_true (by kernel_rfl)) (by kernel_rfl) rfl (by kernel_rfl) (by kernel_rfl) (Tryd.underlying3)
  have hsz : (DataW.weightsEach Tryd.prog (Tryd.f7.params.toList ++ Rows.weekBijectionSpec.plain.varTypes Tryd.prog) (ds ++ gs)).all (· ≤ reachBytes) = true := hsz0
  have hval : ∀ (j : Nat) t v, Tryd.f7.params[j]? = some t → args[j]? = some v → Value.okWide Tryd.prog W .any base t v := hval0
  have hW' := hW
  obtain ⟨p, q, hA0, hV, rfl, hfz, hnd⟩ := hW
  have hA : DataW.TrodAll enc Tryd.prog W 0 (fun _ => true) true Tryd.f7.params.toList args.toList ds p := hA0
  rw [Tryd.params7] at hA hval hsz
  obtain ⟨v0, vs0, d0, ds0, p0, q0, hargs, rfl, rfl, h0, r0⟩ := trodAll_cons hA
  obtain ⟨rfl, rfl, rfl⟩ := trodAll_nil r0
  obtain rfl : args = #[v0] := by cases args; simp_all
  obtain ⟨rfl, rfl⟩ := trodVars_none hV
  have k0 := h0
  have lt0 : ∀ x ∈ p0, x.block < W.heap.size := by obtain ⟨m, hm⟩ := k0; exact DataW.trod_lt m _ _ _ hm
  obtain ⟨x0, cs0, rfl, hK0, w0⟩ := arg_struct Tryd.underlying45 opens45 (hval 0 45 v0 rfl rfl) h0 (weights_arg hsz (j := 0) (t := 45) rfl rfl)
  obtain ⟨A0_0, c0_0, A0_1, c0_1, A0_2, c0_2, A0_3, c0_3, A0_4, c0_4, rfl, hc0_0, hr0_0, hc0_1, hr0_1, hc0_2, hr0_2, hc0_3, hr0_3, hc0_4, hr0_4⟩ := k45_open hK0
  clear hA0 hval0 hsz0 hsz
  obtain ⟨k, hp⟩ := Pure.WeekBijection x0 w0
  refine (chalklinelaw04_WeekBijection.calls k _ _ x0.f0 _ _ x0.f1 _ _ x0.f2 _ _ x0.f3 _ _ x0.f4 true W hr0_0 hc0_0 hr0_1 hc0_1 hr0_2 hc0_2 hr0_3 hc0_3 hr0_4 hc0_4 hvok hp).mono fun e W' ⟨he, bel⟩ => ?_
  subst he
  exact ⟨_, rfl, _, _, _, [], _, [], hW', trodAll_mk1 (shut_bool Tryd.underlying4 _), (trodAll_cons_mk (Below.trod laidOut (by kernel_rfl) (of_decide_eq_true (by kernel_rfl)) k0 bel lt0) trodAll_mk0), rfl, bel.frame _, fun h => by cases h⟩
theorem over : Rows.weekBijectionRow.holds Tryd.pinned (OpenSpec.ofChange Rows.weekBijectionSpec) :=
  OpenClaim.holds_of_wide 7 Tryd.f7 rfl rfl rfl rfl rfl rfl rfl ⟨rfl, rfl, rfl, rfl, rfl⟩ rfl rfl rfl rfl rfl (by kernel_rfl) Tryd.func7 (by kernel_rfl)
    (of_decide_eq_true (by kernel_rfl)) (by unfold Func.isWrapper; first | (rw [if_pos (by decide +kernel)]; kernel_rfl) | (rw [if_neg (by decide +kernel)]; exact ⟨rfl, rfl⟩))
    (fun os started H enc _ => lifted os started H enc)
theorem proved : Rows.WeekBijectionCardSaid :=
  Claim7.holds_tied_plain_at .later [] [.data, .data, .data] true (true, "36fc4f3a86905aad7713799fd1c9eed5db77de8e51cc8e00952f14451cb589a2") false over (fun _ h => by cases h) (by kernel_rfl) (fun _ h => by cases h) weekBijection_row_tie rfl ⟨rfl, rfl⟩ (by kernel_rfl) rfl
    (fun f fn hf hfn => by
      obtain rfl : f = 7 := Option.some.inj ((show Tryd.prog.funcNamed "chalkline/chalklinelaw04.WeekBijection" = some 7 by kernel_rfl).symm.trans hf) |>.symm
      obtain rfl : fn = Tryd.f7 := (Option.some.inj (Tryd.func7.symm.trans hfn)).symm
      exact ⟨by kernel_rfl, fun j t ht => by
        rw [Tryd.params7] at ht
        have hm : t ∈ [45] := by simpa using Array.mem_of_getElem? ht
        have hall : ([45].all fun u => !Tryd.prog.wantsStandIn u) = true := by kernel_rfl
        exact (show Tryd.prog.wantsStandIn t = false by simpa using List.all_eq_true.1 hall t hm)⟩)
    (by kernel_rfl)
#print axioms proved
end Go.Proofs.YtjdajlnigiicaaaDoor.weekBijection
namespace Go.Proofs.YtjdajlnigiicaaaDoor
theorem weekBijection_holds : Rows.WeekBijectionCardSaid := weekBijection.proved
end Go.Proofs.YtjdajlnigiicaaaDoor
end
