/- feedNewest_holds: part 5 of the proof: the plain functions, the walks of the program's functions and the laws about them. Conditions: those that each theorem states. -/
import Derived.Deep.Slices
import Derived.ChangeSame
import Derived.WideShapes
import Derived.OpenShut
import Derived.SizedLaws
import Derived.ProofKit
import Derived.WalkKit
import Derived.ShutString
import Derived.ChangeOld
import Derived.Below
import Derived.Test.YtfdhnmijaobbdaaNewest1
import Derived.Test.YtfdhnmijaobbdaaNewest2
import Derived.Test.YtfdhnmijaobbdaaNewest3
import Derived.Test.YtfdhnmijaobbdaaNewest4
section
namespace Go.Proofs.Ytfdhnmijaobbdaa.S
open Go.RowKit Go.Proofs.YtfdhnmijaobbdaaW.PrintWords Go.Proofs.YtfdhnmijaobbdaaW.PrintLast Go.Proofs.YtfdhnmijaobbdaaW.PrintMore
set_option linter.unusedVariables false
set_option linter.unusedSimpArgs false
set_option maxHeartbeats 8000000 in
set_option maxRecDepth 100000 in
theorem newest_pn (ad : Addr) (c0 : Nat) (l0 : List S52) (a1 a2 : Int) (w : World) (hr0 : Kd.C k52 w (some ad) l0.length l0) (hc0 : l0.length ≤ c0) (PF : Aside0 (chalklineref35_Few.f 1000 l0 = some true)) (PC : Aside0 (feed_Check.f 1000 l0 = some 0)) (d0 : ((wrap64 ((l0.length : Int) + 1)) == 0) = false) (d0' : ¬ (wrap64 ((l0.length : Int) + 1)) = 0) (PW : Aside0 (feed_Wish.f (Int.tmod (wrap64 a1) (wrap64 ((l0.length : Int) + 1))) (rd_T52 l0 (wrap64 ((Int.tmod (wrap64 a1) (wrap64 ((l0.length : Int) + 1))) - 1))).f1.f0 (Int.tmod (wrap64 a2) 8) = some (3, (Int.tmod (wrap64 a2) 8), 0, (Int.tmod (wrap64 a1) (wrap64 ((l0.length : Int) + 1))), [], []))) (d1 : decide (0 < (Int.tmod (wrap64 a1) (wrap64 ((l0.length : Int) + 1)))) = true) (d2 : ((Int.tmod (wrap64 a1) (wrap64 ((l0.length : Int) + 1))) == (l0.length : Int)) = true) (PR : Aside0 (feed_Reply.f 1000 l0 (Int.tmod (wrap64 a1) (wrap64 ((l0.length : Int) + 1))) (Int.tmod (wrap64 a2) 8) = some (0, 0, 0, 0, [], [], 341))) (p_kx : (0 ≤ (wrap64 ((Int.tmod (wrap64 a1) (wrap64 ((l0.length : Int) + 1))) - 1))) = True) (q_kx : ((wrap64 ((Int.tmod (wrap64 a1) (wrap64 ((l0.length : Int) + 1))) - 1)) < (l0.length : Int)) = True) (A1 : Option Addr) (c1 : Nat) (kx_0 : w.cell? (ad.add ((wrap64 ((Int.tmod (wrap64 a1) (wrap64 ((l0.length : Int) + 1))) - 1)).toNat * 4)) = some (.int .i64 (rd_T52 l0 (wrap64 ((Int.tmod (wrap64 a1) (wrap64 ((l0.length : Int) + 1))) - 1))).f0)) (kx_1 : w.cell? ⟨(ad.add ((wrap64 ((Int.tmod (wrap64 a1) (wrap64 ((l0.length : Int) + 1))) - 1)).toNat * 4)).block, (ad.add ((wrap64 ((Int.tmod (wrap64 a1) (wrap64 ((l0.length : Int) + 1))) - 1)).toNat * 4)).off + 1, none⟩ = some (.slice A1 (rd_T52 l0 (wrap64 ((Int.tmod (wrap64 a1) (wrap64 ((l0.length : Int) + 1))) - 1))).f1.f0.length c1)) (kx_2 : w.cell? ⟨(ad.add ((wrap64 ((Int.tmod (wrap64 a1) (wrap64 ((l0.length : Int) + 1))) - 1)).toNat * 4)).block, (ad.add ((wrap64 ((Int.tmod (wrap64 a1) (wrap64 ((l0.length : Int) + 1))) - 1)).toNat * 4)).off + 2, none⟩ = some (.int .i64 (rd_T52 l0 (wrap64 ((Int.tmod (wrap64 a1) (wrap64 ((l0.length : Int) + 1))) - 1))).f2)) (kx_3 : w.cell? ⟨(ad.add ((wrap64 ((Int.tmod (wrap64 a1) (wrap64 ((l0.length : Int) + 1))) - 1)).toNat * 4)).block, (ad.add ((wrap64 ((Int.tmod (wrap64 a1) (wrap64 ((l0.length : Int) + 1))) - 1)).toNat * 4)).off + 3, none⟩ = some (.bool (rd_T52 l0 (wrap64 ((Int.tmod (wrap64 a1) (wrap64 ((l0.length : Int) + 1))) - 1))).f3)) (HC1 : Aside0 ((rd_T52 l0 (wrap64 ((Int.tmod (wrap64 a1) (wrap64 ((l0.length : Int) + 1))) - 1))).f1.f0.length ≤ c1)) (HR1 : Aside0 (k60.C w A1 (rd_T52 l0 (wrap64 ((Int.tmod (wrap64 a1) (wrap64 ((l0.length : Int) + 1))) - 1))).f1.f0.length (rd_T52 l0 (wrap64 ((Int.tmod (wrap64 a1) (wrap64 ((l0.length : Int) + 1))) - 1))).f1.f0)) :
    Calls Try.prog 6 #[.slice (some ad) l0.length c0, .int .u8 a1, .int .u8 a2] w fun e w' => e = .returned (.bool true) ∧ Below w.heap.size w w' := by
  have HR0 := Aside0.mk hr0
  have HC0 := Aside0.mk hc0
  clear hr0 hc0
  have PL := Aside0.mk (show chalklinelaw35_live.f = some true from rfl)
  have hu22 := Try.underlying22
  have hu25 := Try.underlying25
  have hu27 := Try.underlying27
  have hu32 := Try.underlying32
  have hu52 := Try.underlying52
  have S := Aside0.mk (Below.refl w.heap.size w)
  go_enter Try.func6, Try.ntmps6
  go_wp2_with (first | ((with_reducible refine gate_dst (N := 13) rfl ?_); refine goesL_ (some 13) rfl rfl Try.func11 (by kernel_rfl) rfl #[] rfl (by (try simp only [List.map_toArray, List.map_cons, List.map_nil]); first | done | rfl) ?_; refine (chalklinelaw35_live.calls true _ PL.out).mono ?_; rintro e w1 ⟨rfl, hb⟩; refine ⟨_, rfl, ?_⟩; replace S := Aside0.mk (stab_step (P := (fun x_ => Below w.heap.size w x_)) (w := w) S.out (by repeat (first | exact Below.refl _ _ | apply pw_below_drewN | apply below_drew1 | apply below_alloc)) hb (by repeat' (with_reducible first | exact stab_blk _ _ | exact stab_C _ _ _ _ | exact stab_base _ | exact stab_R _ _ _ _ _ _ | refine stab_and ?_ ?_))); clear hb) | ((with_reducible refine gate_callee (f := 12) rfl ?_); refine goesL_ (some 16) rfl rfl Try.func12 (by kernel_rfl) rfl #[.slice (some ad) l0.length c0] rfl (by (try simp only [List.map_toArray, List.map_cons, List.map_nil]); first | done | rfl) ?_; refine (chalklineref35_Few.calls 1000 _ _ l0 true _ ?side1 ?side2 PF.out).mono ?_; (case side1 => exact Kd.C_below HR0.out (stab_now (P := (fun x_ => Below w.heap.size w x_)) (w := w1) S.out (by repeat (first | exact Below.refl _ _ | apply pw_below_drewN | apply below_drew1 | apply below_alloc)) (stab_base _))); (case side2 => exact HC0.out); rintro e w' ⟨rfl, ⟨nd, rfl⟩⟩; refine ⟨_, rfl, ?_⟩) | (go_at_call 16; refine (feed_Check.calls 1000 _ _ l0 0 _ ?side1 ?side2 PC.out).mono ?_; (case side1 => exact Kd.C_below HR0.out (stab_now (P := (fun x_ => Below w.heap.size w x_)) (w := w1) S.out (by repeat (first | exact Below.refl _ _ | apply pw_below_drewN | apply below_drew1 | apply below_alloc)) (stab_base _))); (case side2 => exact HC0.out); rintro e w2 ⟨rfl, hb⟩; replace S := Aside0.mk (stab_step (P := (fun x_ => Below w.heap.size w x_)) (w := w1) S.out (by repeat (first | exact Below.refl _ _ | apply pw_below_drewN | apply below_drew1 | apply below_alloc)) hb (by repeat' (with_reducible first | exact stab_blk _ _ | exact stab_C _ _ _ _ | exact stab_base _ | exact stab_R _ _ _ _ _ _ | refine stab_and ?_ ?_))); clear hb) | ((with_reducible refine gate_dst (N := 7) rfl ?_); refine var_event ?hg (N := 7) ?hd ?hg2 ?hn2 (z := #[.int .i64 0, .slice none 0 0]) (cs := #[.int .i64 (Int.tmod (wrap64 a1) (wrap64 ((l0.length : Int) + 1))), .slice none 0 0]) (T := 27) ?hr ?hs ?_; (case hg => rfl); (case hd => rfl); (case hg2 => rfl); (case hn2 => rfl); (case hr => first | (go_simp; done) | (go_simp; rfl)); (case hs => first | (go_simp; done) | (go_simp; rfl)); intro gc hg w3 hbox hb; have GEgc := Aside0.mk ((by rw [hg]; exact below_size (stab_now (P := (fun x_ => Below w.heap.size w x_)) (w := w2) S.out (by repeat (first | exact Below.refl _ _ | apply pw_below_drewN | apply below_drew1 | apply below_alloc)) (stab_base _))) : w.heap.size ≤ gc); clear hg; replace S := Aside0.mk (stab_step (P := (fun x_ => Below w.heap.size w x_)) (w := w2) S.out (by repeat (first | exact Below.refl _ _ | apply pw_below_drewN | apply below_drew1 | apply below_alloc)) hb (by repeat' (with_reducible first | exact stab_blk _ _ | exact stab_C _ _ _ _ | exact stab_base _ | exact stab_R _ _ _ _ _ _ | refine stab_and ?_ ?_))); clear hb; replace S := Aside0.mk (And.intro S.out (show w3.heap[gc]? = some (Obj.cells #[.int .i64 (Int.tmod (wrap64 a1) (wrap64 ((l0.length : Int) + 1))), .slice none 0 0] 27 (0, 0)) from hbox)); clear hbox; have hcz_gc_0 : World.cell? w3 ⟨gc, 0, none⟩ = some (.int .i64 (Int.tmod (wrap64 a1) (wrap64 ((l0.length : Int) + 1)))) := (blk_cell S.out.2 0).trans rfl; have hcz_gc_1 : World.cell? w3 ⟨gc, 1, none⟩ = some (.slice none 0 0) := (blk_cell S.out.2 1).trans rfl; have hfz_gc_0 := blk_frozen S.out.2 0; have hfz_gc_1 := blk_frozen S.out.2 1; have hx_kx_0 := ((stab_now (P := (fun x_ => Below w.heap.size w x_)) (w := w3) S.out.1 (Below.refl _ _) (stab_base _)).cell (World.block_lt_of_cell? w _ kx_0)).trans kx_0; have hx_kx_1 := ((stab_now (P := (fun x_ => Below w.heap.size w x_)) (w := w3) S.out.1 (Below.refl _ _) (stab_base _)).cell (World.block_lt_of_cell? w _ kx_1)).trans kx_1; have hx_kx_2 := ((stab_now (P := (fun x_ => Below w.heap.size w x_)) (w := w3) S.out.1 (Below.refl _ _) (stab_base _)).cell (World.block_lt_of_cell? w _ kx_2)).trans kx_2; have hx_kx_3 := ((stab_now (P := (fun x_ => Below w.heap.size w x_)) (w := w3) S.out.1 (Below.refl _ _) (stab_base _)).cell (World.block_lt_of_cell? w _ kx_3)).trans kx_3) | ((with_reducible refine gate_dst (N := 45) rfl ?_); refine goesL_ (some 45) rfl rfl Try.func18 (by kernel_rfl) rfl #[.agg #[.int .i64 (Int.tmod (wrap64 a1) (wrap64 ((l0.length : Int) + 1))), .slice A1 (rd_T52 l0 (wrap64 ((Int.tmod (wrap64 a1) (wrap64 ((l0.length : Int) + 1))) - 1))).f1.f0.length c1], .int .i64 (Int.tmod (wrap64 a2) 8)] rfl (by (try simp only [List.map_toArray, List.map_cons, List.map_nil]); first | done | rfl) ?_; refine (feed_Wish.calls _ _ _ (rd_T52 l0 (wrap64 ((Int.tmod (wrap64 a1) (wrap64 ((l0.length : Int) + 1))) - 1))).f1.f0 _ _ _ _ _ _ _ _ ?side1 ?side2 PW.out).mono ?_; (case side1 => exact Kd.C_below HR1.out (by repeat (first | (with_reducible first | exact S.out.1 | apply below_alloc | apply pw_below_drewN | apply below_drew1 | refine below_set ?_ GEgc.out) | exact S.out.1))); (case side2 => exact HC1.out); rintro e w5 ⟨vf4, vf5, rfl, ho0, ho1, hb⟩; refine ⟨_, rfl, ?_⟩; obtain ⟨Af4, cf4, e0, hlcf4, hC0⟩ := Kd.R_reads ho0; subst e0; have HLcf4 := Aside0.mk hlcf4; clear hlcf4 ho0; obtain ⟨Af5, cf5, e1, hlcf5, hC1⟩ := Kd.R_reads ho1; subst e1; have HLcf5 := Aside0.mk hlcf5; clear hlcf5 ho1; have SB := Aside0.mk (below_step (by repeat (first | (with_reducible first | exact S.out.1 | apply below_alloc | apply pw_below_drewN | apply below_drew1 | refine below_set ?_ GEgc.out) | exact S.out.1)) hb); have SK := Aside0.mk (show w5.heap[gc]? = some (Obj.cells #[.int .i64 (Int.tmod (wrap64 a1) (wrap64 ((l0.length : Int) + 1))), .slice A1 (rd_T52 l0 (wrap64 ((Int.tmod (wrap64 a1) (wrap64 ((l0.length : Int) + 1))) - 1))).f1.f0.length c1] 27 (0, 0)) from blk_below (by (with_reducible repeat (first | refine blk_drewN ?_ _ | refine blk_drew ?_ | refine blk_alloc ?_ _)); refine blk_put (cs := #[.int .i64 (Int.tmod (wrap64 a1) (wrap64 ((l0.length : Int) + 1))), .slice none 0 0]) ?_ 1 _ rfl; (with_reducible repeat (first | refine blk_drewN ?_ _ | refine blk_drew ?_ | refine blk_alloc ?_ _)); exact S.out.2) hb); clear S; have S := Aside0.mk (And.intro SB.out SK.out); clear SB SK hb; (try clear hcz_gc_0); (try clear hcz_gc_1); (try clear hx_kx_0); (try clear hx_kx_1); (try clear hx_kx_2); (try clear hx_kx_3); (try clear hfz_gc_0); (try clear hfz_gc_1); replace S := Aside0.mk (And.intro S.out (show Kd.C k60 w5 Af4 ([] : List _).length [] from hC0)); clear hC0; replace S := Aside0.mk (And.intro S.out (show Kd.C k64 w5 Af5 ([] : List _).length [] from hC1)); clear hC1) | ((with_reducible refine gate_dst (N := 8) rfl ?_); refine var_event ?hg (N := 8) ?hd ?hg2 ?hn2 (z := #[.int .i64 0, .int .i64 0, .int .i64 0, .int .i64 0, .slice none 0 0, .slice none 0 0]) (cs := #[.int .i64 3, .int .i64 (Int.tmod (wrap64 a2) 8), .int .i64 0, .int .i64 (Int.tmod (wrap64 a1) (wrap64 ((l0.length : Int) + 1))), .slice Af4 0 cf4, .slice Af5 0 cf5]) (T := 32) ?hr ?hs ?_; (case hg => rfl); (case hd => rfl); (case hg2 => rfl); (case hn2 => rfl); (case hr => first | (go_simp; done) | (go_simp; rfl)); (case hs => first | (go_simp; done) | (go_simp; rfl)); intro gw hg w6 hbox hb; clear hg; replace S := Aside0.mk (stab_step (P := (fun x_ => (((Below w.heap.size w x_) ∧ x_.heap[gc]? = some (Obj.cells #[.int .i64 (Int.tmod (wrap64 a1) (wrap64 ((l0.length : Int) + 1))), .slice A1 (rd_T52 l0 (wrap64 ((Int.tmod (wrap64 a1) (wrap64 ((l0.length : Int) + 1))) - 1))).f1.f0.length c1] 27 (0, 0))) ∧ Kd.C k60 x_ Af4 ([] : List _).length []) ∧ Kd.C k64 x_ Af5 ([] : List _).length [])) (w := w5) S.out (by repeat (first | exact Below.refl _ _ | apply pw_below_drewN | apply below_drew1 | apply below_alloc)) hb (by repeat' (with_reducible first | exact stab_blk _ _ | exact stab_C _ _ _ _ | exact stab_base _ | exact stab_R _ _ _ _ _ _ | refine stab_and ?_ ?_))); clear hb; replace S := Aside0.mk (And.intro S.out (show w6.heap[gw]? = some (Obj.cells #[.int .i64 3, .int .i64 (Int.tmod (wrap64 a2) 8), .int .i64 0, .int .i64 (Int.tmod (wrap64 a1) (wrap64 ((l0.length : Int) + 1))), .slice Af4 0 cf4, .slice Af5 0 cf5] 32 (0, 0)) from hbox)); clear hbox; have hcz_gw_0 : World.cell? w6 ⟨gw, 0, none⟩ = some (.int .i64 3) := (blk_cell S.out.2 0).trans rfl; have hcz_gw_1 : World.cell? w6 ⟨gw, 1, none⟩ = some (.int .i64 (Int.tmod (wrap64 a2) 8)) := (blk_cell S.out.2 1).trans rfl; have hcz_gw_2 : World.cell? w6 ⟨gw, 2, none⟩ = some (.int .i64 0) := (blk_cell S.out.2 2).trans rfl; have hcz_gw_3 : World.cell? w6 ⟨gw, 3, none⟩ = some (.int .i64 (Int.tmod (wrap64 a1) (wrap64 ((l0.length : Int) + 1)))) := (blk_cell S.out.2 3).trans rfl; have hcz_gw_4 : World.cell? w6 ⟨gw, 4, none⟩ = some (.slice Af4 0 cf4) := (blk_cell S.out.2 4).trans rfl; have hcz_gw_5 : World.cell? w6 ⟨gw, 5, none⟩ = some (.slice Af5 0 cf5) := (blk_cell S.out.2 5).trans rfl) | ((with_reducible refine gate_dst (N := 52) rfl ?_); refine goesL_ (some 52) rfl rfl Try.func13 (by kernel_rfl) rfl #[.slice (some ad) l0.length c0, .int .i64 (Int.tmod (wrap64 a1) (wrap64 ((l0.length : Int) + 1))), .int .i64 (Int.tmod (wrap64 a2) 8)] rfl (by (try simp only [List.map_toArray, List.map_cons, List.map_nil]); first | done | rfl) ?_; refine (feed_Reply.calls 1000 _ _ l0 (Int.tmod (wrap64 a1) (wrap64 ((l0.length : Int) + 1))) (Int.tmod (wrap64 a2) 8) _ _ _ _ _ _ _ _ ?side1 ?side2 PR.out).mono ?_; (case side1 => exact Kd.C_below HR0.out (stab_now (P := (fun x_ => Below w.heap.size w x_)) (w := w6) S.out.1.1.1.1 (by repeat (first | exact Below.refl _ _ | apply pw_below_drewN | apply below_drew1 | apply below_alloc)) (stab_base _))); (case side2 => exact HC0.out); rintro e w7 ⟨vd4, vd5, rfl, ho0, ho1, hb⟩; refine ⟨_, rfl, ?_⟩; obtain ⟨Ad4, cd4, e0, hlcd4, hC0⟩ := Kd.R_reads ho0; subst e0; have HLcd4 := Aside0.mk hlcd4; clear hlcd4 ho0; obtain ⟨Ad5, cd5, e1, hlcd5, hC1⟩ := Kd.R_reads ho1; subst e1; have HLcd5 := Aside0.mk hlcd5; clear hlcd5 ho1; replace S := Aside0.mk (stab_step (P := (fun x_ => ((((Below w.heap.size w x_) ∧ x_.heap[gc]? = some (Obj.cells #[.int .i64 (Int.tmod (wrap64 a1) (wrap64 ((l0.length : Int) + 1))), .slice A1 (rd_T52 l0 (wrap64 ((Int.tmod (wrap64 a1) (wrap64 ((l0.length : Int) + 1))) - 1))).f1.f0.length c1] 27 (0, 0))) ∧ Kd.C k60 x_ Af4 ([] : List _).length []) ∧ Kd.C k64 x_ Af5 ([] : List _).length []) ∧ x_.heap[gw]? = some (Obj.cells #[.int .i64 3, .int .i64 (Int.tmod (wrap64 a2) 8), .int .i64 0, .int .i64 (Int.tmod (wrap64 a1) (wrap64 ((l0.length : Int) + 1))), .slice Af4 0 cf4, .slice Af5 0 cf5] 32 (0, 0)))) (w := w6) S.out (by repeat (first | exact Below.refl _ _ | apply pw_below_drewN | apply below_drew1 | apply below_alloc)) hb (by repeat' (with_reducible first | exact stab_blk _ _ | exact stab_C _ _ _ _ | exact stab_base _ | exact stab_R _ _ _ _ _ _ | refine stab_and ?_ ?_))); clear hb; (try clear hcz_gw_0); (try clear hcz_gw_1); (try clear hcz_gw_2); (try clear hcz_gw_3); (try clear hcz_gw_4); (try clear hcz_gw_5); replace S := Aside0.mk (And.intro S.out (show Kd.C k60 w7 Ad4 (([] : List S60) : List _).length ([] : List S60) from hC0)); clear hC0; replace S := Aside0.mk (And.intro S.out (show Kd.C k64 w7 Ad5 (([] : List S64) : List _).length ([] : List S64) from hC1)); clear hC1) | ((with_reducible refine gate_dst (N := 9) rfl ?_); refine var_event ?hg (N := 9) ?hd ?hg2 ?hn2 (z := #[.int .i64 0, .int .i64 0, .int .i64 0, .int .i64 0, .slice none 0 0, .slice none 0 0]) (cs := #[.int .i64 0, .int .i64 0, .int .i64 0, .int .i64 0, .slice Ad4 0 cd4, .slice Ad5 0 cd5]) (T := 32) ?hr ?hs ?_; (case hg => rfl); (case hd => rfl); (case hg2 => rfl); (case hn2 => rfl); (case hr => first | (go_simp; done) | (go_simp; rfl)); (case hs => first | (go_simp; done) | (go_simp; rfl)); intro gm hg w8 hbox hb; clear hg; replace S := Aside0.mk (stab_step (P := (fun x_ => ((((((Below w.heap.size w x_) ∧ x_.heap[gc]? = some (Obj.cells #[.int .i64 (Int.tmod (wrap64 a1) (wrap64 ((l0.length : Int) + 1))), .slice A1 (rd_T52 l0 (wrap64 ((Int.tmod (wrap64 a1) (wrap64 ((l0.length : Int) + 1))) - 1))).f1.f0.length c1] 27 (0, 0))) ∧ Kd.C k60 x_ Af4 ([] : List _).length []) ∧ Kd.C k64 x_ Af5 ([] : List _).length []) ∧ x_.heap[gw]? = some (Obj.cells #[.int .i64 3, .int .i64 (Int.tmod (wrap64 a2) 8), .int .i64 0, .int .i64 (Int.tmod (wrap64 a1) (wrap64 ((l0.length : Int) + 1))), .slice Af4 0 cf4, .slice Af5 0 cf5] 32 (0, 0))) ∧ Kd.C k60 x_ Ad4 (([] : List S60) : List _).length ([] : List S60)) ∧ Kd.C k64 x_ Ad5 (([] : List S64) : List _).length ([] : List S64))) (w := w7) S.out (by repeat (first | exact Below.refl _ _ | apply pw_below_drewN | apply below_drew1 | apply below_alloc)) hb (by repeat' (with_reducible first | exact stab_blk _ _ | exact stab_C _ _ _ _ | exact stab_base _ | exact stab_R _ _ _ _ _ _ | refine stab_and ?_ ?_))); clear hb; replace S := Aside0.mk (And.intro S.out (show w8.heap[gm]? = some (Obj.cells #[.int .i64 0, .int .i64 0, .int .i64 0, .int .i64 0, .slice Ad4 0 cd4, .slice Ad5 0 cd5] 32 (0, 0)) from hbox)); clear hbox; have hcz_gc_0 : World.cell? w8 ⟨gc, 0, none⟩ = some (.int .i64 (Int.tmod (wrap64 a1) (wrap64 ((l0.length : Int) + 1)))) := (blk_cell S.out.1.1.1.1.1.1.2 0).trans rfl; have hcz_gc_1 : World.cell? w8 ⟨gc, 1, none⟩ = some (.slice A1 (rd_T52 l0 (wrap64 ((Int.tmod (wrap64 a1) (wrap64 ((l0.length : Int) + 1))) - 1))).f1.f0.length c1) := (blk_cell S.out.1.1.1.1.1.1.2 1).trans rfl; have hcz_gm_0 : World.cell? w8 ⟨gm, 0, none⟩ = some (.int .i64 0) := (blk_cell S.out.2 0).trans rfl; have hcz_gm_1 : World.cell? w8 ⟨gm, 1, none⟩ = some (.int .i64 0) := (blk_cell S.out.2 1).trans rfl; have hcz_gm_2 : World.cell? w8 ⟨gm, 2, none⟩ = some (.int .i64 0) := (blk_cell S.out.2 2).trans rfl; have hcz_gm_3 : World.cell? w8 ⟨gm, 3, none⟩ = some (.int .i64 0) := (blk_cell S.out.2 3).trans rfl; have hcz_gm_4 : World.cell? w8 ⟨gm, 4, none⟩ = some (.slice Ad4 0 cd4) := (blk_cell S.out.2 4).trans rfl; have hcz_gm_5 : World.cell? w8 ⟨gm, 5, none⟩ = some (.slice Ad5 0 cd5) := (blk_cell S.out.2 5).trans rfl))
  go_ret
  exact ⟨rfl, stab_now (P := (fun x_ => Below w.heap.size w x_)) (w := w8) S.out.1.1.1.1.1.1.1 (by repeat (first | exact Below.refl _ _ | apply pw_below_drewN | apply below_drew1 | apply below_alloc)) (stab_base _)⟩
set_option maxHeartbeats 8000000 in
set_option maxRecDepth 100000 in
theorem newest_po (ad : Addr) (c0 : Nat) (l0 : List S52) (a1 a2 : Int) (w : World) (hr0 : Kd.C k52 w (some ad) l0.length l0) (hc0 : l0.length ≤ c0) (PF : Aside0 (chalklineref35_Few.f 1000 l0 = some true)) (PC : Aside0 (feed_Check.f 1000 l0 = some 0)) (d0 : ((wrap64 ((l0.length : Int) + 1)) == 0) = false) (d0' : ¬ (wrap64 ((l0.length : Int) + 1)) = 0) (PW : Aside0 (feed_Wish.f (Int.tmod (wrap64 a1) (wrap64 ((l0.length : Int) + 1))) (rd_T52 l0 (wrap64 ((Int.tmod (wrap64 a1) (wrap64 ((l0.length : Int) + 1))) - 1))).f1.f0 (Int.tmod (wrap64 a2) 8) = some (3, (Int.tmod (wrap64 a2) 8), 0, (Int.tmod (wrap64 a1) (wrap64 ((l0.length : Int) + 1))), [], []))) (d1 : decide (0 < (Int.tmod (wrap64 a1) (wrap64 ((l0.length : Int) + 1)))) = true) (d2 : ((Int.tmod (wrap64 a1) (wrap64 ((l0.length : Int) + 1))) == (l0.length : Int)) = false) (m0 m2 m3 : Int) (l4 : List S60) (l5 : List S64) (PR : Aside0 (feed_Reply.f 1000 l0 (Int.tmod (wrap64 a1) (wrap64 ((l0.length : Int) + 1))) (Int.tmod (wrap64 a2) 8) = some (m0, (Int.tmod (wrap64 a2) 8), m2, m3, l4, l5, 0))) (PT : Aside0 (feed_Take.f 1000 (Int.tmod (wrap64 a1) (wrap64 ((l0.length : Int) + 1))) (rd_T52 l0 (wrap64 ((Int.tmod (wrap64 a1) (wrap64 ((l0.length : Int) + 1))) - 1))).f1.f0 m0 (Int.tmod (wrap64 a2) 8) m2 m3 l4 l5 = some ((l0.length : Int), (lastOf l0).f1.f0, 0))) (PE : Aside0 (chalklineref35_Clients.f 1000 (l0.length : Int) (lastOf l0).f1.f0 (l0.length : Int) (rd_T52 l0 (wrap64 ((l0.length : Int) - 1))).f1.f0 = some true)) (d3 : ((Int.tmod (wrap64 a2) 8) == (Int.tmod (wrap64 a2) 8)) = true) (p_kx : (0 ≤ (wrap64 ((Int.tmod (wrap64 a1) (wrap64 ((l0.length : Int) + 1))) - 1))) = True) (q_kx : ((wrap64 ((Int.tmod (wrap64 a1) (wrap64 ((l0.length : Int) + 1))) - 1)) < (l0.length : Int)) = True) (A1 : Option Addr) (c1 : Nat) (kx_0 : w.cell? (ad.add ((wrap64 ((Int.tmod (wrap64 a1) (wrap64 ((l0.length : Int) + 1))) - 1)).toNat * 4)) = some (.int .i64 (rd_T52 l0 (wrap64 ((Int.tmod (wrap64 a1) (wrap64 ((l0.length : Int) + 1))) - 1))).f0)) (kx_1 : w.cell? ⟨(ad.add ((wrap64 ((Int.tmod (wrap64 a1) (wrap64 ((l0.length : Int) + 1))) - 1)).toNat * 4)).block, (ad.add ((wrap64 ((Int.tmod (wrap64 a1) (wrap64 ((l0.length : Int) + 1))) - 1)).toNat * 4)).off + 1, none⟩ = some (.slice A1 (rd_T52 l0 (wrap64 ((Int.tmod (wrap64 a1) (wrap64 ((l0.length : Int) + 1))) - 1))).f1.f0.length c1)) (kx_2 : w.cell? ⟨(ad.add ((wrap64 ((Int.tmod (wrap64 a1) (wrap64 ((l0.length : Int) + 1))) - 1)).toNat * 4)).block, (ad.add ((wrap64 ((Int.tmod (wrap64 a1) (wrap64 ((l0.length : Int) + 1))) - 1)).toNat * 4)).off + 2, none⟩ = some (.int .i64 (rd_T52 l0 (wrap64 ((Int.tmod (wrap64 a1) (wrap64 ((l0.length : Int) + 1))) - 1))).f2)) (kx_3 : w.cell? ⟨(ad.add ((wrap64 ((Int.tmod (wrap64 a1) (wrap64 ((l0.length : Int) + 1))) - 1)).toNat * 4)).block, (ad.add ((wrap64 ((Int.tmod (wrap64 a1) (wrap64 ((l0.length : Int) + 1))) - 1)).toNat * 4)).off + 3, none⟩ = some (.bool (rd_T52 l0 (wrap64 ((Int.tmod (wrap64 a1) (wrap64 ((l0.length : Int) + 1))) - 1))).f3)) (HC1 : Aside0 ((rd_T52 l0 (wrap64 ((Int.tmod (wrap64 a1) (wrap64 ((l0.length : Int) + 1))) - 1))).f1.f0.length ≤ c1)) (HR1 : Aside0 (k60.C w A1 (rd_T52 l0 (wrap64 ((Int.tmod (wrap64 a1) (wrap64 ((l0.length : Int) + 1))) - 1))).f1.f0.length (rd_T52 l0 (wrap64 ((Int.tmod (wrap64 a1) (wrap64 ((l0.length : Int) + 1))) - 1))).f1.f0)) (p2 : (0 ≤ (wrap64 ((l0.length : Int) - 1))) = True) (q2 : ((wrap64 ((l0.length : Int) - 1)) < (l0.length : Int)) = True) (A2 : Option Addr) (c2 : Nat) (lx_0 : w.cell? (ad.add ((wrap64 ((l0.length : Int) - 1)).toNat * 4)) = some (.int .i64 (rd_T52 l0 (wrap64 ((l0.length : Int) - 1))).f0)) (lx_1 : w.cell? ⟨(ad.add ((wrap64 ((l0.length : Int) - 1)).toNat * 4)).block, (ad.add ((wrap64 ((l0.length : Int) - 1)).toNat * 4)).off + 1, none⟩ = some (.slice A2 (rd_T52 l0 (wrap64 ((l0.length : Int) - 1))).f1.f0.length c2)) (lx_2 : w.cell? ⟨(ad.add ((wrap64 ((l0.length : Int) - 1)).toNat * 4)).block, (ad.add ((wrap64 ((l0.length : Int) - 1)).toNat * 4)).off + 2, none⟩ = some (.int .i64 (rd_T52 l0 (wrap64 ((l0.length : Int) - 1))).f2)) (lx_3 : w.cell? ⟨(ad.add ((wrap64 ((l0.length : Int) - 1)).toNat * 4)).block, (ad.add ((wrap64 ((l0.length : Int) - 1)).toNat * 4)).off + 3, none⟩ = some (.bool (rd_T52 l0 (wrap64 ((l0.length : Int) - 1))).f3)) (HC2 : Aside0 ((rd_T52 l0 (wrap64 ((l0.length : Int) - 1))).f1.f0.length ≤ c2)) (HR2 : Aside0 (k60.C w A2 (rd_T52 l0 (wrap64 ((l0.length : Int) - 1))).f1.f0.length (rd_T52 l0 (wrap64 ((l0.length : Int) - 1))).f1.f0)) :
    Calls Try.prog 6 #[.slice (some ad) l0.length c0, .int .u8 a1, .int .u8 a2] w fun e w' => e = .returned (.bool true) ∧ Below w.heap.size w w' := by
  have HR0 := Aside0.mk hr0
  have HC0 := Aside0.mk hc0
  clear hr0 hc0
  have PL := Aside0.mk (show chalklinelaw35_live.f = some true from rfl)
  have hu22 := Try.underlying22
  have hu25 := Try.underlying25
  have hu27 := Try.underlying27
  have hu32 := Try.underlying32
  have hu52 := Try.underlying52
  have S := Aside0.mk (Below.refl w.heap.size w)
  go_enter Try.func6, Try.ntmps6
  go_wp2_with (first | ((with_reducible refine gate_dst (N := 13) rfl ?_); refine goesL_ (some 13) rfl rfl Try.func11 (by kernel_rfl) rfl #[] rfl (by (try simp only [List.map_toArray, List.map_cons, List.map_nil]); first | done | rfl) ?_; refine (chalklinelaw35_live.calls true _ PL.out).mono ?_; rintro e w1 ⟨rfl, hb⟩; refine ⟨_, rfl, ?_⟩; replace S := Aside0.mk (stab_step (P := (fun x_ => Below w.heap.size w x_)) (w := w) S.out (by repeat (first | exact Below.refl _ _ | apply pw_below_drewN | apply below_drew1 | apply below_alloc)) hb (by repeat' (with_reducible first | exact stab_blk _ _ | exact stab_C _ _ _ _ | exact stab_base _ | exact stab_R _ _ _ _ _ _ | refine stab_and ?_ ?_))); clear hb) | ((with_reducible refine gate_callee (f := 12) rfl ?_); refine goesL_ (some 16) rfl rfl Try.func12 (by kernel_rfl) rfl #[.slice (some ad) l0.length c0] rfl (by (try simp only [List.map_toArray, List.map_cons, List.map_nil]); first | done | rfl) ?_; refine (chalklineref35_Few.calls 1000 _ _ l0 true _ ?side1 ?side2 PF.out).mono ?_; (case side1 => exact Kd.C_below HR0.out (stab_now (P := (fun x_ => Below w.heap.size w x_)) (w := w1) S.out (by repeat (first | exact Below.refl _ _ | apply pw_below_drewN | apply below_drew1 | apply below_alloc)) (stab_base _))); (case side2 => exact HC0.out); rintro e w' ⟨rfl, ⟨nd, rfl⟩⟩; refine ⟨_, rfl, ?_⟩) | (go_at_call 16; refine (feed_Check.calls 1000 _ _ l0 0 _ ?side1 ?side2 PC.out).mono ?_; (case side1 => exact Kd.C_below HR0.out (stab_now (P := (fun x_ => Below w.heap.size w x_)) (w := w1) S.out (by repeat (first | exact Below.refl _ _ | apply pw_below_drewN | apply below_drew1 | apply below_alloc)) (stab_base _))); (case side2 => exact HC0.out); rintro e w2 ⟨rfl, hb⟩; replace S := Aside0.mk (stab_step (P := (fun x_ => Below w.heap.size w x_)) (w := w1) S.out (by repeat (first | exact Below.refl _ _ | apply pw_below_drewN | apply below_drew1 | apply below_alloc)) hb (by repeat' (with_reducible first | exact stab_blk _ _ | exact stab_C _ _ _ _ | exact stab_base _ | exact stab_R _ _ _ _ _ _ | refine stab_and ?_ ?_))); clear hb) | ((with_reducible refine gate_dst (N := 7) rfl ?_); refine var_event ?hg (N := 7) ?hd ?hg2 ?hn2 (z := #[.int .i64 0, .slice none 0 0]) (cs := #[.int .i64 (Int.tmod (wrap64 a1) (wrap64 ((l0.length : Int) + 1))), .slice none 0 0]) (T := 27) ?hr ?hs ?_; (case hg => rfl); (case hd => rfl); (case hg2 => rfl); (case hn2 => rfl); (case hr => first | (go_simp; done) | (go_simp; rfl)); (case hs => first | (go_simp; done) | (go_simp; rfl)); intro gc hg w3 hbox hb; have GEgc := Aside0.mk ((by rw [hg]; exact below_size (stab_now (P := (fun x_ => Below w.heap.size w x_)) (w := w2) S.out (by repeat (first | exact Below.refl _ _ | apply pw_below_drewN | apply below_drew1 | apply below_alloc)) (stab_base _))) : w.heap.size ≤ gc); clear hg; replace S := Aside0.mk (stab_step (P := (fun x_ => Below w.heap.size w x_)) (w := w2) S.out (by repeat (first | exact Below.refl _ _ | apply pw_below_drewN | apply below_drew1 | apply below_alloc)) hb (by repeat' (with_reducible first | exact stab_blk _ _ | exact stab_C _ _ _ _ | exact stab_base _ | exact stab_R _ _ _ _ _ _ | refine stab_and ?_ ?_))); clear hb; replace S := Aside0.mk (And.intro S.out (show w3.heap[gc]? = some (Obj.cells #[.int .i64 (Int.tmod (wrap64 a1) (wrap64 ((l0.length : Int) + 1))), .slice none 0 0] 27 (0, 0)) from hbox)); clear hbox; have hcz_gc_0 : World.cell? w3 ⟨gc, 0, none⟩ = some (.int .i64 (Int.tmod (wrap64 a1) (wrap64 ((l0.length : Int) + 1)))) := (blk_cell S.out.2 0).trans rfl; have hcz_gc_1 : World.cell? w3 ⟨gc, 1, none⟩ = some (.slice none 0 0) := (blk_cell S.out.2 1).trans rfl; have hfz_gc_0 := blk_frozen S.out.2 0; have hfz_gc_1 := blk_frozen S.out.2 1; have hx_kx_0 := ((stab_now (P := (fun x_ => Below w.heap.size w x_)) (w := w3) S.out.1 (Below.refl _ _) (stab_base _)).cell (World.block_lt_of_cell? w _ kx_0)).trans kx_0; have hx_kx_1 := ((stab_now (P := (fun x_ => Below w.heap.size w x_)) (w := w3) S.out.1 (Below.refl _ _) (stab_base _)).cell (World.block_lt_of_cell? w _ kx_1)).trans kx_1; have hx_kx_2 := ((stab_now (P := (fun x_ => Below w.heap.size w x_)) (w := w3) S.out.1 (Below.refl _ _) (stab_base _)).cell (World.block_lt_of_cell? w _ kx_2)).trans kx_2; have hx_kx_3 := ((stab_now (P := (fun x_ => Below w.heap.size w x_)) (w := w3) S.out.1 (Below.refl _ _) (stab_base _)).cell (World.block_lt_of_cell? w _ kx_3)).trans kx_3) | ((with_reducible refine gate_dst (N := 45) rfl ?_); refine goesL_ (some 45) rfl rfl Try.func18 (by kernel_rfl) rfl #[.agg #[.int .i64 (Int.tmod (wrap64 a1) (wrap64 ((l0.length : Int) + 1))), .slice A1 (rd_T52 l0 (wrap64 ((Int.tmod (wrap64 a1) (wrap64 ((l0.length : Int) + 1))) - 1))).f1.f0.length c1], .int .i64 (Int.tmod (wrap64 a2) 8)] rfl (by (try simp only [List.map_toArray, List.map_cons, List.map_nil]); first | done | rfl) ?_; refine (feed_Wish.calls _ _ _ (rd_T52 l0 (wrap64 ((Int.tmod (wrap64 a1) (wrap64 ((l0.length : Int) + 1))) - 1))).f1.f0 _ _ _ _ _ _ _ _ ?side1 ?side2 PW.out).mono ?_; (case side1 => exact Kd.C_below HR1.out (by repeat (first | (with_reducible first | exact S.out.1 | apply below_alloc | apply pw_below_drewN | apply below_drew1 | refine below_set ?_ GEgc.out) | exact S.out.1))); (case side2 => exact HC1.out); rintro e w5 ⟨vf4, vf5, rfl, ho0, ho1, hb⟩; refine ⟨_, rfl, ?_⟩; obtain ⟨Af4, cf4, e0, hlcf4, hC0⟩ := Kd.R_reads ho0; subst e0; have HLcf4 := Aside0.mk hlcf4; clear hlcf4 ho0; obtain ⟨Af5, cf5, e1, hlcf5, hC1⟩ := Kd.R_reads ho1; subst e1; have HLcf5 := Aside0.mk hlcf5; clear hlcf5 ho1; have SB := Aside0.mk (below_step (by repeat (first | (with_reducible first | exact S.out.1 | apply below_alloc | apply pw_below_drewN | apply below_drew1 | refine below_set ?_ GEgc.out) | exact S.out.1)) hb); have SK := Aside0.mk (show w5.heap[gc]? = some (Obj.cells #[.int .i64 (Int.tmod (wrap64 a1) (wrap64 ((l0.length : Int) + 1))), .slice A1 (rd_T52 l0 (wrap64 ((Int.tmod (wrap64 a1) (wrap64 ((l0.length : Int) + 1))) - 1))).f1.f0.length c1] 27 (0, 0)) from blk_below (by (with_reducible repeat (first | refine blk_drewN ?_ _ | refine blk_drew ?_ | refine blk_alloc ?_ _)); refine blk_put (cs := #[.int .i64 (Int.tmod (wrap64 a1) (wrap64 ((l0.length : Int) + 1))), .slice none 0 0]) ?_ 1 _ rfl; (with_reducible repeat (first | refine blk_drewN ?_ _ | refine blk_drew ?_ | refine blk_alloc ?_ _)); exact S.out.2) hb); clear S; have S := Aside0.mk (And.intro SB.out SK.out); clear SB SK hb; (try clear hcz_gc_0); (try clear hcz_gc_1); (try clear hx_kx_0); (try clear hx_kx_1); (try clear hx_kx_2); (try clear hx_kx_3); (try clear hfz_gc_0); (try clear hfz_gc_1); replace S := Aside0.mk (And.intro S.out (show Kd.C k60 w5 Af4 ([] : List _).length [] from hC0)); clear hC0; replace S := Aside0.mk (And.intro S.out (show Kd.C k64 w5 Af5 ([] : List _).length [] from hC1)); clear hC1) | ((with_reducible refine gate_dst (N := 8) rfl ?_); refine var_event ?hg (N := 8) ?hd ?hg2 ?hn2 (z := #[.int .i64 0, .int .i64 0, .int .i64 0, .int .i64 0, .slice none 0 0, .slice none 0 0]) (cs := #[.int .i64 3, .int .i64 (Int.tmod (wrap64 a2) 8), .int .i64 0, .int .i64 (Int.tmod (wrap64 a1) (wrap64 ((l0.length : Int) + 1))), .slice Af4 0 cf4, .slice Af5 0 cf5]) (T := 32) ?hr ?hs ?_; (case hg => rfl); (case hd => rfl); (case hg2 => rfl); (case hn2 => rfl); (case hr => first | (go_simp; done) | (go_simp; rfl)); (case hs => first | (go_simp; done) | (go_simp; rfl)); intro gw hg w6 hbox hb; clear hg; replace S := Aside0.mk (stab_step (P := (fun x_ => (((Below w.heap.size w x_) ∧ x_.heap[gc]? = some (Obj.cells #[.int .i64 (Int.tmod (wrap64 a1) (wrap64 ((l0.length : Int) + 1))), .slice A1 (rd_T52 l0 (wrap64 ((Int.tmod (wrap64 a1) (wrap64 ((l0.length : Int) + 1))) - 1))).f1.f0.length c1] 27 (0, 0))) ∧ Kd.C k60 x_ Af4 ([] : List _).length []) ∧ Kd.C k64 x_ Af5 ([] : List _).length [])) (w := w5) S.out (by repeat (first | exact Below.refl _ _ | apply pw_below_drewN | apply below_drew1 | apply below_alloc)) hb (by repeat' (with_reducible first | exact stab_blk _ _ | exact stab_C _ _ _ _ | exact stab_base _ | exact stab_R _ _ _ _ _ _ | refine stab_and ?_ ?_))); clear hb; replace S := Aside0.mk (And.intro S.out (show w6.heap[gw]? = some (Obj.cells #[.int .i64 3, .int .i64 (Int.tmod (wrap64 a2) 8), .int .i64 0, .int .i64 (Int.tmod (wrap64 a1) (wrap64 ((l0.length : Int) + 1))), .slice Af4 0 cf4, .slice Af5 0 cf5] 32 (0, 0)) from hbox)); clear hbox; have hcz_gw_0 : World.cell? w6 ⟨gw, 0, none⟩ = some (.int .i64 3) := (blk_cell S.out.2 0).trans rfl; have hcz_gw_1 : World.cell? w6 ⟨gw, 1, none⟩ = some (.int .i64 (Int.tmod (wrap64 a2) 8)) := (blk_cell S.out.2 1).trans rfl; have hcz_gw_2 : World.cell? w6 ⟨gw, 2, none⟩ = some (.int .i64 0) := (blk_cell S.out.2 2).trans rfl; have hcz_gw_3 : World.cell? w6 ⟨gw, 3, none⟩ = some (.int .i64 (Int.tmod (wrap64 a1) (wrap64 ((l0.length : Int) + 1)))) := (blk_cell S.out.2 3).trans rfl; have hcz_gw_4 : World.cell? w6 ⟨gw, 4, none⟩ = some (.slice Af4 0 cf4) := (blk_cell S.out.2 4).trans rfl; have hcz_gw_5 : World.cell? w6 ⟨gw, 5, none⟩ = some (.slice Af5 0 cf5) := (blk_cell S.out.2 5).trans rfl) | ((with_reducible refine gate_dst (N := 52) rfl ?_); refine goesL_ (some 52) rfl rfl Try.func13 (by kernel_rfl) rfl #[.slice (some ad) l0.length c0, .int .i64 (Int.tmod (wrap64 a1) (wrap64 ((l0.length : Int) + 1))), .int .i64 (Int.tmod (wrap64 a2) 8)] rfl (by (try simp only [List.map_toArray, List.map_cons, List.map_nil]); first | done | rfl) ?_; refine (feed_Reply.calls 1000 _ _ l0 (Int.tmod (wrap64 a1) (wrap64 ((l0.length : Int) + 1))) (Int.tmod (wrap64 a2) 8) _ _ _ _ _ _ _ _ ?side1 ?side2 PR.out).mono ?_; (case side1 => exact Kd.C_below HR0.out (stab_now (P := (fun x_ => Below w.heap.size w x_)) (w := w6) S.out.1.1.1.1 (by repeat (first | exact Below.refl _ _ | apply pw_below_drewN | apply below_drew1 | apply below_alloc)) (stab_base _))); (case side2 => exact HC0.out); rintro e w7 ⟨vd4, vd5, rfl, ho0, ho1, hb⟩; refine ⟨_, rfl, ?_⟩; obtain ⟨Ad4, cd4, e0, hlcd4, hC0⟩ := Kd.R_reads ho0; subst e0; have HLcd4 := Aside0.mk hlcd4; clear hlcd4 ho0; obtain ⟨Ad5, cd5, e1, hlcd5, hC1⟩ := Kd.R_reads ho1; subst e1; have HLcd5 := Aside0.mk hlcd5; clear hlcd5 ho1; replace S := Aside0.mk (stab_step (P := (fun x_ => ((((Below w.heap.size w x_) ∧ x_.heap[gc]? = some (Obj.cells #[.int .i64 (Int.tmod (wrap64 a1) (wrap64 ((l0.length : Int) + 1))), .slice A1 (rd_T52 l0 (wrap64 ((Int.tmod (wrap64 a1) (wrap64 ((l0.length : Int) + 1))) - 1))).f1.f0.length c1] 27 (0, 0))) ∧ Kd.C k60 x_ Af4 ([] : List _).length []) ∧ Kd.C k64 x_ Af5 ([] : List _).length []) ∧ x_.heap[gw]? = some (Obj.cells #[.int .i64 3, .int .i64 (Int.tmod (wrap64 a2) 8), .int .i64 0, .int .i64 (Int.tmod (wrap64 a1) (wrap64 ((l0.length : Int) + 1))), .slice Af4 0 cf4, .slice Af5 0 cf5] 32 (0, 0)))) (w := w6) S.out (by repeat (first | exact Below.refl _ _ | apply pw_below_drewN | apply below_drew1 | apply below_alloc)) hb (by repeat' (with_reducible first | exact stab_blk _ _ | exact stab_C _ _ _ _ | exact stab_base _ | exact stab_R _ _ _ _ _ _ | refine stab_and ?_ ?_))); clear hb; (try clear hcz_gw_0); (try clear hcz_gw_1); (try clear hcz_gw_2); (try clear hcz_gw_3); (try clear hcz_gw_4); (try clear hcz_gw_5); replace S := Aside0.mk (And.intro S.out (show Kd.C k60 w7 Ad4 (l4 : List _).length l4 from hC0)); clear hC0; replace S := Aside0.mk (And.intro S.out (show Kd.C k64 w7 Ad5 (l5 : List _).length l5 from hC1)); clear hC1) | ((with_reducible refine gate_dst (N := 9) rfl ?_); refine var_event ?hg (N := 9) ?hd ?hg2 ?hn2 (z := #[.int .i64 0, .int .i64 0, .int .i64 0, .int .i64 0, .slice none 0 0, .slice none 0 0]) (cs := #[.int .i64 m0, .int .i64 (Int.tmod (wrap64 a2) 8), .int .i64 m2, .int .i64 m3, .slice Ad4 l4.length cd4, .slice Ad5 l5.length cd5]) (T := 32) ?hr ?hs ?_; (case hg => rfl); (case hd => rfl); (case hg2 => rfl); (case hn2 => rfl); (case hr => first | (go_simp; done) | (go_simp; rfl)); (case hs => first | (go_simp; done) | (go_simp; rfl)); intro gm hg w8 hbox hb; clear hg; replace S := Aside0.mk (stab_step (P := (fun x_ => ((((((Below w.heap.size w x_) ∧ x_.heap[gc]? = some (Obj.cells #[.int .i64 (Int.tmod (wrap64 a1) (wrap64 ((l0.length : Int) + 1))), .slice A1 (rd_T52 l0 (wrap64 ((Int.tmod (wrap64 a1) (wrap64 ((l0.length : Int) + 1))) - 1))).f1.f0.length c1] 27 (0, 0))) ∧ Kd.C k60 x_ Af4 ([] : List _).length []) ∧ Kd.C k64 x_ Af5 ([] : List _).length []) ∧ x_.heap[gw]? = some (Obj.cells #[.int .i64 3, .int .i64 (Int.tmod (wrap64 a2) 8), .int .i64 0, .int .i64 (Int.tmod (wrap64 a1) (wrap64 ((l0.length : Int) + 1))), .slice Af4 0 cf4, .slice Af5 0 cf5] 32 (0, 0))) ∧ Kd.C k60 x_ Ad4 (l4 : List _).length l4) ∧ Kd.C k64 x_ Ad5 (l5 : List _).length l5)) (w := w7) S.out (by repeat (first | exact Below.refl _ _ | apply pw_below_drewN | apply below_drew1 | apply below_alloc)) hb (by repeat' (with_reducible first | exact stab_blk _ _ | exact stab_C _ _ _ _ | exact stab_base _ | exact stab_R _ _ _ _ _ _ | refine stab_and ?_ ?_))); clear hb; replace S := Aside0.mk (And.intro S.out (show w8.heap[gm]? = some (Obj.cells #[.int .i64 m0, .int .i64 (Int.tmod (wrap64 a2) 8), .int .i64 m2, .int .i64 m3, .slice Ad4 l4.length cd4, .slice Ad5 l5.length cd5] 32 (0, 0)) from hbox)); clear hbox; have hcz_gc_0 : World.cell? w8 ⟨gc, 0, none⟩ = some (.int .i64 (Int.tmod (wrap64 a1) (wrap64 ((l0.length : Int) + 1)))) := (blk_cell S.out.1.1.1.1.1.1.2 0).trans rfl; have hcz_gc_1 : World.cell? w8 ⟨gc, 1, none⟩ = some (.slice A1 (rd_T52 l0 (wrap64 ((Int.tmod (wrap64 a1) (wrap64 ((l0.length : Int) + 1))) - 1))).f1.f0.length c1) := (blk_cell S.out.1.1.1.1.1.1.2 1).trans rfl; have hcz_gm_0 : World.cell? w8 ⟨gm, 0, none⟩ = some (.int .i64 m0) := (blk_cell S.out.2 0).trans rfl; have hcz_gm_1 : World.cell? w8 ⟨gm, 1, none⟩ = some (.int .i64 (Int.tmod (wrap64 a2) 8)) := (blk_cell S.out.2 1).trans rfl; have hcz_gm_2 : World.cell? w8 ⟨gm, 2, none⟩ = some (.int .i64 m2) := (blk_cell S.out.2 2).trans rfl; have hcz_gm_3 : World.cell? w8 ⟨gm, 3, none⟩ = some (.int .i64 m3) := (blk_cell S.out.2 3).trans rfl; have hcz_gm_4 : World.cell? w8 ⟨gm, 4, none⟩ = some (.slice Ad4 l4.length cd4) := (blk_cell S.out.2 4).trans rfl; have hcz_gm_5 : World.cell? w8 ⟨gm, 5, none⟩ = some (.slice Ad5 l5.length cd5) := (blk_cell S.out.2 5).trans rfl) | ((with_reducible refine gate_dst (N := 65) rfl ?_); refine goesL_ (some 65) rfl rfl Try.func21 (by kernel_rfl) rfl #[.agg #[.int .i64 (Int.tmod (wrap64 a1) (wrap64 ((l0.length : Int) + 1))), .slice A1 (rd_T52 l0 (wrap64 ((Int.tmod (wrap64 a1) (wrap64 ((l0.length : Int) + 1))) - 1))).f1.f0.length c1], .agg #[.int .i64 m0, .int .i64 (Int.tmod (wrap64 a2) 8), .int .i64 m2, .int .i64 m3, .slice Ad4 l4.length cd4, .slice Ad5 l5.length cd5]] rfl (by (try simp only [List.map_toArray, List.map_cons, List.map_nil]); first | done | rfl) ?_; refine (feed_Take.calls 1000 _ _ _ (rd_T52 l0 (wrap64 ((Int.tmod (wrap64 a1) (wrap64 ((l0.length : Int) + 1))) - 1))).f1.f0 _ _ _ _ _ _ l4 _ _ l5 _ _ _ _ ?side1 ?side2 ?side3 ?side4 ?side5 ?side6 PT.out).mono ?_; (case side1 => exact Kd.C_below HR1.out (stab_now (P := (fun x_ => Below w.heap.size w x_)) (w := w8) S.out.1.1.1.1.1.1.1 (by repeat (first | exact Below.refl _ _ | apply pw_below_drewN | apply below_drew1 | apply below_alloc)) (stab_base _))); (case side2 => exact HC1.out); (case side3 => exact stab_now (P := (fun x_ => Kd.C k60 x_ Ad4 (l4 : List _).length l4)) (w := w8) S.out.1.1.2 (by repeat (first | exact Below.refl _ _ | apply pw_below_drewN | apply below_drew1 | apply below_alloc)) (stab_C _ _ _ _)); (case side4 => exact HLcd4.out); (case side5 => exact stab_now (P := (fun x_ => Kd.C k64 x_ Ad5 (l5 : List _).length l5)) (w := w8) S.out.1.2 (by repeat (first | exact Below.refl _ _ | apply pw_below_drewN | apply below_drew1 | apply below_alloc)) (stab_C _ _ _ _)); (case side6 => exact HLcd5.out); rintro e w9 ⟨vx, rfl, ho0, hb⟩; refine ⟨_, rfl, ?_⟩; obtain ⟨Ax, cx, e0, hlcx, hC0⟩ := Kd.R_reads ho0; subst e0; have HLcx := Aside0.mk hlcx; clear hlcx ho0; replace S := Aside0.mk (stab_step (P := (fun x_ => (((((((Below w.heap.size w x_) ∧ x_.heap[gc]? = some (Obj.cells #[.int .i64 (Int.tmod (wrap64 a1) (wrap64 ((l0.length : Int) + 1))), .slice A1 (rd_T52 l0 (wrap64 ((Int.tmod (wrap64 a1) (wrap64 ((l0.length : Int) + 1))) - 1))).f1.f0.length c1] 27 (0, 0))) ∧ Kd.C k60 x_ Af4 ([] : List _).length []) ∧ Kd.C k64 x_ Af5 ([] : List _).length []) ∧ x_.heap[gw]? = some (Obj.cells #[.int .i64 3, .int .i64 (Int.tmod (wrap64 a2) 8), .int .i64 0, .int .i64 (Int.tmod (wrap64 a1) (wrap64 ((l0.length : Int) + 1))), .slice Af4 0 cf4, .slice Af5 0 cf5] 32 (0, 0))) ∧ Kd.C k60 x_ Ad4 (l4 : List _).length l4) ∧ Kd.C k64 x_ Ad5 (l5 : List _).length l5) ∧ x_.heap[gm]? = some (Obj.cells #[.int .i64 m0, .int .i64 (Int.tmod (wrap64 a2) 8), .int .i64 m2, .int .i64 m3, .slice Ad4 l4.length cd4, .slice Ad5 l5.length cd5] 32 (0, 0)))) (w := w8) S.out (by repeat (first | exact Below.refl _ _ | apply pw_below_drewN | apply below_drew1 | apply below_alloc)) hb (by repeat' (with_reducible first | exact stab_blk _ _ | exact stab_C _ _ _ _ | exact stab_base _ | exact stab_R _ _ _ _ _ _ | refine stab_and ?_ ?_))); clear hb; (try clear hcz_gc_0); (try clear hcz_gc_1); (try clear hcz_gm_0); (try clear hcz_gm_1); (try clear hcz_gm_2); (try clear hcz_gm_3); (try clear hcz_gm_4); (try clear hcz_gm_5); replace S := Aside0.mk (And.intro S.out (show Kd.C k60 w9 Ax ((lastOf l0).f1.f0 : List _).length (lastOf l0).f1.f0 from hC0)); clear hC0) | ((with_reducible refine gate_dst (N := 11) rfl ?_); refine var_event ?hg (N := 11) ?hd ?hg2 ?hn2 (z := #[.int .i64 0, .slice none 0 0]) (cs := #[.int .i64 (l0.length : Int), .slice Ax (lastOf l0).f1.f0.length cx]) (T := 27) ?hr ?hs ?_; (case hg => rfl); (case hd => rfl); (case hg2 => rfl); (case hn2 => rfl); (case hr => first | (go_simp; done) | (go_simp; rfl)); (case hs => first | (go_simp; done) | (go_simp; rfl)); intro gx hg w10 hbox hb; clear hg; replace S := Aside0.mk (stab_step (P := (fun x_ => ((((((((Below w.heap.size w x_) ∧ x_.heap[gc]? = some (Obj.cells #[.int .i64 (Int.tmod (wrap64 a1) (wrap64 ((l0.length : Int) + 1))), .slice A1 (rd_T52 l0 (wrap64 ((Int.tmod (wrap64 a1) (wrap64 ((l0.length : Int) + 1))) - 1))).f1.f0.length c1] 27 (0, 0))) ∧ Kd.C k60 x_ Af4 ([] : List _).length []) ∧ Kd.C k64 x_ Af5 ([] : List _).length []) ∧ x_.heap[gw]? = some (Obj.cells #[.int .i64 3, .int .i64 (Int.tmod (wrap64 a2) 8), .int .i64 0, .int .i64 (Int.tmod (wrap64 a1) (wrap64 ((l0.length : Int) + 1))), .slice Af4 0 cf4, .slice Af5 0 cf5] 32 (0, 0))) ∧ Kd.C k60 x_ Ad4 (l4 : List _).length l4) ∧ Kd.C k64 x_ Ad5 (l5 : List _).length l5) ∧ x_.heap[gm]? = some (Obj.cells #[.int .i64 m0, .int .i64 (Int.tmod (wrap64 a2) 8), .int .i64 m2, .int .i64 m3, .slice Ad4 l4.length cd4, .slice Ad5 l5.length cd5] 32 (0, 0))) ∧ Kd.C k60 x_ Ax ((lastOf l0).f1.f0 : List _).length (lastOf l0).f1.f0)) (w := w9) S.out (by repeat (first | exact Below.refl _ _ | apply pw_below_drewN | apply below_drew1 | apply below_alloc)) hb (by repeat' (with_reducible first | exact stab_blk _ _ | exact stab_C _ _ _ _ | exact stab_base _ | exact stab_R _ _ _ _ _ _ | refine stab_and ?_ ?_))); clear hb; replace S := Aside0.mk (And.intro S.out (show w10.heap[gx]? = some (Obj.cells #[.int .i64 (l0.length : Int), .slice Ax (lastOf l0).f1.f0.length cx] 27 (0, 0)) from hbox)); clear hbox; have hcz_gx_0 : World.cell? w10 ⟨gx, 0, none⟩ = some (.int .i64 (l0.length : Int)) := (blk_cell S.out.2 0).trans rfl; have hcz_gx_1 : World.cell? w10 ⟨gx, 1, none⟩ = some (.slice Ax (lastOf l0).f1.f0.length cx) := (blk_cell S.out.2 1).trans rfl; have hcz_gm_0 : World.cell? w10 ⟨gm, 0, none⟩ = some (.int .i64 m0) := (blk_cell S.out.1.1.2 0).trans rfl; have hcz_gm_1 : World.cell? w10 ⟨gm, 1, none⟩ = some (.int .i64 (Int.tmod (wrap64 a2) 8)) := (blk_cell S.out.1.1.2 1).trans rfl; have hcz_gm_2 : World.cell? w10 ⟨gm, 2, none⟩ = some (.int .i64 m2) := (blk_cell S.out.1.1.2 2).trans rfl; have hcz_gm_3 : World.cell? w10 ⟨gm, 3, none⟩ = some (.int .i64 m3) := (blk_cell S.out.1.1.2 3).trans rfl; have hcz_gm_4 : World.cell? w10 ⟨gm, 4, none⟩ = some (.slice Ad4 l4.length cd4) := (blk_cell S.out.1.1.2 4).trans rfl; have hcz_gm_5 : World.cell? w10 ⟨gm, 5, none⟩ = some (.slice Ad5 l5.length cd5) := (blk_cell S.out.1.1.2 5).trans rfl; have hcz_gw_0 : World.cell? w10 ⟨gw, 0, none⟩ = some (.int .i64 3) := (blk_cell S.out.1.1.1.1.1.2 0).trans rfl; have hcz_gw_1 : World.cell? w10 ⟨gw, 1, none⟩ = some (.int .i64 (Int.tmod (wrap64 a2) 8)) := (blk_cell S.out.1.1.1.1.1.2 1).trans rfl; have hcz_gw_2 : World.cell? w10 ⟨gw, 2, none⟩ = some (.int .i64 0) := (blk_cell S.out.1.1.1.1.1.2 2).trans rfl; have hcz_gw_3 : World.cell? w10 ⟨gw, 3, none⟩ = some (.int .i64 (Int.tmod (wrap64 a1) (wrap64 ((l0.length : Int) + 1)))) := (blk_cell S.out.1.1.1.1.1.2 3).trans rfl; have hcz_gw_4 : World.cell? w10 ⟨gw, 4, none⟩ = some (.slice Af4 0 cf4) := (blk_cell S.out.1.1.1.1.1.2 4).trans rfl; have hcz_gw_5 : World.cell? w10 ⟨gw, 5, none⟩ = some (.slice Af5 0 cf5) := (blk_cell S.out.1.1.1.1.1.2 5).trans rfl; have hx_lx_0 := ((stab_now (P := (fun x_ => Below w.heap.size w x_)) (w := w10) S.out.1.1.1.1.1.1.1.1.1 (Below.refl _ _) (stab_base _)).cell (World.block_lt_of_cell? w _ lx_0)).trans lx_0; have hx_lx_1 := ((stab_now (P := (fun x_ => Below w.heap.size w x_)) (w := w10) S.out.1.1.1.1.1.1.1.1.1 (Below.refl _ _) (stab_base _)).cell (World.block_lt_of_cell? w _ lx_1)).trans lx_1; have hx_lx_2 := ((stab_now (P := (fun x_ => Below w.heap.size w x_)) (w := w10) S.out.1.1.1.1.1.1.1.1.1 (Below.refl _ _) (stab_base _)).cell (World.block_lt_of_cell? w _ lx_2)).trans lx_2; have hx_lx_3 := ((stab_now (P := (fun x_ => Below w.heap.size w x_)) (w := w10) S.out.1.1.1.1.1.1.1.1.1 (Below.refl _ _) (stab_base _)).cell (World.block_lt_of_cell? w _ lx_3)).trans lx_3))
  refine start_ (n := 28) (S := fun w' => w'.cell? ⟨gm, 1, none⟩ = some (.int .i64 (Int.tmod (wrap64 a2) 8)) ∧ w'.cell? ⟨gw, 1, none⟩ = some (.int .i64 (Int.tmod (wrap64 a2) 8)) ∧ w'.cell? ⟨gx, 0, none⟩ = some (.int .i64 (l0.length : Int)) ∧ w'.cell? ⟨gx, 1, none⟩ = some (.slice Ax (lastOf l0).f1.f0.length cx) ∧ w'.cell? ⟨(ad.add ((wrap64 ((l0.length : Int) - 1)).toNat * 4)).block, (ad.add ((wrap64 ((l0.length : Int) - 1)).toNat * 4)).off + 1, none⟩ = some (.slice A2 (rd_T52 l0 (wrap64 ((l0.length : Int) - 1))).f1.f0.length c2)) (ds := []) #[false, false, false, false, false, false, false, false, false, false, false, false, false, false, false, false, false, false, false, false, false, false, false, false, false, false, false, false] (by kernel_rfl) rfl rfl ⟨hcz_gm_1, hcz_gw_1, hcz_gx_0, hcz_gx_1, hx_lx_1⟩ (fun hHeld => ?_)
  refine pure_ (i := 0) (N := some 68) (v := ?_) (a' := ?_) #[true, false, false, false, false, false, false, false, false, false, false, false, false, false, false, false, false, false, false, false, false, false, false, false, false, false, false, false] rfl rfl (by kernel_rfl) (fun _ _ _ h => h) (Or.inl ⟨by rfl, ?_⟩) ?_ ?_
  rotate_left
  · intro w'
    go_simp
    with_reducible rfl
  rotate_left
  · simp only [Act.put, List.setIfInBounds_toArray, List.set_cons_zero, List.set_cons_succ, i64_w, i32_w]
    rfl
  refine pure_ (i := 1) (N := some 69) (v := ?_) (a' := ?_) #[true, true, false, false, false, false, false, false, false, false, false, false, false, false, false, false, false, false, false, false, false, false, false, false, false, false, false, false] rfl rfl (by kernel_rfl) (fun _ _ _ h => h) (Or.inl ⟨by rfl, ?_⟩) ?_ ?_
  rotate_left
  · intro w'
    go_simp
    with_reducible rfl
  rotate_left
  · simp only [Act.put, List.setIfInBounds_toArray, List.set_cons_zero, List.set_cons_succ, i64_w, i32_w]
    rfl
  refine pure_ (i := 2) (N := some 70) (v := ?_) (a' := ?_) #[true, true, true, false, false, false, false, false, false, false, false, false, false, false, false, false, false, false, false, false, false, false, false, false, false, false, false, false] rfl rfl (by kernel_rfl) (fun _ _ _ h => h) (Or.inl ⟨by rfl, ?_⟩) ?_ ?_
  rotate_left
  · intro w'
    go_simp
    with_reducible rfl
  rotate_left
  · simp only [Act.put, List.setIfInBounds_toArray, List.set_cons_zero, List.set_cons_succ, i64_w, i32_w]
    rfl
  refine pure_ (i := 3) (N := some 71) (v := ?_) (a' := ?_) #[true, true, true, true, false, false, false, false, false, false, false, false, false, false, false, false, false, false, false, false, false, false, false, false, false, false, false, false] rfl rfl (by kernel_rfl) (fun _ _ _ h => h) (Or.inl ⟨by rfl, ?_⟩) ?_ ?_
  rotate_left
  · intro w'
    go_simp
    with_reducible rfl
  rotate_left
  · simp only [Act.put, List.setIfInBounds_toArray, List.set_cons_zero, List.set_cons_succ, i64_w, i32_w]
    rfl
  refine pure_ (i := 4) (N := some 72) (v := ?_) (a' := ?_) #[true, true, true, true, true, false, false, false, false, false, false, false, false, false, false, false, false, false, false, false, false, false, false, false, false, false, false, false] rfl rfl (by kernel_rfl) (fun _ _ _ h => h) (Or.inl ⟨by rfl, ?_⟩) ?_ ?_
  rotate_left
  · intro w'
    go_simp
    with_reducible rfl
  rotate_left
  · simp only [Act.put, List.setIfInBounds_toArray, List.set_cons_zero, List.set_cons_succ, i64_w, i32_w]
    rfl
  refine pure_ (i := 5) (N := some 73) (v := ?_) (a' := ?_) #[true, true, true, true, true, true, false, false, false, false, false, false, false, false, false, false, false, false, false, false, false, false, false, false, false, false, false, false] rfl rfl (by kernel_rfl) (fun _ _ _ h => h) (Or.inl ⟨by rfl, ?_⟩) ?_ ?_
  rotate_left
  · intro w'
    go_simp
    with_reducible rfl
  rotate_left
  · simp only [Act.put, List.setIfInBounds_toArray, List.set_cons_zero, List.set_cons_succ, i64_w, i32_w]
    rfl
  refine pure_ (i := 6) (N := some 74) (v := ?_) (a' := ?_) #[true, true, true, true, true, true, true, false, false, false, false, false, false, false, false, false, false, false, false, false, false, false, false, false, false, false, false, false] rfl rfl (by kernel_rfl) (fun _ _ _ h => h) (Or.inl ⟨by rfl, ?_⟩) ?_ ?_
  rotate_left
  · intro w'
    go_simp
    with_reducible rfl
  rotate_left
  · simp only [Act.put, List.setIfInBounds_toArray, List.set_cons_zero, List.set_cons_succ, i64_w, i32_w]
    rfl
  refine pure_ (i := 7) (N := some 75) (v := ?_) (a' := ?_) #[true, true, true, true, true, true, true, true, false, false, false, false, false, false, false, false, false, false, false, false, false, false, false, false, false, false, false, false] rfl rfl (by kernel_rfl) (fun _ _ _ h => h) (Or.inl ⟨by rfl, ?_⟩) ?_ ?_
  rotate_left
  · intro w'
    go_simp
    with_reducible rfl
  rotate_left
  · simp only [Act.put, List.setIfInBounds_toArray, List.set_cons_zero, List.set_cons_succ, i64_w, i32_w]
    rfl
  refine pure_ (i := 9) (N := some 77) (v := ?_) (a' := ?_) #[true, true, true, true, true, true, true, true, false, true, false, false, false, false, false, false, false, false, false, false, false, false, false, false, false, false, false, false] rfl rfl (by kernel_rfl) (fun _ _ _ h => h) (Or.inl ⟨by rfl, ?_⟩) ?_ ?_
  rotate_left
  · intro w'
    go_simp
    with_reducible rfl
  rotate_left
  · simp only [Act.put, List.setIfInBounds_toArray, List.set_cons_zero, List.set_cons_succ, i64_w, i32_w]
    rfl
  refine take_ (i := 8) (N := some 76) (v := ?_) (a' := ?_) #[true, true, true, true, true, true, true, true, true, true, false, false, false, false, false, false, false, false, false, false, false, false, false, false, false, false, false, false] rfl rfl (by kernel_rfl) (fun _ _ _ h => h) (Or.inl ⟨by rfl, ?_⟩) hHeld ?_ ?_
  rotate_left
  · rintro w' ⟨s0, s1, s2, s3, s4⟩
    go_simp
    with_reducible rfl
  rotate_left
  · simp only [Act.put, List.setIfInBounds_toArray, List.set_cons_zero, List.set_cons_succ, i64_w, i32_w]
    rfl
  refine take_ (i := 10) (N := some 78) (v := ?_) (a' := ?_) #[true, true, true, true, true, true, true, true, true, true, true, false, false, false, false, false, false, false, false, false, false, false, false, false, false, false, false, false] rfl rfl (by kernel_rfl) (fun _ _ _ h => h) (Or.inl ⟨by rfl, ?_⟩) hHeld ?_ ?_
  rotate_left
  · rintro w' ⟨s0, s1, s2, s3, s4⟩
    go_simp
    with_reducible rfl
  rotate_left
  · simp only [Act.put, List.setIfInBounds_toArray, List.set_cons_zero, List.set_cons_succ, i64_w, i32_w]
    rfl
  refine pure_ (i := 11) (N := some 79) (v := ?_) (a' := ?_) #[true, true, true, true, true, true, true, true, true, true, true, true, false, false, false, false, false, false, false, false, false, false, false, false, false, false, false, false] rfl rfl (by kernel_rfl) (fun _ _ _ h => h) (Or.inl ⟨by rfl, ?_⟩) ?_ ?_
  rotate_left
  · intro w'
    go_simp
    with_reducible rfl
  rotate_left
  · simp only [Act.put, List.setIfInBounds_toArray, List.set_cons_zero, List.set_cons_succ, i64_w, i32_w]
    rfl
  refine pure_ (i := 12) (N := some 80) (v := ?_) (a' := ?_) #[true, true, true, true, true, true, true, true, true, true, true, true, true, false, false, false, false, false, false, false, false, false, false, false, false, false, false, false] rfl rfl (by kernel_rfl) (fun _ _ _ h => h) (Or.inl ⟨by rfl, ?_⟩) ?_ ?_
  rotate_left
  · intro w'
    go_simp
    with_reducible rfl
  rotate_left
  · simp only [Act.put, List.setIfInBounds_toArray, List.set_cons_zero, List.set_cons_succ, i64_w, i32_w]
    rfl
  refine pure_ (i := 13) (N := some 81) (v := ?_) (a' := ?_) #[true, true, true, true, true, true, true, true, true, true, true, true, true, true, false, false, false, false, false, false, false, false, false, false, false, false, false, false] rfl rfl (by kernel_rfl) (fun _ _ _ h => h) (Or.inl ⟨by rfl, ?_⟩) ?_ ?_
  rotate_left
  · intro w'
    go_simp
    with_reducible rfl
  rotate_left
  · simp only [Act.put, List.setIfInBounds_toArray, List.set_cons_zero, List.set_cons_succ, i64_w, i32_w]
    rfl
  refine pure_ (i := 15) (N := some 83) (v := ?_) (a' := ?_) #[true, true, true, true, true, true, true, true, true, true, true, true, true, true, false, true, false, false, false, false, false, false, false, false, false, false, false, false] rfl rfl (by kernel_rfl) (fun _ _ _ h => h) (Or.inl ⟨by rfl, ?_⟩) ?_ ?_
  rotate_left
  · intro w'
    go_simp
    with_reducible rfl
  rotate_left
  · simp only [Act.put, List.setIfInBounds_toArray, List.set_cons_zero, List.set_cons_succ, i64_w, i32_w]
    rfl
  refine pure_ (i := 16) (N := some 84) (v := ?_) (a' := ?_) #[true, true, true, true, true, true, true, true, true, true, true, true, true, true, false, true, true, false, false, false, false, false, false, false, false, false, false, false] rfl rfl (by kernel_rfl) (fun _ _ _ h => h) (Or.inl ⟨by rfl, ?_⟩) ?_ ?_
  rotate_left
  · intro w'
    go_simp
    with_reducible rfl
  rotate_left
  · simp only [Act.put, List.setIfInBounds_toArray, List.set_cons_zero, List.set_cons_succ, i64_w, i32_w]
    rfl
  refine pure_ (i := 17) (N := some 85) (v := ?_) (a' := ?_) #[true, true, true, true, true, true, true, true, true, true, true, true, true, true, false, true, true, true, false, false, false, false, false, false, false, false, false, false] rfl rfl (by kernel_rfl) (fun _ _ _ h => h) (Or.inl ⟨by rfl, ?_⟩) ?_ ?_
  rotate_left
  · intro w'
    go_simp
    with_reducible rfl
  rotate_left
  · simp only [Act.put, List.setIfInBounds_toArray, List.set_cons_zero, List.set_cons_succ, i64_w, i32_w]
    rfl
  refine pure_ (i := 18) (N := some 86) (v := ?_) (a' := ?_) #[true, true, true, true, true, true, true, true, true, true, true, true, true, true, false, true, true, true, true, false, false, false, false, false, false, false, false, false] rfl rfl (by kernel_rfl) (fun _ _ _ h => h) (Or.inl ⟨by rfl, ?_⟩) ?_ ?_
  rotate_left
  · intro w'
    go_simp
    with_reducible rfl
  rotate_left
  · simp only [Act.put, List.setIfInBounds_toArray, List.set_cons_zero, List.set_cons_succ, i64_w, i32_w]
    rfl
  refine pure_ (i := 19) (N := some 87) (v := ?_) (a' := ?_) #[true, true, true, true, true, true, true, true, true, true, true, true, true, true, false, true, true, true, true, true, false, false, false, false, false, false, false, false] rfl rfl (by kernel_rfl) (fun _ _ _ h => h) (Or.inl ⟨by rfl, ?_⟩) ?_ ?_
  rotate_left
  · intro w'
    go_simp
    with_reducible rfl
  rotate_left
  · simp only [Act.put, List.setIfInBounds_toArray, List.set_cons_zero, List.set_cons_succ, i64_w, i32_w]
    rfl
  refine pure_ (i := 20) (N := some 88) (v := ?_) (a' := ?_) #[true, true, true, true, true, true, true, true, true, true, true, true, true, true, false, true, true, true, true, true, true, false, false, false, false, false, false, false] rfl rfl (by kernel_rfl) (fun _ _ _ h => h) (Or.inl ⟨by rfl, ?_⟩) ?_ ?_
  rotate_left
  · intro w'
    go_simp
    with_reducible rfl
  rotate_left
  · simp only [Act.put, List.setIfInBounds_toArray, List.set_cons_zero, List.set_cons_succ, i64_w, i32_w]
    rfl
  refine pure_ (i := 21) (N := some 89) (v := ?_) (a' := ?_) #[true, true, true, true, true, true, true, true, true, true, true, true, true, true, false, true, true, true, true, true, true, true, false, false, false, false, false, false] rfl rfl (by kernel_rfl) (fun _ _ _ h => h) (Or.inl ⟨by rfl, ?_⟩) ?_ ?_
  rotate_left
  · intro w'
    go_simp
    with_reducible rfl
  rotate_left
  · simp only [Act.put, List.setIfInBounds_toArray, List.set_cons_zero, List.set_cons_succ, i64_w, i32_w]
    rfl
  refine pure_ (i := 22) (N := some 90) (v := ?_) (a' := ?_) #[true, true, true, true, true, true, true, true, true, true, true, true, true, true, false, true, true, true, true, true, true, true, true, false, false, false, false, false] rfl rfl (by kernel_rfl) (fun _ _ _ h => h) (Or.inl ⟨by rfl, ?_⟩) ?_ ?_
  rotate_left
  · intro w'
    go_simp
    with_reducible rfl
  rotate_left
  · simp only [Act.put, List.setIfInBounds_toArray, List.set_cons_zero, List.set_cons_succ, i64_w, i32_w]
    rfl
  refine take_ (i := 14) (N := some 82) (v := ?_) (a' := ?_) #[true, true, true, true, true, true, true, true, true, true, true, true, true, true, true, true, true, true, true, true, true, true, true, false, false, false, false, false] rfl rfl (by kernel_rfl) (fun _ _ _ h => h) (Or.inl ⟨by rfl, ?_⟩) hHeld ?_ ?_
  rotate_left
  · rintro w' ⟨s0, s1, s2, s3, s4⟩
    go_simp
    with_reducible rfl
  rotate_left
  · simp only [Act.put, List.setIfInBounds_toArray, List.set_cons_zero, List.set_cons_succ, i64_w, i32_w]
    rfl
  refine take_ (i := 23) (N := some 91) (v := ?_) (a' := ?_) #[true, true, true, true, true, true, true, true, true, true, true, true, true, true, true, true, true, true, true, true, true, true, true, true, false, false, false, false] rfl rfl (by kernel_rfl) (fun _ _ _ h => h) (Or.inl ⟨by rfl, ?_⟩) hHeld ?_ ?_
  rotate_left
  · rintro w' ⟨s0, s1, s2, s3, s4⟩
    go_simp
    with_reducible rfl
  rotate_left
  · simp only [Act.put, List.setIfInBounds_toArray, List.set_cons_zero, List.set_cons_succ, i64_w, i32_w]
    rfl
  refine pure_ (i := 24) (N := some 92) (v := ?_) (a' := ?_) #[true, true, true, true, true, true, true, true, true, true, true, true, true, true, true, true, true, true, true, true, true, true, true, true, true, false, false, false] rfl rfl (by kernel_rfl) (fun _ _ _ h => h) (Or.inl ⟨by rfl, ?_⟩) ?_ ?_
  rotate_left
  · intro w'
    go_simp
    with_reducible rfl
  rotate_left
  · simp only [Act.put, List.setIfInBounds_toArray, List.set_cons_zero, List.set_cons_succ, i64_w, i32_w]
    rfl
  refine one_ (i := 25) (N := some 93) #[true, true, true, true, true, true, true, true, true, true, true, true, true, true, true, true, true, true, true, true, true, true, true, true, true, true, false, false] rfl rfl (by kernel_rfl) (by decide) (fun K hK => ?_)
  refine goes_ Try.func23 (by kernel_rfl) rfl #[.agg #[.int .i64 (l0.length : Int), .slice Ax (lastOf l0).f1.f0.length cx], .agg #[.int .i64 (l0.length : Int), .slice A2 (rd_T52 l0 (wrap64 ((l0.length : Int) - 1))).f1.f0.length c2]] (by rfl) rfl rfl (by (try simp only [List.map_toArray, List.map_cons, List.map_nil]); first | done | rfl) ?_
  with_reducible refine (chalklineref35_Clients.calls 1000 _ _ _ (lastOf l0).f1.f0 _ _ _ (rd_T52 l0 (wrap64 ((l0.length : Int) - 1))).f1.f0 _ _ ?side1 ?side2 ?side3 ?side4 PE.out).mono ?_
  (case side1 => exact stab_now (P := (fun x_ => Kd.C k60 x_ Ax ((lastOf l0).f1.f0 : List _).length (lastOf l0).f1.f0)) (w := w10) S.out.1.2 (by repeat (first | exact Below.refl _ _ | apply pw_below_drewN | apply below_drew1 | apply below_alloc)) (stab_C _ _ _ _))
  (case side2 => exact HLcx.out)
  (case side3 => exact Kd.C_below HR2.out (stab_now (P := (fun x_ => Below w.heap.size w x_)) (w := w10) S.out.1.1.1.1.1.1.1.1.1 (by repeat (first | exact Below.refl _ _ | apply pw_below_drewN | apply below_drew1 | apply below_alloc)) (stab_base _)))
  (case side4 => exact HC2.out)
  rintro e w11 ⟨rfl, hb⟩
  refine ⟨_, rfl, ?_⟩
  replace S := Aside0.mk (stab_step (P := (fun x_ => (((((((((Below w.heap.size w x_) ∧ x_.heap[gc]? = some (Obj.cells #[.int .i64 (Int.tmod (wrap64 a1) (wrap64 ((l0.length : Int) + 1))), .slice A1 (rd_T52 l0 (wrap64 ((Int.tmod (wrap64 a1) (wrap64 ((l0.length : Int) + 1))) - 1))).f1.f0.length c1] 27 (0, 0))) ∧ Kd.C k60 x_ Af4 ([] : List _).length []) ∧ Kd.C k64 x_ Af5 ([] : List _).length []) ∧ x_.heap[gw]? = some (Obj.cells #[.int .i64 3, .int .i64 (Int.tmod (wrap64 a2) 8), .int .i64 0, .int .i64 (Int.tmod (wrap64 a1) (wrap64 ((l0.length : Int) + 1))), .slice Af4 0 cf4, .slice Af5 0 cf5] 32 (0, 0))) ∧ Kd.C k60 x_ Ad4 (l4 : List _).length l4) ∧ Kd.C k64 x_ Ad5 (l5 : List _).length l5) ∧ x_.heap[gm]? = some (Obj.cells #[.int .i64 m0, .int .i64 (Int.tmod (wrap64 a2) 8), .int .i64 m2, .int .i64 m3, .slice Ad4 l4.length cd4, .slice Ad5 l5.length cd5] 32 (0, 0))) ∧ Kd.C k60 x_ Ax ((lastOf l0).f1.f0 : List _).length (lastOf l0).f1.f0) ∧ x_.heap[gx]? = some (Obj.cells #[.int .i64 (l0.length : Int), .slice Ax (lastOf l0).f1.f0.length cx] 27 (0, 0)))) (w := w10) S.out (by repeat (first | exact Below.refl _ _ | apply pw_below_drewN | apply below_drew1 | apply below_alloc)) hb (by repeat' (with_reducible first | exact stab_blk _ _ | exact stab_C _ _ _ _ | exact stab_base _ | exact stab_R _ _ _ _ _ _ | refine stab_and ?_ ?_)))
  clear hb
  have hcz_gm_0 : World.cell? w11 ⟨gm, 0, none⟩ = some (.int .i64 m0) := (blk_cell S.out.1.1.2 0).trans rfl
  have hcz_gm_1 : World.cell? w11 ⟨gm, 1, none⟩ = some (.int .i64 (Int.tmod (wrap64 a2) 8)) := (blk_cell S.out.1.1.2 1).trans rfl
  have hcz_gm_2 : World.cell? w11 ⟨gm, 2, none⟩ = some (.int .i64 m2) := (blk_cell S.out.1.1.2 2).trans rfl
  have hcz_gm_3 : World.cell? w11 ⟨gm, 3, none⟩ = some (.int .i64 m3) := (blk_cell S.out.1.1.2 3).trans rfl
  have hcz_gm_4 : World.cell? w11 ⟨gm, 4, none⟩ = some (.slice Ad4 l4.length cd4) := (blk_cell S.out.1.1.2 4).trans rfl
  have hcz_gm_5 : World.cell? w11 ⟨gm, 5, none⟩ = some (.slice Ad5 l5.length cd5) := (blk_cell S.out.1.1.2 5).trans rfl
  have hcz_gw_0 : World.cell? w11 ⟨gw, 0, none⟩ = some (.int .i64 3) := (blk_cell S.out.1.1.1.1.1.2 0).trans rfl
  have hcz_gw_1 : World.cell? w11 ⟨gw, 1, none⟩ = some (.int .i64 (Int.tmod (wrap64 a2) 8)) := (blk_cell S.out.1.1.1.1.1.2 1).trans rfl
  have hcz_gw_2 : World.cell? w11 ⟨gw, 2, none⟩ = some (.int .i64 0) := (blk_cell S.out.1.1.1.1.1.2 2).trans rfl
  have hcz_gw_3 : World.cell? w11 ⟨gw, 3, none⟩ = some (.int .i64 (Int.tmod (wrap64 a1) (wrap64 ((l0.length : Int) + 1)))) := (blk_cell S.out.1.1.1.1.1.2 3).trans rfl
  have hcz_gw_4 : World.cell? w11 ⟨gw, 4, none⟩ = some (.slice Af4 0 cf4) := (blk_cell S.out.1.1.1.1.1.2 4).trans rfl
  have hcz_gw_5 : World.cell? w11 ⟨gw, 5, none⟩ = some (.slice Af5 0 cf5) := (blk_cell S.out.1.1.1.1.1.2 5).trans rfl
  have hcz_gx_0 : World.cell? w11 ⟨gx, 0, none⟩ = some (.int .i64 (l0.length : Int)) := (blk_cell S.out.2 0).trans rfl
  have hcz_gx_1 : World.cell? w11 ⟨gx, 1, none⟩ = some (.slice Ax (lastOf l0).f1.f0.length cx) := (blk_cell S.out.2 1).trans rfl
  have hx_lx_0 := ((stab_now (P := (fun x_ => Below w.heap.size w x_)) (w := w11) S.out.1.1.1.1.1.1.1.1.1 (Below.refl _ _) (stab_base _)).cell (World.block_lt_of_cell? w _ lx_0)).trans lx_0
  have hx_lx_1 := ((stab_now (P := (fun x_ => Below w.heap.size w x_)) (w := w11) S.out.1.1.1.1.1.1.1.1.1 (Below.refl _ _) (stab_base _)).cell (World.block_lt_of_cell? w _ lx_1)).trans lx_1
  have hx_lx_2 := ((stab_now (P := (fun x_ => Below w.heap.size w x_)) (w := w11) S.out.1.1.1.1.1.1.1.1.1 (Below.refl _ _) (stab_base _)).cell (World.block_lt_of_cell? w _ lx_2)).trans lx_2
  have hx_lx_3 := ((stab_now (P := (fun x_ => Below w.heap.size w x_)) (w := w11) S.out.1.1.1.1.1.1.1.1.1 (Below.refl _ _) (stab_base _)).cell (World.block_lt_of_cell? w _ lx_3)).trans lx_3
  refine hK.out _ _ ⟨hcz_gm_1, hcz_gw_1, hcz_gx_0, hcz_gx_1, hx_lx_1⟩ (fun hHeld => ?_)
  clear hK K
  refine norm_ (a' := ?_) ?_ ?_
  rotate_left
  · show Act.put _ (some 93) _ = _
    simp only [Act.put, List.setIfInBounds_toArray, List.set_cons_zero, List.set_cons_succ, i64_w, i32_w]
    rfl
  refine pure_ (i := 26) (N := some 94) (v := ?_) (a' := ?_) #[true, true, true, true, true, true, true, true, true, true, true, true, true, true, true, true, true, true, true, true, true, true, true, true, true, true, true, false] rfl rfl (by kernel_rfl) (fun _ _ _ h => h) (Or.inl ⟨by rfl, ?_⟩) ?_ ?_
  rotate_left
  · intro w'
    go_simp
    with_reducible rfl
  rotate_left
  · simp only [Act.put, List.setIfInBounds_toArray, List.set_cons_zero, List.set_cons_succ, i64_w, i32_w]
    rfl
  refine pure_ (i := 27) (N := some 6) (v := ?_) (a' := ?_) #[true, true, true, true, true, true, true, true, true, true, true, true, true, true, true, true, true, true, true, true, true, true, true, true, true, true, true, true] rfl rfl (by kernel_rfl) (fun _ _ _ h => h) (Or.inl ⟨by rfl, ?_⟩) ?_ ?_
  rotate_left
  · intro w'
    go_simp
    with_reducible rfl
  rotate_left
  · simp only [Act.put, List.setIfInBounds_toArray, List.set_cons_zero, List.set_cons_succ, i64_w, i32_w]
    rfl
  refine done_ (by kernel_rfl) ?_

  try go_wp2
  go_ret
  exact ⟨rfl, stab_now (P := (fun x_ => Below w.heap.size w x_)) (w := w11) S.out.1.1.1.1.1.1.1.1.1 (by repeat (first | exact Below.refl _ _ | apply pw_below_drewN | apply below_drew1 | apply below_alloc)) (stab_base _)⟩
end Go.Proofs.Ytfdhnmijaobbdaa.S
end
section
namespace Go.Proofs.Ytfdhnmijaobbdaa.S
open Go.RowKit Go.Proofs.YtfdhnmijaobbdaaW.PrintWords Go.Proofs.YtfdhnmijaobbdaaW.PrintLast Go.Proofs.YtfdhnmijaobbdaaW.PrintMore
def chalklinelaw35_FeedNewest.f (_k : Nat) (l0 : List S52) (a1 a2 : Int) : Option Bool := if l0.length ≤ 9223372036854775806 ∧ (0 ≤ a1 ∧ a1 ≤ 255) ∧ (0 ≤ a2 ∧ a2 ≤ 255) then some true else none
theorem newest_good (l0 : List S52) (hl : l0.length ≤ 20) (hS : Short 70 l0) (hc : chk l0 = 0) (N T : Int) (h0 : 0 ≤ N) (h1 : N < l0.length) (t0 : 0 ≤ T) (t1 : T ≤ 7) (W : List S60) (hW : N = 0 ∧ W = [] ∨ 0 < N ∧ W = (rd_T52 l0 (N - 1)).f1.f0) :
    ∃ (m0 m2 m3 : Int) (l4 : List S60) (l5 : List S64), feed_Reply.f 1000 l0 N T = some (m0, T, m2, m3, l4, l5, 0) ∧ feed_Take.f 1000 N W m0 T m2 m3 l4 l5 = some ((l0.length : Int), (lastOf l0).f1.f0, 0) := by
  obtain ⟨g1, g2⟩ := chk_last hc (by omega)
  have hw : W.length ≤ 70 := by
    rcases hW with ⟨_, e⟩ | ⟨_, e⟩
    · rw [e]; simp
    · rw [e]; exact short_rd hS _
  by_cases hd : N > 0 ∧ (rd_T52 l0 (N - 1)).f1.f0.length = (lastOf l0).f1.f0.length
  · have e : W = (rd_T52 l0 (N - 1)).f1.f0 := by
      rcases hW with ⟨z, _⟩ | ⟨_, e⟩
      · omega
      · exact e
    have hdl := diffGo_len 0 W (lastOf l0).f1.f0
    refine ⟨2, N, (l0.length : Int), [], diffGo 0 W (lastOf l0).f1.f0, ?_, ?_⟩
    · rw [reply_eq l0 (by omega) 70 (by omega) hS N T 1000 (by omega)]
      unfold replyS
      rw [if_neg (by omega), if_neg (by omega), if_pos hd, g1, e]
    · rw [take_eq _ _ _ _ _ _ _ _ _ (by omega) (by simp) (by omega) (by omega)]
      unfold takeS
      rw [if_pos ⟨Or.inr rfl, ⟨by omega, by omega⟩, by omega, by omega⟩, if_neg (by omega), if_neg (by decide), if_pos rfl, apply_diff _ _ (by rw [e]; exact hd.2)]
      rfl
  · refine ⟨1, 0, (l0.length : Int), (lastOf l0).f1.f0, [], ?_, ?_⟩
    · rw [reply_eq l0 (by omega) 70 (by omega) hS N T 1000 (by omega)]
      unfold replyS
      rw [if_neg (by omega), if_neg (by omega), if_neg hd, g1]
    · rw [take_eq _ _ _ _ _ _ _ _ _ (by omega) (by omega) (by simp) (by simp)]
      unfold takeS
      rw [if_pos ⟨Or.inl rfl, ⟨by omega, by omega⟩, by omega, by omega⟩, if_neg (by omega), if_pos rfl]
theorem chalklinelaw35_FeedNewest.calls (k : Nat) (A0 : Option Addr) (c0 : Nat) (l0 : List S52) (a1 a2 : Int) (r : Bool) (w : World) (hr0 : Kd.C k52 w A0 l0.length l0) (hc0 : l0.length ≤ c0) (h : chalklinelaw35_FeedNewest.f k l0 a1 a2 = some r) :
    Calls Try.prog 6 #[.slice A0 l0.length c0, .int .u8 a1, .int .u8 a2] w fun e w' => e = .returned (.bool r) ∧ Below w.heap.size w w' := by
  unfold chalklinelaw35_FeedNewest.f at h
  by_cases hh : l0.length ≤ 9223372036854775806 ∧ (0 ≤ a1 ∧ a1 ≤ 255) ∧ (0 ≤ a2 ∧ a2 ≤ 255)
  · rw [if_pos hh] at h
    obtain rfl := Option.some.inj h
    obtain ⟨hl1, u1, u2⟩ := hh
    obtain ⟨b, hb, hb2⟩ := few_eq l0 hl1 1000 (by omega)
    cases b with
    | false => exact newest_few A0 c0 l0 a1 a2 w hr0 hc0 ⟨hb⟩
    | true =>
      obtain ⟨hl, hS⟩ := hb2 rfl
      have hC := feedCheck_eq l0 hl1 70 (by omega) hS 1000 (by omega)
      rcases chk_or l0 with hc | hc
      · rw [hc] at hC
        have e1 : wrap64 a1 = a1 := by unfold wrap64; omega
        have e2 : wrap64 ((l0.length : Int) + 1) = (l0.length : Int) + 1 := by unfold wrap64; omega
        have e3 : wrap64 a2 = a2 := by unfold wrap64; omega
        have n1 := Int.emod_nonneg a1 (show (l0.length : Int) + 1 ≠ 0 by omega)
        have n2 := Int.emod_lt_of_pos a1 (show 0 < (l0.length : Int) + 1 by omega)
        have eN : Int.tmod (wrap64 a1) (wrap64 ((l0.length : Int) + 1)) = a1 % ((l0.length : Int) + 1) := by rw [e1, e2]; exact Int.tmod_eq_emod_of_nonneg u1.1
        have eT : Int.tmod (wrap64 a2) 8 = a2 % 8 := by rw [e3]; exact Int.tmod_eq_emod_of_nonneg u2.1
        have d0 : ¬ (wrap64 ((l0.length : Int) + 1)) = 0 := by omega
        have hN0 : 0 ≤ Int.tmod (wrap64 a1) (wrap64 ((l0.length : Int) + 1)) := by omega
        have hN1 : Int.tmod (wrap64 a1) (wrap64 ((l0.length : Int) + 1)) ≤ l0.length := by omega
        have hT0 : 0 ≤ Int.tmod (wrap64 a2) 8 := by omega
        have hT1 : Int.tmod (wrap64 a2) 8 ≤ 7 := by omega
        have e5 : wrap64 (Int.tmod (wrap64 a1) (wrap64 ((l0.length : Int) + 1)) - 1) = Int.tmod (wrap64 a1) (wrap64 ((l0.length : Int) + 1)) - 1 := by
          generalize Int.tmod (wrap64 a1) (wrap64 ((l0.length : Int) + 1)) = N at *
          unfold wrap64; omega
        have hold : ¬ Int.tmod (wrap64 a1) (wrap64 ((l0.length : Int) + 1)) < l0.length → feed_Reply.f 1000 l0 (Int.tmod (wrap64 a1) (wrap64 ((l0.length : Int) + 1))) (Int.tmod (wrap64 a2) 8) = some (0, 0, 0, 0, [], [], 341) := by
          intro z
          rw [reply_eq l0 (by omega) 70 (by omega) hS _ _ 1000 (by omega)]
          unfold replyS
          rw [if_neg (by omega), if_pos (by omega)]
        have hlast : ∀ z : 0 < l0.length, rd_T52 l0 (wrap64 ((l0.length : Int) - 1)) = lastOf l0 := by
          intro z
          rw [show wrap64 ((l0.length : Int) - 1) = (l0.length : Int) - 1 by unfold wrap64; omega]
          rfl
        have hE : 0 < l0.length → chalklineref35_Clients.f 1000 (l0.length : Int) (lastOf l0).f1.f0 (l0.length : Int) (rd_T52 l0 (wrap64 ((l0.length : Int) - 1))).f1.f0 = some true := by
          intro z
          obtain ⟨g1, g2⟩ := chk_last hc z
          rw [hlast z]
          exact clients_eq _ _ (by omega) _ (by omega)
        by_cases hn : Int.tmod (wrap64 a1) (wrap64 ((l0.length : Int) + 1)) < l0.length
        · have z : 0 < l0.length := by omega
          have q2 : wrap64 ((l0.length : Int) - 1) < (l0.length : Int) := by unfold wrap64; omega
          have p2 : 0 ≤ wrap64 ((l0.length : Int) - 1) := by unfold wrap64; omega
          obtain ⟨ad, A2, c2, rfl, y0, y1, y2, y3, y4, y5⟩ := at_T52 hr0 (wrap64 ((l0.length : Int) - 1)) p2 q2
          by_cases hp : 0 < Int.tmod (wrap64 a1) (wrap64 ((l0.length : Int) + 1))
          · have p1 : 0 ≤ wrap64 (Int.tmod (wrap64 a1) (wrap64 ((l0.length : Int) + 1)) - 1) := by omega
            have q1 : wrap64 (Int.tmod (wrap64 a1) (wrap64 ((l0.length : Int) + 1)) - 1) < (l0.length : Int) := by omega
            obtain ⟨ad', A1, c1, ea, x0, x1, x2, x3, x4, x5⟩ := at_T52 hr0 _ p1 q1
            obtain rfl := Option.some.inj ea
            obtain ⟨m0, m2, m3, l4, l5, hr, ht⟩ := newest_good l0 hl hS hc _ _ hN0 hn hT0 hT1 (rd_T52 l0 (wrap64 (Int.tmod (wrap64 a1) (wrap64 ((l0.length : Int) + 1)) - 1))).f1.f0 (Or.inr ⟨hp, by rw [e5]⟩)
            exact newest_po ad c0 l0 a1 a2 w hr0 hc0 ⟨hb⟩ ⟨hC⟩ (beq_eq_false_iff_ne.mpr d0) d0 ⟨rfl⟩ (decide_eq_true hp) (beq_eq_false_iff_ne.mpr (by omega)) m0 m2 m3 l4 l5 ⟨hr⟩ ⟨ht⟩ ⟨hE z⟩ (beq_self_eq_true _) (eq_true p1) (eq_true q1) A1 c1 x0 x1 x2 x3 ⟨x4⟩ ⟨x5⟩ (eq_true p2) (eq_true q2) A2 c2 y0 y1 y2 y3 ⟨y4⟩ ⟨y5⟩
          · obtain ⟨m0, m2, m3, l4, l5, hr, ht⟩ := newest_good l0 hl hS hc _ _ hN0 hn hT0 hT1 [] (Or.inl ⟨by omega, rfl⟩)
            exact newest_zo ad c0 l0 a1 a2 w hr0 hc0 ⟨hb⟩ ⟨hC⟩ (beq_eq_false_iff_ne.mpr d0) d0 ⟨rfl⟩ (decide_eq_false hp) (beq_eq_false_iff_ne.mpr (by omega)) m0 m2 m3 l4 l5 ⟨hr⟩ ⟨ht⟩ ⟨hE z⟩ (beq_self_eq_true _) (eq_true p2) (eq_true q2) A2 c2 y0 y1 y2 y3 ⟨y4⟩ ⟨y5⟩
        · by_cases hp : 0 < Int.tmod (wrap64 a1) (wrap64 ((l0.length : Int) + 1))
          · have p1 : 0 ≤ wrap64 (Int.tmod (wrap64 a1) (wrap64 ((l0.length : Int) + 1)) - 1) := by omega
            have q1 : wrap64 (Int.tmod (wrap64 a1) (wrap64 ((l0.length : Int) + 1)) - 1) < (l0.length : Int) := by omega
            obtain ⟨ad, A1, c1, rfl, x0, x1, x2, x3, x4, x5⟩ := at_T52 hr0 _ p1 q1
            exact newest_pn ad c0 l0 a1 a2 w hr0 hc0 ⟨hb⟩ ⟨hC⟩ (beq_eq_false_iff_ne.mpr d0) d0 ⟨rfl⟩ (decide_eq_true hp) (beq_iff_eq.mpr (by omega)) ⟨hold hn⟩ (eq_true p1) (eq_true q1) A1 c1 x0 x1 x2 x3 ⟨x4⟩ ⟨x5⟩
          · exact newest_zn A0 c0 l0 a1 a2 w hr0 hc0 ⟨hb⟩ ⟨hC⟩ (beq_eq_false_iff_ne.mpr d0) d0 ⟨rfl⟩ (decide_eq_false hp) (beq_iff_eq.mpr (by omega)) ⟨hold hn⟩
      · rw [hc] at hC
        exact newest_check A0 c0 l0 a1 a2 w hr0 hc0 ⟨hb⟩ ⟨hC⟩
  · rw [if_neg hh] at h; cases h
end Go.Proofs.Ytfdhnmijaobbdaa.S
end
section
namespace Go.Proofs.YtfdhnmijaobbdaaW.PrintMore
open Go.RowKit Go.Proofs.YtfdhnmijaobbdaaW.PrintWords Go.Proofs.YtfdhnmijaobbdaaW.PrintLast Go.ChangeShapes Go.WideShapes
def Opens {α : Type} (P : Program) (t : TypeId) (d : Kd α) (wf : α → Prop) : Prop :=
  ∀ (H : Type) (enc : TypeId × Value → H) (w : World) (base : Nat) (spare : Nat → Bool) (held : Bool) (fuel : Nat) (cs : List Value) (x : DataW H × List MemPlace), DataW.trod enc P w base spare held fuel t cs = some x → ∃ y, d.K w y cs ∧ wf y
section
variable {P : Program} {t : TypeId}
theorem opens_int {k : IntKind} (ht : P.underlying t = some (.int k)) : Opens P t (Kd.int k) (fun n => (Lit.int k n).wf = true) := by
  intro H enc w base spare held fuel cs x h
  obtain ⟨n, rfl, _, hw⟩ := DataW.trod_int ht h
  exact ⟨n, rfl, hw⟩
theorem opens_bool (ht : P.underlying t = some .bool) : Opens P t Kd.bool (fun _ => True) := by
  intro H enc w base spare held fuel cs x h
  cases fuel with
  | zero => simp [DataW.trod] at h
  | succ n =>
    unfold DataW.trod at h
    rw [ht] at h
    split at h
    case h_1 => exact ⟨_, rfl, trivial⟩
    all_goals simp_all
theorem cells_cell {w : World} {base n : Nat} {a : Addr} {cs : List Value} (h : w.cells? base a n = some cs) : cs.length = n ∧ ∀ i u, cs[i]? = some u → w.cell? (a.add i) = some u := by
  obtain ⟨_, hl, hc⟩ := World.cells?_some h
  refine ⟨hl, fun i u hu => ?_⟩
  have hi : i < n := by rw [← hl]; exact (List.getElem?_eq_some_iff.1 hu).1
  rw [hc i hi, hu]
theorem opens_slice {α : Type} {e : TypeId} {d : Kd α} {wf : α → Prop} (ht : P.underlying t = some (.slice e)) (hsz : P.cellsOf e = d.sz) (h : Opens P e d wf) :
    Opens P t (Kd.slice e d) (fun l => l.length ≤ maxLen ∧ ∀ x ∈ l, wf x) := by
  intro H enc w base spare held fuel cs x hx
  rcases Deep.open_slice ht hx with ⟨rfl, _⟩ | ⟨a, len, cap, m, n, D, Pl, rfl, _, hl, hm, hmm, _, hel⟩
  · exact ⟨[], ⟨none, 0, rfl, Nat.le_refl _, Kd.C_nil _ _⟩, Nat.zero_le _, fun x hx => by cases hx⟩
  · have hlm : len ≤ m := by rw [hmm]; split <;> omega
    have hone : ∀ i, i < len → ∃ y : α, wf y ∧ ∃ c, c.length = d.sz ∧ d.K w y c ∧ ∀ j u, c[j]? = some u → w.cell? ((a.add (i * d.sz)).add j) = some u := by
      intro i hi
      obtain ⟨cs', hc, ht'⟩ := hel i (by omega)
      obtain ⟨y, hK, hw⟩ := h H enc w base spare held n cs' _ ht'
      rw [hsz] at hc
      obtain ⟨hlen, hcell⟩ := cells_cell hc
      exact ⟨y, hw, cs', hlen, hK, hcell⟩
    let f : Nat → Option α := fun i => if hi : i < len then some (Classical.choose (hone i hi)) else none
    have hf : ∀ i (hi : i < len), f i = some (Classical.choose (hone i hi)) := fun i hi => dif_pos hi
    let l : List α := (List.range len).filterMap f
    have hln : ∀ m, m ≤ len → ((List.range m).filterMap f).length = m ∧ ∀ i (hi : i < len), i < m → ((List.range m).filterMap f)[i]? = some (Classical.choose (hone i hi)) := by
      intro m
      induction m with
      | zero => exact fun _ => ⟨rfl, fun i _ h0 => absurd h0 (Nat.not_lt_zero _)⟩
      | succ m ih =>
        intro hm'
        obtain ⟨h1, h2⟩ := ih (by omega)
        rw [List.range_succ, List.filterMap_append]
        have he : [m].filterMap f = [Classical.choose (hone m (by omega))] := by simp [hf m (by omega)]
        rw [he]
        refine ⟨by simp [h1], fun i hi him => ?_⟩
        rcases Nat.lt_succ_iff_lt_or_eq.1 him with hlt | rfl
        · rw [List.getElem?_append_left (by omega)]
          exact h2 i hi hlt
        · rw [List.getElem?_append_right (by omega), h1]
          simp
    obtain ⟨hlen, hget⟩ := hln len (Nat.le_refl _)
    have hmax : cap ≤ 9223372036854775807 := by unfold maxLen at hm; omega
    refine ⟨l, ⟨some a, cap, ?_, ?_, ?_⟩, ?_, ?_⟩
    · show [Value.slice (some a) len cap] = _
      rw [hlen]
    · rw [hlen]; exact hl
    · refine ⟨rfl, by rw [hlen]; omega, fun _ => ⟨a, rfl, fun j p hp => ?_⟩⟩
      have hj : j < len := by rw [← hlen]; exact (List.getElem?_eq_some_iff.1 hp).1
      rw [hget j hj hj] at hp
      obtain rfl := Option.some.inj hp
      obtain ⟨_, c, hc1, hc2, hc3⟩ := Classical.choose_spec (hone j hj)
      exact ⟨c, hc1, hc2, fun i u hu => by rw [← Deep.add_add]; exact hc3 i u hu⟩
    · rw [hlen]; omega
    · intro x hx
      obtain ⟨j, hj⟩ := List.getElem?_of_mem hx
      have hj' : j < len := by rw [← hlen]; exact (List.getElem?_eq_some_iff.1 hj).1
      rw [hget j hj' hj'] at hj
      obtain rfl := Option.some.inj hj
      exact (Classical.choose_spec (hone j hj')).1
def OpensF {α : Type} (P : Program) (fs : List Field) (off : Nat) (d : Kd α) (wf : α → Prop) : Prop :=
  ∀ (H : Type) (enc : TypeId × Value → H) (w : World) (base : Nat) (spare : Nat → Bool) (held : Bool) (n : Nat) (cs : List Value), cs.length = off + d.sz →
    (∀ f ∈ fs, ∃ y, DataW.trod enc P w base spare held n f.type ((cs.drop f.offset).take (P.cellsOf f.type)) = some y) → ∃ y, d.K w y (cs.drop off) ∧ wf y
theorem opensF_one {α : Type} {f : Field} {d : Kd α} {wf : α → Prop} (hsz : P.cellsOf f.type = d.sz) (h : Opens P f.type d wf) : OpensF P [f] f.offset d wf := by
  intro H enc w base spare held n cs hl hf
  obtain ⟨y, hy⟩ := hf f (List.mem_singleton.2 rfl)
  rw [List.take_of_length_le (by rw [List.length_drop, hl, hsz]; omega)] at hy
  exact h H enc w base spare held n _ _ hy
theorem opensF_cons {α β : Type} {f : Field} {fs : List Field} {d : Kd α} {d' : Kd β} {wf : α → Prop} {wf' : β → Prop} (hsz : P.cellsOf f.type = d.sz) (h : Opens P f.type d wf) (h' : OpensF P fs (f.offset + d.sz) d' wf') :
    OpensF P (f :: fs) f.offset (Kd.pair d d') (fun x => wf x.1 ∧ wf' x.2) := by
  intro H enc w base spare held n cs hl hf
  have hl' : cs.length = f.offset + (d.sz + d'.sz) := hl
  obtain ⟨y, hy⟩ := hf f (List.mem_cons_self)
  rw [hsz] at hy
  obtain ⟨a, hK, hw⟩ := h H enc w base spare held n _ _ hy
  obtain ⟨b, hK', hw'⟩ := h' H enc w base spare held n cs (by rw [hl']; omega) (fun g hg => hf g (List.mem_cons_of_mem _ hg))
  refine ⟨(a, b), ⟨(cs.drop f.offset).take d.sz, cs.drop (f.offset + d.sz), ?_, hK, hK'⟩, hw, hw'⟩
  rw [← List.drop_drop, List.take_append_drop]
theorem opens_struct {α : Type} {fs : Array Field} {d : Kd α} {wf : α → Prop} (ht : P.underlying t = some (.struct fs)) (hsz : P.cellsOf t = d.sz) (h : OpensF P fs.toList 0 d wf) : Opens P t d wf := by
  intro H enc w base spare held fuel cs x hx
  obtain ⟨xs, n, _, _, hl, hlen, hf⟩ := DataW.trod_struct ht hx
  obtain ⟨y, hK, hw⟩ := h H enc w base spare held n cs (by rw [hl, hsz]; omega) (fun f hm => by
    obtain ⟨i, hi⟩ := List.getElem?_of_mem hm
    have hi' : fs[i]? = some f := by simpa using hi
    have hlt : i < xs.length := by rw [hlen]; exact (Array.getElem?_eq_some_iff.1 hi').1
    exact ⟨xs[i], by rw [hf i f hi', List.getElem?_eq_getElem hlt]⟩)
  exact ⟨y, by simpa using hK, hw⟩
theorem opens_iso {α β : Type} {d : Kd α} {wf : α → Prop} (f : β → α) (g : α → β) (hfg : ∀ a, f (g a) = a) (h : Opens P t d wf) : Opens P t (Kd.iso d f) (fun b => wf (f b)) := by
  intro H enc w base spare held fuel cs x hx
  obtain ⟨y, hK, hw⟩ := h H enc w base spare held fuel cs x hx
  exact ⟨g y, by show d.K w (f (g y)) cs; rw [hfg]; exact hK, by show wf (f (g y)); rw [hfg]; exact hw⟩
theorem arg_slice {α : Type} {e : TypeId} {d : Kd α} {wf : List α → Prop} {r : Reach} {W : World} {b0 : Nat} {v : Value} (ht : P.underlying t = some (.slice e)) (ho : Opens P t (Kd.slice e d) wf) (hv : Value.okWide P W r b0 t v)
    {H : Type} {enc : TypeId × Value → H} {base : Nat} {spare : Nat → Bool} {held : Bool} {dd : DataW H} {ps : List MemPlace} (h : DataW.Trod enc P W base spare held t v dd ps) :
    ∃ (A : Option Addr) (c : Nat) (l : List α), v = .slice A l.length c ∧ l.length ≤ c ∧ d.C W A l.length l ∧ wf l := by
  obtain ⟨a, len, cap, rfl⟩ := okWide_slice ht hv
  obtain ⟨fuel, hf⟩ := h
  obtain ⟨l, ⟨A, c, he, hl, hC⟩, hw⟩ := ho H enc W base spare held fuel _ _ hf
  have he' : Value.slice a len cap = Value.slice A l.length c := by simpa [Value.cells] using he
  exact ⟨A, c, l, he', hl, hC, hw⟩
end
end Go.Proofs.YtfdhnmijaobbdaaW.PrintMore
namespace Go.Proofs.YtfdhnmijaobbdaaW.PrintMore
open Go.RowKit Go.ChangeShapes Go.WideShapes
theorem sized_any {H : Type} {enc : TypeId × Value → H} {P : Program} {W : World} {base : Nat} {spare : Nat → Bool} {held : Bool} {t e : TypeId} {a : Option Addr} {len cap : Nat} {d : DataW H} {ps : List MemPlace} {ts : List TypeId} {ds : List (DataW H)} {j : Nat}
    (hsz : (DataW.weightsEach P ts ds).all (· ≤ reachBytes) = true) (ht : ts[j]? = some t) (hd : ds[j]? = some d) (hu : P.underlying t = some (.slice e)) {B : Nat} (hB : P.bytesOf e = B)
    (h : DataW.Trod enc P W base spare held t (.slice a len cap) d ps) : len * B ≤ 140737488351232 := by
  obtain ⟨fuel, hf⟩ := h
  rcases Deep.open_slice hu hf with ⟨hcs, _⟩ | ⟨x, l, c, m, n, D, Pl, hcs, _, hl, _, hm, hx, _⟩
  · simp [Value.cells] at hcs
    obtain ⟨rfl, rfl, rfl⟩ := hcs
    simp
  · simp [Value.cells] at hcs
    obtain ⟨rfl, rfl, rfl⟩ := hcs
    obtain ⟨hx, _⟩ := Prod.mk.inj hx
    subst hx
    have z := sized_slice hsz ht hd hu
    rw [hB] at z
    refine Nat.le_trans (Nat.mul_le_mul_right _ ?_) z
    simp
end Go.Proofs.YtfdhnmijaobbdaaW.PrintMore
end
section
namespace Go.Proofs.Ytfdhnmijaobbdaa.S
open Go.RowKit Go.Proofs.YtfdhnmijaobbdaaW.PrintWords Go.Proofs.YtfdhnmijaobbdaaW.PrintLast Go.Proofs.YtfdhnmijaobbdaaW.PrintMore
set_option linter.unusedVariables false
def wf60 (x : S60) : Prop := (Lit.int .i64 x.f0).wf = true ∧ (Lit.int .i64 x.f1).wf = true
theorem opens60 : Opens Try.prog 60 k60 wf60 := opens_iso (fun x : S60 => (x.f0, x.f1)) (fun p => ⟨p.1, p.2⟩) (fun _ => rfl) (opens_struct Try.underlying60 (by kernel_rfl) (opensF_cons (by kernel_rfl) (opens_int Try.underlying3) (opensF_one (by kernel_rfl) (opens_int Try.underlying3))))
def wf25 (x : S25) : Prop := (x.f0.length ≤ maxLen ∧ ∀ z_ ∈ x.f0, wf60 z_)
theorem opens25 : Opens Try.prog 25 k25 wf25 := opens_iso (fun x : S25 => (x.f0)) (fun p => ⟨p⟩) (fun _ => rfl) (opens_struct Try.underlying25 (by kernel_rfl) (opensF_one (by kernel_rfl) (opens_slice Try.underlying23 (by kernel_rfl) opens60)))
def wf52 (x : S52) : Prop := (Lit.int .i64 x.f0).wf = true ∧ wf25 x.f1 ∧ (Lit.int .i64 x.f2).wf = true ∧ True
theorem opens52 : Opens Try.prog 52 k52 wf52 := opens_iso (fun x : S52 => (x.f0, x.f1, x.f2, x.f3)) (fun p => ⟨p.1, p.2.1, p.2.2.1, p.2.2.2⟩) (fun _ => rfl) (opens_struct Try.underlying52 (by kernel_rfl) (opensF_cons (by kernel_rfl) (opens_int Try.underlying3) (opensF_cons (by kernel_rfl) opens25 (opensF_cons (by kernel_rfl) (opens_int Try.underlying3) (opensF_one (by kernel_rfl) (opens_bool Try.underlying4))))))
end Go.Proofs.Ytfdhnmijaobbdaa.S
end
section
namespace Go.Proofs.Ytfdhnmijaobbdaa.Pure
open Go.RowKit Go.Proofs.YtfdhnmijaobbdaaW.PrintWords Go.Proofs.YtfdhnmijaobbdaaW.PrintLast Go.Proofs.YtfdhnmijaobbdaaW.PrintMore Go.Proofs.Ytfdhnmijaobbdaa.S
theorem FeedNewest : ∀ (l0 : List (S52)) (a1 : Int) (a2 : Int), (l0.length ≤ maxLen ∧ ∀ z_ ∈ l0, wf52 z_) → (Lit.int .u8 a1).wf = true → (Lit.int .u8 a2).wf = true → l0.length * 48 ≤ 140737488351232 → ∃ k, chalklinelaw35_FeedNewest.f k l0 a1 a2 = some true := by
  intro l0 a1 a2 hl w1 w2 _
  have u8 : ∀ a : Int, (Lit.int .u8 a).wf = true → 0 ≤ a ∧ a ≤ 255 := by
    intro a h
    simp [Lit.wf, IntKind.min, IntKind.max, IntKind.signed, IntKind.bits] at h
    omega
  have h1 := hl.1
  unfold maxLen at h1
  exact ⟨0, if_pos ⟨by omega, u8 a1 w1, u8 a2 w2⟩⟩
end Go.Proofs.Ytfdhnmijaobbdaa.Pure
end
section
namespace Go.Proofs.Ytfdhnmijaobbdaa.feedNewest
open Go.ChangeShapes Go.WideShapes Go.ChangeAt Go.RowKit Go.Proofs.YtfdhnmijaobbdaaW.PrintWords Go.Proofs.YtfdhnmijaobbdaaW.PrintLast Go.Proofs.YtfdhnmijaobbdaaW.PrintMore Go.Proofs.Ytfdhnmijaobbdaa.S
open Go.ChangeMaps (open_string shut_string)
set_option linter.unusedVariables false
theorem own : ownKnob Try.prog.godebug = none := by kernel_rfl
theorem laidOut : laidOutB Try.prog = true := by kernel_rfl
set_option maxRecDepth 100000 in
theorem lifted (os : Os) (started : os.Started) (H : Type) (enc : TypeId × Value → H) :
    ReturnsInHanded {} Try.checked os 6 .any (Rows.feedNewestSpec.pre6 enc Try.prog Try.f6 Rows.feedNewestRow.domain false) (Rows.feedNewestSpec.post enc Try.prog Try.f6 false true false false) := by
  refine returnsInHanded_of_change_sized (C := Try.checked) own started (by kernel_rfl) Try.func6
    (ChangeSpec.witness6 (enc := enc) (C := Try.checked) false ⟨#[], #[.slice none 0 0, .int .u8 0, .int .u8 0], []⟩ 8 (by kernel_rfl) (by kernel_rfl) (by kernel_rfl) (by kernel_rfl)) ?_
  intro W base args ds gs before hval0 hW hcnd hsz0 _
  have hsz : (DataW.weightsEach Try.prog (Try.f6.params.toList ++ Rows.feedNewestSpec.plain.varTypes Try.prog) (ds ++ gs)).all (· ≤ reachBytes) = true := hsz0
  have hval : ∀ (j : Nat) t v, Try.f6.params[j]? = some t → args[j]? = some v → Value.okWide Try.prog W .any base t v := hval0
  have hW' := hW
  obtain ⟨p, q, hA0, hV, rfl, hfz, hnd⟩ := hW
  have hA : DataW.TrodAll enc Try.prog W 0 (fun _ => true) true Try.f6.params.toList args.toList ds p := hA0
  rw [Try.params6] at hA hval hsz
  obtain ⟨v0, vs0, d0, ds0, p0, q0, hargs, rfl, rfl, h0, r0⟩ := trodAll_cons hA
  obtain ⟨v1, vs1, d1, ds1, p1, q1, rfl, rfl, rfl, h1, r1⟩ := trodAll_cons r0
  obtain ⟨v2, vs2, d2, ds2, p2, q2, rfl, rfl, rfl, h2, r2⟩ := trodAll_cons r1
  obtain ⟨rfl, rfl, rfl⟩ := trodAll_nil r2
  obtain rfl : args = #[v0, v1, v2] := by cases args; simp_all
  obtain ⟨rfl, rfl⟩ := trodVars_none hV
  have k0 := h0
  have lt0 : ∀ x ∈ p0, x.block < W.heap.size := by obtain ⟨m, hm⟩ := k0; exact DataW.trod_lt m _ _ _ hm
  obtain ⟨A0, c0, l0, rfl, hc0, hr0, w0⟩ := arg_slice Try.underlying22 (opens_slice Try.underlying22 (by kernel_rfl) opens52) (hval 0 22 v0 rfl rfl) h0
  have y0 : l0.length * 48 ≤ 140737488351232 := sized_any hsz (j := 0) (t := 22) rfl rfl Try.underlying22 (by kernel_rfl) k0
  obtain ⟨a1, rfl, rfl, rfl, w1⟩ := open_int Try.underlying5 (hval 1 5 v1 rfl rfl) h1
  obtain ⟨a2, rfl, rfl, rfl, w2⟩ := open_int Try.underlying5 (hval 2 5 v2 rfl rfl) h2
  clear hA0 hval0 hsz0 hsz
  obtain ⟨k, hp⟩ := Pure.FeedNewest l0 a1 a2 w0 w1 w2 y0
  refine (chalklinelaw35_FeedNewest.calls k _ _ l0 a1 a2 true W hr0 hc0 hp).mono fun e W' ⟨he, bel⟩ => ?_
  subst he
  exact ⟨_, rfl, _, _, _, [], _, [], hW', trodAll_mk1 (shut_bool Try.underlying4 _), (trodAll_cons_mk (Below.trod laidOut (by kernel_rfl) (of_decide_eq_true (by kernel_rfl)) k0 bel lt0) (trodAll_cons_mk (shut_int Try.underlying5 w1) (trodAll_cons_mk (shut_int Try.underlying5 w2) trodAll_mk0))), rfl, bel.frame _, fun h => by cases h⟩
theorem over : Rows.feedNewestRow.holds Try.pinned (OpenSpec.ofChange Rows.feedNewestSpec) :=
  OpenClaim.holds_of_wide 6 Try.f6 rfl rfl rfl rfl rfl rfl rfl ⟨rfl, rfl, rfl, rfl, rfl⟩ rfl rfl rfl rfl rfl (by kernel_rfl) Try.func6 (by kernel_rfl)
    (of_decide_eq_true (by kernel_rfl)) (by unfold Func.isWrapper; first | (rw [if_pos (by decide +kernel)]; kernel_rfl) | (rw [if_neg (by decide +kernel)]; exact ⟨rfl, rfl⟩))
    (fun os started H enc _ => lifted os started H enc)
theorem proved : Rows.FeedNewestSaid := over
#print axioms proved
end Go.Proofs.Ytfdhnmijaobbdaa.feedNewest
namespace Go.Proofs.Ytfdhnmijaobbdaa
theorem feedNewest_holds : Rows.FeedNewestSaid := feedNewest.proved
end Go.Proofs.Ytfdhnmijaobbdaa
end
