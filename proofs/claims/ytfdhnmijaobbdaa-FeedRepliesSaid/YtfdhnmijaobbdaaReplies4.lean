/- feedReplies_holds: part 4 of the proof: the plain functions, the walks of the program's functions and the laws about them. Conditions: those that each theorem states. -/
import Derived.Test.YtfdhnmijaobbdaaReplies1
import Derived.Test.YtfdhnmijaobbdaaReplies2
import Derived.Test.YtfdhnmijaobbdaaReplies3
section
namespace Go.Proofs.Ytfdhnmijaobbdaa.S
open Go.RowKit Go.Proofs.YtfdhnmijaobbdaaW.PrintWords Go.Proofs.YtfdhnmijaobbdaaW.PrintLast Go.Proofs.YtfdhnmijaobbdaaW.PrintMore
attribute [local go_sem] max2_int min2_int max_two min_two max_three min_three max_four min_four   -- for this text's walks alone
set_option linter.unusedVariables false
set_option linter.unusedSimpArgs false
def chalklinelaw35_live.f : Option Bool := some true
set_option maxHeartbeats 8000000 in
set_option maxRecDepth 100000 in
theorem chalklinelaw35_live.calls (r : Bool) (w : World) (h : chalklinelaw35_live.f = some r) : Calls Try.prog 11 #[] w fun e w' => e = .returned (.bool r) ∧ Below w.heap.size w w' := by
  obtain rfl := Option.some.inj h
  clear h
  have P1 := Aside0.mk (show feed_Reply.f 9 [(⟨1, ⟨[(⟨0, 0⟩ : S60)]⟩, 0, false⟩ : S52), (⟨2, ⟨[(⟨1, 0⟩ : S60)]⟩, 3, true⟩ : S52)] 1 4 = some (2, 4, 1, 2, [], [(⟨0, ⟨1, 0⟩⟩ : S64)], 0) by kernel_rfl)
  have P2 := Aside0.mk (show feed_Reply.f 9 [(⟨1, ⟨[(⟨0, 0⟩ : S60)]⟩, 0, false⟩ : S52), (⟨2, ⟨[(⟨1, 0⟩ : S60)]⟩, 3, true⟩ : S52)] 0 4 = some (1, 4, 0, 2, [(⟨1, 0⟩ : S60)], [], 0) by kernel_rfl)
  have P3 := Aside0.mk (show feed_Reply.f 9 [(⟨1, ⟨[(⟨0, 0⟩ : S60)]⟩, 0, false⟩ : S52), (⟨2, ⟨[(⟨1, 0⟩ : S60)]⟩, 3, true⟩ : S52)] 2 4 = some (0, 0, 0, 0, [], [], 341) by kernel_rfl)
  have P4 := Aside0.mk (show feed_Take.f 9 1 [(⟨0, 0⟩ : S60)] 2 4 1 2 [] [(⟨0, ⟨1, 0⟩⟩ : S64)] = some (2, [(⟨1, 0⟩ : S60)], 0) by kernel_rfl)
  have P5 := Aside0.mk (show feed_Take.f 9 2 [(⟨1, 0⟩ : S60)] 2 4 1 2 [] [(⟨0, ⟨1, 0⟩⟩ : S64)] = some (0, [], 341) by kernel_rfl)
  have P6 := Aside0.mk (show feed_Take.f 9 0 [] 2 4 1 2 [] [(⟨0, ⟨1, 0⟩⟩ : S64)] = some (0, [], 350) by kernel_rfl)
  have P7 := Aside0.mk (show feed_Take.f 9 0 [] 1 4 0 2 [(⟨1, 0⟩ : S60)] [] = some (2, [(⟨1, 0⟩ : S60)], 0) by kernel_rfl)
  have P8 := Aside0.mk (show chalklineref35_Msgs.f 9 2 4 1 2 [] [(⟨0, ⟨1, 0⟩⟩ : S64)] 2 4 1 2 [] [(⟨0, ⟨1, 0⟩⟩ : S64)] = some true by kernel_rfl)
  have P9 := Aside0.mk (show chalklineref35_Msgs.f 9 1 4 0 2 [(⟨1, 0⟩ : S60)] [] 1 4 0 2 [(⟨1, 0⟩ : S60)] [] = some true by kernel_rfl)
  have P10 := Aside0.mk (show chalklineref35_Clients.f 9 2 [(⟨1, 0⟩ : S60)] 2 [(⟨1, 0⟩ : S60)] = some true by kernel_rfl)
  have P11 := Aside0.mk (show feed_Wish.f 2 [(⟨1, 0⟩ : S60)] 4 = some (3, 4, 0, 2, [], []) by kernel_rfl)
  have P12 := Aside0.mk (show feed_Check.f 9 [(⟨1, ⟨[(⟨0, 0⟩ : S60)]⟩, 0, false⟩ : S52), (⟨2, ⟨[(⟨1, 0⟩ : S60)]⟩, 3, true⟩ : S52)] = some 0 by kernel_rfl)
  have P13 := Aside0.mk (show feed_Check.f 9 [(⟨2, ⟨[(⟨1, 0⟩ : S60)]⟩, 3, true⟩ : S52)] = some 1 by kernel_rfl)
  have hu25 := Try.underlying25
  have hu27 := Try.underlying27
  have hu32 := Try.underlying32
  have hu52 := Try.underlying52
  have hu60 := Try.underlying60
  have hu64 := Try.underlying64
  have hu22 := Try.underlying22
  have hu23 := Try.underlying23
  have hu30 := Try.underlying30
  have hfd : ∀ (w : World) (x0 x1 x2 x3 x4 x5 : Value), (Instr.field 32 (.agg #[x0, x1, x2, x3, x4, x5]) 3).run Try.prog w = .ok x3 w := fun _ _ _ _ _ _ _ => by kernel_rfl
  have S := Aside0.mk (Below.refl w.heap.size w)
  go_enter Try.func11, Try.ntmps11
  go_wp2_with (first | ((with_reducible refine gate_dst (N := 21) rfl ?_); refine lit_event ?hg (N := 21) ?hd (cs := #[.int .i64 0, .int .i64 0]) (T := 60) (n := 1) ?hr ?_; (case hg => rfl); (case hd => rfl); (case hr => first | (go_simp; done) | (go_simp; rfl)); intro ra hg w1 hbox hb; clear hg; replace S := Aside0.mk (stab_step (P := (fun x_ => Below w.heap.size w x_)) (w := w) S.out (by repeat (first | exact Below.refl _ _ | apply pw_below_drewN | apply below_drew1 | apply below_alloc)) hb (by repeat' (with_reducible first | exact stab_blk _ _ | exact stab_C _ _ _ _ | exact stab_base _ | exact stab_R _ _ _ _ _ _ | refine stab_and ?_ ?_))); clear hb; replace S := Aside0.mk (And.intro S.out (show Kd.C k60 w1 (some ⟨ra, 0, none⟩) 1 [(⟨0, 0⟩ : S60)] from C_lit k60 (xs := [(⟨0, 0⟩ : S60)]) (inner := [.int .i64 0, .int .i64 0]) hbox (Reps.c2 (k60_mk _ _) (Reps.none _ _)) (by decide))); clear hbox) | ((with_reducible refine gate_dst (N := 1) rfl ?_); refine var_event ?hg (N := 1) ?hd ?hg2 ?hn2 (z := #[.slice none 0 0]) (cs := #[.slice (some ⟨ra, 0, none⟩) 1 1]) (T := 25) ?hr ?hs ?_; (case hg => rfl); (case hd => rfl); (case hg2 => rfl); (case hn2 => rfl); (case hr => first | (go_simp; done) | (go_simp; rfl)); (case hs => first | (go_simp; done) | (go_simp; rfl)); intro ga hg w2 hbox hb; clear hg; replace S := Aside0.mk (stab_step (P := (fun x_ => (Below w.heap.size w x_) ∧ Kd.C k60 x_ (some ⟨ra, 0, none⟩) 1 [(⟨0, 0⟩ : S60)])) (w := w1) S.out (by repeat (first | exact Below.refl _ _ | apply pw_below_drewN | apply below_drew1 | apply below_alloc)) hb (by repeat' (with_reducible first | exact stab_blk _ _ | exact stab_C _ _ _ _ | exact stab_base _ | exact stab_R _ _ _ _ _ _ | refine stab_and ?_ ?_))); clear hb; replace S := Aside0.mk (And.intro S.out (show w2.heap[ga]? = some (Obj.cells #[.slice (some ⟨ra, 0, none⟩) 1 1] 25 (0, 0)) from hbox)); clear hbox) | ((with_reducible refine gate_dst (N := 24) rfl ?_); refine lit_event ?hg (N := 24) ?hd (cs := #[.int .i64 1, .int .i64 0]) (T := 60) (n := 1) ?hr ?_; (case hg => rfl); (case hd => rfl); (case hr => first | (go_simp; done) | (go_simp; rfl)); intro rb hg w3 hbox hb; clear hg; replace S := Aside0.mk (stab_step (P := (fun x_ => ((Below w.heap.size w x_) ∧ Kd.C k60 x_ (some ⟨ra, 0, none⟩) 1 [(⟨0, 0⟩ : S60)]) ∧ x_.heap[ga]? = some (Obj.cells #[.slice (some ⟨ra, 0, none⟩) 1 1] 25 (0, 0)))) (w := w2) S.out (by repeat (first | exact Below.refl _ _ | apply pw_below_drewN | apply below_drew1 | apply below_alloc)) hb (by repeat' (with_reducible first | exact stab_blk _ _ | exact stab_C _ _ _ _ | exact stab_base _ | exact stab_R _ _ _ _ _ _ | refine stab_and ?_ ?_))); clear hb; replace S := Aside0.mk (And.intro S.out (show Kd.C k60 w3 (some ⟨rb, 0, none⟩) 1 [(⟨1, 0⟩ : S60)] from C_lit k60 (xs := [(⟨1, 0⟩ : S60)]) (inner := [.int .i64 1, .int .i64 0]) hbox (Reps.c2 (k60_mk _ _) (Reps.none _ _)) (by decide))); clear hbox) | ((with_reducible refine gate_dst (N := 2) rfl ?_); refine var_event ?hg (N := 2) ?hd ?hg2 ?hn2 (z := #[.slice none 0 0]) (cs := #[.slice (some ⟨rb, 0, none⟩) 1 1]) (T := 25) ?hr ?hs ?_; (case hg => rfl); (case hd => rfl); (case hg2 => rfl); (case hn2 => rfl); (case hr => first | (go_simp; done) | (go_simp; rfl)); (case hs => first | (go_simp; done) | (go_simp; rfl)); intro gb hg w4 hbox hb; clear hg; replace S := Aside0.mk (stab_step (P := (fun x_ => (((Below w.heap.size w x_) ∧ Kd.C k60 x_ (some ⟨ra, 0, none⟩) 1 [(⟨0, 0⟩ : S60)]) ∧ x_.heap[ga]? = some (Obj.cells #[.slice (some ⟨ra, 0, none⟩) 1 1] 25 (0, 0))) ∧ Kd.C k60 x_ (some ⟨rb, 0, none⟩) 1 [(⟨1, 0⟩ : S60)])) (w := w3) S.out (by repeat (first | exact Below.refl _ _ | apply pw_below_drewN | apply below_drew1 | apply below_alloc)) hb (by repeat' (with_reducible first | exact stab_blk _ _ | exact stab_C _ _ _ _ | exact stab_base _ | exact stab_R _ _ _ _ _ _ | refine stab_and ?_ ?_))); clear hb; replace S := Aside0.mk (And.intro S.out (show w4.heap[gb]? = some (Obj.cells #[.slice (some ⟨rb, 0, none⟩) 1 1] 25 (0, 0)) from hbox)); clear hbox; have hcz_ga_0 : World.cell? w4 ⟨ga, 0, none⟩ = some (.slice (some ⟨ra, 0, none⟩) 1 1) := (blk_cell S.out.1.1.2 0).trans rfl; have hcz_gb_0 : World.cell? w4 ⟨gb, 0, none⟩ = some (.slice (some ⟨rb, 0, none⟩) 1 1) := (blk_cell S.out.2 0).trans rfl) | ((with_reducible refine gate_dst (N := 30) rfl ?_); refine lit_event ?hg (N := 30) ?hd (cs := #[.int .i64 1, .slice (some ⟨ra, 0, none⟩) 1 1, .int .i64 0, .bool false, .int .i64 2, .slice (some ⟨rb, 0, none⟩) 1 1, .int .i64 3, .bool true]) (T := 52) (n := 2) ?hr ?_; (case hg => rfl); (case hd => rfl); (case hr => first | (go_simp; done) | (go_simp; rfl)); intro rl hg w5 hbox hb; clear hg; replace S := Aside0.mk (stab_step (P := (fun x_ => ((((Below w.heap.size w x_) ∧ Kd.C k60 x_ (some ⟨ra, 0, none⟩) 1 [(⟨0, 0⟩ : S60)]) ∧ x_.heap[ga]? = some (Obj.cells #[.slice (some ⟨ra, 0, none⟩) 1 1] 25 (0, 0))) ∧ Kd.C k60 x_ (some ⟨rb, 0, none⟩) 1 [(⟨1, 0⟩ : S60)]) ∧ x_.heap[gb]? = some (Obj.cells #[.slice (some ⟨rb, 0, none⟩) 1 1] 25 (0, 0)))) (w := w4) S.out (by repeat (first | exact Below.refl _ _ | apply pw_below_drewN | apply below_drew1 | apply below_alloc)) hb (by repeat' (with_reducible first | exact stab_blk _ _ | exact stab_C _ _ _ _ | exact stab_base _ | exact stab_R _ _ _ _ _ _ | refine stab_and ?_ ?_))); clear hb; (try clear hcz_ga_0); (try clear hcz_gb_0); replace S := Aside0.mk (And.intro S.out (show Kd.C k52 w5 (some ⟨rl, 0, none⟩) 2 [(⟨1, ⟨[(⟨0, 0⟩ : S60)]⟩, 0, false⟩ : S52), (⟨2, ⟨[(⟨1, 0⟩ : S60)]⟩, 3, true⟩ : S52)] from C_lit k52 (xs := [(⟨1, ⟨[(⟨0, 0⟩ : S60)]⟩, 0, false⟩ : S52), (⟨2, ⟨[(⟨1, 0⟩ : S60)]⟩, 3, true⟩ : S52)]) (inner := [.int .i64 1, .slice (some ⟨ra, 0, none⟩) 1 1, .int .i64 0, .bool false, .int .i64 2, .slice (some ⟨rb, 0, none⟩) 1 1, .int .i64 3, .bool true]) hbox (Reps.c4 (k52_mk _ (⟨1, ⟨[(⟨0, 0⟩ : S60)]⟩, 0, false⟩ : S52) (A1 := some ⟨ra, 0, none⟩) (c1 := 1) (by decide) S.out.1.1.1.2) (Reps.c4 (k52_mk _ (⟨2, ⟨[(⟨1, 0⟩ : S60)]⟩, 3, true⟩ : S52) (A1 := some ⟨rb, 0, none⟩) (c1 := 1) (by decide) S.out.1.2) (Reps.none _ _))) (by decide))); clear hbox) | ((with_reducible refine gate_dst (N := 33) rfl ?_); refine goesL_ (some 33) rfl rfl Try.func13 (by kernel_rfl) rfl #[.slice (some ⟨rl, 0, none⟩) 2 2, .int .i64 1, .int .i64 4] rfl (by (try simp only [List.map_toArray, List.map_cons, List.map_nil]); first | done | rfl) ?_; refine (feed_Reply.calls 9 _ _ [(⟨1, ⟨[(⟨0, 0⟩ : S60)]⟩, 0, false⟩ : S52), (⟨2, ⟨[(⟨1, 0⟩ : S60)]⟩, 3, true⟩ : S52)] 1 4 _ _ _ _ _ _ _ _ ?side1 ?side2 P1.out).mono ?_; (case side1 => exact stab_now (P := (fun x_ => Kd.C k52 x_ (some ⟨rl, 0, none⟩) 2 [(⟨1, ⟨[(⟨0, 0⟩ : S60)]⟩, 0, false⟩ : S52), (⟨2, ⟨[(⟨1, 0⟩ : S60)]⟩, 3, true⟩ : S52)])) (w := w5) S.out.2 (by repeat (first | exact Below.refl _ _ | apply pw_below_drewN | apply below_drew1 | apply below_alloc)) (stab_C _ _ _ _)); (case side2 => decide); rintro e w6 ⟨vd4, vd5, rfl, ho0, ho1, hb⟩; refine ⟨_, rfl, ?_⟩; obtain ⟨Ad4, cd4, e0, hlcd4, hC0⟩ := Kd.R_reads ho0; subst e0; have HLcd4 := Aside0.mk hlcd4; clear hlcd4 ho0; obtain ⟨Ad5, cd5, e1, hlcd5, hC1⟩ := Kd.R_reads ho1; subst e1; have HLcd5 := Aside0.mk hlcd5; clear hlcd5 ho1; replace S := Aside0.mk (stab_step (P := (fun x_ => (((((Below w.heap.size w x_) ∧ Kd.C k60 x_ (some ⟨ra, 0, none⟩) 1 [(⟨0, 0⟩ : S60)]) ∧ x_.heap[ga]? = some (Obj.cells #[.slice (some ⟨ra, 0, none⟩) 1 1] 25 (0, 0))) ∧ Kd.C k60 x_ (some ⟨rb, 0, none⟩) 1 [(⟨1, 0⟩ : S60)]) ∧ x_.heap[gb]? = some (Obj.cells #[.slice (some ⟨rb, 0, none⟩) 1 1] 25 (0, 0))) ∧ Kd.C k52 x_ (some ⟨rl, 0, none⟩) 2 [(⟨1, ⟨[(⟨0, 0⟩ : S60)]⟩, 0, false⟩ : S52), (⟨2, ⟨[(⟨1, 0⟩ : S60)]⟩, 3, true⟩ : S52)])) (w := w5) S.out (by repeat (first | exact Below.refl _ _ | apply pw_below_drewN | apply below_drew1 | apply below_alloc)) hb (by repeat' (with_reducible first | exact stab_blk _ _ | exact stab_C _ _ _ _ | exact stab_base _ | exact stab_R _ _ _ _ _ _ | refine stab_and ?_ ?_))); clear hb; replace S := Aside0.mk (And.intro S.out (show Kd.C k60 w6 Ad4 ([] : List _).length [] from hC0)); clear hC0; replace S := Aside0.mk (And.intro S.out (show Kd.C k64 w6 Ad5 ([(⟨0, ⟨1, 0⟩⟩ : S64)] : List _).length [(⟨0, ⟨1, 0⟩⟩ : S64)] from hC1)); clear hC1) | ((with_reducible refine gate_dst (N := 4) rfl ?_); refine var_event ?hg (N := 4) ?hd ?hg2 ?hn2 (z := #[.int .i64 0, .int .i64 0, .int .i64 0, .int .i64 0, .slice none 0 0, .slice none 0 0]) (cs := #[.int .i64 2, .int .i64 4, .int .i64 1, .int .i64 2, .slice Ad4 0 cd4, .slice Ad5 1 cd5]) (T := 32) ?hr ?hs ?_; (case hg => rfl); (case hd => rfl); (case hg2 => rfl); (case hn2 => rfl); (case hr => first | (go_simp; done) | (go_simp; rfl)); (case hs => first | (go_simp; done) | (go_simp; rfl)); intro gd hg w7 hbox hb; clear hg; replace S := Aside0.mk (stab_step (P := (fun x_ => (((((((Below w.heap.size w x_) ∧ Kd.C k60 x_ (some ⟨ra, 0, none⟩) 1 [(⟨0, 0⟩ : S60)]) ∧ x_.heap[ga]? = some (Obj.cells #[.slice (some ⟨ra, 0, none⟩) 1 1] 25 (0, 0))) ∧ Kd.C k60 x_ (some ⟨rb, 0, none⟩) 1 [(⟨1, 0⟩ : S60)]) ∧ x_.heap[gb]? = some (Obj.cells #[.slice (some ⟨rb, 0, none⟩) 1 1] 25 (0, 0))) ∧ Kd.C k52 x_ (some ⟨rl, 0, none⟩) 2 [(⟨1, ⟨[(⟨0, 0⟩ : S60)]⟩, 0, false⟩ : S52), (⟨2, ⟨[(⟨1, 0⟩ : S60)]⟩, 3, true⟩ : S52)]) ∧ Kd.C k60 x_ Ad4 ([] : List _).length []) ∧ Kd.C k64 x_ Ad5 ([(⟨0, ⟨1, 0⟩⟩ : S64)] : List _).length [(⟨0, ⟨1, 0⟩⟩ : S64)])) (w := w6) S.out (by repeat (first | exact Below.refl _ _ | apply pw_below_drewN | apply below_drew1 | apply below_alloc)) hb (by repeat' (with_reducible first | exact stab_blk _ _ | exact stab_C _ _ _ _ | exact stab_base _ | exact stab_R _ _ _ _ _ _ | refine stab_and ?_ ?_))); clear hb; replace S := Aside0.mk (And.intro S.out (show w7.heap[gd]? = some (Obj.cells #[.int .i64 2, .int .i64 4, .int .i64 1, .int .i64 2, .slice Ad4 0 cd4, .slice Ad5 1 cd5] 32 (0, 0)) from hbox)); clear hbox) | ((with_reducible refine gate_dst (N := 38) rfl ?_); refine goesL_ (some 38) rfl rfl Try.func13 (by kernel_rfl) rfl #[.slice (some ⟨rl, 0, none⟩) 2 2, .int .i64 0, .int .i64 4] rfl (by (try simp only [List.map_toArray, List.map_cons, List.map_nil]); first | done | rfl) ?_; refine (feed_Reply.calls 9 _ _ [(⟨1, ⟨[(⟨0, 0⟩ : S60)]⟩, 0, false⟩ : S52), (⟨2, ⟨[(⟨1, 0⟩ : S60)]⟩, 3, true⟩ : S52)] 0 4 _ _ _ _ _ _ _ _ ?side1 ?side2 P2.out).mono ?_; (case side1 => exact stab_now (P := (fun x_ => Kd.C k52 x_ (some ⟨rl, 0, none⟩) 2 [(⟨1, ⟨[(⟨0, 0⟩ : S60)]⟩, 0, false⟩ : S52), (⟨2, ⟨[(⟨1, 0⟩ : S60)]⟩, 3, true⟩ : S52)])) (w := w7) S.out.1.1.1.2 (by repeat (first | exact Below.refl _ _ | apply pw_below_drewN | apply below_drew1 | apply below_alloc)) (stab_C _ _ _ _)); (case side2 => decide); rintro e w8 ⟨vw4, vw5, rfl, ho0, ho1, hb⟩; refine ⟨_, rfl, ?_⟩; obtain ⟨Aw4, cw4, e0, hlcw4, hC0⟩ := Kd.R_reads ho0; subst e0; have HLcw4 := Aside0.mk hlcw4; clear hlcw4 ho0; obtain ⟨Aw5, cw5, e1, hlcw5, hC1⟩ := Kd.R_reads ho1; subst e1; have HLcw5 := Aside0.mk hlcw5; clear hlcw5 ho1; replace S := Aside0.mk (stab_step (P := (fun x_ => ((((((((Below w.heap.size w x_) ∧ Kd.C k60 x_ (some ⟨ra, 0, none⟩) 1 [(⟨0, 0⟩ : S60)]) ∧ x_.heap[ga]? = some (Obj.cells #[.slice (some ⟨ra, 0, none⟩) 1 1] 25 (0, 0))) ∧ Kd.C k60 x_ (some ⟨rb, 0, none⟩) 1 [(⟨1, 0⟩ : S60)]) ∧ x_.heap[gb]? = some (Obj.cells #[.slice (some ⟨rb, 0, none⟩) 1 1] 25 (0, 0))) ∧ Kd.C k52 x_ (some ⟨rl, 0, none⟩) 2 [(⟨1, ⟨[(⟨0, 0⟩ : S60)]⟩, 0, false⟩ : S52), (⟨2, ⟨[(⟨1, 0⟩ : S60)]⟩, 3, true⟩ : S52)]) ∧ Kd.C k60 x_ Ad4 ([] : List _).length []) ∧ Kd.C k64 x_ Ad5 ([(⟨0, ⟨1, 0⟩⟩ : S64)] : List _).length [(⟨0, ⟨1, 0⟩⟩ : S64)]) ∧ x_.heap[gd]? = some (Obj.cells #[.int .i64 2, .int .i64 4, .int .i64 1, .int .i64 2, .slice Ad4 0 cd4, .slice Ad5 1 cd5] 32 (0, 0)))) (w := w7) S.out (by repeat (first | exact Below.refl _ _ | apply pw_below_drewN | apply below_drew1 | apply below_alloc)) hb (by repeat' (with_reducible first | exact stab_blk _ _ | exact stab_C _ _ _ _ | exact stab_base _ | exact stab_R _ _ _ _ _ _ | refine stab_and ?_ ?_))); clear hb; replace S := Aside0.mk (And.intro S.out (show Kd.C k60 w8 Aw4 ([(⟨1, 0⟩ : S60)] : List _).length [(⟨1, 0⟩ : S60)] from hC0)); clear hC0; replace S := Aside0.mk (And.intro S.out (show Kd.C k64 w8 Aw5 ([] : List _).length [] from hC1)); clear hC1) | ((with_reducible refine gate_dst (N := 6) rfl ?_); refine var_event ?hg (N := 6) ?hd ?hg2 ?hn2 (z := #[.int .i64 0, .int .i64 0, .int .i64 0, .int .i64 0, .slice none 0 0, .slice none 0 0]) (cs := #[.int .i64 1, .int .i64 4, .int .i64 0, .int .i64 2, .slice Aw4 1 cw4, .slice Aw5 0 cw5]) (T := 32) ?hr ?hs ?_; (case hg => rfl); (case hd => rfl); (case hg2 => rfl); (case hn2 => rfl); (case hr => first | (go_simp; done) | (go_simp; rfl)); (case hs => first | (go_simp; done) | (go_simp; rfl)); intro gw hg w9 hbox hb; clear hg; replace S := Aside0.mk (stab_step (P := (fun x_ => ((((((((((Below w.heap.size w x_) ∧ Kd.C k60 x_ (some ⟨ra, 0, none⟩) 1 [(⟨0, 0⟩ : S60)]) ∧ x_.heap[ga]? = some (Obj.cells #[.slice (some ⟨ra, 0, none⟩) 1 1] 25 (0, 0))) ∧ Kd.C k60 x_ (some ⟨rb, 0, none⟩) 1 [(⟨1, 0⟩ : S60)]) ∧ x_.heap[gb]? = some (Obj.cells #[.slice (some ⟨rb, 0, none⟩) 1 1] 25 (0, 0))) ∧ Kd.C k52 x_ (some ⟨rl, 0, none⟩) 2 [(⟨1, ⟨[(⟨0, 0⟩ : S60)]⟩, 0, false⟩ : S52), (⟨2, ⟨[(⟨1, 0⟩ : S60)]⟩, 3, true⟩ : S52)]) ∧ Kd.C k60 x_ Ad4 ([] : List _).length []) ∧ Kd.C k64 x_ Ad5 ([(⟨0, ⟨1, 0⟩⟩ : S64)] : List _).length [(⟨0, ⟨1, 0⟩⟩ : S64)]) ∧ x_.heap[gd]? = some (Obj.cells #[.int .i64 2, .int .i64 4, .int .i64 1, .int .i64 2, .slice Ad4 0 cd4, .slice Ad5 1 cd5] 32 (0, 0))) ∧ Kd.C k60 x_ Aw4 ([(⟨1, 0⟩ : S60)] : List _).length [(⟨1, 0⟩ : S60)]) ∧ Kd.C k64 x_ Aw5 ([] : List _).length [])) (w := w8) S.out (by repeat (first | exact Below.refl _ _ | apply pw_below_drewN | apply below_drew1 | apply below_alloc)) hb (by repeat' (with_reducible first | exact stab_blk _ _ | exact stab_C _ _ _ _ | exact stab_base _ | exact stab_R _ _ _ _ _ _ | refine stab_and ?_ ?_))); clear hb; replace S := Aside0.mk (And.intro S.out (show w9.heap[gw]? = some (Obj.cells #[.int .i64 1, .int .i64 4, .int .i64 0, .int .i64 2, .slice Aw4 1 cw4, .slice Aw5 0 cw5] 32 (0, 0)) from hbox)); clear hbox) | ((with_reducible refine gate_dst (N := 43) rfl ?_); refine goesL_ (some 43) rfl rfl Try.func13 (by kernel_rfl) rfl #[.slice (some ⟨rl, 0, none⟩) 2 2, .int .i64 2, .int .i64 4] rfl (by (try simp only [List.map_toArray, List.map_cons, List.map_nil]); first | done | rfl) ?_; refine (feed_Reply.calls 9 _ _ [(⟨1, ⟨[(⟨0, 0⟩ : S60)]⟩, 0, false⟩ : S52), (⟨2, ⟨[(⟨1, 0⟩ : S60)]⟩, 3, true⟩ : S52)] 2 4 _ _ _ _ _ _ _ _ ?side1 ?side2 P3.out).mono ?_; (case side1 => exact stab_now (P := (fun x_ => Kd.C k52 x_ (some ⟨rl, 0, none⟩) 2 [(⟨1, ⟨[(⟨0, 0⟩ : S60)]⟩, 0, false⟩ : S52), (⟨2, ⟨[(⟨1, 0⟩ : S60)]⟩, 3, true⟩ : S52)])) (w := w9) S.out.1.1.1.1.1.1.2 (by repeat (first | exact Below.refl _ _ | apply pw_below_drewN | apply below_drew1 | apply below_alloc)) (stab_C _ _ _ _)); (case side2 => decide); rintro e w10 ⟨vz4, vz5, rfl, ho0, ho1, hb⟩; refine ⟨_, rfl, ?_⟩; obtain ⟨Az4, cz4, e0, hlcz4, hC0⟩ := Kd.R_reads ho0; subst e0; have HLcz4 := Aside0.mk hlcz4; clear hlcz4 ho0; obtain ⟨Az5, cz5, e1, hlcz5, hC1⟩ := Kd.R_reads ho1; subst e1; have HLcz5 := Aside0.mk hlcz5; clear hlcz5 ho1; replace S := Aside0.mk (stab_step (P := (fun x_ => (((((((((((Below w.heap.size w x_) ∧ Kd.C k60 x_ (some ⟨ra, 0, none⟩) 1 [(⟨0, 0⟩ : S60)]) ∧ x_.heap[ga]? = some (Obj.cells #[.slice (some ⟨ra, 0, none⟩) 1 1] 25 (0, 0))) ∧ Kd.C k60 x_ (some ⟨rb, 0, none⟩) 1 [(⟨1, 0⟩ : S60)]) ∧ x_.heap[gb]? = some (Obj.cells #[.slice (some ⟨rb, 0, none⟩) 1 1] 25 (0, 0))) ∧ Kd.C k52 x_ (some ⟨rl, 0, none⟩) 2 [(⟨1, ⟨[(⟨0, 0⟩ : S60)]⟩, 0, false⟩ : S52), (⟨2, ⟨[(⟨1, 0⟩ : S60)]⟩, 3, true⟩ : S52)]) ∧ Kd.C k60 x_ Ad4 ([] : List _).length []) ∧ Kd.C k64 x_ Ad5 ([(⟨0, ⟨1, 0⟩⟩ : S64)] : List _).length [(⟨0, ⟨1, 0⟩⟩ : S64)]) ∧ x_.heap[gd]? = some (Obj.cells #[.int .i64 2, .int .i64 4, .int .i64 1, .int .i64 2, .slice Ad4 0 cd4, .slice Ad5 1 cd5] 32 (0, 0))) ∧ Kd.C k60 x_ Aw4 ([(⟨1, 0⟩ : S60)] : List _).length [(⟨1, 0⟩ : S60)]) ∧ Kd.C k64 x_ Aw5 ([] : List _).length []) ∧ x_.heap[gw]? = some (Obj.cells #[.int .i64 1, .int .i64 4, .int .i64 0, .int .i64 2, .slice Aw4 1 cw4, .slice Aw5 0 cw5] 32 (0, 0)))) (w := w9) S.out (by repeat (first | exact Below.refl _ _ | apply pw_below_drewN | apply below_drew1 | apply below_alloc)) hb (by repeat' (with_reducible first | exact stab_blk _ _ | exact stab_C _ _ _ _ | exact stab_base _ | exact stab_R _ _ _ _ _ _ | refine stab_and ?_ ?_))); clear hb; replace S := Aside0.mk (And.intro S.out (show Kd.C k60 w10 Az4 ([] : List _).length [] from hC0)); clear hC0; replace S := Aside0.mk (And.intro S.out (show Kd.C k64 w10 Az5 ([] : List _).length [] from hC1)); clear hC1) | ((with_reducible refine gate_dst (N := 8) rfl ?_); refine var_event ?hg (N := 8) ?hd ?hg2 ?hn2 (z := #[.int .i64 0, .int .i64 0, .int .i64 0, .int .i64 0, .slice none 0 0, .slice none 0 0]) (cs := #[.int .i64 0, .int .i64 0, .int .i64 0, .int .i64 0, .slice Az4 0 cz4, .slice Az5 0 cz5]) (T := 32) ?hr ?hs ?_; (case hg => rfl); (case hd => rfl); (case hg2 => rfl); (case hn2 => rfl); (case hr => first | (go_simp; done) | (go_simp; rfl)); (case hs => first | (go_simp; done) | (go_simp; rfl)); intro gz hg w11 hbox hb; clear hg; replace S := Aside0.mk (stab_step (P := (fun x_ => (((((((((((((Below w.heap.size w x_) ∧ Kd.C k60 x_ (some ⟨ra, 0, none⟩) 1 [(⟨0, 0⟩ : S60)]) ∧ x_.heap[ga]? = some (Obj.cells #[.slice (some ⟨ra, 0, none⟩) 1 1] 25 (0, 0))) ∧ Kd.C k60 x_ (some ⟨rb, 0, none⟩) 1 [(⟨1, 0⟩ : S60)]) ∧ x_.heap[gb]? = some (Obj.cells #[.slice (some ⟨rb, 0, none⟩) 1 1] 25 (0, 0))) ∧ Kd.C k52 x_ (some ⟨rl, 0, none⟩) 2 [(⟨1, ⟨[(⟨0, 0⟩ : S60)]⟩, 0, false⟩ : S52), (⟨2, ⟨[(⟨1, 0⟩ : S60)]⟩, 3, true⟩ : S52)]) ∧ Kd.C k60 x_ Ad4 ([] : List _).length []) ∧ Kd.C k64 x_ Ad5 ([(⟨0, ⟨1, 0⟩⟩ : S64)] : List _).length [(⟨0, ⟨1, 0⟩⟩ : S64)]) ∧ x_.heap[gd]? = some (Obj.cells #[.int .i64 2, .int .i64 4, .int .i64 1, .int .i64 2, .slice Ad4 0 cd4, .slice Ad5 1 cd5] 32 (0, 0))) ∧ Kd.C k60 x_ Aw4 ([(⟨1, 0⟩ : S60)] : List _).length [(⟨1, 0⟩ : S60)]) ∧ Kd.C k64 x_ Aw5 ([] : List _).length []) ∧ x_.heap[gw]? = some (Obj.cells #[.int .i64 1, .int .i64 4, .int .i64 0, .int .i64 2, .slice Aw4 1 cw4, .slice Aw5 0 cw5] 32 (0, 0))) ∧ Kd.C k60 x_ Az4 ([] : List _).length []) ∧ Kd.C k64 x_ Az5 ([] : List _).length [])) (w := w10) S.out (by repeat (first | exact Below.refl _ _ | apply pw_below_drewN | apply below_drew1 | apply below_alloc)) hb (by repeat' (with_reducible first | exact stab_blk _ _ | exact stab_C _ _ _ _ | exact stab_base _ | exact stab_R _ _ _ _ _ _ | refine stab_and ?_ ?_))); clear hb; replace S := Aside0.mk (And.intro S.out (show w11.heap[gz]? = some (Obj.cells #[.int .i64 0, .int .i64 0, .int .i64 0, .int .i64 0, .slice Az4 0 cz4, .slice Az5 0 cz5] 32 (0, 0)) from hbox)); clear hbox; have hcz_ga_0 : World.cell? w11 ⟨ga, 0, none⟩ = some (.slice (some ⟨ra, 0, none⟩) 1 1) := (blk_cell S.out.1.1.1.1.1.1.1.1.1.1.1.1.2 0).trans rfl; have hcz_gd_0 : World.cell? w11 ⟨gd, 0, none⟩ = some (.int .i64 2) := (blk_cell S.out.1.1.1.1.1.1.2 0).trans rfl; have hcz_gd_1 : World.cell? w11 ⟨gd, 1, none⟩ = some (.int .i64 4) := (blk_cell S.out.1.1.1.1.1.1.2 1).trans rfl; have hcz_gd_2 : World.cell? w11 ⟨gd, 2, none⟩ = some (.int .i64 1) := (blk_cell S.out.1.1.1.1.1.1.2 2).trans rfl; have hcz_gd_3 : World.cell? w11 ⟨gd, 3, none⟩ = some (.int .i64 2) := (blk_cell S.out.1.1.1.1.1.1.2 3).trans rfl; have hcz_gd_4 : World.cell? w11 ⟨gd, 4, none⟩ = some (.slice Ad4 0 cd4) := (blk_cell S.out.1.1.1.1.1.1.2 4).trans rfl; have hcz_gd_5 : World.cell? w11 ⟨gd, 5, none⟩ = some (.slice Ad5 1 cd5) := (blk_cell S.out.1.1.1.1.1.1.2 5).trans rfl) | ((with_reducible refine gate_dst (N := 50) rfl ?_); refine goesL_ (some 50) rfl rfl Try.func21 (by kernel_rfl) rfl #[.agg #[.int .i64 1, .slice (some ⟨ra, 0, none⟩) 1 1], .agg #[.int .i64 2, .int .i64 4, .int .i64 1, .int .i64 2, .slice Ad4 0 cd4, .slice Ad5 1 cd5]] rfl (by (try simp only [List.map_toArray, List.map_cons, List.map_nil]); first | done | rfl) ?_; refine (feed_Take.calls 9 _ _ _ [(⟨0, 0⟩ : S60)] _ _ _ _ _ _ [] _ _ [(⟨0, ⟨1, 0⟩⟩ : S64)] _ _ _ _ ?side1 ?side2 ?side3 ?side4 ?side5 ?side6 P4.out).mono ?_; (case side1 => exact stab_now (P := (fun x_ => Kd.C k60 x_ (some ⟨ra, 0, none⟩) 1 [(⟨0, 0⟩ : S60)])) (w := w11) S.out.1.1.1.1.1.1.1.1.1.1.1.1.1.2 (by repeat (first | exact Below.refl _ _ | apply pw_below_drewN | apply below_drew1 | apply below_alloc)) (stab_C _ _ _ _)); (case side2 => decide); (case side3 => exact stab_now (P := (fun x_ => Kd.C k60 x_ Ad4 ([] : List _).length [])) (w := w11) S.out.1.1.1.1.1.1.1.1.2 (by repeat (first | exact Below.refl _ _ | apply pw_below_drewN | apply below_drew1 | apply below_alloc)) (stab_C _ _ _ _)); (case side4 => exact HLcd4.out); (case side5 => exact stab_now (P := (fun x_ => Kd.C k64 x_ Ad5 ([(⟨0, ⟨1, 0⟩⟩ : S64)] : List _).length [(⟨0, ⟨1, 0⟩⟩ : S64)])) (w := w11) S.out.1.1.1.1.1.1.1.2 (by repeat (first | exact Below.refl _ _ | apply pw_below_drewN | apply below_drew1 | apply below_alloc)) (stab_C _ _ _ _)); (case side6 => exact HLcd5.out); rintro e w12 ⟨vc, rfl, ho0, hb⟩; refine ⟨_, rfl, ?_⟩; obtain ⟨Ac, cc, e0, hlcc, hC0⟩ := Kd.R_reads ho0; subst e0; have HLcc := Aside0.mk hlcc; clear hlcc ho0; replace S := Aside0.mk (stab_step (P := (fun x_ => ((((((((((((((Below w.heap.size w x_) ∧ Kd.C k60 x_ (some ⟨ra, 0, none⟩) 1 [(⟨0, 0⟩ : S60)]) ∧ x_.heap[ga]? = some (Obj.cells #[.slice (some ⟨ra, 0, none⟩) 1 1] 25 (0, 0))) ∧ Kd.C k60 x_ (some ⟨rb, 0, none⟩) 1 [(⟨1, 0⟩ : S60)]) ∧ x_.heap[gb]? = some (Obj.cells #[.slice (some ⟨rb, 0, none⟩) 1 1] 25 (0, 0))) ∧ Kd.C k52 x_ (some ⟨rl, 0, none⟩) 2 [(⟨1, ⟨[(⟨0, 0⟩ : S60)]⟩, 0, false⟩ : S52), (⟨2, ⟨[(⟨1, 0⟩ : S60)]⟩, 3, true⟩ : S52)]) ∧ Kd.C k60 x_ Ad4 ([] : List _).length []) ∧ Kd.C k64 x_ Ad5 ([(⟨0, ⟨1, 0⟩⟩ : S64)] : List _).length [(⟨0, ⟨1, 0⟩⟩ : S64)]) ∧ x_.heap[gd]? = some (Obj.cells #[.int .i64 2, .int .i64 4, .int .i64 1, .int .i64 2, .slice Ad4 0 cd4, .slice Ad5 1 cd5] 32 (0, 0))) ∧ Kd.C k60 x_ Aw4 ([(⟨1, 0⟩ : S60)] : List _).length [(⟨1, 0⟩ : S60)]) ∧ Kd.C k64 x_ Aw5 ([] : List _).length []) ∧ x_.heap[gw]? = some (Obj.cells #[.int .i64 1, .int .i64 4, .int .i64 0, .int .i64 2, .slice Aw4 1 cw4, .slice Aw5 0 cw5] 32 (0, 0))) ∧ Kd.C k60 x_ Az4 ([] : List _).length []) ∧ Kd.C k64 x_ Az5 ([] : List _).length []) ∧ x_.heap[gz]? = some (Obj.cells #[.int .i64 0, .int .i64 0, .int .i64 0, .int .i64 0, .slice Az4 0 cz4, .slice Az5 0 cz5] 32 (0, 0)))) (w := w11) S.out (by repeat (first | exact Below.refl _ _ | apply pw_below_drewN | apply below_drew1 | apply below_alloc)) hb (by repeat' (with_reducible first | exact stab_blk _ _ | exact stab_C _ _ _ _ | exact stab_base _ | exact stab_R _ _ _ _ _ _ | refine stab_and ?_ ?_))); clear hb; (try clear hcz_ga_0); (try clear hcz_gd_0); (try clear hcz_gd_1); (try clear hcz_gd_2); (try clear hcz_gd_3); (try clear hcz_gd_4); (try clear hcz_gd_5); replace S := Aside0.mk (And.intro S.out (show Kd.C k60 w12 Ac ([(⟨1, 0⟩ : S60)] : List _).length [(⟨1, 0⟩ : S60)] from hC0)); clear hC0) | ((with_reducible refine gate_dst (N := 10) rfl ?_); refine var_event ?hg (N := 10) ?hd ?hg2 ?hn2 (z := #[.int .i64 0, .slice none 0 0]) (cs := #[.int .i64 2, .slice Ac 1 cc]) (T := 27) ?hr ?hs ?_; (case hg => rfl); (case hd => rfl); (case hg2 => rfl); (case hn2 => rfl); (case hr => first | (go_simp; done) | (go_simp; rfl)); (case hs => first | (go_simp; done) | (go_simp; rfl)); intro gc hg w13 hbox hb; clear hg; replace S := Aside0.mk (stab_step (P := (fun x_ => (((((((((((((((Below w.heap.size w x_) ∧ Kd.C k60 x_ (some ⟨ra, 0, none⟩) 1 [(⟨0, 0⟩ : S60)]) ∧ x_.heap[ga]? = some (Obj.cells #[.slice (some ⟨ra, 0, none⟩) 1 1] 25 (0, 0))) ∧ Kd.C k60 x_ (some ⟨rb, 0, none⟩) 1 [(⟨1, 0⟩ : S60)]) ∧ x_.heap[gb]? = some (Obj.cells #[.slice (some ⟨rb, 0, none⟩) 1 1] 25 (0, 0))) ∧ Kd.C k52 x_ (some ⟨rl, 0, none⟩) 2 [(⟨1, ⟨[(⟨0, 0⟩ : S60)]⟩, 0, false⟩ : S52), (⟨2, ⟨[(⟨1, 0⟩ : S60)]⟩, 3, true⟩ : S52)]) ∧ Kd.C k60 x_ Ad4 ([] : List _).length []) ∧ Kd.C k64 x_ Ad5 ([(⟨0, ⟨1, 0⟩⟩ : S64)] : List _).length [(⟨0, ⟨1, 0⟩⟩ : S64)]) ∧ x_.heap[gd]? = some (Obj.cells #[.int .i64 2, .int .i64 4, .int .i64 1, .int .i64 2, .slice Ad4 0 cd4, .slice Ad5 1 cd5] 32 (0, 0))) ∧ Kd.C k60 x_ Aw4 ([(⟨1, 0⟩ : S60)] : List _).length [(⟨1, 0⟩ : S60)]) ∧ Kd.C k64 x_ Aw5 ([] : List _).length []) ∧ x_.heap[gw]? = some (Obj.cells #[.int .i64 1, .int .i64 4, .int .i64 0, .int .i64 2, .slice Aw4 1 cw4, .slice Aw5 0 cw5] 32 (0, 0))) ∧ Kd.C k60 x_ Az4 ([] : List _).length []) ∧ Kd.C k64 x_ Az5 ([] : List _).length []) ∧ x_.heap[gz]? = some (Obj.cells #[.int .i64 0, .int .i64 0, .int .i64 0, .int .i64 0, .slice Az4 0 cz4, .slice Az5 0 cz5] 32 (0, 0))) ∧ Kd.C k60 x_ Ac ([(⟨1, 0⟩ : S60)] : List _).length [(⟨1, 0⟩ : S60)])) (w := w12) S.out (by repeat (first | exact Below.refl _ _ | apply pw_below_drewN | apply below_drew1 | apply below_alloc)) hb (by repeat' (with_reducible first | exact stab_blk _ _ | exact stab_C _ _ _ _ | exact stab_base _ | exact stab_R _ _ _ _ _ _ | refine stab_and ?_ ?_))); clear hb; replace S := Aside0.mk (And.intro S.out (show w13.heap[gc]? = some (Obj.cells #[.int .i64 2, .slice Ac 1 cc] 27 (0, 0)) from hbox)); clear hbox; have hcz_gc_0 : World.cell? w13 ⟨gc, 0, none⟩ = some (.int .i64 2) := (blk_cell S.out.2 0).trans rfl; have hcz_gc_1 : World.cell? w13 ⟨gc, 1, none⟩ = some (.slice Ac 1 cc) := (blk_cell S.out.2 1).trans rfl; have hcz_gd_0 : World.cell? w13 ⟨gd, 0, none⟩ = some (.int .i64 2) := (blk_cell S.out.1.1.1.1.1.1.1.1.2 0).trans rfl; have hcz_gd_1 : World.cell? w13 ⟨gd, 1, none⟩ = some (.int .i64 4) := (blk_cell S.out.1.1.1.1.1.1.1.1.2 1).trans rfl; have hcz_gd_2 : World.cell? w13 ⟨gd, 2, none⟩ = some (.int .i64 1) := (blk_cell S.out.1.1.1.1.1.1.1.1.2 2).trans rfl; have hcz_gd_3 : World.cell? w13 ⟨gd, 3, none⟩ = some (.int .i64 2) := (blk_cell S.out.1.1.1.1.1.1.1.1.2 3).trans rfl; have hcz_gd_4 : World.cell? w13 ⟨gd, 4, none⟩ = some (.slice Ad4 0 cd4) := (blk_cell S.out.1.1.1.1.1.1.1.1.2 4).trans rfl; have hcz_gd_5 : World.cell? w13 ⟨gd, 5, none⟩ = some (.slice Ad5 1 cd5) := (blk_cell S.out.1.1.1.1.1.1.1.1.2 5).trans rfl) | ((with_reducible refine gate_dst (N := 56) rfl ?_); refine goesL_ (some 56) rfl rfl Try.func21 (by kernel_rfl) rfl #[.agg #[.int .i64 2, .slice Ac 1 cc], .agg #[.int .i64 2, .int .i64 4, .int .i64 1, .int .i64 2, .slice Ad4 0 cd4, .slice Ad5 1 cd5]] rfl (by (try simp only [List.map_toArray, List.map_cons, List.map_nil]); first | done | rfl) ?_; refine (feed_Take.calls 9 _ _ _ [(⟨1, 0⟩ : S60)] _ _ _ _ _ _ [] _ _ [(⟨0, ⟨1, 0⟩⟩ : S64)] _ _ _ _ ?side1 ?side2 ?side3 ?side4 ?side5 ?side6 P5.out).mono ?_; (case side1 => exact stab_now (P := (fun x_ => Kd.C k60 x_ Ac ([(⟨1, 0⟩ : S60)] : List _).length [(⟨1, 0⟩ : S60)])) (w := w13) S.out.1.2 (by repeat (first | exact Below.refl _ _ | apply pw_below_drewN | apply below_drew1 | apply below_alloc)) (stab_C _ _ _ _)); (case side2 => exact HLcc.out); (case side3 => exact stab_now (P := (fun x_ => Kd.C k60 x_ Ad4 ([] : List _).length [])) (w := w13) S.out.1.1.1.1.1.1.1.1.1.1.2 (by repeat (first | exact Below.refl _ _ | apply pw_below_drewN | apply below_drew1 | apply below_alloc)) (stab_C _ _ _ _)); (case side4 => exact HLcd4.out); (case side5 => exact stab_now (P := (fun x_ => Kd.C k64 x_ Ad5 ([(⟨0, ⟨1, 0⟩⟩ : S64)] : List _).length [(⟨0, ⟨1, 0⟩⟩ : S64)])) (w := w13) S.out.1.1.1.1.1.1.1.1.1.2 (by repeat (first | exact Below.refl _ _ | apply pw_below_drewN | apply below_drew1 | apply below_alloc)) (stab_C _ _ _ _)); (case side6 => exact HLcd5.out); rintro e w14 ⟨vy, rfl, ho0, hb⟩; refine ⟨_, rfl, ?_⟩; obtain ⟨Ay, cy, e0, hlcy, hC0⟩ := Kd.R_reads ho0; subst e0; have HLcy := Aside0.mk hlcy; clear hlcy ho0; replace S := Aside0.mk (stab_step (P := (fun x_ => ((((((((((((((((Below w.heap.size w x_) ∧ Kd.C k60 x_ (some ⟨ra, 0, none⟩) 1 [(⟨0, 0⟩ : S60)]) ∧ x_.heap[ga]? = some (Obj.cells #[.slice (some ⟨ra, 0, none⟩) 1 1] 25 (0, 0))) ∧ Kd.C k60 x_ (some ⟨rb, 0, none⟩) 1 [(⟨1, 0⟩ : S60)]) ∧ x_.heap[gb]? = some (Obj.cells #[.slice (some ⟨rb, 0, none⟩) 1 1] 25 (0, 0))) ∧ Kd.C k52 x_ (some ⟨rl, 0, none⟩) 2 [(⟨1, ⟨[(⟨0, 0⟩ : S60)]⟩, 0, false⟩ : S52), (⟨2, ⟨[(⟨1, 0⟩ : S60)]⟩, 3, true⟩ : S52)]) ∧ Kd.C k60 x_ Ad4 ([] : List _).length []) ∧ Kd.C k64 x_ Ad5 ([(⟨0, ⟨1, 0⟩⟩ : S64)] : List _).length [(⟨0, ⟨1, 0⟩⟩ : S64)]) ∧ x_.heap[gd]? = some (Obj.cells #[.int .i64 2, .int .i64 4, .int .i64 1, .int .i64 2, .slice Ad4 0 cd4, .slice Ad5 1 cd5] 32 (0, 0))) ∧ Kd.C k60 x_ Aw4 ([(⟨1, 0⟩ : S60)] : List _).length [(⟨1, 0⟩ : S60)]) ∧ Kd.C k64 x_ Aw5 ([] : List _).length []) ∧ x_.heap[gw]? = some (Obj.cells #[.int .i64 1, .int .i64 4, .int .i64 0, .int .i64 2, .slice Aw4 1 cw4, .slice Aw5 0 cw5] 32 (0, 0))) ∧ Kd.C k60 x_ Az4 ([] : List _).length []) ∧ Kd.C k64 x_ Az5 ([] : List _).length []) ∧ x_.heap[gz]? = some (Obj.cells #[.int .i64 0, .int .i64 0, .int .i64 0, .int .i64 0, .slice Az4 0 cz4, .slice Az5 0 cz5] 32 (0, 0))) ∧ Kd.C k60 x_ Ac ([(⟨1, 0⟩ : S60)] : List _).length [(⟨1, 0⟩ : S60)]) ∧ x_.heap[gc]? = some (Obj.cells #[.int .i64 2, .slice Ac 1 cc] 27 (0, 0)))) (w := w13) S.out (by repeat (first | exact Below.refl _ _ | apply pw_below_drewN | apply below_drew1 | apply below_alloc)) hb (by repeat' (with_reducible first | exact stab_blk _ _ | exact stab_C _ _ _ _ | exact stab_base _ | exact stab_R _ _ _ _ _ _ | refine stab_and ?_ ?_))); clear hb; (try clear hcz_gc_0); (try clear hcz_gc_1); (try clear hcz_gd_0); (try clear hcz_gd_1); (try clear hcz_gd_2); (try clear hcz_gd_3); (try clear hcz_gd_4); (try clear hcz_gd_5); replace S := Aside0.mk (And.intro S.out (show Kd.C k60 w14 Ay ([] : List _).length [] from hC0)); clear hC0) | ((with_reducible refine gate_dst (N := 12) rfl ?_); refine var_event ?hg (N := 12) ?hd ?hg2 ?hn2 (z := #[.int .i64 0, .slice none 0 0]) (cs := #[.int .i64 0, .slice Ay 0 cy]) (T := 27) ?hr ?hs ?_; (case hg => rfl); (case hd => rfl); (case hg2 => rfl); (case hn2 => rfl); (case hr => first | (go_simp; done) | (go_simp; rfl)); (case hs => first | (go_simp; done) | (go_simp; rfl)); intro gy hg w15 hbox hb; clear hg; replace S := Aside0.mk (stab_step (P := (fun x_ => (((((((((((((((((Below w.heap.size w x_) ∧ Kd.C k60 x_ (some ⟨ra, 0, none⟩) 1 [(⟨0, 0⟩ : S60)]) ∧ x_.heap[ga]? = some (Obj.cells #[.slice (some ⟨ra, 0, none⟩) 1 1] 25 (0, 0))) ∧ Kd.C k60 x_ (some ⟨rb, 0, none⟩) 1 [(⟨1, 0⟩ : S60)]) ∧ x_.heap[gb]? = some (Obj.cells #[.slice (some ⟨rb, 0, none⟩) 1 1] 25 (0, 0))) ∧ Kd.C k52 x_ (some ⟨rl, 0, none⟩) 2 [(⟨1, ⟨[(⟨0, 0⟩ : S60)]⟩, 0, false⟩ : S52), (⟨2, ⟨[(⟨1, 0⟩ : S60)]⟩, 3, true⟩ : S52)]) ∧ Kd.C k60 x_ Ad4 ([] : List _).length []) ∧ Kd.C k64 x_ Ad5 ([(⟨0, ⟨1, 0⟩⟩ : S64)] : List _).length [(⟨0, ⟨1, 0⟩⟩ : S64)]) ∧ x_.heap[gd]? = some (Obj.cells #[.int .i64 2, .int .i64 4, .int .i64 1, .int .i64 2, .slice Ad4 0 cd4, .slice Ad5 1 cd5] 32 (0, 0))) ∧ Kd.C k60 x_ Aw4 ([(⟨1, 0⟩ : S60)] : List _).length [(⟨1, 0⟩ : S60)]) ∧ Kd.C k64 x_ Aw5 ([] : List _).length []) ∧ x_.heap[gw]? = some (Obj.cells #[.int .i64 1, .int .i64 4, .int .i64 0, .int .i64 2, .slice Aw4 1 cw4, .slice Aw5 0 cw5] 32 (0, 0))) ∧ Kd.C k60 x_ Az4 ([] : List _).length []) ∧ Kd.C k64 x_ Az5 ([] : List _).length []) ∧ x_.heap[gz]? = some (Obj.cells #[.int .i64 0, .int .i64 0, .int .i64 0, .int .i64 0, .slice Az4 0 cz4, .slice Az5 0 cz5] 32 (0, 0))) ∧ Kd.C k60 x_ Ac ([(⟨1, 0⟩ : S60)] : List _).length [(⟨1, 0⟩ : S60)]) ∧ x_.heap[gc]? = some (Obj.cells #[.int .i64 2, .slice Ac 1 cc] 27 (0, 0))) ∧ Kd.C k60 x_ Ay ([] : List _).length [])) (w := w14) S.out (by repeat (first | exact Below.refl _ _ | apply pw_below_drewN | apply below_drew1 | apply below_alloc)) hb (by repeat' (with_reducible first | exact stab_blk _ _ | exact stab_C _ _ _ _ | exact stab_base _ | exact stab_R _ _ _ _ _ _ | refine stab_and ?_ ?_))); clear hb; replace S := Aside0.mk (And.intro S.out (show w15.heap[gy]? = some (Obj.cells #[.int .i64 0, .slice Ay 0 cy] 27 (0, 0)) from hbox)); clear hbox; have hcz_gd_0 : World.cell? w15 ⟨gd, 0, none⟩ = some (.int .i64 2) := (blk_cell S.out.1.1.1.1.1.1.1.1.1.1.2 0).trans rfl; have hcz_gd_1 : World.cell? w15 ⟨gd, 1, none⟩ = some (.int .i64 4) := (blk_cell S.out.1.1.1.1.1.1.1.1.1.1.2 1).trans rfl; have hcz_gd_2 : World.cell? w15 ⟨gd, 2, none⟩ = some (.int .i64 1) := (blk_cell S.out.1.1.1.1.1.1.1.1.1.1.2 2).trans rfl; have hcz_gd_3 : World.cell? w15 ⟨gd, 3, none⟩ = some (.int .i64 2) := (blk_cell S.out.1.1.1.1.1.1.1.1.1.1.2 3).trans rfl; have hcz_gd_4 : World.cell? w15 ⟨gd, 4, none⟩ = some (.slice Ad4 0 cd4) := (blk_cell S.out.1.1.1.1.1.1.1.1.1.1.2 4).trans rfl; have hcz_gd_5 : World.cell? w15 ⟨gd, 5, none⟩ = some (.slice Ad5 1 cd5) := (blk_cell S.out.1.1.1.1.1.1.1.1.1.1.2 5).trans rfl) | ((with_reducible refine gate_dst (N := 62) rfl ?_); refine goesL_ (some 62) rfl rfl Try.func21 (by kernel_rfl) rfl #[.agg #[.int .i64 0, .slice none 0 0], .agg #[.int .i64 2, .int .i64 4, .int .i64 1, .int .i64 2, .slice Ad4 0 cd4, .slice Ad5 1 cd5]] rfl (by (try simp only [List.map_toArray, List.map_cons, List.map_nil]); first | done | rfl) ?_; refine (feed_Take.calls 9 _ _ _ [] _ _ _ _ _ _ [] _ _ [(⟨0, ⟨1, 0⟩⟩ : S64)] _ _ _ _ ?side1 ?side2 ?side3 ?side4 ?side5 ?side6 P6.out).mono ?_; (case side1 => exact Kd.C_nil _ _); (case side2 => exact Nat.le_refl _); (case side3 => exact stab_now (P := (fun x_ => Kd.C k60 x_ Ad4 ([] : List _).length [])) (w := w15) S.out.1.1.1.1.1.1.1.1.1.1.1.1.2 (by repeat (first | exact Below.refl _ _ | apply pw_below_drewN | apply below_drew1 | apply below_alloc)) (stab_C _ _ _ _)); (case side4 => exact HLcd4.out); (case side5 => exact stab_now (P := (fun x_ => Kd.C k64 x_ Ad5 ([(⟨0, ⟨1, 0⟩⟩ : S64)] : List _).length [(⟨0, ⟨1, 0⟩⟩ : S64)])) (w := w15) S.out.1.1.1.1.1.1.1.1.1.1.1.2 (by repeat (first | exact Below.refl _ _ | apply pw_below_drewN | apply below_drew1 | apply below_alloc)) (stab_C _ _ _ _)); (case side6 => exact HLcd5.out); rintro e w16 ⟨vx, rfl, ho0, hb⟩; refine ⟨_, rfl, ?_⟩; obtain ⟨Ax, cx, e0, hlcx, hC0⟩ := Kd.R_reads ho0; subst e0; have HLcx := Aside0.mk hlcx; clear hlcx ho0; replace S := Aside0.mk (stab_step (P := (fun x_ => ((((((((((((((((((Below w.heap.size w x_) ∧ Kd.C k60 x_ (some ⟨ra, 0, none⟩) 1 [(⟨0, 0⟩ : S60)]) ∧ x_.heap[ga]? = some (Obj.cells #[.slice (some ⟨ra, 0, none⟩) 1 1] 25 (0, 0))) ∧ Kd.C k60 x_ (some ⟨rb, 0, none⟩) 1 [(⟨1, 0⟩ : S60)]) ∧ x_.heap[gb]? = some (Obj.cells #[.slice (some ⟨rb, 0, none⟩) 1 1] 25 (0, 0))) ∧ Kd.C k52 x_ (some ⟨rl, 0, none⟩) 2 [(⟨1, ⟨[(⟨0, 0⟩ : S60)]⟩, 0, false⟩ : S52), (⟨2, ⟨[(⟨1, 0⟩ : S60)]⟩, 3, true⟩ : S52)]) ∧ Kd.C k60 x_ Ad4 ([] : List _).length []) ∧ Kd.C k64 x_ Ad5 ([(⟨0, ⟨1, 0⟩⟩ : S64)] : List _).length [(⟨0, ⟨1, 0⟩⟩ : S64)]) ∧ x_.heap[gd]? = some (Obj.cells #[.int .i64 2, .int .i64 4, .int .i64 1, .int .i64 2, .slice Ad4 0 cd4, .slice Ad5 1 cd5] 32 (0, 0))) ∧ Kd.C k60 x_ Aw4 ([(⟨1, 0⟩ : S60)] : List _).length [(⟨1, 0⟩ : S60)]) ∧ Kd.C k64 x_ Aw5 ([] : List _).length []) ∧ x_.heap[gw]? = some (Obj.cells #[.int .i64 1, .int .i64 4, .int .i64 0, .int .i64 2, .slice Aw4 1 cw4, .slice Aw5 0 cw5] 32 (0, 0))) ∧ Kd.C k60 x_ Az4 ([] : List _).length []) ∧ Kd.C k64 x_ Az5 ([] : List _).length []) ∧ x_.heap[gz]? = some (Obj.cells #[.int .i64 0, .int .i64 0, .int .i64 0, .int .i64 0, .slice Az4 0 cz4, .slice Az5 0 cz5] 32 (0, 0))) ∧ Kd.C k60 x_ Ac ([(⟨1, 0⟩ : S60)] : List _).length [(⟨1, 0⟩ : S60)]) ∧ x_.heap[gc]? = some (Obj.cells #[.int .i64 2, .slice Ac 1 cc] 27 (0, 0))) ∧ Kd.C k60 x_ Ay ([] : List _).length []) ∧ x_.heap[gy]? = some (Obj.cells #[.int .i64 0, .slice Ay 0 cy] 27 (0, 0)))) (w := w15) S.out (by repeat (first | exact Below.refl _ _ | apply pw_below_drewN | apply below_drew1 | apply below_alloc)) hb (by repeat' (with_reducible first | exact stab_blk _ _ | exact stab_C _ _ _ _ | exact stab_base _ | exact stab_R _ _ _ _ _ _ | refine stab_and ?_ ?_))); clear hb; (try clear hcz_gd_0); (try clear hcz_gd_1); (try clear hcz_gd_2); (try clear hcz_gd_3); (try clear hcz_gd_4); (try clear hcz_gd_5); replace S := Aside0.mk (And.intro S.out (show Kd.C k60 w16 Ax ([] : List _).length [] from hC0)); clear hC0) | ((with_reducible refine gate_dst (N := 14) rfl ?_); refine var_event ?hg (N := 14) ?hd ?hg2 ?hn2 (z := #[.int .i64 0, .slice none 0 0]) (cs := #[.int .i64 0, .slice Ax 0 cx]) (T := 27) ?hr ?hs ?_; (case hg => rfl); (case hd => rfl); (case hg2 => rfl); (case hn2 => rfl); (case hr => first | (go_simp; done) | (go_simp; rfl)); (case hs => first | (go_simp; done) | (go_simp; rfl)); intro gx hg w17 hbox hb; clear hg; replace S := Aside0.mk (stab_step (P := (fun x_ => (((((((((((((((((((Below w.heap.size w x_) ∧ Kd.C k60 x_ (some ⟨ra, 0, none⟩) 1 [(⟨0, 0⟩ : S60)]) ∧ x_.heap[ga]? = some (Obj.cells #[.slice (some ⟨ra, 0, none⟩) 1 1] 25 (0, 0))) ∧ Kd.C k60 x_ (some ⟨rb, 0, none⟩) 1 [(⟨1, 0⟩ : S60)]) ∧ x_.heap[gb]? = some (Obj.cells #[.slice (some ⟨rb, 0, none⟩) 1 1] 25 (0, 0))) ∧ Kd.C k52 x_ (some ⟨rl, 0, none⟩) 2 [(⟨1, ⟨[(⟨0, 0⟩ : S60)]⟩, 0, false⟩ : S52), (⟨2, ⟨[(⟨1, 0⟩ : S60)]⟩, 3, true⟩ : S52)]) ∧ Kd.C k60 x_ Ad4 ([] : List _).length []) ∧ Kd.C k64 x_ Ad5 ([(⟨0, ⟨1, 0⟩⟩ : S64)] : List _).length [(⟨0, ⟨1, 0⟩⟩ : S64)]) ∧ x_.heap[gd]? = some (Obj.cells #[.int .i64 2, .int .i64 4, .int .i64 1, .int .i64 2, .slice Ad4 0 cd4, .slice Ad5 1 cd5] 32 (0, 0))) ∧ Kd.C k60 x_ Aw4 ([(⟨1, 0⟩ : S60)] : List _).length [(⟨1, 0⟩ : S60)]) ∧ Kd.C k64 x_ Aw5 ([] : List _).length []) ∧ x_.heap[gw]? = some (Obj.cells #[.int .i64 1, .int .i64 4, .int .i64 0, .int .i64 2, .slice Aw4 1 cw4, .slice Aw5 0 cw5] 32 (0, 0))) ∧ Kd.C k60 x_ Az4 ([] : List _).length []) ∧ Kd.C k64 x_ Az5 ([] : List _).length []) ∧ x_.heap[gz]? = some (Obj.cells #[.int .i64 0, .int .i64 0, .int .i64 0, .int .i64 0, .slice Az4 0 cz4, .slice Az5 0 cz5] 32 (0, 0))) ∧ Kd.C k60 x_ Ac ([(⟨1, 0⟩ : S60)] : List _).length [(⟨1, 0⟩ : S60)]) ∧ x_.heap[gc]? = some (Obj.cells #[.int .i64 2, .slice Ac 1 cc] 27 (0, 0))) ∧ Kd.C k60 x_ Ay ([] : List _).length []) ∧ x_.heap[gy]? = some (Obj.cells #[.int .i64 0, .slice Ay 0 cy] 27 (0, 0))) ∧ Kd.C k60 x_ Ax ([] : List _).length [])) (w := w16) S.out (by repeat (first | exact Below.refl _ _ | apply pw_below_drewN | apply below_drew1 | apply below_alloc)) hb (by repeat' (with_reducible first | exact stab_blk _ _ | exact stab_C _ _ _ _ | exact stab_base _ | exact stab_R _ _ _ _ _ _ | refine stab_and ?_ ?_))); clear hb; replace S := Aside0.mk (And.intro S.out (show w17.heap[gx]? = some (Obj.cells #[.int .i64 0, .slice Ax 0 cx] 27 (0, 0)) from hbox)); clear hbox; have hcz_gw_0 : World.cell? w17 ⟨gw, 0, none⟩ = some (.int .i64 1) := (blk_cell S.out.1.1.1.1.1.1.1.1.1.2 0).trans rfl; have hcz_gw_1 : World.cell? w17 ⟨gw, 1, none⟩ = some (.int .i64 4) := (blk_cell S.out.1.1.1.1.1.1.1.1.1.2 1).trans rfl; have hcz_gw_2 : World.cell? w17 ⟨gw, 2, none⟩ = some (.int .i64 0) := (blk_cell S.out.1.1.1.1.1.1.1.1.1.2 2).trans rfl; have hcz_gw_3 : World.cell? w17 ⟨gw, 3, none⟩ = some (.int .i64 2) := (blk_cell S.out.1.1.1.1.1.1.1.1.1.2 3).trans rfl; have hcz_gw_4 : World.cell? w17 ⟨gw, 4, none⟩ = some (.slice Aw4 1 cw4) := (blk_cell S.out.1.1.1.1.1.1.1.1.1.2 4).trans rfl; have hcz_gw_5 : World.cell? w17 ⟨gw, 5, none⟩ = some (.slice Aw5 0 cw5) := (blk_cell S.out.1.1.1.1.1.1.1.1.1.2 5).trans rfl) | ((with_reducible refine gate_dst (N := 68) rfl ?_); refine goesL_ (some 68) rfl rfl Try.func21 (by kernel_rfl) rfl #[.agg #[.int .i64 0, .slice none 0 0], .agg #[.int .i64 1, .int .i64 4, .int .i64 0, .int .i64 2, .slice Aw4 1 cw4, .slice Aw5 0 cw5]] rfl (by (try simp only [List.map_toArray, List.map_cons, List.map_nil]); first | done | rfl) ?_; refine (feed_Take.calls 9 _ _ _ [] _ _ _ _ _ _ [(⟨1, 0⟩ : S60)] _ _ [] _ _ _ _ ?side1 ?side2 ?side3 ?side4 ?side5 ?side6 P7.out).mono ?_; (case side1 => exact Kd.C_nil _ _); (case side2 => exact Nat.le_refl _); (case side3 => exact stab_now (P := (fun x_ => Kd.C k60 x_ Aw4 ([(⟨1, 0⟩ : S60)] : List _).length [(⟨1, 0⟩ : S60)])) (w := w17) S.out.1.1.1.1.1.1.1.1.1.1.1.2 (by repeat (first | exact Below.refl _ _ | apply pw_below_drewN | apply below_drew1 | apply below_alloc)) (stab_C _ _ _ _)); (case side4 => exact HLcw4.out); (case side5 => exact stab_now (P := (fun x_ => Kd.C k64 x_ Aw5 ([] : List _).length [])) (w := w17) S.out.1.1.1.1.1.1.1.1.1.1.2 (by repeat (first | exact Below.refl _ _ | apply pw_below_drewN | apply below_drew1 | apply below_alloc)) (stab_C _ _ _ _)); (case side6 => exact HLcw5.out); rintro e w18 ⟨ve, rfl, ho0, hb⟩; refine ⟨_, rfl, ?_⟩; obtain ⟨Ae, ce, e0, hlce, hC0⟩ := Kd.R_reads ho0; subst e0; have HLce := Aside0.mk hlce; clear hlce ho0; replace S := Aside0.mk (stab_step (P := (fun x_ => ((((((((((((((((((((Below w.heap.size w x_) ∧ Kd.C k60 x_ (some ⟨ra, 0, none⟩) 1 [(⟨0, 0⟩ : S60)]) ∧ x_.heap[ga]? = some (Obj.cells #[.slice (some ⟨ra, 0, none⟩) 1 1] 25 (0, 0))) ∧ Kd.C k60 x_ (some ⟨rb, 0, none⟩) 1 [(⟨1, 0⟩ : S60)]) ∧ x_.heap[gb]? = some (Obj.cells #[.slice (some ⟨rb, 0, none⟩) 1 1] 25 (0, 0))) ∧ Kd.C k52 x_ (some ⟨rl, 0, none⟩) 2 [(⟨1, ⟨[(⟨0, 0⟩ : S60)]⟩, 0, false⟩ : S52), (⟨2, ⟨[(⟨1, 0⟩ : S60)]⟩, 3, true⟩ : S52)]) ∧ Kd.C k60 x_ Ad4 ([] : List _).length []) ∧ Kd.C k64 x_ Ad5 ([(⟨0, ⟨1, 0⟩⟩ : S64)] : List _).length [(⟨0, ⟨1, 0⟩⟩ : S64)]) ∧ x_.heap[gd]? = some (Obj.cells #[.int .i64 2, .int .i64 4, .int .i64 1, .int .i64 2, .slice Ad4 0 cd4, .slice Ad5 1 cd5] 32 (0, 0))) ∧ Kd.C k60 x_ Aw4 ([(⟨1, 0⟩ : S60)] : List _).length [(⟨1, 0⟩ : S60)]) ∧ Kd.C k64 x_ Aw5 ([] : List _).length []) ∧ x_.heap[gw]? = some (Obj.cells #[.int .i64 1, .int .i64 4, .int .i64 0, .int .i64 2, .slice Aw4 1 cw4, .slice Aw5 0 cw5] 32 (0, 0))) ∧ Kd.C k60 x_ Az4 ([] : List _).length []) ∧ Kd.C k64 x_ Az5 ([] : List _).length []) ∧ x_.heap[gz]? = some (Obj.cells #[.int .i64 0, .int .i64 0, .int .i64 0, .int .i64 0, .slice Az4 0 cz4, .slice Az5 0 cz5] 32 (0, 0))) ∧ Kd.C k60 x_ Ac ([(⟨1, 0⟩ : S60)] : List _).length [(⟨1, 0⟩ : S60)]) ∧ x_.heap[gc]? = some (Obj.cells #[.int .i64 2, .slice Ac 1 cc] 27 (0, 0))) ∧ Kd.C k60 x_ Ay ([] : List _).length []) ∧ x_.heap[gy]? = some (Obj.cells #[.int .i64 0, .slice Ay 0 cy] 27 (0, 0))) ∧ Kd.C k60 x_ Ax ([] : List _).length []) ∧ x_.heap[gx]? = some (Obj.cells #[.int .i64 0, .slice Ax 0 cx] 27 (0, 0)))) (w := w17) S.out (by repeat (first | exact Below.refl _ _ | apply pw_below_drewN | apply below_drew1 | apply below_alloc)) hb (by repeat' (with_reducible first | exact stab_blk _ _ | exact stab_C _ _ _ _ | exact stab_base _ | exact stab_R _ _ _ _ _ _ | refine stab_and ?_ ?_))); clear hb; (try clear hcz_gw_0); (try clear hcz_gw_1); (try clear hcz_gw_2); (try clear hcz_gw_3); (try clear hcz_gw_4); (try clear hcz_gw_5); replace S := Aside0.mk (And.intro S.out (show Kd.C k60 w18 Ae ([(⟨1, 0⟩ : S60)] : List _).length [(⟨1, 0⟩ : S60)] from hC0)); clear hC0) | ((with_reducible refine gate_dst (N := 16) rfl ?_); refine var_event ?hg (N := 16) ?hd ?hg2 ?hn2 (z := #[.int .i64 0, .slice none 0 0]) (cs := #[.int .i64 2, .slice Ae 1 ce]) (T := 27) ?hr ?hs ?_; (case hg => rfl); (case hd => rfl); (case hg2 => rfl); (case hn2 => rfl); (case hr => first | (go_simp; done) | (go_simp; rfl)); (case hs => first | (go_simp; done) | (go_simp; rfl)); intro ge hg w19 hbox hb; clear hg; replace S := Aside0.mk (stab_step (P := (fun x_ => (((((((((((((((((((((Below w.heap.size w x_) ∧ Kd.C k60 x_ (some ⟨ra, 0, none⟩) 1 [(⟨0, 0⟩ : S60)]) ∧ x_.heap[ga]? = some (Obj.cells #[.slice (some ⟨ra, 0, none⟩) 1 1] 25 (0, 0))) ∧ Kd.C k60 x_ (some ⟨rb, 0, none⟩) 1 [(⟨1, 0⟩ : S60)]) ∧ x_.heap[gb]? = some (Obj.cells #[.slice (some ⟨rb, 0, none⟩) 1 1] 25 (0, 0))) ∧ Kd.C k52 x_ (some ⟨rl, 0, none⟩) 2 [(⟨1, ⟨[(⟨0, 0⟩ : S60)]⟩, 0, false⟩ : S52), (⟨2, ⟨[(⟨1, 0⟩ : S60)]⟩, 3, true⟩ : S52)]) ∧ Kd.C k60 x_ Ad4 ([] : List _).length []) ∧ Kd.C k64 x_ Ad5 ([(⟨0, ⟨1, 0⟩⟩ : S64)] : List _).length [(⟨0, ⟨1, 0⟩⟩ : S64)]) ∧ x_.heap[gd]? = some (Obj.cells #[.int .i64 2, .int .i64 4, .int .i64 1, .int .i64 2, .slice Ad4 0 cd4, .slice Ad5 1 cd5] 32 (0, 0))) ∧ Kd.C k60 x_ Aw4 ([(⟨1, 0⟩ : S60)] : List _).length [(⟨1, 0⟩ : S60)]) ∧ Kd.C k64 x_ Aw5 ([] : List _).length []) ∧ x_.heap[gw]? = some (Obj.cells #[.int .i64 1, .int .i64 4, .int .i64 0, .int .i64 2, .slice Aw4 1 cw4, .slice Aw5 0 cw5] 32 (0, 0))) ∧ Kd.C k60 x_ Az4 ([] : List _).length []) ∧ Kd.C k64 x_ Az5 ([] : List _).length []) ∧ x_.heap[gz]? = some (Obj.cells #[.int .i64 0, .int .i64 0, .int .i64 0, .int .i64 0, .slice Az4 0 cz4, .slice Az5 0 cz5] 32 (0, 0))) ∧ Kd.C k60 x_ Ac ([(⟨1, 0⟩ : S60)] : List _).length [(⟨1, 0⟩ : S60)]) ∧ x_.heap[gc]? = some (Obj.cells #[.int .i64 2, .slice Ac 1 cc] 27 (0, 0))) ∧ Kd.C k60 x_ Ay ([] : List _).length []) ∧ x_.heap[gy]? = some (Obj.cells #[.int .i64 0, .slice Ay 0 cy] 27 (0, 0))) ∧ Kd.C k60 x_ Ax ([] : List _).length []) ∧ x_.heap[gx]? = some (Obj.cells #[.int .i64 0, .slice Ax 0 cx] 27 (0, 0))) ∧ Kd.C k60 x_ Ae ([(⟨1, 0⟩ : S60)] : List _).length [(⟨1, 0⟩ : S60)])) (w := w18) S.out (by repeat (first | exact Below.refl _ _ | apply pw_below_drewN | apply below_drew1 | apply below_alloc)) hb (by repeat' (with_reducible first | exact stab_blk _ _ | exact stab_C _ _ _ _ | exact stab_base _ | exact stab_R _ _ _ _ _ _ | refine stab_and ?_ ?_))); clear hb; replace S := Aside0.mk (And.intro S.out (show w19.heap[ge]? = some (Obj.cells #[.int .i64 2, .slice Ae 1 ce] 27 (0, 0)) from hbox)); clear hbox; have hcz_gd_0 : World.cell? w19 ⟨gd, 0, none⟩ = some (.int .i64 2) := (blk_cell S.out.1.1.1.1.1.1.1.1.1.1.1.1.1.1.2 0).trans rfl; have hcz_gd_1 : World.cell? w19 ⟨gd, 1, none⟩ = some (.int .i64 4) := (blk_cell S.out.1.1.1.1.1.1.1.1.1.1.1.1.1.1.2 1).trans rfl; have hcz_gd_2 : World.cell? w19 ⟨gd, 2, none⟩ = some (.int .i64 1) := (blk_cell S.out.1.1.1.1.1.1.1.1.1.1.1.1.1.1.2 2).trans rfl; have hcz_gd_3 : World.cell? w19 ⟨gd, 3, none⟩ = some (.int .i64 2) := (blk_cell S.out.1.1.1.1.1.1.1.1.1.1.1.1.1.1.2 3).trans rfl; have hcz_gd_4 : World.cell? w19 ⟨gd, 4, none⟩ = some (.slice Ad4 0 cd4) := (blk_cell S.out.1.1.1.1.1.1.1.1.1.1.1.1.1.1.2 4).trans rfl; have hcz_gd_5 : World.cell? w19 ⟨gd, 5, none⟩ = some (.slice Ad5 1 cd5) := (blk_cell S.out.1.1.1.1.1.1.1.1.1.1.1.1.1.1.2 5).trans rfl) | ((with_reducible refine gate_dst (N := 74) rfl ?_); refine lit_event ?hg (N := 74) ?hd (cs := #[.int .i64 0, .int .i64 1, .int .i64 0]) (T := 64) (n := 1) ?hr ?_; (case hg => rfl); (case hd => rfl); (case hr => first | (go_simp; done) | (go_simp; rfl)); intro rm hg w20 hbox hb; clear hg; replace S := Aside0.mk (stab_step (P := (fun x_ => ((((((((((((((((((((((Below w.heap.size w x_) ∧ Kd.C k60 x_ (some ⟨ra, 0, none⟩) 1 [(⟨0, 0⟩ : S60)]) ∧ x_.heap[ga]? = some (Obj.cells #[.slice (some ⟨ra, 0, none⟩) 1 1] 25 (0, 0))) ∧ Kd.C k60 x_ (some ⟨rb, 0, none⟩) 1 [(⟨1, 0⟩ : S60)]) ∧ x_.heap[gb]? = some (Obj.cells #[.slice (some ⟨rb, 0, none⟩) 1 1] 25 (0, 0))) ∧ Kd.C k52 x_ (some ⟨rl, 0, none⟩) 2 [(⟨1, ⟨[(⟨0, 0⟩ : S60)]⟩, 0, false⟩ : S52), (⟨2, ⟨[(⟨1, 0⟩ : S60)]⟩, 3, true⟩ : S52)]) ∧ Kd.C k60 x_ Ad4 ([] : List _).length []) ∧ Kd.C k64 x_ Ad5 ([(⟨0, ⟨1, 0⟩⟩ : S64)] : List _).length [(⟨0, ⟨1, 0⟩⟩ : S64)]) ∧ x_.heap[gd]? = some (Obj.cells #[.int .i64 2, .int .i64 4, .int .i64 1, .int .i64 2, .slice Ad4 0 cd4, .slice Ad5 1 cd5] 32 (0, 0))) ∧ Kd.C k60 x_ Aw4 ([(⟨1, 0⟩ : S60)] : List _).length [(⟨1, 0⟩ : S60)]) ∧ Kd.C k64 x_ Aw5 ([] : List _).length []) ∧ x_.heap[gw]? = some (Obj.cells #[.int .i64 1, .int .i64 4, .int .i64 0, .int .i64 2, .slice Aw4 1 cw4, .slice Aw5 0 cw5] 32 (0, 0))) ∧ Kd.C k60 x_ Az4 ([] : List _).length []) ∧ Kd.C k64 x_ Az5 ([] : List _).length []) ∧ x_.heap[gz]? = some (Obj.cells #[.int .i64 0, .int .i64 0, .int .i64 0, .int .i64 0, .slice Az4 0 cz4, .slice Az5 0 cz5] 32 (0, 0))) ∧ Kd.C k60 x_ Ac ([(⟨1, 0⟩ : S60)] : List _).length [(⟨1, 0⟩ : S60)]) ∧ x_.heap[gc]? = some (Obj.cells #[.int .i64 2, .slice Ac 1 cc] 27 (0, 0))) ∧ Kd.C k60 x_ Ay ([] : List _).length []) ∧ x_.heap[gy]? = some (Obj.cells #[.int .i64 0, .slice Ay 0 cy] 27 (0, 0))) ∧ Kd.C k60 x_ Ax ([] : List _).length []) ∧ x_.heap[gx]? = some (Obj.cells #[.int .i64 0, .slice Ax 0 cx] 27 (0, 0))) ∧ Kd.C k60 x_ Ae ([(⟨1, 0⟩ : S60)] : List _).length [(⟨1, 0⟩ : S60)]) ∧ x_.heap[ge]? = some (Obj.cells #[.int .i64 2, .slice Ae 1 ce] 27 (0, 0)))) (w := w19) S.out (by repeat (first | exact Below.refl _ _ | apply pw_below_drewN | apply below_drew1 | apply below_alloc)) hb (by repeat' (with_reducible first | exact stab_blk _ _ | exact stab_C _ _ _ _ | exact stab_base _ | exact stab_R _ _ _ _ _ _ | refine stab_and ?_ ?_))); clear hb; (try clear hcz_gd_0); (try clear hcz_gd_1); (try clear hcz_gd_2); (try clear hcz_gd_3); (try clear hcz_gd_4); (try clear hcz_gd_5); replace S := Aside0.mk (And.intro S.out (show Kd.C k64 w20 (some ⟨rm, 0, none⟩) 1 [(⟨0, ⟨1, 0⟩⟩ : S64)] from C_lit k64 (xs := [(⟨0, ⟨1, 0⟩⟩ : S64)]) (inner := [.int .i64 0, .int .i64 1, .int .i64 0]) hbox (Reps.c3 (k64_mk _ _) (Reps.none _ _)) (by decide))); clear hbox; have hcz_gd_0 : World.cell? w20 ⟨gd, 0, none⟩ = some (.int .i64 2) := (blk_cell S.out.1.1.1.1.1.1.1.1.1.1.1.1.1.1.1.2 0).trans rfl; have hcz_gd_1 : World.cell? w20 ⟨gd, 1, none⟩ = some (.int .i64 4) := (blk_cell S.out.1.1.1.1.1.1.1.1.1.1.1.1.1.1.1.2 1).trans rfl; have hcz_gd_2 : World.cell? w20 ⟨gd, 2, none⟩ = some (.int .i64 1) := (blk_cell S.out.1.1.1.1.1.1.1.1.1.1.1.1.1.1.1.2 2).trans rfl; have hcz_gd_3 : World.cell? w20 ⟨gd, 3, none⟩ = some (.int .i64 2) := (blk_cell S.out.1.1.1.1.1.1.1.1.1.1.1.1.1.1.1.2 3).trans rfl; have hcz_gd_4 : World.cell? w20 ⟨gd, 4, none⟩ = some (.slice Ad4 0 cd4) := (blk_cell S.out.1.1.1.1.1.1.1.1.1.1.1.1.1.1.1.2 4).trans rfl; have hcz_gd_5 : World.cell? w20 ⟨gd, 5, none⟩ = some (.slice Ad5 1 cd5) := (blk_cell S.out.1.1.1.1.1.1.1.1.1.1.1.1.1.1.1.2 5).trans rfl) | ((with_reducible refine gate_dst (N := 76) rfl ?_); refine goesL_ (some 76) rfl rfl Try.func15 (by kernel_rfl) rfl #[.agg #[.int .i64 2, .int .i64 4, .int .i64 1, .int .i64 2, .slice Ad4 0 cd4, .slice Ad5 1 cd5], .agg #[.int .i64 2, .int .i64 4, .int .i64 1, .int .i64 2, .slice none 0 0, .slice (some ⟨rm, 0, none⟩) 1 1]] rfl (by (try simp only [List.map_toArray, List.map_cons, List.map_nil]); first | done | rfl) ?_; refine (chalklineref35_Msgs.calls 9 _ _ _ _ _ _ [] _ _ [(⟨0, ⟨1, 0⟩⟩ : S64)] _ _ _ _ _ _ [] _ _ [(⟨0, ⟨1, 0⟩⟩ : S64)] _ _ ?side1 ?side2 ?side3 ?side4 ?side5 ?side6 ?side7 ?side8 P8.out).mono ?_; (case side1 => exact stab_now (P := (fun x_ => Kd.C k60 x_ Ad4 ([] : List _).length [])) (w := w20) S.out.1.1.1.1.1.1.1.1.1.1.1.1.1.1.1.1.1.2 (by repeat (first | exact Below.refl _ _ | apply pw_below_drewN | apply below_drew1 | apply below_alloc)) (stab_C _ _ _ _)); (case side2 => exact HLcd4.out); (case side3 => exact stab_now (P := (fun x_ => Kd.C k64 x_ Ad5 ([(⟨0, ⟨1, 0⟩⟩ : S64)] : List _).length [(⟨0, ⟨1, 0⟩⟩ : S64)])) (w := w20) S.out.1.1.1.1.1.1.1.1.1.1.1.1.1.1.1.1.2 (by repeat (first | exact Below.refl _ _ | apply pw_below_drewN | apply below_drew1 | apply below_alloc)) (stab_C _ _ _ _)); (case side4 => exact HLcd5.out); (case side5 => exact Kd.C_nil _ _); (case side6 => exact Nat.le_refl _); (case side7 => exact stab_now (P := (fun x_ => Kd.C k64 x_ (some ⟨rm, 0, none⟩) 1 [(⟨0, ⟨1, 0⟩⟩ : S64)])) (w := w20) S.out.2 (by repeat (first | exact Below.refl _ _ | apply pw_below_drewN | apply below_drew1 | apply below_alloc)) (stab_C _ _ _ _)); (case side8 => decide); rintro e w21 ⟨rfl, hb⟩; refine ⟨_, rfl, ?_⟩; replace S := Aside0.mk (stab_step (P := (fun x_ => (((((((((((((((((((((((Below w.heap.size w x_) ∧ Kd.C k60 x_ (some ⟨ra, 0, none⟩) 1 [(⟨0, 0⟩ : S60)]) ∧ x_.heap[ga]? = some (Obj.cells #[.slice (some ⟨ra, 0, none⟩) 1 1] 25 (0, 0))) ∧ Kd.C k60 x_ (some ⟨rb, 0, none⟩) 1 [(⟨1, 0⟩ : S60)]) ∧ x_.heap[gb]? = some (Obj.cells #[.slice (some ⟨rb, 0, none⟩) 1 1] 25 (0, 0))) ∧ Kd.C k52 x_ (some ⟨rl, 0, none⟩) 2 [(⟨1, ⟨[(⟨0, 0⟩ : S60)]⟩, 0, false⟩ : S52), (⟨2, ⟨[(⟨1, 0⟩ : S60)]⟩, 3, true⟩ : S52)]) ∧ Kd.C k60 x_ Ad4 ([] : List _).length []) ∧ Kd.C k64 x_ Ad5 ([(⟨0, ⟨1, 0⟩⟩ : S64)] : List _).length [(⟨0, ⟨1, 0⟩⟩ : S64)]) ∧ x_.heap[gd]? = some (Obj.cells #[.int .i64 2, .int .i64 4, .int .i64 1, .int .i64 2, .slice Ad4 0 cd4, .slice Ad5 1 cd5] 32 (0, 0))) ∧ Kd.C k60 x_ Aw4 ([(⟨1, 0⟩ : S60)] : List _).length [(⟨1, 0⟩ : S60)]) ∧ Kd.C k64 x_ Aw5 ([] : List _).length []) ∧ x_.heap[gw]? = some (Obj.cells #[.int .i64 1, .int .i64 4, .int .i64 0, .int .i64 2, .slice Aw4 1 cw4, .slice Aw5 0 cw5] 32 (0, 0))) ∧ Kd.C k60 x_ Az4 ([] : List _).length []) ∧ Kd.C k64 x_ Az5 ([] : List _).length []) ∧ x_.heap[gz]? = some (Obj.cells #[.int .i64 0, .int .i64 0, .int .i64 0, .int .i64 0, .slice Az4 0 cz4, .slice Az5 0 cz5] 32 (0, 0))) ∧ Kd.C k60 x_ Ac ([(⟨1, 0⟩ : S60)] : List _).length [(⟨1, 0⟩ : S60)]) ∧ x_.heap[gc]? = some (Obj.cells #[.int .i64 2, .slice Ac 1 cc] 27 (0, 0))) ∧ Kd.C k60 x_ Ay ([] : List _).length []) ∧ x_.heap[gy]? = some (Obj.cells #[.int .i64 0, .slice Ay 0 cy] 27 (0, 0))) ∧ Kd.C k60 x_ Ax ([] : List _).length []) ∧ x_.heap[gx]? = some (Obj.cells #[.int .i64 0, .slice Ax 0 cx] 27 (0, 0))) ∧ Kd.C k60 x_ Ae ([(⟨1, 0⟩ : S60)] : List _).length [(⟨1, 0⟩ : S60)]) ∧ x_.heap[ge]? = some (Obj.cells #[.int .i64 2, .slice Ae 1 ce] 27 (0, 0))) ∧ Kd.C k64 x_ (some ⟨rm, 0, none⟩) 1 [(⟨0, ⟨1, 0⟩⟩ : S64)])) (w := w20) S.out (by repeat (first | exact Below.refl _ _ | apply pw_below_drewN | apply below_drew1 | apply below_alloc)) hb (by repeat' (with_reducible first | exact stab_blk _ _ | exact stab_C _ _ _ _ | exact stab_base _ | exact stab_R _ _ _ _ _ _ | refine stab_and ?_ ?_))); clear hb; (try clear hcz_gd_0); (try clear hcz_gd_1); (try clear hcz_gd_2); (try clear hcz_gd_3); (try clear hcz_gd_4); (try clear hcz_gd_5); have hcz_gw_0 : World.cell? w21 ⟨gw, 0, none⟩ = some (.int .i64 1) := (blk_cell S.out.1.1.1.1.1.1.1.1.1.1.1.1.2 0).trans rfl; have hcz_gw_1 : World.cell? w21 ⟨gw, 1, none⟩ = some (.int .i64 4) := (blk_cell S.out.1.1.1.1.1.1.1.1.1.1.1.1.2 1).trans rfl; have hcz_gw_2 : World.cell? w21 ⟨gw, 2, none⟩ = some (.int .i64 0) := (blk_cell S.out.1.1.1.1.1.1.1.1.1.1.1.1.2 2).trans rfl; have hcz_gw_3 : World.cell? w21 ⟨gw, 3, none⟩ = some (.int .i64 2) := (blk_cell S.out.1.1.1.1.1.1.1.1.1.1.1.1.2 3).trans rfl; have hcz_gw_4 : World.cell? w21 ⟨gw, 4, none⟩ = some (.slice Aw4 1 cw4) := (blk_cell S.out.1.1.1.1.1.1.1.1.1.1.1.1.2 4).trans rfl; have hcz_gw_5 : World.cell? w21 ⟨gw, 5, none⟩ = some (.slice Aw5 0 cw5) := (blk_cell S.out.1.1.1.1.1.1.1.1.1.1.1.1.2 5).trans rfl; have hcz_gb_0 : World.cell? w21 ⟨gb, 0, none⟩ = some (.slice (some ⟨rb, 0, none⟩) 1 1) := (blk_cell S.out.1.1.1.1.1.1.1.1.1.1.1.1.1.1.1.1.1.1.1.2 0).trans rfl) | ((with_reducible refine gate_dst (N := 81) rfl ?_); refine gate_guard (by rfl) ?_; dsimp only; refine goesL_ (some 81) rfl rfl Try.func15 (by kernel_rfl) rfl #[.agg #[.int .i64 1, .int .i64 4, .int .i64 0, .int .i64 2, .slice Aw4 1 cw4, .slice Aw5 0 cw5], .agg #[.int .i64 1, .int .i64 4, .int .i64 0, .int .i64 2, .slice (some ⟨rb, 0, none⟩) 1 1, .slice none 0 0]] rfl (by (try simp only [List.map_toArray, List.map_cons, List.map_nil]); first | done | rfl) ?_; refine (chalklineref35_Msgs.calls 9 _ _ _ _ _ _ [(⟨1, 0⟩ : S60)] _ _ [] _ _ _ _ _ _ [(⟨1, 0⟩ : S60)] _ _ [] _ _ ?side1 ?side2 ?side3 ?side4 ?side5 ?side6 ?side7 ?side8 P9.out).mono ?_; (case side1 => exact stab_now (P := (fun x_ => Kd.C k60 x_ Aw4 ([(⟨1, 0⟩ : S60)] : List _).length [(⟨1, 0⟩ : S60)])) (w := w21) S.out.1.1.1.1.1.1.1.1.1.1.1.1.1.1.2 (by repeat (first | exact Below.refl _ _ | apply pw_below_drewN | apply below_drew1 | apply below_alloc)) (stab_C _ _ _ _)); (case side2 => exact HLcw4.out); (case side3 => exact stab_now (P := (fun x_ => Kd.C k64 x_ Aw5 ([] : List _).length [])) (w := w21) S.out.1.1.1.1.1.1.1.1.1.1.1.1.1.2 (by repeat (first | exact Below.refl _ _ | apply pw_below_drewN | apply below_drew1 | apply below_alloc)) (stab_C _ _ _ _)); (case side4 => exact HLcw5.out); (case side5 => exact stab_now (P := (fun x_ => Kd.C k60 x_ (some ⟨rb, 0, none⟩) 1 [(⟨1, 0⟩ : S60)])) (w := w21) S.out.1.1.1.1.1.1.1.1.1.1.1.1.1.1.1.1.1.1.1.1.2 (by repeat (first | exact Below.refl _ _ | apply pw_below_drewN | apply below_drew1 | apply below_alloc)) (stab_C _ _ _ _)); (case side6 => decide); (case side7 => exact Kd.C_nil _ _); (case side8 => exact Nat.le_refl _); rintro e w22 ⟨rfl, hb⟩; refine ⟨_, rfl, ?_⟩; replace S := Aside0.mk (stab_step (P := (fun x_ => (((((((((((((((((((((((Below w.heap.size w x_) ∧ Kd.C k60 x_ (some ⟨ra, 0, none⟩) 1 [(⟨0, 0⟩ : S60)]) ∧ x_.heap[ga]? = some (Obj.cells #[.slice (some ⟨ra, 0, none⟩) 1 1] 25 (0, 0))) ∧ Kd.C k60 x_ (some ⟨rb, 0, none⟩) 1 [(⟨1, 0⟩ : S60)]) ∧ x_.heap[gb]? = some (Obj.cells #[.slice (some ⟨rb, 0, none⟩) 1 1] 25 (0, 0))) ∧ Kd.C k52 x_ (some ⟨rl, 0, none⟩) 2 [(⟨1, ⟨[(⟨0, 0⟩ : S60)]⟩, 0, false⟩ : S52), (⟨2, ⟨[(⟨1, 0⟩ : S60)]⟩, 3, true⟩ : S52)]) ∧ Kd.C k60 x_ Ad4 ([] : List _).length []) ∧ Kd.C k64 x_ Ad5 ([(⟨0, ⟨1, 0⟩⟩ : S64)] : List _).length [(⟨0, ⟨1, 0⟩⟩ : S64)]) ∧ x_.heap[gd]? = some (Obj.cells #[.int .i64 2, .int .i64 4, .int .i64 1, .int .i64 2, .slice Ad4 0 cd4, .slice Ad5 1 cd5] 32 (0, 0))) ∧ Kd.C k60 x_ Aw4 ([(⟨1, 0⟩ : S60)] : List _).length [(⟨1, 0⟩ : S60)]) ∧ Kd.C k64 x_ Aw5 ([] : List _).length []) ∧ x_.heap[gw]? = some (Obj.cells #[.int .i64 1, .int .i64 4, .int .i64 0, .int .i64 2, .slice Aw4 1 cw4, .slice Aw5 0 cw5] 32 (0, 0))) ∧ Kd.C k60 x_ Az4 ([] : List _).length []) ∧ Kd.C k64 x_ Az5 ([] : List _).length []) ∧ x_.heap[gz]? = some (Obj.cells #[.int .i64 0, .int .i64 0, .int .i64 0, .int .i64 0, .slice Az4 0 cz4, .slice Az5 0 cz5] 32 (0, 0))) ∧ Kd.C k60 x_ Ac ([(⟨1, 0⟩ : S60)] : List _).length [(⟨1, 0⟩ : S60)]) ∧ x_.heap[gc]? = some (Obj.cells #[.int .i64 2, .slice Ac 1 cc] 27 (0, 0))) ∧ Kd.C k60 x_ Ay ([] : List _).length []) ∧ x_.heap[gy]? = some (Obj.cells #[.int .i64 0, .slice Ay 0 cy] 27 (0, 0))) ∧ Kd.C k60 x_ Ax ([] : List _).length []) ∧ x_.heap[gx]? = some (Obj.cells #[.int .i64 0, .slice Ax 0 cx] 27 (0, 0))) ∧ Kd.C k60 x_ Ae ([(⟨1, 0⟩ : S60)] : List _).length [(⟨1, 0⟩ : S60)]) ∧ x_.heap[ge]? = some (Obj.cells #[.int .i64 2, .slice Ae 1 ce] 27 (0, 0))) ∧ Kd.C k64 x_ (some ⟨rm, 0, none⟩) 1 [(⟨0, ⟨1, 0⟩⟩ : S64)])) (w := w21) S.out (by repeat (first | exact Below.refl _ _ | apply pw_below_drewN | apply below_drew1 | apply below_alloc)) hb (by repeat' (with_reducible first | exact stab_blk _ _ | exact stab_C _ _ _ _ | exact stab_base _ | exact stab_R _ _ _ _ _ _ | refine stab_and ?_ ?_))); clear hb; (try clear hcz_gw_0); (try clear hcz_gw_1); (try clear hcz_gw_2); (try clear hcz_gw_3); (try clear hcz_gw_4); (try clear hcz_gw_5); (try clear hcz_gb_0); have hcz_gc_0 : World.cell? w22 ⟨gc, 0, none⟩ = some (.int .i64 2) := (blk_cell S.out.1.1.1.1.1.1.1.2 0).trans rfl; have hcz_gc_1 : World.cell? w22 ⟨gc, 1, none⟩ = some (.slice Ac 1 cc) := (blk_cell S.out.1.1.1.1.1.1.1.2 1).trans rfl; have hcz_gb_0 : World.cell? w22 ⟨gb, 0, none⟩ = some (.slice (some ⟨rb, 0, none⟩) 1 1) := (blk_cell S.out.1.1.1.1.1.1.1.1.1.1.1.1.1.1.1.1.1.1.1.2 0).trans rfl) | ((with_reducible refine gate_dst (N := 86) rfl ?_); refine goesL_ (some 86) rfl rfl Try.func23 (by kernel_rfl) rfl #[.agg #[.int .i64 2, .slice Ac 1 cc], .agg #[.int .i64 2, .slice (some ⟨rb, 0, none⟩) 1 1]] rfl (by (try simp only [List.map_toArray, List.map_cons, List.map_nil]); first | done | rfl) ?_; refine (chalklineref35_Clients.calls 9 _ _ _ [(⟨1, 0⟩ : S60)] _ _ _ [(⟨1, 0⟩ : S60)] _ _ ?side1 ?side2 ?side3 ?side4 P10.out).mono ?_; (case side1 => exact stab_now (P := (fun x_ => Kd.C k60 x_ Ac ([(⟨1, 0⟩ : S60)] : List _).length [(⟨1, 0⟩ : S60)])) (w := w22) S.out.1.1.1.1.1.1.1.1.2 (by repeat (first | exact Below.refl _ _ | apply pw_below_drewN | apply below_drew1 | apply below_alloc)) (stab_C _ _ _ _)); (case side2 => exact HLcc.out); (case side3 => exact stab_now (P := (fun x_ => Kd.C k60 x_ (some ⟨rb, 0, none⟩) 1 [(⟨1, 0⟩ : S60)])) (w := w22) S.out.1.1.1.1.1.1.1.1.1.1.1.1.1.1.1.1.1.1.1.1.2 (by repeat (first | exact Below.refl _ _ | apply pw_below_drewN | apply below_drew1 | apply below_alloc)) (stab_C _ _ _ _)); (case side4 => decide); rintro e w23 ⟨rfl, hb⟩; refine ⟨_, rfl, ?_⟩; replace S := Aside0.mk (stab_step (P := (fun x_ => (((((((((((((((((((((((Below w.heap.size w x_) ∧ Kd.C k60 x_ (some ⟨ra, 0, none⟩) 1 [(⟨0, 0⟩ : S60)]) ∧ x_.heap[ga]? = some (Obj.cells #[.slice (some ⟨ra, 0, none⟩) 1 1] 25 (0, 0))) ∧ Kd.C k60 x_ (some ⟨rb, 0, none⟩) 1 [(⟨1, 0⟩ : S60)]) ∧ x_.heap[gb]? = some (Obj.cells #[.slice (some ⟨rb, 0, none⟩) 1 1] 25 (0, 0))) ∧ Kd.C k52 x_ (some ⟨rl, 0, none⟩) 2 [(⟨1, ⟨[(⟨0, 0⟩ : S60)]⟩, 0, false⟩ : S52), (⟨2, ⟨[(⟨1, 0⟩ : S60)]⟩, 3, true⟩ : S52)]) ∧ Kd.C k60 x_ Ad4 ([] : List _).length []) ∧ Kd.C k64 x_ Ad5 ([(⟨0, ⟨1, 0⟩⟩ : S64)] : List _).length [(⟨0, ⟨1, 0⟩⟩ : S64)]) ∧ x_.heap[gd]? = some (Obj.cells #[.int .i64 2, .int .i64 4, .int .i64 1, .int .i64 2, .slice Ad4 0 cd4, .slice Ad5 1 cd5] 32 (0, 0))) ∧ Kd.C k60 x_ Aw4 ([(⟨1, 0⟩ : S60)] : List _).length [(⟨1, 0⟩ : S60)]) ∧ Kd.C k64 x_ Aw5 ([] : List _).length []) ∧ x_.heap[gw]? = some (Obj.cells #[.int .i64 1, .int .i64 4, .int .i64 0, .int .i64 2, .slice Aw4 1 cw4, .slice Aw5 0 cw5] 32 (0, 0))) ∧ Kd.C k60 x_ Az4 ([] : List _).length []) ∧ Kd.C k64 x_ Az5 ([] : List _).length []) ∧ x_.heap[gz]? = some (Obj.cells #[.int .i64 0, .int .i64 0, .int .i64 0, .int .i64 0, .slice Az4 0 cz4, .slice Az5 0 cz5] 32 (0, 0))) ∧ Kd.C k60 x_ Ac ([(⟨1, 0⟩ : S60)] : List _).length [(⟨1, 0⟩ : S60)]) ∧ x_.heap[gc]? = some (Obj.cells #[.int .i64 2, .slice Ac 1 cc] 27 (0, 0))) ∧ Kd.C k60 x_ Ay ([] : List _).length []) ∧ x_.heap[gy]? = some (Obj.cells #[.int .i64 0, .slice Ay 0 cy] 27 (0, 0))) ∧ Kd.C k60 x_ Ax ([] : List _).length []) ∧ x_.heap[gx]? = some (Obj.cells #[.int .i64 0, .slice Ax 0 cx] 27 (0, 0))) ∧ Kd.C k60 x_ Ae ([(⟨1, 0⟩ : S60)] : List _).length [(⟨1, 0⟩ : S60)]) ∧ x_.heap[ge]? = some (Obj.cells #[.int .i64 2, .slice Ae 1 ce] 27 (0, 0))) ∧ Kd.C k64 x_ (some ⟨rm, 0, none⟩) 1 [(⟨0, ⟨1, 0⟩⟩ : S64)])) (w := w22) S.out (by repeat (first | exact Below.refl _ _ | apply pw_below_drewN | apply below_drew1 | apply below_alloc)) hb (by repeat' (with_reducible first | exact stab_blk _ _ | exact stab_C _ _ _ _ | exact stab_base _ | exact stab_R _ _ _ _ _ _ | refine stab_and ?_ ?_))); clear hb; (try clear hcz_gc_0); (try clear hcz_gc_1); (try clear hcz_gb_0); have hcz_ge_0 : World.cell? w23 ⟨ge, 0, none⟩ = some (.int .i64 2) := (blk_cell S.out.1.2 0).trans rfl; have hcz_ge_1 : World.cell? w23 ⟨ge, 1, none⟩ = some (.slice Ae 1 ce) := (blk_cell S.out.1.2 1).trans rfl; have hcz_gc_0 : World.cell? w23 ⟨gc, 0, none⟩ = some (.int .i64 2) := (blk_cell S.out.1.1.1.1.1.1.1.2 0).trans rfl; have hcz_gc_1 : World.cell? w23 ⟨gc, 1, none⟩ = some (.slice Ac 1 cc) := (blk_cell S.out.1.1.1.1.1.1.1.2 1).trans rfl) | ((with_reducible refine gate_dst (N := 90) rfl ?_); refine gate_guard (by rfl) ?_; dsimp only; refine goesL_ (some 90) rfl rfl Try.func23 (by kernel_rfl) rfl #[.agg #[.int .i64 2, .slice Ae 1 ce], .agg #[.int .i64 2, .slice Ac 1 cc]] rfl (by (try simp only [List.map_toArray, List.map_cons, List.map_nil]); first | done | rfl) ?_; refine (chalklineref35_Clients.calls 9 _ _ _ [(⟨1, 0⟩ : S60)] _ _ _ [(⟨1, 0⟩ : S60)] _ _ ?side1 ?side2 ?side3 ?side4 P10.out).mono ?_; (case side1 => exact stab_now (P := (fun x_ => Kd.C k60 x_ Ae ([(⟨1, 0⟩ : S60)] : List _).length [(⟨1, 0⟩ : S60)])) (w := w23) S.out.1.1.2 (by repeat (first | exact Below.refl _ _ | apply pw_below_drewN | apply below_drew1 | apply below_alloc)) (stab_C _ _ _ _)); (case side2 => exact HLce.out); (case side3 => exact stab_now (P := (fun x_ => Kd.C k60 x_ Ac ([(⟨1, 0⟩ : S60)] : List _).length [(⟨1, 0⟩ : S60)])) (w := w23) S.out.1.1.1.1.1.1.1.1.2 (by repeat (first | exact Below.refl _ _ | apply pw_below_drewN | apply below_drew1 | apply below_alloc)) (stab_C _ _ _ _)); (case side4 => exact HLcc.out); rintro e w24 ⟨rfl, hb⟩; refine ⟨_, rfl, ?_⟩; replace S := Aside0.mk (stab_step (P := (fun x_ => (((((((((((((((((((((((Below w.heap.size w x_) ∧ Kd.C k60 x_ (some ⟨ra, 0, none⟩) 1 [(⟨0, 0⟩ : S60)]) ∧ x_.heap[ga]? = some (Obj.cells #[.slice (some ⟨ra, 0, none⟩) 1 1] 25 (0, 0))) ∧ Kd.C k60 x_ (some ⟨rb, 0, none⟩) 1 [(⟨1, 0⟩ : S60)]) ∧ x_.heap[gb]? = some (Obj.cells #[.slice (some ⟨rb, 0, none⟩) 1 1] 25 (0, 0))) ∧ Kd.C k52 x_ (some ⟨rl, 0, none⟩) 2 [(⟨1, ⟨[(⟨0, 0⟩ : S60)]⟩, 0, false⟩ : S52), (⟨2, ⟨[(⟨1, 0⟩ : S60)]⟩, 3, true⟩ : S52)]) ∧ Kd.C k60 x_ Ad4 ([] : List _).length []) ∧ Kd.C k64 x_ Ad5 ([(⟨0, ⟨1, 0⟩⟩ : S64)] : List _).length [(⟨0, ⟨1, 0⟩⟩ : S64)]) ∧ x_.heap[gd]? = some (Obj.cells #[.int .i64 2, .int .i64 4, .int .i64 1, .int .i64 2, .slice Ad4 0 cd4, .slice Ad5 1 cd5] 32 (0, 0))) ∧ Kd.C k60 x_ Aw4 ([(⟨1, 0⟩ : S60)] : List _).length [(⟨1, 0⟩ : S60)]) ∧ Kd.C k64 x_ Aw5 ([] : List _).length []) ∧ x_.heap[gw]? = some (Obj.cells #[.int .i64 1, .int .i64 4, .int .i64 0, .int .i64 2, .slice Aw4 1 cw4, .slice Aw5 0 cw5] 32 (0, 0))) ∧ Kd.C k60 x_ Az4 ([] : List _).length []) ∧ Kd.C k64 x_ Az5 ([] : List _).length []) ∧ x_.heap[gz]? = some (Obj.cells #[.int .i64 0, .int .i64 0, .int .i64 0, .int .i64 0, .slice Az4 0 cz4, .slice Az5 0 cz5] 32 (0, 0))) ∧ Kd.C k60 x_ Ac ([(⟨1, 0⟩ : S60)] : List _).length [(⟨1, 0⟩ : S60)]) ∧ x_.heap[gc]? = some (Obj.cells #[.int .i64 2, .slice Ac 1 cc] 27 (0, 0))) ∧ Kd.C k60 x_ Ay ([] : List _).length []) ∧ x_.heap[gy]? = some (Obj.cells #[.int .i64 0, .slice Ay 0 cy] 27 (0, 0))) ∧ Kd.C k60 x_ Ax ([] : List _).length []) ∧ x_.heap[gx]? = some (Obj.cells #[.int .i64 0, .slice Ax 0 cx] 27 (0, 0))) ∧ Kd.C k60 x_ Ae ([(⟨1, 0⟩ : S60)] : List _).length [(⟨1, 0⟩ : S60)]) ∧ x_.heap[ge]? = some (Obj.cells #[.int .i64 2, .slice Ae 1 ce] 27 (0, 0))) ∧ Kd.C k64 x_ (some ⟨rm, 0, none⟩) 1 [(⟨0, ⟨1, 0⟩⟩ : S64)])) (w := w23) S.out (by repeat (first | exact Below.refl _ _ | apply pw_below_drewN | apply below_drew1 | apply below_alloc)) hb (by repeat' (with_reducible first | exact stab_blk _ _ | exact stab_C _ _ _ _ | exact stab_base _ | exact stab_R _ _ _ _ _ _ | refine stab_and ?_ ?_))); clear hb; (try clear hcz_ge_0); (try clear hcz_ge_1); (try clear hcz_gc_0); (try clear hcz_gc_1); have hcz_gc_0 : World.cell? w24 ⟨gc, 0, none⟩ = some (.int .i64 2) := (blk_cell S.out.1.1.1.1.1.1.1.2 0).trans rfl; have hcz_gc_1 : World.cell? w24 ⟨gc, 1, none⟩ = some (.slice Ac 1 cc) := (blk_cell S.out.1.1.1.1.1.1.1.2 1).trans rfl) | ((with_reducible refine gate_dst (N := 126) rfl ?_); refine gate_guard (by rfl) ?_; dsimp only; refine goesL_ (some 126) rfl rfl Try.func18 (by kernel_rfl) rfl #[.agg #[.int .i64 2, .slice Ac 1 cc], .int .i64 4] rfl (by (try simp only [List.map_toArray, List.map_cons, List.map_nil]); first | done | rfl) ?_; refine (feed_Wish.calls _ _ _ [(⟨1, 0⟩ : S60)] _ _ _ _ _ _ _ _ ?side1 ?side2 P11.out).mono ?_; (case side1 => exact stab_now (P := (fun x_ => Kd.C k60 x_ Ac ([(⟨1, 0⟩ : S60)] : List _).length [(⟨1, 0⟩ : S60)])) (w := w24) S.out.1.1.1.1.1.1.1.1.2 (by repeat (first | exact Below.refl _ _ | apply pw_below_drewN | apply below_drew1 | apply below_alloc)) (stab_C _ _ _ _)); (case side2 => exact HLcc.out); rintro e w25 ⟨vf4, vf5, rfl, ho0, ho1, hb⟩; refine ⟨_, rfl, ?_⟩; obtain ⟨Af4, cf4, e0, hlcf4, hC0⟩ := Kd.R_reads ho0; subst e0; have HLcf4 := Aside0.mk hlcf4; clear hlcf4 ho0; obtain ⟨Af5, cf5, e1, hlcf5, hC1⟩ := Kd.R_reads ho1; subst e1; have HLcf5 := Aside0.mk hlcf5; clear hlcf5 ho1; replace S := Aside0.mk (stab_step (P := (fun x_ => (((((((((((((((((((((((Below w.heap.size w x_) ∧ Kd.C k60 x_ (some ⟨ra, 0, none⟩) 1 [(⟨0, 0⟩ : S60)]) ∧ x_.heap[ga]? = some (Obj.cells #[.slice (some ⟨ra, 0, none⟩) 1 1] 25 (0, 0))) ∧ Kd.C k60 x_ (some ⟨rb, 0, none⟩) 1 [(⟨1, 0⟩ : S60)]) ∧ x_.heap[gb]? = some (Obj.cells #[.slice (some ⟨rb, 0, none⟩) 1 1] 25 (0, 0))) ∧ Kd.C k52 x_ (some ⟨rl, 0, none⟩) 2 [(⟨1, ⟨[(⟨0, 0⟩ : S60)]⟩, 0, false⟩ : S52), (⟨2, ⟨[(⟨1, 0⟩ : S60)]⟩, 3, true⟩ : S52)]) ∧ Kd.C k60 x_ Ad4 ([] : List _).length []) ∧ Kd.C k64 x_ Ad5 ([(⟨0, ⟨1, 0⟩⟩ : S64)] : List _).length [(⟨0, ⟨1, 0⟩⟩ : S64)]) ∧ x_.heap[gd]? = some (Obj.cells #[.int .i64 2, .int .i64 4, .int .i64 1, .int .i64 2, .slice Ad4 0 cd4, .slice Ad5 1 cd5] 32 (0, 0))) ∧ Kd.C k60 x_ Aw4 ([(⟨1, 0⟩ : S60)] : List _).length [(⟨1, 0⟩ : S60)]) ∧ Kd.C k64 x_ Aw5 ([] : List _).length []) ∧ x_.heap[gw]? = some (Obj.cells #[.int .i64 1, .int .i64 4, .int .i64 0, .int .i64 2, .slice Aw4 1 cw4, .slice Aw5 0 cw5] 32 (0, 0))) ∧ Kd.C k60 x_ Az4 ([] : List _).length []) ∧ Kd.C k64 x_ Az5 ([] : List _).length []) ∧ x_.heap[gz]? = some (Obj.cells #[.int .i64 0, .int .i64 0, .int .i64 0, .int .i64 0, .slice Az4 0 cz4, .slice Az5 0 cz5] 32 (0, 0))) ∧ Kd.C k60 x_ Ac ([(⟨1, 0⟩ : S60)] : List _).length [(⟨1, 0⟩ : S60)]) ∧ x_.heap[gc]? = some (Obj.cells #[.int .i64 2, .slice Ac 1 cc] 27 (0, 0))) ∧ Kd.C k60 x_ Ay ([] : List _).length []) ∧ x_.heap[gy]? = some (Obj.cells #[.int .i64 0, .slice Ay 0 cy] 27 (0, 0))) ∧ Kd.C k60 x_ Ax ([] : List _).length []) ∧ x_.heap[gx]? = some (Obj.cells #[.int .i64 0, .slice Ax 0 cx] 27 (0, 0))) ∧ Kd.C k60 x_ Ae ([(⟨1, 0⟩ : S60)] : List _).length [(⟨1, 0⟩ : S60)]) ∧ x_.heap[ge]? = some (Obj.cells #[.int .i64 2, .slice Ae 1 ce] 27 (0, 0))) ∧ Kd.C k64 x_ (some ⟨rm, 0, none⟩) 1 [(⟨0, ⟨1, 0⟩⟩ : S64)])) (w := w24) S.out (by repeat (first | exact Below.refl _ _ | apply pw_below_drewN | apply below_drew1 | apply below_alloc)) hb (by repeat' (with_reducible first | exact stab_blk _ _ | exact stab_C _ _ _ _ | exact stab_base _ | exact stab_R _ _ _ _ _ _ | refine stab_and ?_ ?_))); clear hb; (try clear hcz_gc_0); (try clear hcz_gc_1); replace S := Aside0.mk (And.intro S.out (show Kd.C k60 w25 Af4 ([] : List _).length [] from hC0)); clear hC0; replace S := Aside0.mk (And.intro S.out (show Kd.C k64 w25 Af5 ([] : List _).length [] from hC1)); clear hC1) | ((with_reducible refine gate_dst (N := 132) rfl ?_); refine gate_guard (by rfl) ?_; dsimp only; refine goesL_ (some 132) rfl rfl Try.func16 (by kernel_rfl) rfl #[.slice (some ⟨rl, 0, none⟩) 2 2] rfl (by (try simp only [List.map_toArray, List.map_cons, List.map_nil]); first | done | rfl) ?_; refine (feed_Check.calls 9 _ _ [(⟨1, ⟨[(⟨0, 0⟩ : S60)]⟩, 0, false⟩ : S52), (⟨2, ⟨[(⟨1, 0⟩ : S60)]⟩, 3, true⟩ : S52)] _ _ ?side1 ?side2 P12.out).mono ?_; (case side1 => exact stab_now (P := (fun x_ => Kd.C k52 x_ (some ⟨rl, 0, none⟩) 2 [(⟨1, ⟨[(⟨0, 0⟩ : S60)]⟩, 0, false⟩ : S52), (⟨2, ⟨[(⟨1, 0⟩ : S60)]⟩, 3, true⟩ : S52)])) (w := w25) S.out.1.1.1.1.1.1.1.1.1.1.1.1.1.1.1.1.1.1.1.1.2 (by repeat (first | exact Below.refl _ _ | apply pw_below_drewN | apply below_drew1 | apply below_alloc)) (stab_C _ _ _ _)); (case side2 => decide); rintro e w26 ⟨rfl, hb⟩; refine ⟨_, rfl, ?_⟩; replace S := Aside0.mk (stab_step (P := (fun x_ => (((((((((((((((((((((((((Below w.heap.size w x_) ∧ Kd.C k60 x_ (some ⟨ra, 0, none⟩) 1 [(⟨0, 0⟩ : S60)]) ∧ x_.heap[ga]? = some (Obj.cells #[.slice (some ⟨ra, 0, none⟩) 1 1] 25 (0, 0))) ∧ Kd.C k60 x_ (some ⟨rb, 0, none⟩) 1 [(⟨1, 0⟩ : S60)]) ∧ x_.heap[gb]? = some (Obj.cells #[.slice (some ⟨rb, 0, none⟩) 1 1] 25 (0, 0))) ∧ Kd.C k52 x_ (some ⟨rl, 0, none⟩) 2 [(⟨1, ⟨[(⟨0, 0⟩ : S60)]⟩, 0, false⟩ : S52), (⟨2, ⟨[(⟨1, 0⟩ : S60)]⟩, 3, true⟩ : S52)]) ∧ Kd.C k60 x_ Ad4 ([] : List _).length []) ∧ Kd.C k64 x_ Ad5 ([(⟨0, ⟨1, 0⟩⟩ : S64)] : List _).length [(⟨0, ⟨1, 0⟩⟩ : S64)]) ∧ x_.heap[gd]? = some (Obj.cells #[.int .i64 2, .int .i64 4, .int .i64 1, .int .i64 2, .slice Ad4 0 cd4, .slice Ad5 1 cd5] 32 (0, 0))) ∧ Kd.C k60 x_ Aw4 ([(⟨1, 0⟩ : S60)] : List _).length [(⟨1, 0⟩ : S60)]) ∧ Kd.C k64 x_ Aw5 ([] : List _).length []) ∧ x_.heap[gw]? = some (Obj.cells #[.int .i64 1, .int .i64 4, .int .i64 0, .int .i64 2, .slice Aw4 1 cw4, .slice Aw5 0 cw5] 32 (0, 0))) ∧ Kd.C k60 x_ Az4 ([] : List _).length []) ∧ Kd.C k64 x_ Az5 ([] : List _).length []) ∧ x_.heap[gz]? = some (Obj.cells #[.int .i64 0, .int .i64 0, .int .i64 0, .int .i64 0, .slice Az4 0 cz4, .slice Az5 0 cz5] 32 (0, 0))) ∧ Kd.C k60 x_ Ac ([(⟨1, 0⟩ : S60)] : List _).length [(⟨1, 0⟩ : S60)]) ∧ x_.heap[gc]? = some (Obj.cells #[.int .i64 2, .slice Ac 1 cc] 27 (0, 0))) ∧ Kd.C k60 x_ Ay ([] : List _).length []) ∧ x_.heap[gy]? = some (Obj.cells #[.int .i64 0, .slice Ay 0 cy] 27 (0, 0))) ∧ Kd.C k60 x_ Ax ([] : List _).length []) ∧ x_.heap[gx]? = some (Obj.cells #[.int .i64 0, .slice Ax 0 cx] 27 (0, 0))) ∧ Kd.C k60 x_ Ae ([(⟨1, 0⟩ : S60)] : List _).length [(⟨1, 0⟩ : S60)]) ∧ x_.heap[ge]? = some (Obj.cells #[.int .i64 2, .slice Ae 1 ce] 27 (0, 0))) ∧ Kd.C k64 x_ (some ⟨rm, 0, none⟩) 1 [(⟨0, ⟨1, 0⟩⟩ : S64)]) ∧ Kd.C k60 x_ Af4 ([] : List _).length []) ∧ Kd.C k64 x_ Af5 ([] : List _).length [])) (w := w25) S.out (by repeat (first | exact Below.refl _ _ | apply pw_below_drewN | apply below_drew1 | apply below_alloc)) hb (by repeat' (with_reducible first | exact stab_blk _ _ | exact stab_C _ _ _ _ | exact stab_base _ | exact stab_R _ _ _ _ _ _ | refine stab_and ?_ ?_))); clear hb) | ((with_reducible refine gate_dst (N := 138) rfl ?_); refine gate_guard (by rfl) ?_; dsimp only; refine goesL_ (some 138) rfl rfl Try.func16 (by kernel_rfl) rfl #[.slice (some ⟨rl, 4, none⟩) 1 1] rfl (by (try simp only [List.map_toArray, List.map_cons, List.map_nil]); first | done | rfl) ?_; refine (feed_Check.calls 9 _ _ [(⟨2, ⟨[(⟨1, 0⟩ : S60)]⟩, 3, true⟩ : S52)] _ _ ?side1 ?side2 P13.out).mono ?_; (case side1 => exact Kd.C_drop (m := 1) (c := 2) (stab_now (P := (fun x_ => Kd.C k52 x_ (some ⟨rl, 0, none⟩) 2 [(⟨1, ⟨[(⟨0, 0⟩ : S60)]⟩, 0, false⟩ : S52), (⟨2, ⟨[(⟨1, 0⟩ : S60)]⟩, 3, true⟩ : S52)])) (w := w26) S.out.1.1.1.1.1.1.1.1.1.1.1.1.1.1.1.1.1.1.1.1.2 (by repeat (first | exact Below.refl _ _ | apply pw_below_drewN | apply below_drew1 | apply below_alloc)) (stab_C _ _ _ _)) (by decide) (by decide)); (case side2 => decide); rintro e w27 ⟨rfl, hb⟩; refine ⟨_, rfl, ?_⟩; replace S := Aside0.mk (stab_step (P := (fun x_ => (((((((((((((((((((((((((Below w.heap.size w x_) ∧ Kd.C k60 x_ (some ⟨ra, 0, none⟩) 1 [(⟨0, 0⟩ : S60)]) ∧ x_.heap[ga]? = some (Obj.cells #[.slice (some ⟨ra, 0, none⟩) 1 1] 25 (0, 0))) ∧ Kd.C k60 x_ (some ⟨rb, 0, none⟩) 1 [(⟨1, 0⟩ : S60)]) ∧ x_.heap[gb]? = some (Obj.cells #[.slice (some ⟨rb, 0, none⟩) 1 1] 25 (0, 0))) ∧ Kd.C k52 x_ (some ⟨rl, 0, none⟩) 2 [(⟨1, ⟨[(⟨0, 0⟩ : S60)]⟩, 0, false⟩ : S52), (⟨2, ⟨[(⟨1, 0⟩ : S60)]⟩, 3, true⟩ : S52)]) ∧ Kd.C k60 x_ Ad4 ([] : List _).length []) ∧ Kd.C k64 x_ Ad5 ([(⟨0, ⟨1, 0⟩⟩ : S64)] : List _).length [(⟨0, ⟨1, 0⟩⟩ : S64)]) ∧ x_.heap[gd]? = some (Obj.cells #[.int .i64 2, .int .i64 4, .int .i64 1, .int .i64 2, .slice Ad4 0 cd4, .slice Ad5 1 cd5] 32 (0, 0))) ∧ Kd.C k60 x_ Aw4 ([(⟨1, 0⟩ : S60)] : List _).length [(⟨1, 0⟩ : S60)]) ∧ Kd.C k64 x_ Aw5 ([] : List _).length []) ∧ x_.heap[gw]? = some (Obj.cells #[.int .i64 1, .int .i64 4, .int .i64 0, .int .i64 2, .slice Aw4 1 cw4, .slice Aw5 0 cw5] 32 (0, 0))) ∧ Kd.C k60 x_ Az4 ([] : List _).length []) ∧ Kd.C k64 x_ Az5 ([] : List _).length []) ∧ x_.heap[gz]? = some (Obj.cells #[.int .i64 0, .int .i64 0, .int .i64 0, .int .i64 0, .slice Az4 0 cz4, .slice Az5 0 cz5] 32 (0, 0))) ∧ Kd.C k60 x_ Ac ([(⟨1, 0⟩ : S60)] : List _).length [(⟨1, 0⟩ : S60)]) ∧ x_.heap[gc]? = some (Obj.cells #[.int .i64 2, .slice Ac 1 cc] 27 (0, 0))) ∧ Kd.C k60 x_ Ay ([] : List _).length []) ∧ x_.heap[gy]? = some (Obj.cells #[.int .i64 0, .slice Ay 0 cy] 27 (0, 0))) ∧ Kd.C k60 x_ Ax ([] : List _).length []) ∧ x_.heap[gx]? = some (Obj.cells #[.int .i64 0, .slice Ax 0 cx] 27 (0, 0))) ∧ Kd.C k60 x_ Ae ([(⟨1, 0⟩ : S60)] : List _).length [(⟨1, 0⟩ : S60)]) ∧ x_.heap[ge]? = some (Obj.cells #[.int .i64 2, .slice Ae 1 ce] 27 (0, 0))) ∧ Kd.C k64 x_ (some ⟨rm, 0, none⟩) 1 [(⟨0, ⟨1, 0⟩⟩ : S64)]) ∧ Kd.C k60 x_ Af4 ([] : List _).length []) ∧ Kd.C k64 x_ Af5 ([] : List _).length [])) (w := w26) S.out (by repeat (first | exact Below.refl _ _ | apply pw_below_drewN | apply below_drew1 | apply below_alloc)) hb (by repeat' (with_reducible first | exact stab_blk _ _ | exact stab_C _ _ _ _ | exact stab_base _ | exact stab_R _ _ _ _ _ _ | refine stab_and ?_ ?_))); clear hb))
  go_ret
  exact ⟨rfl, stab_now (P := (fun x_ => Below w.heap.size w x_)) (w := w27) S.out.1.1.1.1.1.1.1.1.1.1.1.1.1.1.1.1.1.1.1.1.1.1.1.1.1 (by repeat (first | exact Below.refl _ _ | apply pw_below_drewN | apply below_drew1 | apply below_alloc)) (stab_base _)⟩
end Go.Proofs.Ytfdhnmijaobbdaa.S
end
section
namespace Go.Proofs.Ytfdhnmijaobbdaa.S
open Go.RowKit Go.Proofs.YtfdhnmijaobbdaaW.PrintWords Go.Proofs.YtfdhnmijaobbdaaW.PrintLast Go.Proofs.YtfdhnmijaobbdaaW.PrintMore
attribute [local go_sem] max2_int min2_int max_two min_two max_three min_three max_four min_four   -- for this text's walks alone
set_option linter.unusedVariables false
set_option linter.unusedSimpArgs false
mutual
def chalklineref35_Few.l0 : Nat → List (S52) → Int → Option (Bool)
  | 0, _, _ => none
  | k + 1, x0, x3 => if x3 < (x0.length : Int) then (chalklineref35_Few.j1 k x0 x3 (decide (x3 < 30))) else (chalklineref35_Few.j1 k x0 x3 false)
def chalklineref35_Few.j1 : Nat → List (S52) → Int → Bool → Option (Bool)
  | 0, _, _, _ => none
  | k + 1, x0, x3, x11 => if x11 = true then (if 0 ≤ x3 then (if x3 < (x0.length : Int) then (if (((rd_T52 x0 x3).f1.f0).length : Int) > 70 then (some false) else (chalklineref35_Few.l0 k x0 (wrap64 (x3 + 1)))) else (none)) else (none)) else (some (decide ((x0.length : Int) ≤ 20)))
end
def chalklineref35_Few.f (k : Nat) (l0 : List (S52)) : Option (Bool) := chalklineref35_Few.l0 k l0 0
set_option maxHeartbeats 8000000 in
set_option maxRecDepth 100000 in
theorem chalklineref35_Few.calls (k : Nat) (A0 : Option Addr) (c0 : Nat) (l0 : List (S52)) (r : Bool) (w : World) (hr0 : Kd.C k52 w A0 l0.length l0) (hc0 : l0.length ≤ c0) (h : chalklineref35_Few.f k l0 = some r) :
    Calls Try.prog 12 #[.slice A0 l0.length c0] w fun e w' => e = .returned (.bool r) ∧ Drawn0 w w' := by
  have HR0 := Aside0.mk hr0
  have HC0 := Aside0.mk hc0
  clear hr0 hc0
  have H : (chalklineref35_Few.l0 k l0 0) = some r := h
  clear h
  have H' := Aside0.mk H
  clear H
  go_enter Try.func12, Try.ntmps12
  go_wp2
  go_loopg [3] k (fun kq v3 w' => ∃ (x3_1 : Int), v3 = .int .i64 x3_1 ∧ Aside0 (chalklineref35_Few.l0 kq l0 x3_1 = some r) ∧ Aside0 (kq ≤ k) ∧ Drawn0 w w')
  case atStart => exact ⟨(0), (by first | rfl | (simp; done) | (simp [*]; done)), H', ⟨Nat.le_refl _⟩, by repeat (first | exact Drawn0.refl _ | apply Drawn0.step)⟩
  case round =>
    clear H'
    try clear c1
    obtain ⟨x3_1, rfl, HA, HK1, ⟨m1, rfl⟩⟩ := hrel
    cases gk with
    | zero => exact absurd HA.out (by simp [chalklineref35_Few.l0])
    | succ k1 =>
      have H := HA.out
      clear HA
      simp only [chalklineref35_Few.l0] at H
      have HC2 := Aside0.mk H
      clear H
      go_upto_region 2 with (fail)
      go_cut [11] (fun v11 wc => ∃ (kq : Nat) (x11_1 : Bool), v11 = .bool x11_1 ∧ Aside0 (chalklineref35_Few.j1 kq l0 x3_1 x11_1 = some r) ∧ Aside0 (kq ≤ k1) ∧ Drawn0 w wc)
      case first =>
        have H := HC2.out
        clear HC2
        by_cases c3 : x3_1 < (l0.length : Int)
        · rw [if_pos c3] at H
          have c3b0 : decide (x3_1 < (l0.length : Int)) = true := decide_eq_true c3
          clear c3
          (first | rw [c3b0] | (simp only [i64_w, i32_w]; rw [c3b0]) | skip)
          have H' := Aside0.mk H
          clear H
          go_wp2
          go_meet
          case rel => exact ⟨_, (decide (x3_1 < 30)), (by first | rfl | (simp; done) | (simp [*]; done)), H', ⟨by have := HK1.out; first | omega | exact Nat.le_refl _⟩, by repeat (first | exact Drawn0.refl _ | apply Drawn0.step)⟩
        · rw [if_neg c3] at H
          have c3b0 : decide (x3_1 < (l0.length : Int)) = false := decide_eq_false c3
          clear c3
          (first | rw [c3b0] | (simp only [i64_w, i32_w]; rw [c3b0]) | skip)
          have H' := Aside0.mk H
          clear H
          go_wp2
          go_meet
          case rel => exact ⟨_, (false), (by first | rfl | (simp; done) | (simp [*]; done)), H', ⟨by have := HK1.out; first | omega | exact Nat.le_refl _⟩, by repeat (first | exact Drawn0.refl _ | apply Drawn0.step)⟩
      case rest =>
        clear HC2
        try clear c1
        try clear p2
        try clear c3
        try clear c3b0
        obtain ⟨kq, x11_1, rfl, HA, HJ1, ⟨mc1, rfl⟩⟩ := hcut
        cases kq with
        | zero => exact absurd HA.out (by simp [chalklineref35_Few.j1])
        | succ kj1 =>
          have H := HA.out
          clear HA
          simp only [chalklineref35_Few.j1] at H
          by_cases c4 : x11_1 = true
          · subst c4
            have H1 : (if 0 ≤ x3_1 then (if x3_1 < (l0.length : Int) then (if (((rd_T52 l0 x3_1).f1.f0).length : Int) > 70 then (some false) else (chalklineref35_Few.l0 kj1 l0 (wrap64 (x3_1 + 1)))) else (none)) else (none)) = some r := by rw [if_pos rfl] at H; exact H
            clear H
            have H := H1
            clear H1
            by_cases c5 : 0 ≤ x3_1
            · rw [if_pos c5] at H
              have c5b0 : decide (0 ≤ x3_1) = true := decide_eq_true c5
              clear c5
              by_cases c6 : x3_1 < (l0.length : Int)
              · rw [if_pos c6] at H
                have c6b0 : decide (x3_1 < (l0.length : Int)) = true := decide_eq_true c6
                clear c6
                by_cases c7 : (((rd_T52 l0 x3_1).f1.f0).length : Int) > 70
                · rw [if_pos c7] at H
                  have c7b0 : decide (70 < (((rd_T52 l0 x3_1).f1.f0).length : Int)) = true := decide_eq_true c7
                  have c7b1 : decide (70 < ((rd_T52 l0 x3_1).f1.f0).length) = true := decide_eq_true (by omega)
                  clear c7
                  obtain rfl := Option.some.inj H
                  have p163 : 0 ≤ (x3_1 : Int) := of_decide_eq_true (by first | (with_reducible assumption) | assumption)
                  have q163 : x3_1 < (l0.length : Int) := of_decide_eq_true (by first | (with_reducible assumption) | assumption)
                  obtain ⟨ad163, A163_1, c163_1, e163, hx163_0, hx163_1, hx163_2, hx163_3, hl163_1, hi163_1⟩ := at_T52 HR0.out x3_1 p163 q163
                  cases e163
                  have HR163_1 := Aside0.mk hi163_1
                  have HC163_1 := Aside0.mk hl163_1
                  clear hi163_1 hl163_1
                  replace p163 := eq_true p163
                  replace q163 := eq_true q163
                  go_wp2
                  go_ret
                  exact ⟨by first | rfl | (simp; done) | (simp [*]; done), by repeat (first | exact Drawn0.refl _ | apply Drawn0.step)⟩
                · rw [if_neg c7] at H
                  have c7b0 : decide (70 < (((rd_T52 l0 x3_1).f1.f0).length : Int)) = false := decide_eq_false c7
                  have c7b1 : decide (70 < ((rd_T52 l0 x3_1).f1.f0).length) = false := decide_eq_false (by omega)
                  clear c7
                  have H' := Aside0.mk H
                  clear H
                  have p163 : 0 ≤ (x3_1 : Int) := of_decide_eq_true (by first | (with_reducible assumption) | assumption)
                  have q163 : x3_1 < (l0.length : Int) := of_decide_eq_true (by first | (with_reducible assumption) | assumption)
                  obtain ⟨ad163, A163_1, c163_1, e163, hx163_0, hx163_1, hx163_2, hx163_3, hl163_1, hi163_1⟩ := at_T52 HR0.out x3_1 p163 q163
                  cases e163
                  have HR163_1 := Aside0.mk hi163_1
                  have HC163_1 := Aside0.mk hl163_1
                  clear hi163_1 hl163_1
                  replace p163 := eq_true p163
                  replace q163 := eq_true q163
                  go_wp2
                  go_roundg kj1
                  case measure => have := HK1.out; have := HJ1.out; omega
                  case rel => exact ⟨(wrap64 (x3_1 + 1)), (by first | rfl | (simp; done) | (simp [*]; done)), H', ⟨by have := HK1.out; have := HJ1.out; omega⟩, by repeat (first | exact Drawn0.refl _ | apply Drawn0.step)⟩
              · rw [if_neg c6] at H
                exact absurd H (by simp)
            · rw [if_neg c5] at H
              exact absurd H (by simp)
          · replace c4 := Bool.eq_false_iff.mpr c4
            subst c4
            have H1 : (some (decide ((l0.length : Int) ≤ 20))) = some r := by rw [if_neg (show ¬ (false = true) by decide)] at H; exact H
            clear H
            have H := H1
            clear H1
            obtain rfl := Option.some.inj H
            go_wp2
            go_ret
            exact ⟨by first | rfl | (simp; done) | (simp [*]; done), by repeat (first | exact Drawn0.refl _ | apply Drawn0.step)⟩
end Go.Proofs.Ytfdhnmijaobbdaa.S
end
section
namespace Go.Proofs.Ytfdhnmijaobbdaa.S
open Go.RowKit Go.Proofs.YtfdhnmijaobbdaaW.PrintWords Go.Proofs.YtfdhnmijaobbdaaW.PrintLast Go.Proofs.YtfdhnmijaobbdaaW.PrintMore
attribute [local go_sem] max2_int min2_int max_two min_two max_three min_three max_four min_four   -- for this text's walks alone
set_option linter.unusedVariables false
set_option linter.unusedSimpArgs false
mutual
def chalklineref35_may.l0 : Nat → Int → List (S60) → Option (Bool)
  | 0, _, _ => none
  | k + 1, x3, x165000 => if x3 < (x165000.length : Int) then (chalklineref35_may.j1 k x3 (decide (x3 < 65)) x165000) else (chalklineref35_may.j1 k x3 false x165000)
def chalklineref35_may.j1 : Nat → Int → Bool → List (S60) → Option (Bool)
  | 0, _, _, _ => none
  | k + 1, x3, x13, x165000 => if x13 = true then (if 0 ≤ x3 then (if x3 < (x165000.length : Int) then (if ((rd_T60 x165000 x3).f0) < 0 then (some false) else (if ((rd_T60 x165000 x3).f0) ≥ 50 then (some false) else (if ((rd_T60 x165000 x3).f1) < 0 then (some false) else (if ((rd_T60 x165000 x3).f1) ≥ 32 then (some false) else (chalklineref35_may.l0 k (wrap64 (x3 + 1)) x165000))))) else (none)) else (none)) else (some (decide ((x165000.length : Int) ≤ 64)))
end
def chalklineref35_may.f (k : Nat) (l0_0 : List (S60)) : Option (Bool) := chalklineref35_may.l0 k 0 l0_0
set_option maxHeartbeats 8000000 in
set_option maxRecDepth 100000 in
theorem chalklineref35_may.calls (k : Nat) (A0_0 : Option Addr) (c0_0 : Nat) (l0_0 : List (S60)) (r : Bool) (w : World) (hr0_0 : Kd.C k60 w A0_0 l0_0.length l0_0) (hc0_0 : l0_0.length ≤ c0_0) (h : chalklineref35_may.f k l0_0 = some r) :
    Calls Try.prog 35 #[.agg #[.slice A0_0 l0_0.length c0_0]] w fun e w' => e = .returned (.bool r) ∧ Below w.heap.size w w' := by
  have hu25 := Try.underlying25
  have hu60 := Try.underlying60
  have HR0_0 := Aside0.mk hr0_0
  have HC0_0 := Aside0.mk hc0_0
  clear hr0_0 hc0_0
  have HB := Aside0.mk (Below.refl w.heap.size w)
  have H : (chalklineref35_may.l0 k 0 l0_0) = some r := h
  clear h
  have H' := Aside0.mk H
  clear H
  go_enter Try.func35, Try.ntmps35
  go_wp2_with (first | ((with_reducible refine gate_dst (N := 1) rfl ?_); refine box_event ?hg (N := 1) ?hd (cs := #[.slice A0_0 l0_0.length c0_0]) (t := 25) ?hr ?_; (case hd => rfl); (case hg => rfl); (case hr => first | (go_simp; done) | (go_simp; rfl)); intro gb164 hg w2 hbox hb; have n0_ := Aside0.mk (below_step (b_ HB) hb); have n1_ := Aside0.mk (hbox); have n2_ := Aside0.mk ((by rw [hg]; exact (below_size (b_ HB)) : w.heap.size ≤ gb164)); have n3_ := n2_; clear HB; have HB := n0_; have BK164 := n1_; have GW164 := n2_; have GE164 := n3_; clear n0_ n1_ n2_ n3_; clear hb hbox hg))
  go_loopg [3] k (fun kq v3 w' => ∃ (x3_1 : Int), v3 = .int .i64 x3_1 ∧ Aside0 (chalklineref35_may.l0 kq x3_1 l0_0 = some r) ∧ Aside0 (kq ≤ k) ∧ Aside0 (w'.heap[gb164]? = some (.cells #[(.slice A0_0 l0_0.length c0_0)] 25 (0, 0))) ∧ Aside0 (Below w.heap.size w w'))
  case atStart => exact ⟨(0), (by first | rfl | (simp; done) | (simp [*]; done)), H', ⟨Nat.le_refl _⟩, ⟨k_ BK164⟩, ⟨b_ HB⟩⟩
  case round =>
    clear H'
    try clear p2
    obtain ⟨x3_1, rfl, HA, HK1, BK164, HB⟩ := hrel
    cases gk with
    | zero => exact absurd HA.out (by simp [chalklineref35_may.l0])
    | succ k1 =>
      have H := HA.out
      clear HA
      simp only [chalklineref35_may.l0] at H
      have HC3 := Aside0.mk H
      clear H
      go_upto_region 2 with (fail)
      go_cut [13] (fun v13 wc => ∃ (kq : Nat) (x13_2 : Bool), v13 = .bool x13_2 ∧ Aside0 (chalklineref35_may.j1 kq x3_1 x13_2 l0_0 = some r) ∧ Aside0 (kq ≤ k1) ∧ Aside0 (wc.heap[gb164]? = some (.cells #[(.slice A0_0 l0_0.length c0_0)] 25 (0, 0))) ∧ Aside0 (Below w.heap.size w wc))
      case first =>
        have H := HC3.out
        clear HC3
        by_cases c4 : x3_1 < (l0_0.length : Int)
        · rw [if_pos c4] at H
          have c4b0 : decide (x3_1 < (l0_0.length : Int)) = true := decide_eq_true c4
          clear c4
          (first | rw [c4b0] | (simp only [i64_w, i32_w]; rw [c4b0]) | skip)
          have H' := Aside0.mk H
          clear H
          have hcz5_0 : wr.cell? ⟨gb164, 0, none⟩ = some (.slice A0_0 l0_0.length c0_0) := (blk_cell BK164.out 0).trans rfl
          have hfz5_0 := blk_frozen BK164.out 0
          go_wp2
          go_meet
          case rel => exact ⟨_, (decide (x3_1 < 65)), (by first | rfl | (simp; done) | (simp [*]; done)), H', ⟨by have := HK1.out; first | omega | exact Nat.le_refl _⟩, ⟨k_ BK164⟩, ⟨b_ HB⟩⟩
        · rw [if_neg c4] at H
          have c4b0 : decide (x3_1 < (l0_0.length : Int)) = false := decide_eq_false c4
          clear c4
          (first | rw [c4b0] | (simp only [i64_w, i32_w]; rw [c4b0]) | skip)
          have H' := Aside0.mk H
          clear H
          have hcz6_0 : wr.cell? ⟨gb164, 0, none⟩ = some (.slice A0_0 l0_0.length c0_0) := (blk_cell BK164.out 0).trans rfl
          have hfz6_0 := blk_frozen BK164.out 0
          go_wp2
          go_meet
          case rel => exact ⟨_, (false), (by first | rfl | (simp; done) | (simp [*]; done)), H', ⟨by have := HK1.out; first | omega | exact Nat.le_refl _⟩, ⟨k_ BK164⟩, ⟨b_ HB⟩⟩
      case rest =>
        clear HC3
        try clear p2
        try clear c3
        try clear c4
        try clear c4b0
        try clear hcz5_0
        try clear hcz6_0
        try clear hfz5_0
        try clear hfz6_0
        try clear p2
        obtain ⟨kq, x13_2, rfl, HA, HJ2, BK164, HB⟩ := hcut
        cases kq with
        | zero => exact absurd HA.out (by simp [chalklineref35_may.j1])
        | succ kj2 =>
          have H := HA.out
          clear HA
          simp only [chalklineref35_may.j1] at H
          by_cases c7 : x13_2 = true
          · subst c7
            have H1 : (if 0 ≤ x3_1 then (if x3_1 < (l0_0.length : Int) then (if ((rd_T60 l0_0 x3_1).f0) < 0 then (some false) else (if ((rd_T60 l0_0 x3_1).f0) ≥ 50 then (some false) else (if ((rd_T60 l0_0 x3_1).f1) < 0 then (some false) else (if ((rd_T60 l0_0 x3_1).f1) ≥ 32 then (some false) else (chalklineref35_may.l0 kj2 (wrap64 (x3_1 + 1)) l0_0))))) else (none)) else (none)) = some r := by rw [if_pos rfl] at H; exact H
            clear H
            have H := H1
            clear H1
            by_cases c8 : 0 ≤ x3_1
            · rw [if_pos c8] at H
              have c8b0 : decide (0 ≤ x3_1) = true := decide_eq_true c8
              clear c8
              by_cases c9 : x3_1 < (l0_0.length : Int)
              · rw [if_pos c9] at H
                have c9b0 : decide (x3_1 < (l0_0.length : Int)) = true := decide_eq_true c9
                clear c9
                by_cases c10 : ((rd_T60 l0_0 x3_1).f0) < 0
                · rw [if_pos c10] at H
                  have c10b0 : decide (((rd_T60 l0_0 x3_1).f0) < 0) = true := decide_eq_true c10
                  clear c10
                  obtain rfl := Option.some.inj H
                  have hcz11_0 : wc.cell? ⟨gb164, 0, none⟩ = some (.slice A0_0 l0_0.length c0_0) := (blk_cell BK164.out 0).trans rfl
                  have hfz11_0 := blk_frozen BK164.out 0
                  have p165 : 0 ≤ (x3_1 : Int) := of_decide_eq_true (by first | (with_reducible assumption) | assumption)
                  have q165 : x3_1 < (l0_0.length : Int) := of_decide_eq_true (by first | (with_reducible assumption) | assumption)
                  obtain ⟨ad165, e165, hx165_0, hx165_1⟩ := at_T60 HR0_0.out x3_1 p165 q165
                  cases e165
                  replace hx165_0 := (HB.out.cell (World.block_lt_of_cell? w _ hx165_0)).trans hx165_0
                  replace hx165_1 := (HB.out.cell (World.block_lt_of_cell? w _ hx165_1)).trans hx165_1
                  replace p165 := eq_true p165
                  replace q165 := eq_true q165
                  go_wp2_with (first | ((with_reducible refine gate_dst (N := 4) rfl ?_); refine box_event ?hg (N := 4) ?hd (cs := #[.int .i64 0, .int .i64 0]) (t := 60) ?hr ?_; (case hd => rfl); (case hg => rfl); (case hr => first | (go_simp; done) | (go_simp; rfl)); intro gb166 hg w12 hbox hb; have n0_ := Aside0.mk (blk_below (k_ BK164) hb); have n1_ := Aside0.mk (below_step (b_ HB) hb); have n2_ := Aside0.mk (hbox); have n3_ := Aside0.mk ((by rw [hg]; exact (below_size (b_ HB)) : w.heap.size ≤ gb166)); have n4_ := n3_; have n5_ := Aside0.mk ((by rw [hg]; exact Nat.ne_of_lt (blk_lt (k_ BK164)) : gb164 ≠ gb166)); have n6_ := Aside0.mk ((by rw [hg]; exact Nat.ne_of_gt (blk_lt (k_ BK164)) : gb166 ≠ gb164)); clear BK164; clear HB; have BK164 := n0_; have HB := n1_; have BK166 := n2_; have GW166 := n3_; have GE166 := n4_; have NB164_166 := n5_; have NB166_164 := n6_; clear n0_ n1_ n2_ n3_ n4_ n5_ n6_; clear hb hbox hg; have hnb13 := NB166_164.out; have hnc13 := NB164_166.out; have hcz14_0 : w12.cell? ⟨gb166, 0, none⟩ = some (.int .i64 0) := (blk_cell BK166.out 0).trans rfl; have hcz14_1 : w12.cell? ⟨gb166, 1, none⟩ = some (.int .i64 0) := (blk_cell BK166.out 1).trans rfl; have hfz14_0 := blk_frozen BK166.out 0; have hfz14_1 := blk_frozen BK166.out 1))
                  go_ret
                  exact ⟨by first | rfl | (simp [errW_none, errW_some] <;> rfl) | (simp [*, errW_none, errW_some] <;> rfl), b_ HB⟩
                · rw [if_neg c10] at H
                  have c10b0 : decide (((rd_T60 l0_0 x3_1).f0) < 0) = false := decide_eq_false c10
                  clear c10
                  by_cases c15 : ((rd_T60 l0_0 x3_1).f0) ≥ 50
                  · rw [if_pos c15] at H
                    have c15b0 : decide (50 ≤ ((rd_T60 l0_0 x3_1).f0)) = true := decide_eq_true c15
                    clear c15
                    obtain rfl := Option.some.inj H
                    have hcz16_0 : wc.cell? ⟨gb164, 0, none⟩ = some (.slice A0_0 l0_0.length c0_0) := (blk_cell BK164.out 0).trans rfl
                    have hfz16_0 := blk_frozen BK164.out 0
                    have p165 : 0 ≤ (x3_1 : Int) := of_decide_eq_true (by first | (with_reducible assumption) | assumption)
                    have q165 : x3_1 < (l0_0.length : Int) := of_decide_eq_true (by first | (with_reducible assumption) | assumption)
                    obtain ⟨ad165, e165, hx165_0, hx165_1⟩ := at_T60 HR0_0.out x3_1 p165 q165
                    cases e165
                    replace hx165_0 := (HB.out.cell (World.block_lt_of_cell? w _ hx165_0)).trans hx165_0
                    replace hx165_1 := (HB.out.cell (World.block_lt_of_cell? w _ hx165_1)).trans hx165_1
                    replace p165 := eq_true p165
                    replace q165 := eq_true q165
                    go_wp2_with (first | ((with_reducible refine gate_dst (N := 4) rfl ?_); refine box_event ?hg (N := 4) ?hd (cs := #[.int .i64 0, .int .i64 0]) (t := 60) ?hr ?_; (case hd => rfl); (case hg => rfl); (case hr => first | (go_simp; done) | (go_simp; rfl)); intro gb166 hg w17 hbox hb; have n0_ := Aside0.mk (blk_below (k_ BK164) hb); have n1_ := Aside0.mk (below_step (b_ HB) hb); have n2_ := Aside0.mk (hbox); have n3_ := Aside0.mk ((by rw [hg]; exact (below_size (b_ HB)) : w.heap.size ≤ gb166)); have n4_ := n3_; have n5_ := Aside0.mk ((by rw [hg]; exact Nat.ne_of_lt (blk_lt (k_ BK164)) : gb164 ≠ gb166)); have n6_ := Aside0.mk ((by rw [hg]; exact Nat.ne_of_gt (blk_lt (k_ BK164)) : gb166 ≠ gb164)); clear BK164; clear HB; have BK164 := n0_; have HB := n1_; have BK166 := n2_; have GW166 := n3_; have GE166 := n4_; have NB164_166 := n5_; have NB166_164 := n6_; clear n0_ n1_ n2_ n3_ n4_ n5_ n6_; clear hb hbox hg; have hnb18 := NB166_164.out; have hnc18 := NB164_166.out; have hcz19_0 : w17.cell? ⟨gb166, 0, none⟩ = some (.int .i64 0) := (blk_cell BK166.out 0).trans rfl; have hcz19_1 : w17.cell? ⟨gb166, 1, none⟩ = some (.int .i64 0) := (blk_cell BK166.out 1).trans rfl; have hfz19_0 := blk_frozen BK166.out 0; have hfz19_1 := blk_frozen BK166.out 1))
                    go_ret
                    exact ⟨by first | rfl | (simp [errW_none, errW_some] <;> rfl) | (simp [*, errW_none, errW_some] <;> rfl), b_ HB⟩
                  · rw [if_neg c15] at H
                    have c15b0 : decide (50 ≤ ((rd_T60 l0_0 x3_1).f0)) = false := decide_eq_false c15
                    clear c15
                    by_cases c20 : ((rd_T60 l0_0 x3_1).f1) < 0
                    · rw [if_pos c20] at H
                      have c20b0 : decide (((rd_T60 l0_0 x3_1).f1) < 0) = true := decide_eq_true c20
                      clear c20
                      obtain rfl := Option.some.inj H
                      have hcz21_0 : wc.cell? ⟨gb164, 0, none⟩ = some (.slice A0_0 l0_0.length c0_0) := (blk_cell BK164.out 0).trans rfl
                      have hfz21_0 := blk_frozen BK164.out 0
                      have p165 : 0 ≤ (x3_1 : Int) := of_decide_eq_true (by first | (with_reducible assumption) | assumption)
                      have q165 : x3_1 < (l0_0.length : Int) := of_decide_eq_true (by first | (with_reducible assumption) | assumption)
                      obtain ⟨ad165, e165, hx165_0, hx165_1⟩ := at_T60 HR0_0.out x3_1 p165 q165
                      cases e165
                      replace hx165_0 := (HB.out.cell (World.block_lt_of_cell? w _ hx165_0)).trans hx165_0
                      replace hx165_1 := (HB.out.cell (World.block_lt_of_cell? w _ hx165_1)).trans hx165_1
                      replace p165 := eq_true p165
                      replace q165 := eq_true q165
                      go_wp2_with (first | ((with_reducible refine gate_dst (N := 4) rfl ?_); refine box_event ?hg (N := 4) ?hd (cs := #[.int .i64 0, .int .i64 0]) (t := 60) ?hr ?_; (case hd => rfl); (case hg => rfl); (case hr => first | (go_simp; done) | (go_simp; rfl)); intro gb166 hg w22 hbox hb; have n0_ := Aside0.mk (blk_below (k_ BK164) hb); have n1_ := Aside0.mk (below_step (b_ HB) hb); have n2_ := Aside0.mk (hbox); have n3_ := Aside0.mk ((by rw [hg]; exact (below_size (b_ HB)) : w.heap.size ≤ gb166)); have n4_ := n3_; have n5_ := Aside0.mk ((by rw [hg]; exact Nat.ne_of_lt (blk_lt (k_ BK164)) : gb164 ≠ gb166)); have n6_ := Aside0.mk ((by rw [hg]; exact Nat.ne_of_gt (blk_lt (k_ BK164)) : gb166 ≠ gb164)); clear BK164; clear HB; have BK164 := n0_; have HB := n1_; have BK166 := n2_; have GW166 := n3_; have GE166 := n4_; have NB164_166 := n5_; have NB166_164 := n6_; clear n0_ n1_ n2_ n3_ n4_ n5_ n6_; clear hb hbox hg; have hnb23 := NB166_164.out; have hnc23 := NB164_166.out; have hcz24_0 : w22.cell? ⟨gb166, 0, none⟩ = some (.int .i64 0) := (blk_cell BK166.out 0).trans rfl; have hcz24_1 : w22.cell? ⟨gb166, 1, none⟩ = some (.int .i64 0) := (blk_cell BK166.out 1).trans rfl; have hfz24_0 := blk_frozen BK166.out 0; have hfz24_1 := blk_frozen BK166.out 1))
                      go_ret
                      exact ⟨by first | rfl | (simp [errW_none, errW_some] <;> rfl) | (simp [*, errW_none, errW_some] <;> rfl), b_ HB⟩
                    · rw [if_neg c20] at H
                      have c20b0 : decide (((rd_T60 l0_0 x3_1).f1) < 0) = false := decide_eq_false c20
                      clear c20
                      by_cases c25 : ((rd_T60 l0_0 x3_1).f1) ≥ 32
                      · rw [if_pos c25] at H
                        have c25b0 : decide (32 ≤ ((rd_T60 l0_0 x3_1).f1)) = true := decide_eq_true c25
                        clear c25
                        obtain rfl := Option.some.inj H
                        have hcz26_0 : wc.cell? ⟨gb164, 0, none⟩ = some (.slice A0_0 l0_0.length c0_0) := (blk_cell BK164.out 0).trans rfl
                        have hfz26_0 := blk_frozen BK164.out 0
                        have p165 : 0 ≤ (x3_1 : Int) := of_decide_eq_true (by first | (with_reducible assumption) | assumption)
                        have q165 : x3_1 < (l0_0.length : Int) := of_decide_eq_true (by first | (with_reducible assumption) | assumption)
                        obtain ⟨ad165, e165, hx165_0, hx165_1⟩ := at_T60 HR0_0.out x3_1 p165 q165
                        cases e165
                        replace hx165_0 := (HB.out.cell (World.block_lt_of_cell? w _ hx165_0)).trans hx165_0
                        replace hx165_1 := (HB.out.cell (World.block_lt_of_cell? w _ hx165_1)).trans hx165_1
                        replace p165 := eq_true p165
                        replace q165 := eq_true q165
                        go_wp2_with (first | ((with_reducible refine gate_dst (N := 4) rfl ?_); refine box_event ?hg (N := 4) ?hd (cs := #[.int .i64 0, .int .i64 0]) (t := 60) ?hr ?_; (case hd => rfl); (case hg => rfl); (case hr => first | (go_simp; done) | (go_simp; rfl)); intro gb166 hg w27 hbox hb; have n0_ := Aside0.mk (blk_below (k_ BK164) hb); have n1_ := Aside0.mk (below_step (b_ HB) hb); have n2_ := Aside0.mk (hbox); have n3_ := Aside0.mk ((by rw [hg]; exact (below_size (b_ HB)) : w.heap.size ≤ gb166)); have n4_ := n3_; have n5_ := Aside0.mk ((by rw [hg]; exact Nat.ne_of_lt (blk_lt (k_ BK164)) : gb164 ≠ gb166)); have n6_ := Aside0.mk ((by rw [hg]; exact Nat.ne_of_gt (blk_lt (k_ BK164)) : gb166 ≠ gb164)); clear BK164; clear HB; have BK164 := n0_; have HB := n1_; have BK166 := n2_; have GW166 := n3_; have GE166 := n4_; have NB164_166 := n5_; have NB166_164 := n6_; clear n0_ n1_ n2_ n3_ n4_ n5_ n6_; clear hb hbox hg; have hnb28 := NB166_164.out; have hnc28 := NB164_166.out; have hcz29_0 : w27.cell? ⟨gb166, 0, none⟩ = some (.int .i64 0) := (blk_cell BK166.out 0).trans rfl; have hcz29_1 : w27.cell? ⟨gb166, 1, none⟩ = some (.int .i64 0) := (blk_cell BK166.out 1).trans rfl; have hfz29_0 := blk_frozen BK166.out 0; have hfz29_1 := blk_frozen BK166.out 1))
                        go_ret
                        exact ⟨by first | rfl | (simp [errW_none, errW_some] <;> rfl) | (simp [*, errW_none, errW_some] <;> rfl), b_ HB⟩
                      · rw [if_neg c25] at H
                        have c25b0 : decide (32 ≤ ((rd_T60 l0_0 x3_1).f1)) = false := decide_eq_false c25
                        clear c25
                        have H' := Aside0.mk H
                        clear H
                        have hcz30_0 : wc.cell? ⟨gb164, 0, none⟩ = some (.slice A0_0 l0_0.length c0_0) := (blk_cell BK164.out 0).trans rfl
                        have hfz30_0 := blk_frozen BK164.out 0
                        have p165 : 0 ≤ (x3_1 : Int) := of_decide_eq_true (by first | (with_reducible assumption) | assumption)
                        have q165 : x3_1 < (l0_0.length : Int) := of_decide_eq_true (by first | (with_reducible assumption) | assumption)
                        obtain ⟨ad165, e165, hx165_0, hx165_1⟩ := at_T60 HR0_0.out x3_1 p165 q165
                        cases e165
                        replace hx165_0 := (HB.out.cell (World.block_lt_of_cell? w _ hx165_0)).trans hx165_0
                        replace hx165_1 := (HB.out.cell (World.block_lt_of_cell? w _ hx165_1)).trans hx165_1
                        replace p165 := eq_true p165
                        replace q165 := eq_true q165
                        go_wp2_with (first | ((with_reducible refine gate_dst (N := 4) rfl ?_); refine box_event ?hg (N := 4) ?hd (cs := #[.int .i64 0, .int .i64 0]) (t := 60) ?hr ?_; (case hd => rfl); (case hg => rfl); (case hr => first | (go_simp; done) | (go_simp; rfl)); intro gb166 hg w31 hbox hb; have n0_ := Aside0.mk (blk_below (k_ BK164) hb); have n1_ := Aside0.mk (below_step (b_ HB) hb); have n2_ := Aside0.mk (hbox); have n3_ := Aside0.mk ((by rw [hg]; exact (below_size (b_ HB)) : w.heap.size ≤ gb166)); have n4_ := n3_; have n5_ := Aside0.mk ((by rw [hg]; exact Nat.ne_of_lt (blk_lt (k_ BK164)) : gb164 ≠ gb166)); have n6_ := Aside0.mk ((by rw [hg]; exact Nat.ne_of_gt (blk_lt (k_ BK164)) : gb166 ≠ gb164)); clear BK164; clear HB; have BK164 := n0_; have HB := n1_; have BK166 := n2_; have GW166 := n3_; have GE166 := n4_; have NB164_166 := n5_; have NB166_164 := n6_; clear n0_ n1_ n2_ n3_ n4_ n5_ n6_; clear hb hbox hg; have hnb32 := NB166_164.out; have hnc32 := NB164_166.out; have hcz33_0 : w31.cell? ⟨gb166, 0, none⟩ = some (.int .i64 0) := (blk_cell BK166.out 0).trans rfl; have hcz33_1 : w31.cell? ⟨gb166, 1, none⟩ = some (.int .i64 0) := (blk_cell BK166.out 1).trans rfl; have hfz33_0 := blk_frozen BK166.out 0; have hfz33_1 := blk_frozen BK166.out 1))
                        go_roundg kj2
                        case measure => have := HK1.out; have := HJ2.out; omega
                        case rel => exact ⟨(wrap64 (x3_1 + 1)), (by first | rfl | (simp; done) | (simp [*]; done)), H', ⟨by have := HK1.out; have := HJ2.out; omega⟩, ⟨by (with_reducible repeat (first | refine blk_drewN ?_ _ | refine blk_drew ?_ | refine blk_alloc ?_ _)); refine blk_far ?_ NB164_166.out _; (with_reducible repeat (first | refine blk_drewN ?_ _ | refine blk_drew ?_ | refine blk_alloc ?_ _)); refine blk_far ?_ NB164_166.out _; (with_reducible repeat (first | refine blk_drewN ?_ _ | refine blk_drew ?_ | refine blk_alloc ?_ _)); exact BK164.out⟩, ⟨b_ HB⟩⟩
              · rw [if_neg c9] at H
                exact absurd H (by simp)
            · rw [if_neg c8] at H
              exact absurd H (by simp)
          · replace c7 := Bool.eq_false_iff.mpr c7
            subst c7
            have H1 : (some (decide ((l0_0.length : Int) ≤ 64))) = some r := by rw [if_neg (show ¬ (false = true) by decide)] at H; exact H
            clear H
            have H := H1
            clear H1
            obtain rfl := Option.some.inj H
            have hcz34_0 : wc.cell? ⟨gb164, 0, none⟩ = some (.slice A0_0 l0_0.length c0_0) := (blk_cell BK164.out 0).trans rfl
            have hfz34_0 := blk_frozen BK164.out 0
            go_wp2
            go_ret
            exact ⟨by first | rfl | (simp [errW_none, errW_some] <;> rfl) | (simp [*, errW_none, errW_some] <;> rfl), b_ HB⟩
end Go.Proofs.Ytfdhnmijaobbdaa.S
end
section
namespace Go.Proofs.Ytfdhnmijaobbdaa.S
open Go.RowKit Go.Proofs.YtfdhnmijaobbdaaW.PrintWords Go.Proofs.YtfdhnmijaobbdaaW.PrintLast Go.Proofs.YtfdhnmijaobbdaaW.PrintMore
attribute [local go_sem] max2_int min2_int max_two min_two max_three min_three max_four min_four   -- for this text's walks alone
set_option linter.unusedVariables false
set_option linter.unusedSimpArgs false
def chalklineref35_Check.l0 : Nat → List (S52) → Int → Option (Int)
  | 0, _, _ => none
  | k + 1, x0, x3 => if x3 < (x0.length : Int) then (if 0 ≤ x3 then (if ((rd_T52 x0 x3).f0) = (wrap64 (x3 + 1)) then (if ((rd_T52 x0 x3).f2) < 0 then (some 1) else (if ((rd_T52 x0 x3).f2) > 1099511627776 then (some 1) else ((chalklineref35_may.f k ((rd_T52 x0 x3).f1.f0)).bind fun t171 => (if t171 = true then (chalklineref35_Check.l0 k x0 (wrap64 (x3 + 1))) else (some 1))))) else (some 1)) else (none)) else (some 0)
def chalklineref35_Check.f (k : Nat) (l0 : List (S52)) : Option (Int) := chalklineref35_Check.l0 k l0 0
set_option maxHeartbeats 8000000 in
set_option maxRecDepth 100000 in
theorem chalklineref35_Check.calls (k : Nat) (A0 : Option Addr) (c0 : Nat) (l0 : List (S52)) (r : Int) (w : World) (hr0 : Kd.C k52 w A0 l0.length l0) (hc0 : l0.length ≤ c0) (h : chalklineref35_Check.f k l0 = some r) :
    Calls Try.prog 17 #[.slice A0 l0.length c0] w fun e w' => e = .returned (.int .i64 r) ∧ Below w.heap.size w w' := by
  have hu25 := Try.underlying25
  have HR0 := Aside0.mk hr0
  have HC0 := Aside0.mk hc0
  clear hr0 hc0
  have HB := Aside0.mk (Below.refl w.heap.size w)
  have H : (chalklineref35_Check.l0 k l0 0) = some r := h
  clear h
  have H' := Aside0.mk H
  clear H
  go_enter Try.func17, Try.ntmps17
  go_wp2
  go_loopg [3] k (fun kq v3 w' => ∃ (x3_1 : Int), v3 = .int .i64 x3_1 ∧ Aside0 (chalklineref35_Check.l0 kq l0 x3_1 = some r) ∧ Aside0 (kq ≤ k) ∧ Aside0 (Below w.heap.size w w'))
  case atStart => exact ⟨(0), (by first | rfl | (simp; done) | (simp [*]; done)), H', ⟨Nat.le_refl _⟩, ⟨b_ HB⟩⟩
  case round =>
    clear H'
    try clear c1
    obtain ⟨x3_1, rfl, HA, HK1, HB⟩ := hrel
    cases gk with
    | zero => exact absurd HA.out (by simp [chalklineref35_Check.l0])
    | succ k1 =>
      have H := HA.out
      clear HA
      simp only [chalklineref35_Check.l0] at H
      by_cases c2 : x3_1 < (l0.length : Int)
      · rw [if_pos c2] at H
        have c2b0 : decide (x3_1 < (l0.length : Int)) = true := decide_eq_true c2
        clear c2
        by_cases c3 : 0 ≤ x3_1
        · rw [if_pos c3] at H
          have c3b0 : decide (0 ≤ x3_1) = true := decide_eq_true c3
          clear c3
          by_cases c4 : ((rd_T52 l0 x3_1).f0) = (wrap64 (x3_1 + 1))
          · rw [if_pos c4] at H
            have c4b0 : (((rd_T52 l0 x3_1).f0) == (wrap64 (x3_1 + 1))) = true := beq_iff_eq.mpr c4
            have c4b1 : (((rd_T52 l0 x3_1).f0) != (wrap64 (x3_1 + 1))) = false := bne_eq_false_iff_eq.mpr c4
            clear c4
            by_cases c5 : ((rd_T52 l0 x3_1).f2) < 0
            · rw [if_pos c5] at H
              have c5b0 : decide (((rd_T52 l0 x3_1).f2) < 0) = true := decide_eq_true c5
              clear c5
              obtain rfl := Option.some.inj H
              have p167 : 0 ≤ (x3_1 : Int) := of_decide_eq_true (by first | (with_reducible assumption) | assumption)
              have q167 : x3_1 < (l0.length : Int) := of_decide_eq_true (by first | (with_reducible assumption) | assumption)
              obtain ⟨ad167, A167_1, c167_1, e167, hx167_0, hx167_1, hx167_2, hx167_3, hl167_1, hi167_1⟩ := at_T52 HR0.out x3_1 p167 q167
              cases e167
              replace hx167_0 := (HB.out.cell (World.block_lt_of_cell? w _ hx167_0)).trans hx167_0
              replace hx167_1 := (HB.out.cell (World.block_lt_of_cell? w _ hx167_1)).trans hx167_1
              replace hx167_2 := (HB.out.cell (World.block_lt_of_cell? w _ hx167_2)).trans hx167_2
              replace hx167_3 := (HB.out.cell (World.block_lt_of_cell? w _ hx167_3)).trans hx167_3
              have HR167_1 := Aside0.mk hi167_1
              have HC167_1 := Aside0.mk hl167_1
              clear hi167_1 hl167_1
              replace p167 := eq_true p167
              replace q167 := eq_true q167
              have p168 : 0 ≤ (x3_1 : Int) := of_decide_eq_true (by first | (with_reducible assumption) | assumption)
              have q168 : x3_1 < (l0.length : Int) := of_decide_eq_true (by first | (with_reducible assumption) | assumption)
              obtain ⟨ad168, A168_1, c168_1, e168, hx168_0, hx168_1, hx168_2, hx168_3, hl168_1, hi168_1⟩ := at_T52 HR0.out x3_1 p168 q168
              obtain rfl : ad167 = ad168 := (by injection e168)
              replace hx168_0 := (HB.out.cell (World.block_lt_of_cell? w _ hx168_0)).trans hx168_0
              replace hx168_1 := (HB.out.cell (World.block_lt_of_cell? w _ hx168_1)).trans hx168_1
              replace hx168_2 := (HB.out.cell (World.block_lt_of_cell? w _ hx168_2)).trans hx168_2
              replace hx168_3 := (HB.out.cell (World.block_lt_of_cell? w _ hx168_3)).trans hx168_3
              have HR168_1 := Aside0.mk hi168_1
              have HC168_1 := Aside0.mk hl168_1
              clear hi168_1 hl168_1
              replace p168 := eq_true p168
              replace q168 := eq_true q168
              have ea_ := Option.some.inj (hx167_1.symm.trans hx168_1)
              injection ea_ with ea_ en_ ec_
              subst ea_
              subst ec_
              clear en_
              go_wp2
              go_ret
              exact ⟨by first | rfl | (simp [errW_none, errW_some] <;> rfl) | (simp [*, errW_none, errW_some] <;> rfl), b_ HB⟩
            · rw [if_neg c5] at H
              have c5b0 : decide (((rd_T52 l0 x3_1).f2) < 0) = false := decide_eq_false c5
              clear c5
              by_cases c6 : ((rd_T52 l0 x3_1).f2) > 1099511627776
              · rw [if_pos c6] at H
                have c6b0 : decide (1099511627776 < ((rd_T52 l0 x3_1).f2)) = true := decide_eq_true c6
                clear c6
                obtain rfl := Option.some.inj H
                have p167 : 0 ≤ (x3_1 : Int) := of_decide_eq_true (by first | (with_reducible assumption) | assumption)
                have q167 : x3_1 < (l0.length : Int) := of_decide_eq_true (by first | (with_reducible assumption) | assumption)
                obtain ⟨ad167, A167_1, c167_1, e167, hx167_0, hx167_1, hx167_2, hx167_3, hl167_1, hi167_1⟩ := at_T52 HR0.out x3_1 p167 q167
                cases e167
                replace hx167_0 := (HB.out.cell (World.block_lt_of_cell? w _ hx167_0)).trans hx167_0
                replace hx167_1 := (HB.out.cell (World.block_lt_of_cell? w _ hx167_1)).trans hx167_1
                replace hx167_2 := (HB.out.cell (World.block_lt_of_cell? w _ hx167_2)).trans hx167_2
                replace hx167_3 := (HB.out.cell (World.block_lt_of_cell? w _ hx167_3)).trans hx167_3
                have HR167_1 := Aside0.mk hi167_1
                have HC167_1 := Aside0.mk hl167_1
                clear hi167_1 hl167_1
                replace p167 := eq_true p167
                replace q167 := eq_true q167
                have p168 : 0 ≤ (x3_1 : Int) := of_decide_eq_true (by first | (with_reducible assumption) | assumption)
                have q168 : x3_1 < (l0.length : Int) := of_decide_eq_true (by first | (with_reducible assumption) | assumption)
                obtain ⟨ad168, A168_1, c168_1, e168, hx168_0, hx168_1, hx168_2, hx168_3, hl168_1, hi168_1⟩ := at_T52 HR0.out x3_1 p168 q168
                obtain rfl : ad167 = ad168 := (by injection e168)
                replace hx168_0 := (HB.out.cell (World.block_lt_of_cell? w _ hx168_0)).trans hx168_0
                replace hx168_1 := (HB.out.cell (World.block_lt_of_cell? w _ hx168_1)).trans hx168_1
                replace hx168_2 := (HB.out.cell (World.block_lt_of_cell? w _ hx168_2)).trans hx168_2
                replace hx168_3 := (HB.out.cell (World.block_lt_of_cell? w _ hx168_3)).trans hx168_3
                have HR168_1 := Aside0.mk hi168_1
                have HC168_1 := Aside0.mk hl168_1
                clear hi168_1 hl168_1
                replace p168 := eq_true p168
                replace q168 := eq_true q168
                have ea_ := Option.some.inj (hx167_1.symm.trans hx168_1)
                injection ea_ with ea_ en_ ec_
                subst ea_
                subst ec_
                clear en_
                have p169 : 0 ≤ (x3_1 : Int) := of_decide_eq_true (by first | (with_reducible assumption) | assumption)
                have q169 : x3_1 < (l0.length : Int) := of_decide_eq_true (by first | (with_reducible assumption) | assumption)
                obtain ⟨ad169, A169_1, c169_1, e169, hx169_0, hx169_1, hx169_2, hx169_3, hl169_1, hi169_1⟩ := at_T52 HR0.out x3_1 p169 q169
                obtain rfl : ad167 = ad169 := (by injection e169)
                replace hx169_0 := (HB.out.cell (World.block_lt_of_cell? w _ hx169_0)).trans hx169_0
                replace hx169_1 := (HB.out.cell (World.block_lt_of_cell? w _ hx169_1)).trans hx169_1
                replace hx169_2 := (HB.out.cell (World.block_lt_of_cell? w _ hx169_2)).trans hx169_2
                replace hx169_3 := (HB.out.cell (World.block_lt_of_cell? w _ hx169_3)).trans hx169_3
                have HR169_1 := Aside0.mk hi169_1
                have HC169_1 := Aside0.mk hl169_1
                clear hi169_1 hl169_1
                replace p169 := eq_true p169
                replace q169 := eq_true q169
                have ea_ := Option.some.inj (hx167_1.symm.trans hx169_1)
                injection ea_ with ea_ en_ ec_
                subst ea_
                subst ec_
                clear en_
                go_wp2
                go_ret
                exact ⟨by first | rfl | (simp [errW_none, errW_some] <;> rfl) | (simp [*, errW_none, errW_some] <;> rfl), b_ HB⟩
              · rw [if_neg c6] at H
                have c6b0 : decide (1099511627776 < ((rd_T52 l0 x3_1).f2)) = false := decide_eq_false c6
                clear c6
                replace H := Option.bind_eq_some_iff.mp H
                obtain ⟨t171, A70, H⟩ := H
                replace H : (if t171 = true then (chalklineref35_Check.l0 k1 l0 (wrap64 (x3_1 + 1))) else (some 1)) = some r := H
                have A7 := Aside0.mk A70
                clear A70
                by_cases c8 : t171 = true
                · subst c8
                  have H1 : (chalklineref35_Check.l0 k1 l0 (wrap64 (x3_1 + 1))) = some r := by rw [if_pos rfl] at H; exact H
                  clear H
                  have H := H1
                  clear H1
                  have H' := Aside0.mk H
                  clear H
                  have p167 : 0 ≤ (x3_1 : Int) := of_decide_eq_true (by first | (with_reducible assumption) | assumption)
                  have q167 : x3_1 < (l0.length : Int) := of_decide_eq_true (by first | (with_reducible assumption) | assumption)
                  obtain ⟨ad167, A167_1, c167_1, e167, hx167_0, hx167_1, hx167_2, hx167_3, hl167_1, hi167_1⟩ := at_T52 HR0.out x3_1 p167 q167
                  cases e167
                  replace hx167_0 := (HB.out.cell (World.block_lt_of_cell? w _ hx167_0)).trans hx167_0
                  replace hx167_1 := (HB.out.cell (World.block_lt_of_cell? w _ hx167_1)).trans hx167_1
                  replace hx167_2 := (HB.out.cell (World.block_lt_of_cell? w _ hx167_2)).trans hx167_2
                  replace hx167_3 := (HB.out.cell (World.block_lt_of_cell? w _ hx167_3)).trans hx167_3
                  have HR167_1 := Aside0.mk hi167_1
                  have HC167_1 := Aside0.mk hl167_1
                  clear hi167_1 hl167_1
                  replace p167 := eq_true p167
                  replace q167 := eq_true q167
                  have p168 : 0 ≤ (x3_1 : Int) := of_decide_eq_true (by first | (with_reducible assumption) | assumption)
                  have q168 : x3_1 < (l0.length : Int) := of_decide_eq_true (by first | (with_reducible assumption) | assumption)
                  obtain ⟨ad168, A168_1, c168_1, e168, hx168_0, hx168_1, hx168_2, hx168_3, hl168_1, hi168_1⟩ := at_T52 HR0.out x3_1 p168 q168
                  obtain rfl : ad167 = ad168 := (by injection e168)
                  replace hx168_0 := (HB.out.cell (World.block_lt_of_cell? w _ hx168_0)).trans hx168_0
                  replace hx168_1 := (HB.out.cell (World.block_lt_of_cell? w _ hx168_1)).trans hx168_1
                  replace hx168_2 := (HB.out.cell (World.block_lt_of_cell? w _ hx168_2)).trans hx168_2
                  replace hx168_3 := (HB.out.cell (World.block_lt_of_cell? w _ hx168_3)).trans hx168_3
                  have HR168_1 := Aside0.mk hi168_1
                  have HC168_1 := Aside0.mk hl168_1
                  clear hi168_1 hl168_1
                  replace p168 := eq_true p168
                  replace q168 := eq_true q168
                  have ea_ := Option.some.inj (hx167_1.symm.trans hx168_1)
                  injection ea_ with ea_ en_ ec_
                  subst ea_
                  subst ec_
                  clear en_
                  have p169 : 0 ≤ (x3_1 : Int) := of_decide_eq_true (by first | (with_reducible assumption) | assumption)
                  have q169 : x3_1 < (l0.length : Int) := of_decide_eq_true (by first | (with_reducible assumption) | assumption)
                  obtain ⟨ad169, A169_1, c169_1, e169, hx169_0, hx169_1, hx169_2, hx169_3, hl169_1, hi169_1⟩ := at_T52 HR0.out x3_1 p169 q169
                  obtain rfl : ad167 = ad169 := (by injection e169)
                  replace hx169_0 := (HB.out.cell (World.block_lt_of_cell? w _ hx169_0)).trans hx169_0
                  replace hx169_1 := (HB.out.cell (World.block_lt_of_cell? w _ hx169_1)).trans hx169_1
                  replace hx169_2 := (HB.out.cell (World.block_lt_of_cell? w _ hx169_2)).trans hx169_2
                  replace hx169_3 := (HB.out.cell (World.block_lt_of_cell? w _ hx169_3)).trans hx169_3
                  have HR169_1 := Aside0.mk hi169_1
                  have HC169_1 := Aside0.mk hl169_1
                  clear hi169_1 hl169_1
                  replace p169 := eq_true p169
                  replace q169 := eq_true q169
                  have ea_ := Option.some.inj (hx167_1.symm.trans hx169_1)
                  injection ea_ with ea_ en_ ec_
                  subst ea_
                  subst ec_
                  clear en_
                  have p170 : 0 ≤ (x3_1 : Int) := of_decide_eq_true (by first | (with_reducible assumption) | assumption)
                  have q170 : x3_1 < (l0.length : Int) := of_decide_eq_true (by first | (with_reducible assumption) | assumption)
                  obtain ⟨ad170, A170_1, c170_1, e170, hx170_0, hx170_1, hx170_2, hx170_3, hl170_1, hi170_1⟩ := at_T52 HR0.out x3_1 p170 q170
                  obtain rfl : ad167 = ad170 := (by injection e170)
                  replace hx170_0 := (HB.out.cell (World.block_lt_of_cell? w _ hx170_0)).trans hx170_0
                  replace hx170_1 := (HB.out.cell (World.block_lt_of_cell? w _ hx170_1)).trans hx170_1
                  replace hx170_2 := (HB.out.cell (World.block_lt_of_cell? w _ hx170_2)).trans hx170_2
                  replace hx170_3 := (HB.out.cell (World.block_lt_of_cell? w _ hx170_3)).trans hx170_3
                  have HR170_1 := Aside0.mk hi170_1
                  have HC170_1 := Aside0.mk hl170_1
                  clear hi170_1 hl170_1
                  replace p170 := eq_true p170
                  replace q170 := eq_true q170
                  have ea_ := Option.some.inj (hx167_1.symm.trans hx170_1)
                  injection ea_ with ea_ en_ ec_
                  subst ea_
                  subst ec_
                  clear en_
                  go_wp2_with (first | (go_at_call 35; (with_reducible refine (chalklineref35_may.calls k1 _ _ ((rd_T52 l0 x3_1).f1.f0) true _ ?side1 ?side2 A7.out).mono ?_); (case side1 => repeat (first | exact (Kd.C_below HR170_1.out HB.out) | (with_reducible refine Kd.C_alloc ?_ _) | (with_reducible refine Kd.C_drewN ?_ _) | (with_reducible refine Kd.C_drew ?_))); (case side2 => exact HC170_1.out); rintro e w9 ⟨rfl, hb⟩; have n0_ := Aside0.mk (below_step (b_ HB) hb); clear HB; have HB := n0_; clear n0_; (try clear hb); (try clear hb2); (try clear hk); (try clear hi)))
                  go_roundg k1
                  case measure => have := HK1.out; omega
                  case rel => exact ⟨(wrap64 (x3_1 + 1)), (by first | rfl | (simp; done) | (simp [*]; done)), H', ⟨by have := HK1.out; omega⟩, ⟨b_ HB⟩⟩
                · replace c8 := Bool.eq_false_iff.mpr c8
                  subst c8
                  have H1 : (some 1) = some r := by rw [if_neg (show ¬ (false = true) by decide)] at H; exact H
                  clear H
                  have H := H1
                  clear H1
                  obtain rfl := Option.some.inj H
                  have p167 : 0 ≤ (x3_1 : Int) := of_decide_eq_true (by first | (with_reducible assumption) | assumption)
                  have q167 : x3_1 < (l0.length : Int) := of_decide_eq_true (by first | (with_reducible assumption) | assumption)
                  obtain ⟨ad167, A167_1, c167_1, e167, hx167_0, hx167_1, hx167_2, hx167_3, hl167_1, hi167_1⟩ := at_T52 HR0.out x3_1 p167 q167
                  cases e167
                  replace hx167_0 := (HB.out.cell (World.block_lt_of_cell? w _ hx167_0)).trans hx167_0
                  replace hx167_1 := (HB.out.cell (World.block_lt_of_cell? w _ hx167_1)).trans hx167_1
                  replace hx167_2 := (HB.out.cell (World.block_lt_of_cell? w _ hx167_2)).trans hx167_2
                  replace hx167_3 := (HB.out.cell (World.block_lt_of_cell? w _ hx167_3)).trans hx167_3
                  have HR167_1 := Aside0.mk hi167_1
                  have HC167_1 := Aside0.mk hl167_1
                  clear hi167_1 hl167_1
                  replace p167 := eq_true p167
                  replace q167 := eq_true q167
                  have p168 : 0 ≤ (x3_1 : Int) := of_decide_eq_true (by first | (with_reducible assumption) | assumption)
                  have q168 : x3_1 < (l0.length : Int) := of_decide_eq_true (by first | (with_reducible assumption) | assumption)
                  obtain ⟨ad168, A168_1, c168_1, e168, hx168_0, hx168_1, hx168_2, hx168_3, hl168_1, hi168_1⟩ := at_T52 HR0.out x3_1 p168 q168
                  obtain rfl : ad167 = ad168 := (by injection e168)
                  replace hx168_0 := (HB.out.cell (World.block_lt_of_cell? w _ hx168_0)).trans hx168_0
                  replace hx168_1 := (HB.out.cell (World.block_lt_of_cell? w _ hx168_1)).trans hx168_1
                  replace hx168_2 := (HB.out.cell (World.block_lt_of_cell? w _ hx168_2)).trans hx168_2
                  replace hx168_3 := (HB.out.cell (World.block_lt_of_cell? w _ hx168_3)).trans hx168_3
                  have HR168_1 := Aside0.mk hi168_1
                  have HC168_1 := Aside0.mk hl168_1
                  clear hi168_1 hl168_1
                  replace p168 := eq_true p168
                  replace q168 := eq_true q168
                  have ea_ := Option.some.inj (hx167_1.symm.trans hx168_1)
                  injection ea_ with ea_ en_ ec_
                  subst ea_
                  subst ec_
                  clear en_
                  have p169 : 0 ≤ (x3_1 : Int) := of_decide_eq_true (by first | (with_reducible assumption) | assumption)
                  have q169 : x3_1 < (l0.length : Int) := of_decide_eq_true (by first | (with_reducible assumption) | assumption)
                  obtain ⟨ad169, A169_1, c169_1, e169, hx169_0, hx169_1, hx169_2, hx169_3, hl169_1, hi169_1⟩ := at_T52 HR0.out x3_1 p169 q169
                  obtain rfl : ad167 = ad169 := (by injection e169)
                  replace hx169_0 := (HB.out.cell (World.block_lt_of_cell? w _ hx169_0)).trans hx169_0
                  replace hx169_1 := (HB.out.cell (World.block_lt_of_cell? w _ hx169_1)).trans hx169_1
                  replace hx169_2 := (HB.out.cell (World.block_lt_of_cell? w _ hx169_2)).trans hx169_2
                  replace hx169_3 := (HB.out.cell (World.block_lt_of_cell? w _ hx169_3)).trans hx169_3
                  have HR169_1 := Aside0.mk hi169_1
                  have HC169_1 := Aside0.mk hl169_1
                  clear hi169_1 hl169_1
                  replace p169 := eq_true p169
                  replace q169 := eq_true q169
                  have ea_ := Option.some.inj (hx167_1.symm.trans hx169_1)
                  injection ea_ with ea_ en_ ec_
                  subst ea_
                  subst ec_
                  clear en_
                  have p170 : 0 ≤ (x3_1 : Int) := of_decide_eq_true (by first | (with_reducible assumption) | assumption)
                  have q170 : x3_1 < (l0.length : Int) := of_decide_eq_true (by first | (with_reducible assumption) | assumption)
                  obtain ⟨ad170, A170_1, c170_1, e170, hx170_0, hx170_1, hx170_2, hx170_3, hl170_1, hi170_1⟩ := at_T52 HR0.out x3_1 p170 q170
                  obtain rfl : ad167 = ad170 := (by injection e170)
                  replace hx170_0 := (HB.out.cell (World.block_lt_of_cell? w _ hx170_0)).trans hx170_0
                  replace hx170_1 := (HB.out.cell (World.block_lt_of_cell? w _ hx170_1)).trans hx170_1
                  replace hx170_2 := (HB.out.cell (World.block_lt_of_cell? w _ hx170_2)).trans hx170_2
                  replace hx170_3 := (HB.out.cell (World.block_lt_of_cell? w _ hx170_3)).trans hx170_3
                  have HR170_1 := Aside0.mk hi170_1
                  have HC170_1 := Aside0.mk hl170_1
                  clear hi170_1 hl170_1
                  replace p170 := eq_true p170
                  replace q170 := eq_true q170
                  have ea_ := Option.some.inj (hx167_1.symm.trans hx170_1)
                  injection ea_ with ea_ en_ ec_
                  subst ea_
                  subst ec_
                  clear en_
                  go_wp2_with (first | (go_at_call 35; (with_reducible refine (chalklineref35_may.calls k1 _ _ ((rd_T52 l0 x3_1).f1.f0) false _ ?side1 ?side2 A7.out).mono ?_); (case side1 => repeat (first | exact (Kd.C_below HR170_1.out HB.out) | (with_reducible refine Kd.C_alloc ?_ _) | (with_reducible refine Kd.C_drewN ?_ _) | (with_reducible refine Kd.C_drew ?_))); (case side2 => exact HC170_1.out); rintro e w10 ⟨rfl, hb⟩; have n0_ := Aside0.mk (below_step (b_ HB) hb); clear HB; have HB := n0_; clear n0_; (try clear hb); (try clear hb2); (try clear hk); (try clear hi)))
                  go_ret
                  exact ⟨by first | rfl | (simp [errW_none, errW_some] <;> rfl) | (simp [*, errW_none, errW_some] <;> rfl), b_ HB⟩
          · rw [if_neg c4] at H
            have c4b0 : (((rd_T52 l0 x3_1).f0) == (wrap64 (x3_1 + 1))) = false := beq_eq_false_iff_ne.mpr c4
            have c4b1 : (((rd_T52 l0 x3_1).f0) != (wrap64 (x3_1 + 1))) = true := bne_iff_ne.mpr c4
            obtain rfl := Option.some.inj H
            have p167 : 0 ≤ (x3_1 : Int) := of_decide_eq_true (by first | (with_reducible assumption) | assumption)
            have q167 : x3_1 < (l0.length : Int) := of_decide_eq_true (by first | (with_reducible assumption) | assumption)
            obtain ⟨ad167, A167_1, c167_1, e167, hx167_0, hx167_1, hx167_2, hx167_3, hl167_1, hi167_1⟩ := at_T52 HR0.out x3_1 p167 q167
            cases e167
            replace hx167_0 := (HB.out.cell (World.block_lt_of_cell? w _ hx167_0)).trans hx167_0
            replace hx167_1 := (HB.out.cell (World.block_lt_of_cell? w _ hx167_1)).trans hx167_1
            replace hx167_2 := (HB.out.cell (World.block_lt_of_cell? w _ hx167_2)).trans hx167_2
            replace hx167_3 := (HB.out.cell (World.block_lt_of_cell? w _ hx167_3)).trans hx167_3
            have HR167_1 := Aside0.mk hi167_1
            have HC167_1 := Aside0.mk hl167_1
            clear hi167_1 hl167_1
            replace p167 := eq_true p167
            replace q167 := eq_true q167
            go_wp2
            go_ret
            exact ⟨by first | rfl | (simp [errW_none, errW_some] <;> rfl) | (simp [*, errW_none, errW_some] <;> rfl), b_ HB⟩
        · rw [if_neg c3] at H
          exact absurd H (by simp)
      · rw [if_neg c2] at H
        have c2b0 : decide (x3_1 < (l0.length : Int)) = false := decide_eq_false c2
        clear c2
        obtain rfl := Option.some.inj H
        go_wp2
        go_ret
        exact ⟨by first | rfl | (simp [errW_none, errW_some] <;> rfl) | (simp [*, errW_none, errW_some] <;> rfl), b_ HB⟩
end Go.Proofs.Ytfdhnmijaobbdaa.S
end
section
namespace Go.Proofs.Ytfdhnmijaobbdaa.S
open Go.RowKit Go.Proofs.YtfdhnmijaobbdaaW.PrintWords Go.Proofs.YtfdhnmijaobbdaaW.PrintLast Go.Proofs.YtfdhnmijaobbdaaW.PrintMore
attribute [local go_sem] max2_int min2_int max_two min_two max_three min_three max_four min_four   -- for this text's walks alone
set_option linter.unusedVariables false
set_option linter.unusedSimpArgs false
attribute [local go_sem high] eqA60
def chalklineref04_Diff.l0 : Nat → List (S64) → Int → List (S60) → List (S60) → Option ((List (S64)) × Int)
  | 0, _, _, _, _ => none
  | k + 1, x6, x7, x173000, x174000 => if x7 < (x173000.length : Int) then (if 0 ≤ x7 then (if x7 < (x174000.length : Int) then (if (!(((rd_T60 x173000 x7).f0) == ((rd_T60 x174000 x7).f0)) || (!(((rd_T60 x173000 x7).f1) == ((rd_T60 x174000 x7).f1)))) = true then (if x6.length < 5864062014805 then (chalklineref04_Diff.l0 k (x6 ++ [(⟨x7, (⟨(rd_T60 x174000 x7).f0, (rd_T60 x174000 x7).f1⟩ : S60)⟩ : S64)]) (wrap64 (x7 + 1)) x173000 x174000) else (none)) else (chalklineref04_Diff.l0 k x6 (wrap64 (x7 + 1)) x173000 x174000)) else (none)) else (none)) else (some (x6, 0))
def chalklineref04_Diff.f (k : Nat) (l0_0 : List (S60)) (l1_0 : List (S60)) : Option ((List (S64)) × Int) := if (l0_0.length : Int) = (l1_0.length : Int) then (chalklineref04_Diff.l0 k (([] : List (S64))) 0 l0_0 l1_0) else (some (([] : List (S64)), 1))
set_option maxHeartbeats 8000000 in
set_option maxRecDepth 100000 in
theorem chalklineref04_Diff.calls (k : Nat) (A0_0 : Option Addr) (c0_0 : Nat) (l0_0 : List (S60)) (A1_0 : Option Addr) (c1_0 : Nat) (l1_0 : List (S60)) (r1 : List (S64)) (r2 : Int) (w : World) (hr0_0 : Kd.C k60 w A0_0 l0_0.length l0_0) (hc0_0 : l0_0.length ≤ c0_0) (hr1_0 : Kd.C k60 w A1_0 l1_0.length l1_0) (hc1_0 : l1_0.length ≤ c1_0) (h : chalklineref04_Diff.f k l0_0 l1_0 = some (r1, r2)) :
    Calls Try.prog 30 #[.agg #[.slice A0_0 l0_0.length c0_0], .agg #[.slice A1_0 l1_0.length c1_0]] w fun e w' => ∃ v0_ : Value, e = .returned (.tuple #[v0_, .int .i64 r2]) ∧ Kd.R k64 64 w' w.heap.size (fun _ => True) v0_ r1 ∧ Below w.heap.size w w' := by
  have hu25 := Try.underlying25
  have hu60 := Try.underlying60
  have hu64 := Try.underlying64
  have HR0_0 := Aside0.mk hr0_0
  have HC0_0 := Aside0.mk hc0_0
  clear hr0_0 hc0_0
  have HR1_0 := Aside0.mk hr1_0
  have HC1_0 := Aside0.mk hc1_0
  clear hr1_0 hc1_0
  have HB := Aside0.mk (Below.refl w.heap.size w)
  have H : (if (l0_0.length : Int) = (l1_0.length : Int) then (chalklineref04_Diff.l0 k (([] : List (S64))) 0 l0_0 l1_0) else (some (([] : List (S64)), 1))) = some (r1, r2) := h
  clear h
  by_cases c3 : (l0_0.length : Int) = (l1_0.length : Int)
  · rw [if_pos c3] at H
    have c3b0 : ((l0_0.length : Int) == (l1_0.length : Int)) = true := beq_iff_eq.mpr c3
    have c3b1 : ((l0_0.length : Int) != (l1_0.length : Int)) = false := bne_eq_false_iff_eq.mpr c3
    have c3b2 : (l0_0.length == l1_0.length) = true := by first | simpa using c3 | (simp at c3 ⊢; omega)
    clear c3
    obtain ⟨y174, hy174⟩ : ∃ y_ : List (S64), y_ = (([] : List (S64))) := ⟨_, rfl⟩
    replace H : (chalklineref04_Diff.l0 k y174 0 l0_0 l1_0) = some (r1, r2) := by first | (rw [hy174]; with_reducible exact H) | (have H2_ := (Option.bind_some _ _).symm.trans H; rw [hy174]; with_reducible exact H2_) | (have H2_ := (Option.bind_some _ _).symm.trans H; with_reducible exact H2_) | with_reducible exact H | (rw [hy174]; exact H) | exact H
    have Ny174 := Aside0.mk hy174
    clear hy174
    have H' := Aside0.mk H
    clear H
    go_enter Try.func30, Try.ntmps30
    go_wp2_with (first | ((with_reducible refine gate_dst (N := 2) rfl ?_); refine box_event ?hg (N := 2) ?hd (cs := #[.slice A0_0 l0_0.length c0_0]) (t := 25) ?hr ?_; (case hd => rfl); (case hg => rfl); (case hr => first | (go_simp; done) | (go_simp; rfl)); intro gb172 hg w4 hbox hb; have n0_ := Aside0.mk (below_step (b_ HB) hb); have n1_ := Aside0.mk (hbox); have n2_ := Aside0.mk ((by rw [hg]; exact (below_size (b_ HB)) : w.heap.size ≤ gb172)); have n3_ := n2_; clear HB; have HB := n0_; have BK172 := n1_; have GW172 := n2_; have GE172 := n3_; clear n0_ n1_ n2_ n3_; clear hb hbox hg) | ((with_reducible refine gate_dst (N := 3) rfl ?_); refine box_event ?hg (N := 3) ?hd (cs := #[.slice A1_0 l1_0.length c1_0]) (t := 25) ?hr ?_; (case hd => rfl); (case hg => rfl); (case hr => first | (go_simp; done) | (go_simp; rfl)); intro gb173 hg w5 hbox hb; have n0_ := Aside0.mk (blk_below (k_ BK172) hb); have n1_ := Aside0.mk (below_step (b_ HB) hb); have n2_ := Aside0.mk (hbox); have n3_ := Aside0.mk ((by rw [hg]; exact (below_size (b_ HB)) : w.heap.size ≤ gb173)); have n4_ := n3_; have n5_ := Aside0.mk ((by rw [hg]; exact Nat.ne_of_lt (blk_lt (k_ BK172)) : gb172 ≠ gb173)); have n6_ := Aside0.mk ((by rw [hg]; exact Nat.ne_of_gt (blk_lt (k_ BK172)) : gb173 ≠ gb172)); clear BK172; clear HB; have BK172 := n0_; have HB := n1_; have BK173 := n2_; have GW173 := n3_; have GE173 := n4_; have NB172_173 := n5_; have NB173_172 := n6_; clear n0_ n1_ n2_ n3_ n4_ n5_ n6_; clear hb hbox hg; have hnb6 := NB172_173.out; have hnc6 := NB173_172.out; have hcz7_0 : w5.cell? ⟨gb172, 0, none⟩ = some (.slice A0_0 l0_0.length c0_0) := (blk_cell BK172.out 0).trans rfl; have hfz7_0 := blk_frozen BK172.out 0; have hcz8_0 : w5.cell? ⟨gb173, 0, none⟩ = some (.slice A1_0 l1_0.length c1_0) := (blk_cell BK173.out 0).trans rfl; have hfz8_0 := blk_frozen BK173.out 0) | ((with_reducible refine gate_dst (N := 15) rfl ?_); refine Kd.R_lit k64 _ 64 ?hg (N := 15) ?hd (xs := ([] : List (S64))) (inner := []) (ok := fun _ => True) (okp := fun _ => True) ?hr ?hp (fun _ hk => hk) trivial (Below.refl _ _) (Nat.le_refl _) (by simp) ?_; (case hd => rfl); (case hg => rfl); (case hr => first | (go_simp; done) | (go_simp; rfl)); (case hp => exact (Reps.none _ _)); intro v175 w9 ho10 hb hg_ hnew_; clear hg_ hnew_; (first | rw [← Ny174.out] at ho10 | (simp only [Int.reduceToNat] at ho10; rw [← Ny174.out] at ho10)); have n0_ := Aside0.mk (Kd.R_lower ho10 (below_size (b_ HB))); have n1_ := Aside0.mk (blk_below (k_ BK172) hb); have n2_ := Aside0.mk (blk_below (k_ BK173) hb); have n3_ := Aside0.mk (below_step (b_ HB) hb); clear BK172; clear BK173; clear HB; have HO176 := n0_; have BK172 := n1_; have BK173 := n2_; have HB := n3_; clear n0_ n1_ n2_ n3_; clear hb ho10))
    repeat (go_quiet (first | ((with_reducible refine gate_dst (N := 2) rfl ?_); refine box_event ?hg (N := 2) ?hd (cs := #[.slice A0_0 l0_0.length c0_0]) (t := 25) ?hr ?_; (case hd => rfl); (case hg => rfl); (case hr => first | (go_simp; done) | (go_simp; rfl)); intro gb172 hg w4 hbox hb; have n0_ := Aside0.mk (below_step (b_ HB) hb); have n1_ := Aside0.mk (hbox); have n2_ := Aside0.mk ((by rw [hg]; exact (below_size (b_ HB)) : w.heap.size ≤ gb172)); have n3_ := n2_; clear HB; have HB := n0_; have BK172 := n1_; have GW172 := n2_; have GE172 := n3_; clear n0_ n1_ n2_ n3_; clear hb hbox hg) | ((with_reducible refine gate_dst (N := 3) rfl ?_); refine box_event ?hg (N := 3) ?hd (cs := #[.slice A1_0 l1_0.length c1_0]) (t := 25) ?hr ?_; (case hd => rfl); (case hg => rfl); (case hr => first | (go_simp; done) | (go_simp; rfl)); intro gb173 hg w5 hbox hb; have n0_ := Aside0.mk (blk_below (k_ BK172) hb); have n1_ := Aside0.mk (below_step (b_ HB) hb); have n2_ := Aside0.mk (hbox); have n3_ := Aside0.mk ((by rw [hg]; exact (below_size (b_ HB)) : w.heap.size ≤ gb173)); have n4_ := n3_; have n5_ := Aside0.mk ((by rw [hg]; exact Nat.ne_of_lt (blk_lt (k_ BK172)) : gb172 ≠ gb173)); have n6_ := Aside0.mk ((by rw [hg]; exact Nat.ne_of_gt (blk_lt (k_ BK172)) : gb173 ≠ gb172)); clear BK172; clear HB; have BK172 := n0_; have HB := n1_; have BK173 := n2_; have GW173 := n3_; have GE173 := n4_; have NB172_173 := n5_; have NB173_172 := n6_; clear n0_ n1_ n2_ n3_ n4_ n5_ n6_; clear hb hbox hg; have hnb6 := NB172_173.out; have hnc6 := NB173_172.out; have hcz7_0 : w5.cell? ⟨gb172, 0, none⟩ = some (.slice A0_0 l0_0.length c0_0) := (blk_cell BK172.out 0).trans rfl; have hfz7_0 := blk_frozen BK172.out 0; have hcz8_0 : w5.cell? ⟨gb173, 0, none⟩ = some (.slice A1_0 l1_0.length c1_0) := (blk_cell BK173.out 0).trans rfl; have hfz8_0 := blk_frozen BK173.out 0) | ((with_reducible refine gate_dst (N := 15) rfl ?_); refine Kd.R_lit k64 _ 64 ?hg (N := 15) ?hd (xs := ([] : List (S64))) (inner := []) (ok := fun _ => True) (okp := fun _ => True) ?hr ?hp (fun _ hk => hk) trivial (Below.refl _ _) (Nat.le_refl _) (by simp) ?_; (case hd => rfl); (case hg => rfl); (case hr => first | (go_simp; done) | (go_simp; rfl)); (case hp => exact (Reps.none _ _)); intro v175 w9 ho10 hb hg_ hnew_; clear hg_ hnew_; (first | rw [← Ny174.out] at ho10 | (simp only [Int.reduceToNat] at ho10; rw [← Ny174.out] at ho10)); have n0_ := Aside0.mk (Kd.R_lower ho10 (below_size (b_ HB))); have n1_ := Aside0.mk (blk_below (k_ BK172) hb); have n2_ := Aside0.mk (blk_below (k_ BK173) hb); have n3_ := Aside0.mk (below_step (b_ HB) hb); clear BK172; clear BK173; clear HB; have HO176 := n0_; have BK172 := n1_; have BK173 := n2_; have HB := n3_; clear n0_ n1_ n2_ n3_; clear hb ho10)); try go_wp2_with (first | ((with_reducible refine gate_dst (N := 2) rfl ?_); refine box_event ?hg (N := 2) ?hd (cs := #[.slice A0_0 l0_0.length c0_0]) (t := 25) ?hr ?_; (case hd => rfl); (case hg => rfl); (case hr => first | (go_simp; done) | (go_simp; rfl)); intro gb172 hg w4 hbox hb; have n0_ := Aside0.mk (below_step (b_ HB) hb); have n1_ := Aside0.mk (hbox); have n2_ := Aside0.mk ((by rw [hg]; exact (below_size (b_ HB)) : w.heap.size ≤ gb172)); have n3_ := n2_; clear HB; have HB := n0_; have BK172 := n1_; have GW172 := n2_; have GE172 := n3_; clear n0_ n1_ n2_ n3_; clear hb hbox hg) | ((with_reducible refine gate_dst (N := 3) rfl ?_); refine box_event ?hg (N := 3) ?hd (cs := #[.slice A1_0 l1_0.length c1_0]) (t := 25) ?hr ?_; (case hd => rfl); (case hg => rfl); (case hr => first | (go_simp; done) | (go_simp; rfl)); intro gb173 hg w5 hbox hb; have n0_ := Aside0.mk (blk_below (k_ BK172) hb); have n1_ := Aside0.mk (below_step (b_ HB) hb); have n2_ := Aside0.mk (hbox); have n3_ := Aside0.mk ((by rw [hg]; exact (below_size (b_ HB)) : w.heap.size ≤ gb173)); have n4_ := n3_; have n5_ := Aside0.mk ((by rw [hg]; exact Nat.ne_of_lt (blk_lt (k_ BK172)) : gb172 ≠ gb173)); have n6_ := Aside0.mk ((by rw [hg]; exact Nat.ne_of_gt (blk_lt (k_ BK172)) : gb173 ≠ gb172)); clear BK172; clear HB; have BK172 := n0_; have HB := n1_; have BK173 := n2_; have GW173 := n3_; have GE173 := n4_; have NB172_173 := n5_; have NB173_172 := n6_; clear n0_ n1_ n2_ n3_ n4_ n5_ n6_; clear hb hbox hg; have hnb6 := NB172_173.out; have hnc6 := NB173_172.out; have hcz7_0 : w5.cell? ⟨gb172, 0, none⟩ = some (.slice A0_0 l0_0.length c0_0) := (blk_cell BK172.out 0).trans rfl; have hfz7_0 := blk_frozen BK172.out 0; have hcz8_0 : w5.cell? ⟨gb173, 0, none⟩ = some (.slice A1_0 l1_0.length c1_0) := (blk_cell BK173.out 0).trans rfl; have hfz8_0 := blk_frozen BK173.out 0) | ((with_reducible refine gate_dst (N := 15) rfl ?_); refine Kd.R_lit k64 _ 64 ?hg (N := 15) ?hd (xs := ([] : List (S64))) (inner := []) (ok := fun _ => True) (okp := fun _ => True) ?hr ?hp (fun _ hk => hk) trivial (Below.refl _ _) (Nat.le_refl _) (by simp) ?_; (case hd => rfl); (case hg => rfl); (case hr => first | (go_simp; done) | (go_simp; rfl)); (case hp => exact (Reps.none _ _)); intro v175 w9 ho10 hb hg_ hnew_; clear hg_ hnew_; (first | rw [← Ny174.out] at ho10 | (simp only [Int.reduceToNat] at ho10; rw [← Ny174.out] at ho10)); have n0_ := Aside0.mk (Kd.R_lower ho10 (below_size (b_ HB))); have n1_ := Aside0.mk (blk_below (k_ BK172) hb); have n2_ := Aside0.mk (blk_below (k_ BK173) hb); have n3_ := Aside0.mk (below_step (b_ HB) hb); clear BK172; clear BK173; clear HB; have HO176 := n0_; have BK172 := n1_; have BK173 := n2_; have HB := n3_; clear n0_ n1_ n2_ n3_; clear hb ho10)))
    go_loopg [6, 7] k (fun kq v6 v7 w' => ∃ (x6_1 : List (S64)) (x7_1 : Int), v7 = .int .i64 x7_1 ∧ Aside0 (chalklineref04_Diff.l0 kq x6_1 x7_1 l0_0 l1_0 = some (r1, r2)) ∧ Aside0 (kq ≤ k) ∧ Aside0 (Kd.R k64 64 w' w.heap.size (fun _ => True) v6 x6_1) ∧ Aside0 (w'.heap[gb172]? = some (.cells #[(.slice A0_0 l0_0.length c0_0)] 25 (0, 0))) ∧ Aside0 (w'.heap[gb173]? = some (.cells #[(.slice A1_0 l1_0.length c1_0)] 25 (0, 0))) ∧ Aside0 (Below w.heap.size w w'))
    case atStart => exact ⟨(y174), (0), (by first | rfl | (simp; done) | (simp [*]; done)), H', ⟨Nat.le_refl _⟩, ⟨by (with_reducible repeat (first | apply Kd.R_alloc | apply Kd.R_drewN | apply Kd.R_drew)); exact HO176.out⟩, ⟨k_ BK172⟩, ⟨k_ BK173⟩, ⟨b_ HB⟩⟩
    case round =>
      clear H'
      try clear c1
      try clear p2
      try clear c3
      try clear c3b0
      try clear c3b1
      try clear c3b2
      try clear c6
      try clear hcz7_0
      try clear hcz8_0
      try clear hfz7_0
      try clear hfz8_0
      obtain ⟨x6_1, x7_1, rfl, HA, HK1, HO_6, BK172, BK173, HB⟩ := hrel
      cases gk with
      | zero => exact absurd HA.out (by simp [chalklineref04_Diff.l0])
      | succ k1 =>
        have H := HA.out
        clear HA
        simp only [chalklineref04_Diff.l0] at H
        by_cases c11 : x7_1 < (l0_0.length : Int)
        · rw [if_pos c11] at H
          have c11b0 : decide (x7_1 < (l0_0.length : Int)) = true := decide_eq_true c11
          clear c11
          by_cases c12 : 0 ≤ x7_1
          · rw [if_pos c12] at H
            have c12b0 : decide (0 ≤ x7_1) = true := decide_eq_true c12
            clear c12
            by_cases c13 : x7_1 < (l1_0.length : Int)
            · rw [if_pos c13] at H
              have c13b0 : decide (x7_1 < (l1_0.length : Int)) = true := decide_eq_true c13
              clear c13
              by_cases c14 : (!(((rd_T60 l0_0 x7_1).f0) == ((rd_T60 l1_0 x7_1).f0)) || (!(((rd_T60 l0_0 x7_1).f1) == ((rd_T60 l1_0 x7_1).f1)))) = true
              · rw [if_pos c14] at H
                have c14b0 : (!(((rd_T60 l0_0 x7_1).f0) == ((rd_T60 l1_0 x7_1).f0)) || (!(((rd_T60 l0_0 x7_1).f1) == ((rd_T60 l1_0 x7_1).f1)))) = true := c14
                clear c14
                by_cases c15 : x6_1.length < 5864062014805
                · rw [if_pos c15] at H
                  have LMc15 := Aside0.mk c15
                  clear c15
                  obtain ⟨y180, hy180⟩ : ∃ y_ : List (S64), y_ = (x6_1 ++ [(⟨x7_1, (⟨(rd_T60 l1_0 x7_1).f0, (rd_T60 l1_0 x7_1).f1⟩ : S60)⟩ : S64)]) := ⟨_, rfl⟩
                  replace H : (chalklineref04_Diff.l0 k1 y180 (wrap64 (x7_1 + 1)) l0_0 l1_0) = some (r1, r2) := by first | (rw [hy180]; with_reducible exact H) | (have H2_ := (Option.bind_some _ _).symm.trans H; rw [hy180]; with_reducible exact H2_) | (have H2_ := (Option.bind_some _ _).symm.trans H; with_reducible exact H2_) | with_reducible exact H | (rw [hy180]; exact H) | exact H
                  have Ny180 := Aside0.mk hy180
                  clear hy180
                  have H' := Aside0.mk H
                  clear H
                  have hnb16 := NB172_173.out
                  have hnc16 := NB173_172.out
                  have hcz17_0 : wr.cell? ⟨gb172, 0, none⟩ = some (.slice A0_0 l0_0.length c0_0) := (blk_cell BK172.out 0).trans rfl
                  have hfz17_0 := blk_frozen BK172.out 0
                  have p177 : 0 ≤ (x7_1 : Int) := of_decide_eq_true (by first | (with_reducible assumption) | assumption)
                  have q177 : x7_1 < (l0_0.length : Int) := of_decide_eq_true (by first | (with_reducible assumption) | assumption)
                  obtain ⟨ad177, e177, hx177_0, hx177_1⟩ := at_T60 HR0_0.out x7_1 p177 q177
                  cases e177
                  replace hx177_0 := (HB.out.cell (World.block_lt_of_cell? w _ hx177_0)).trans hx177_0
                  replace hx177_1 := (HB.out.cell (World.block_lt_of_cell? w _ hx177_1)).trans hx177_1
                  replace p177 := eq_true p177
                  replace q177 := eq_true q177
                  have hcz18_0 : wr.cell? ⟨gb173, 0, none⟩ = some (.slice A1_0 l1_0.length c1_0) := (blk_cell BK173.out 0).trans rfl
                  have hfz18_0 := blk_frozen BK173.out 0
                  have p178 : 0 ≤ (x7_1 : Int) := of_decide_eq_true (by first | (with_reducible assumption) | assumption)
                  have q178 : x7_1 < (l1_0.length : Int) := of_decide_eq_true (by first | (with_reducible assumption) | assumption)
                  obtain ⟨ad178, e178, hx178_0, hx178_1⟩ := at_T60 HR1_0.out x7_1 p178 q178
                  cases e178
                  replace hx178_0 := (HB.out.cell (World.block_lt_of_cell? w _ hx178_0)).trans hx178_0
                  replace hx178_1 := (HB.out.cell (World.block_lt_of_cell? w _ hx178_1)).trans hx178_1
                  replace p178 := eq_true p178
                  replace q178 := eq_true q178
                  have p179 : 0 ≤ (x7_1 : Int) := of_decide_eq_true (by first | (with_reducible assumption) | assumption)
                  have q179 : x7_1 < (l1_0.length : Int) := of_decide_eq_true (by first | (with_reducible assumption) | assumption)
                  obtain ⟨ad179, e179, hx179_0, hx179_1⟩ := at_T60 HR1_0.out x7_1 p179 q179
                  obtain rfl : ad178 = ad179 := (by injection e179)
                  replace hx179_0 := (HB.out.cell (World.block_lt_of_cell? w _ hx179_0)).trans hx179_0
                  replace hx179_1 := (HB.out.cell (World.block_lt_of_cell? w _ hx179_1)).trans hx179_1
                  replace p179 := eq_true p179
                  replace q179 := eq_true q179
                  go_wp2_with (first | ((with_reducible refine gate_builtin (b := .append) (xs := #[.tmp 34, .tmp 42]) rfl ?_); at_builtin; refine Kd.R_append k64 (w0 := w) w.heap.size rfl (.tmp 34) (.tmp 42) 30 64 (.agg #[(.int .i64 0), (.int .i64 0), (.int .i64 0)]) 24 rfl Try.underlying30 info64 rfl (by decide) (by omega) u6 x6_1 (⟨x7_1, (⟨(rd_T60 l1_0 x7_1).f0, (rd_T60 l1_0 x7_1).f1⟩ : S60)⟩ : S64) [.int .i64 x7_1, .int .i64 ((rd_T60 l1_0 x7_1).f0), .int .i64 ((rd_T60 l1_0 x7_1).f1)] (fun _ => True) (fun _ => False) rfl rfl ?aP (fun _ hk => hk.elim) ?aF ?aO ?aB ?aS ?aL ?_; (case aP => exact k64_mkM _ _ _ (⟨x7_1, (⟨(rd_T60 l1_0 x7_1).f0, (rd_T60 l1_0 x7_1).f1⟩ : S60)⟩ : S64)); (case aB => exact (b_ HB)); (case aF => exact (fun _ _ => trivial)); (case aO => exact (by (with_reducible repeat (first | apply Kd.R_alloc | apply Kd.R_drewN | apply Kd.R_drew)); exact HO_6.out)); (case aS => exact (below_size (b_ HB))); (case aL => have := LMc15.out; omega); intro v181 w19 ho hb hg hat; rw [← Ny180.out] at ho; have n0_ := Aside0.mk (blk_grown (g := gb172) (o := .cells #[.slice (some ad177) l0_0.length c0_0] 25 (0, 0)) (k_ BK172) hg (Kd.R_ne HO_6.out BK172.out (by decide))); have n1_ := Aside0.mk (blk_grown (g := gb173) (o := .cells #[.slice (some ad178) l1_0.length c1_0] 25 (0, 0)) (k_ BK173) hg (Kd.R_ne HO_6.out BK173.out (by decide))); have n2_ := Aside0.mk (hb); have n3_ := Aside0.mk (ho); clear BK172; clear BK173; clear HB; clear HO_6; have BK172 := n0_; have BK173 := n1_; have HB := n2_; have HO182 := n3_; clear n0_ n1_ n2_ n3_; clear ho hb hg hat))
                  repeat (go_quiet (first | ((with_reducible refine gate_builtin (b := .append) (xs := #[.tmp 34, .tmp 42]) rfl ?_); at_builtin; refine Kd.R_append k64 (w0 := w) w.heap.size rfl (.tmp 34) (.tmp 42) 30 64 (.agg #[(.int .i64 0), (.int .i64 0), (.int .i64 0)]) 24 rfl Try.underlying30 info64 rfl (by decide) (by omega) u6 x6_1 (⟨x7_1, (⟨(rd_T60 l1_0 x7_1).f0, (rd_T60 l1_0 x7_1).f1⟩ : S60)⟩ : S64) [.int .i64 x7_1, .int .i64 ((rd_T60 l1_0 x7_1).f0), .int .i64 ((rd_T60 l1_0 x7_1).f1)] (fun _ => True) (fun _ => False) rfl rfl ?aP (fun _ hk => hk.elim) ?aF ?aO ?aB ?aS ?aL ?_; (case aP => exact k64_mkM _ _ _ (⟨x7_1, (⟨(rd_T60 l1_0 x7_1).f0, (rd_T60 l1_0 x7_1).f1⟩ : S60)⟩ : S64)); (case aB => exact (b_ HB)); (case aF => exact (fun _ _ => trivial)); (case aO => exact (by (with_reducible repeat (first | apply Kd.R_alloc | apply Kd.R_drewN | apply Kd.R_drew)); exact HO_6.out)); (case aS => exact (below_size (b_ HB))); (case aL => have := LMc15.out; omega); intro v181 w19 ho hb hg hat; rw [← Ny180.out] at ho; have n0_ := Aside0.mk (blk_grown (g := gb172) (o := .cells #[.slice (some ad177) l0_0.length c0_0] 25 (0, 0)) (k_ BK172) hg (Kd.R_ne HO_6.out BK172.out (by decide))); have n1_ := Aside0.mk (blk_grown (g := gb173) (o := .cells #[.slice (some ad178) l1_0.length c1_0] 25 (0, 0)) (k_ BK173) hg (Kd.R_ne HO_6.out BK173.out (by decide))); have n2_ := Aside0.mk (hb); have n3_ := Aside0.mk (ho); clear BK172; clear BK173; clear HB; clear HO_6; have BK172 := n0_; have BK173 := n1_; have HB := n2_; have HO182 := n3_; clear n0_ n1_ n2_ n3_; clear ho hb hg hat)); try go_wp2_with (first | ((with_reducible refine gate_builtin (b := .append) (xs := #[.tmp 34, .tmp 42]) rfl ?_); at_builtin; refine Kd.R_append k64 (w0 := w) w.heap.size rfl (.tmp 34) (.tmp 42) 30 64 (.agg #[(.int .i64 0), (.int .i64 0), (.int .i64 0)]) 24 rfl Try.underlying30 info64 rfl (by decide) (by omega) u6 x6_1 (⟨x7_1, (⟨(rd_T60 l1_0 x7_1).f0, (rd_T60 l1_0 x7_1).f1⟩ : S60)⟩ : S64) [.int .i64 x7_1, .int .i64 ((rd_T60 l1_0 x7_1).f0), .int .i64 ((rd_T60 l1_0 x7_1).f1)] (fun _ => True) (fun _ => False) rfl rfl ?aP (fun _ hk => hk.elim) ?aF ?aO ?aB ?aS ?aL ?_; (case aP => exact k64_mkM _ _ _ (⟨x7_1, (⟨(rd_T60 l1_0 x7_1).f0, (rd_T60 l1_0 x7_1).f1⟩ : S60)⟩ : S64)); (case aB => exact (b_ HB)); (case aF => exact (fun _ _ => trivial)); (case aO => exact (by (with_reducible repeat (first | apply Kd.R_alloc | apply Kd.R_drewN | apply Kd.R_drew)); exact HO_6.out)); (case aS => exact (below_size (b_ HB))); (case aL => have := LMc15.out; omega); intro v181 w19 ho hb hg hat; rw [← Ny180.out] at ho; have n0_ := Aside0.mk (blk_grown (g := gb172) (o := .cells #[.slice (some ad177) l0_0.length c0_0] 25 (0, 0)) (k_ BK172) hg (Kd.R_ne HO_6.out BK172.out (by decide))); have n1_ := Aside0.mk (blk_grown (g := gb173) (o := .cells #[.slice (some ad178) l1_0.length c1_0] 25 (0, 0)) (k_ BK173) hg (Kd.R_ne HO_6.out BK173.out (by decide))); have n2_ := Aside0.mk (hb); have n3_ := Aside0.mk (ho); clear BK172; clear BK173; clear HB; clear HO_6; have BK172 := n0_; have BK173 := n1_; have HB := n2_; have HO182 := n3_; clear n0_ n1_ n2_ n3_; clear ho hb hg hat)))
                  go_roundg k1
                  case measure => have := HK1.out; omega
                  case rel => exact ⟨(y180), (wrap64 (x7_1 + 1)), (by first | rfl | (simp; done) | (simp [*]; done)), H', ⟨by have := HK1.out; omega⟩, ⟨by (with_reducible repeat (first | apply Kd.R_alloc | apply Kd.R_drewN | apply Kd.R_drew)); exact HO182.out⟩, ⟨k_ BK172⟩, ⟨k_ BK173⟩, ⟨b_ HB⟩⟩
                · rw [if_neg c15] at H
                  exact absurd H (by simp)
              · rw [if_neg c14] at H
                have c14b0 : (!(((rd_T60 l0_0 x7_1).f0) == ((rd_T60 l1_0 x7_1).f0)) || (!(((rd_T60 l0_0 x7_1).f1) == ((rd_T60 l1_0 x7_1).f1)))) = false := by simpa using c14
                clear c14
                have H' := Aside0.mk H
                clear H
                have hnb20 := NB172_173.out
                have hnc20 := NB173_172.out
                have hcz21_0 : wr.cell? ⟨gb172, 0, none⟩ = some (.slice A0_0 l0_0.length c0_0) := (blk_cell BK172.out 0).trans rfl
                have hfz21_0 := blk_frozen BK172.out 0
                have p177 : 0 ≤ (x7_1 : Int) := of_decide_eq_true (by first | (with_reducible assumption) | assumption)
                have q177 : x7_1 < (l0_0.length : Int) := of_decide_eq_true (by first | (with_reducible assumption) | assumption)
                obtain ⟨ad177, e177, hx177_0, hx177_1⟩ := at_T60 HR0_0.out x7_1 p177 q177
                cases e177
                replace hx177_0 := (HB.out.cell (World.block_lt_of_cell? w _ hx177_0)).trans hx177_0
                replace hx177_1 := (HB.out.cell (World.block_lt_of_cell? w _ hx177_1)).trans hx177_1
                replace p177 := eq_true p177
                replace q177 := eq_true q177
                have hcz22_0 : wr.cell? ⟨gb173, 0, none⟩ = some (.slice A1_0 l1_0.length c1_0) := (blk_cell BK173.out 0).trans rfl
                have hfz22_0 := blk_frozen BK173.out 0
                have p178 : 0 ≤ (x7_1 : Int) := of_decide_eq_true (by first | (with_reducible assumption) | assumption)
                have q178 : x7_1 < (l1_0.length : Int) := of_decide_eq_true (by first | (with_reducible assumption) | assumption)
                obtain ⟨ad178, e178, hx178_0, hx178_1⟩ := at_T60 HR1_0.out x7_1 p178 q178
                cases e178
                replace hx178_0 := (HB.out.cell (World.block_lt_of_cell? w _ hx178_0)).trans hx178_0
                replace hx178_1 := (HB.out.cell (World.block_lt_of_cell? w _ hx178_1)).trans hx178_1
                replace p178 := eq_true p178
                replace q178 := eq_true q178
                go_wp2
                repeat (go_quiet (fail); try go_wp2)
                go_roundg k1
                case measure => have := HK1.out; omega
                case rel => exact ⟨(x6_1), (wrap64 (x7_1 + 1)), (by first | rfl | (simp; done) | (simp [*]; done)), H', ⟨by have := HK1.out; omega⟩, ⟨by (with_reducible repeat (first | apply Kd.R_alloc | apply Kd.R_drewN | apply Kd.R_drew)); exact HO_6.out⟩, ⟨k_ BK172⟩, ⟨k_ BK173⟩, ⟨b_ HB⟩⟩
            · rw [if_neg c13] at H
              exact absurd H (by simp)
          · rw [if_neg c12] at H
            exact absurd H (by simp)
        · rw [if_neg c11] at H
          have c11b0 : decide (x7_1 < (l0_0.length : Int)) = false := decide_eq_false c11
          clear c11
          simp only [Option.some.injEq, Prod.mk.injEq] at H
          obtain ⟨rfl, rfl⟩ := H
          have hnb23 := NB172_173.out
          have hnc23 := NB173_172.out
          have hcz24_0 : wr.cell? ⟨gb172, 0, none⟩ = some (.slice A0_0 l0_0.length c0_0) := (blk_cell BK172.out 0).trans rfl
          have hfz24_0 := blk_frozen BK172.out 0
          go_wp2
          repeat (go_quiet (fail); try go_wp2)
          go_ret2
          exact ⟨_, by first | rfl | (simp [errW_none, errW_some] <;> rfl) | (simp [*, errW_none, errW_some] <;> rfl), by (with_reducible repeat (first | apply Kd.R_alloc | apply Kd.R_drewN | apply Kd.R_drew)); exact HO_6.out, b_ HB⟩
  · rw [if_neg c3] at H
    have c3b0 : ((l0_0.length : Int) == (l1_0.length : Int)) = false := beq_eq_false_iff_ne.mpr c3
    have c3b1 : ((l0_0.length : Int) != (l1_0.length : Int)) = true := bne_iff_ne.mpr c3
    have c3b2 : (l0_0.length == l1_0.length) = false := by first | simpa using c3 | (simp at c3 ⊢; omega)
    simp only [Option.some.injEq, Prod.mk.injEq] at H
    obtain ⟨rfl, rfl⟩ := H
    go_enter Try.func30, Try.ntmps30
    go_wp2_with (first | ((with_reducible refine gate_dst (N := 2) rfl ?_); refine box_event ?hg (N := 2) ?hd (cs := #[.slice A0_0 l0_0.length c0_0]) (t := 25) ?hr ?_; (case hd => rfl); (case hg => rfl); (case hr => first | (go_simp; done) | (go_simp; rfl)); intro gb172 hg w25 hbox hb; have n0_ := Aside0.mk (below_step (b_ HB) hb); have n1_ := Aside0.mk (hbox); have n2_ := Aside0.mk ((by rw [hg]; exact (below_size (b_ HB)) : w.heap.size ≤ gb172)); have n3_ := n2_; clear HB; have HB := n0_; have BK172 := n1_; have GW172 := n2_; have GE172 := n3_; clear n0_ n1_ n2_ n3_; clear hb hbox hg) | ((with_reducible refine gate_dst (N := 3) rfl ?_); refine box_event ?hg (N := 3) ?hd (cs := #[.slice A1_0 l1_0.length c1_0]) (t := 25) ?hr ?_; (case hd => rfl); (case hg => rfl); (case hr => first | (go_simp; done) | (go_simp; rfl)); intro gb173 hg w26 hbox hb; have n0_ := Aside0.mk (blk_below (k_ BK172) hb); have n1_ := Aside0.mk (below_step (b_ HB) hb); have n2_ := Aside0.mk (hbox); have n3_ := Aside0.mk ((by rw [hg]; exact (below_size (b_ HB)) : w.heap.size ≤ gb173)); have n4_ := n3_; have n5_ := Aside0.mk ((by rw [hg]; exact Nat.ne_of_lt (blk_lt (k_ BK172)) : gb172 ≠ gb173)); have n6_ := Aside0.mk ((by rw [hg]; exact Nat.ne_of_gt (blk_lt (k_ BK172)) : gb173 ≠ gb172)); clear BK172; clear HB; have BK172 := n0_; have HB := n1_; have BK173 := n2_; have GW173 := n3_; have GE173 := n4_; have NB172_173 := n5_; have NB173_172 := n6_; clear n0_ n1_ n2_ n3_ n4_ n5_ n6_; clear hb hbox hg; have hnb27 := NB172_173.out; have hnc27 := NB173_172.out; have hcz28_0 : w26.cell? ⟨gb172, 0, none⟩ = some (.slice A0_0 l0_0.length c0_0) := (blk_cell BK172.out 0).trans rfl; have hfz28_0 := blk_frozen BK172.out 0; have hcz29_0 : w26.cell? ⟨gb173, 0, none⟩ = some (.slice A1_0 l1_0.length c1_0) := (blk_cell BK173.out 0).trans rfl; have hfz29_0 := blk_frozen BK173.out 0))
    repeat (go_quiet (first | ((with_reducible refine gate_dst (N := 2) rfl ?_); refine box_event ?hg (N := 2) ?hd (cs := #[.slice A0_0 l0_0.length c0_0]) (t := 25) ?hr ?_; (case hd => rfl); (case hg => rfl); (case hr => first | (go_simp; done) | (go_simp; rfl)); intro gb172 hg w25 hbox hb; have n0_ := Aside0.mk (below_step (b_ HB) hb); have n1_ := Aside0.mk (hbox); have n2_ := Aside0.mk ((by rw [hg]; exact (below_size (b_ HB)) : w.heap.size ≤ gb172)); have n3_ := n2_; clear HB; have HB := n0_; have BK172 := n1_; have GW172 := n2_; have GE172 := n3_; clear n0_ n1_ n2_ n3_; clear hb hbox hg) | ((with_reducible refine gate_dst (N := 3) rfl ?_); refine box_event ?hg (N := 3) ?hd (cs := #[.slice A1_0 l1_0.length c1_0]) (t := 25) ?hr ?_; (case hd => rfl); (case hg => rfl); (case hr => first | (go_simp; done) | (go_simp; rfl)); intro gb173 hg w26 hbox hb; have n0_ := Aside0.mk (blk_below (k_ BK172) hb); have n1_ := Aside0.mk (below_step (b_ HB) hb); have n2_ := Aside0.mk (hbox); have n3_ := Aside0.mk ((by rw [hg]; exact (below_size (b_ HB)) : w.heap.size ≤ gb173)); have n4_ := n3_; have n5_ := Aside0.mk ((by rw [hg]; exact Nat.ne_of_lt (blk_lt (k_ BK172)) : gb172 ≠ gb173)); have n6_ := Aside0.mk ((by rw [hg]; exact Nat.ne_of_gt (blk_lt (k_ BK172)) : gb173 ≠ gb172)); clear BK172; clear HB; have BK172 := n0_; have HB := n1_; have BK173 := n2_; have GW173 := n3_; have GE173 := n4_; have NB172_173 := n5_; have NB173_172 := n6_; clear n0_ n1_ n2_ n3_ n4_ n5_ n6_; clear hb hbox hg; have hnb27 := NB172_173.out; have hnc27 := NB173_172.out; have hcz28_0 : w26.cell? ⟨gb172, 0, none⟩ = some (.slice A0_0 l0_0.length c0_0) := (blk_cell BK172.out 0).trans rfl; have hfz28_0 := blk_frozen BK172.out 0; have hcz29_0 : w26.cell? ⟨gb173, 0, none⟩ = some (.slice A1_0 l1_0.length c1_0) := (blk_cell BK173.out 0).trans rfl; have hfz29_0 := blk_frozen BK173.out 0)); try go_wp2_with (first | ((with_reducible refine gate_dst (N := 2) rfl ?_); refine box_event ?hg (N := 2) ?hd (cs := #[.slice A0_0 l0_0.length c0_0]) (t := 25) ?hr ?_; (case hd => rfl); (case hg => rfl); (case hr => first | (go_simp; done) | (go_simp; rfl)); intro gb172 hg w25 hbox hb; have n0_ := Aside0.mk (below_step (b_ HB) hb); have n1_ := Aside0.mk (hbox); have n2_ := Aside0.mk ((by rw [hg]; exact (below_size (b_ HB)) : w.heap.size ≤ gb172)); have n3_ := n2_; clear HB; have HB := n0_; have BK172 := n1_; have GW172 := n2_; have GE172 := n3_; clear n0_ n1_ n2_ n3_; clear hb hbox hg) | ((with_reducible refine gate_dst (N := 3) rfl ?_); refine box_event ?hg (N := 3) ?hd (cs := #[.slice A1_0 l1_0.length c1_0]) (t := 25) ?hr ?_; (case hd => rfl); (case hg => rfl); (case hr => first | (go_simp; done) | (go_simp; rfl)); intro gb173 hg w26 hbox hb; have n0_ := Aside0.mk (blk_below (k_ BK172) hb); have n1_ := Aside0.mk (below_step (b_ HB) hb); have n2_ := Aside0.mk (hbox); have n3_ := Aside0.mk ((by rw [hg]; exact (below_size (b_ HB)) : w.heap.size ≤ gb173)); have n4_ := n3_; have n5_ := Aside0.mk ((by rw [hg]; exact Nat.ne_of_lt (blk_lt (k_ BK172)) : gb172 ≠ gb173)); have n6_ := Aside0.mk ((by rw [hg]; exact Nat.ne_of_gt (blk_lt (k_ BK172)) : gb173 ≠ gb172)); clear BK172; clear HB; have BK172 := n0_; have HB := n1_; have BK173 := n2_; have GW173 := n3_; have GE173 := n4_; have NB172_173 := n5_; have NB173_172 := n6_; clear n0_ n1_ n2_ n3_ n4_ n5_ n6_; clear hb hbox hg; have hnb27 := NB172_173.out; have hnc27 := NB173_172.out; have hcz28_0 : w26.cell? ⟨gb172, 0, none⟩ = some (.slice A0_0 l0_0.length c0_0) := (blk_cell BK172.out 0).trans rfl; have hfz28_0 := blk_frozen BK172.out 0; have hcz29_0 : w26.cell? ⟨gb173, 0, none⟩ = some (.slice A1_0 l1_0.length c1_0) := (blk_cell BK173.out 0).trans rfl; have hfz29_0 := blk_frozen BK173.out 0)))
    go_ret2
    exact ⟨_, by first | rfl | (simp [errW_none, errW_some] <;> rfl) | (simp [*, errW_none, errW_some] <;> rfl), by first | exact Kd.R_nil _ _ _ _ _ | exact Kd.N_nil _ _ _ _ _ | exact Kd.V_nil _ _ _ _ _ | exact Kd.Q_nil _ _ _ _ _ | exact Kd.S_nil _ _ _ _ _, b_ HB⟩
end Go.Proofs.Ytfdhnmijaobbdaa.S
end
