/- weekBijection_holds: part 5 of the proof: the plain functions, the walks of the program's functions and the laws about them. Conditions: those that each theorem states. -/
import Derived.Test.YtjdajlnigiicaaaDoorBijection1
import Derived.Test.YtjdajlnigiicaaaDoorBijection2
import Derived.Test.YtjdajlnigiicaaaDoorBijection3
import Derived.Test.YtjdajlnigiicaaaDoorBijection4
section
namespace Go.Proofs.YtjdajlnigiicaaaDoor.S
open Go.RowKit Go.Proofs.YtjdajlnigiicaaaDoorW.PrintWords Go.Proofs.YtjdajlnigiicaaaDoorW.PrintLast Go.Proofs.YtjdajlnigiicaaaDoorW.PrintMore
attribute [local go_sem] max2_int min2_int max_two min_two max_three min_three max_four min_four   -- for this text's walks alone
set_option linter.unusedVariables false
set_option linter.unusedSimpArgs false
attribute [local go_sem high] eqA57
mutual
def live04.j0 : Nat → List (S24) → Int → Bool → List (S87) → List (S91) → List (S95) → List (S98) → List (S101) → Option (Bool)
  | 0, _, _, _, _, _, _, _, _ => none
  | k + 1, x2, x5, x42, x183000, x183001, x183002, x183003, x183004 => if x42 = true then (some false) else (if 1 < (x2.length : Int) then ((week_True.f k x183000 x183001 x183002 x183003 x183004 ((rd_T24 x2 1).f0)).bind fun bt193 => ((week_Of.f x183000 x183001 x183002 x183003 x183004 bt193.1).bind fun bt197 => (if 0 < (x2.length : Int) then ((week_Diff.f k ((rd_T24 x2 0).f0) ((rd_T24 x2 1).f0)).bind fun bt204 => ((week_Apply.f k ((rd_T24 x2 0).f0) bt204.1).bind fun bt209 => ((week_Put.f k (([7] : List Int)) ((rd_T24 x2 1).f0)).bind fun t218 => ((week_Get.f t218 1).bind fun bt221 => ((week_Vars.f x183000 x183001 x183002 x183003 x183004).bind fun t227 => (if t227 = 8 then ((week_At.f x183000 x183001 x183002 x183003 x183004 1 0).bind fun t228 => (if t228 = 3 then ((week_In.f x183000 x183001 x183002 x183003 x183004 0 1).bind fun t229 => (if t229 = 6 then ((week_At.f x183000 x183001 x183002 x183003 x183004 2 0).bind fun t230 => (if t230 = 0 then ((week_In.f x183000 x183001 x183002 x183003 x183004 0 2).bind fun t231 => (live04.j1 k x2 x5 bt193.2 bt197.2 bt204.1 bt204.2 bt209.2 bt221.2.1 bt221.2.2 (t231 == 0) x183000 x183001 x183002 x183003 x183004 bt197.1 bt209.1 bt221.1)) else (live04.j1 k x2 x5 bt193.2 bt197.2 bt204.1 bt204.2 bt209.2 bt221.2.1 bt221.2.2 false x183000 x183001 x183002 x183003 x183004 bt197.1 bt209.1 bt221.1))) else (live04.j1 k x2 x5 bt193.2 bt197.2 bt204.1 bt204.2 bt209.2 bt221.2.1 bt221.2.2 false x183000 x183001 x183002 x183003 x183004 bt197.1 bt209.1 bt221.1))) else (live04.j1 k x2 x5 bt193.2 bt197.2 bt204.1 bt204.2 bt209.2 bt221.2.1 bt221.2.2 false x183000 x183001 x183002 x183003 x183004 bt197.1 bt209.1 bt221.1))) else (live04.j1 k x2 x5 bt193.2 bt197.2 bt204.1 bt204.2 bt209.2 bt221.2.1 bt221.2.2 false x183000 x183001 x183002 x183003 x183004 bt197.1 bt209.1 bt221.1))))))) else (none)))) else (none))
def live04.j1 : Nat → List (S24) → Int → Int → Int → List (S57) → Int → Int → Int → Int → Bool → List (S87) → List (S91) → List (S95) → List (S98) → List (S101) → List (S55) → List (S55) → List (S55) → Option (Bool)
  | 0, _, _, _, _, _, _, _, _, _, _, _, _, _, _, _, _, _, _ => none
  | k + 1, x2, x5, x7, x9, x10, x11, x13, x15, x16, x17, x183000, x183001, x183002, x183003, x183004, x202000, x214000, x227000 => (some (([(⟨0, 0⟩ : S55), (⟨0, 1⟩ : S55)] : List (S55)) : List (S55))).bind fun y232 => (if 1 < (x2.length : Int) then ((chalklineref04_Same.f k ((rd_T24 x2 1).f0) y232).bind fun t237 => (if t237 = true then ((chalklineref04_Same.f k x202000 y232).bind fun t238 => (if t238 = true then ((chalklineref04_Same.f k x214000 y232).bind fun t239 => (if t239 = true then ((chalklineref04_Same.f k x227000 y232).bind fun t240 => (if x17 = true then (if t240 = true then (if x5 = 2 then (if x7 = 0 then (if x9 = 0 then (if x11 = 0 then (if x13 = 0 then (if x16 = 0 then (if x15 = 6 then (if (x10.length : Int) = 1 then (if 0 < (x10.length : Int) then (if (((rd_T57 x10 0).f0) == 1 && ((((rd_T57 x10 0).f1.f0) == 0 && (((rd_T57 x10 0).f1.f1) == 1)))) = true then ((week_Check.f x183000 x183001 x183002 x183003 x183004 y232).bind fun t242 => (if t242 = 0 then ((week_Check.f x183000 x183001 x183002 x183003 x183004 ([] : List (S55))).bind fun t243 => (some (t243 == 40))) else (some false))) else (some false)) else (none)) else (some false)) else (some false)) else (some false)) else (some false)) else (some false)) else (some false)) else (some false)) else (some false)) else (some false)) else (some false))) else (if x17 = true then (some false) else (some false)))) else (if x17 = true then (some false) else (some false)))) else (if x17 = true then (some false) else (some false)))) else (none))
end
def live04.f (k : Nat)  : Option (Bool) := (chalklinelaw04_two.f).bind fun bt167 => ((week_All.f bt167.1 bt167.2.1 bt167.2.2.1 bt167.2.2.2.1 bt167.2.2.2.2 16).bind fun bt183 => ((week_All.f bt167.1 bt167.2.1 bt167.2.2.1 bt167.2.2.2.1 bt167.2.2.2.2 15).bind fun bt187 => ((school_Check.f bt167.1 bt167.2.1 bt167.2.2.1 bt167.2.2.2.1 bt167.2.2.2.2).bind fun t191 => (if t191 = 0 then (if bt183.2 = 0 then (live04.j0 k bt183.1 bt187.2 ((bt183.1.length : Int) != 16) bt167.1 bt167.2.1 bt167.2.2.1 bt167.2.2.2.1 bt167.2.2.2.2) else (live04.j0 k bt183.1 bt187.2 true bt167.1 bt167.2.1 bt167.2.2.1 bt167.2.2.2.1 bt167.2.2.2.2)) else (live04.j0 k bt183.1 bt187.2 true bt167.1 bt167.2.1 bt167.2.2.1 bt167.2.2.2.1 bt167.2.2.2.2)))))
def live04.T6 : Bool × List (List Nat × List Nat) := (true, [([], []), ([], []), ([1], [1]), ([2], [2]), ([0, 3], [0, 3]), ([4], [4]), ([5], [5]), ([5], [5]), ([6, 4, 0, 1, 2, 3, 4, 5, 6], [6]), ([7, 8, 0, 1, 2, 3, 4, 5, 6, 7, 8], [7])])
def live04.B6 : List Nat := [0, 0, 2, 6, 15, 31, 63, 63, 127, 511]
theorem live04.tab6 : rtab .any (opsOf Tryd.f9 6) = live04.T6 := by kernel_rfl
theorem live04.bits6 : waitsOk live04.T6.2 live04.B6 = true := by kernel_rfl
def live04.T8 : Bool × List (List Nat × List Nat) := (true, [([], []), ([0], [0]), ([1], [1]), ([], []), ([3], [3]), ([4], [4]), ([2, 5], [2, 5]), ([6], [6]), ([7], [7]), ([7], [7]), ([8, 6, 0, 1, 2, 3, 4, 5, 6, 7, 8], [8]), ([9, 10, 0, 1, 2, 3, 4, 5, 6, 7, 8, 9, 10], [9])])
def live04.B8 : List Nat := [0, 1, 3, 0, 8, 24, 63, 127, 255, 255, 511, 2047]
theorem live04.tab8 : rtab .any (opsOf Tryd.f9 8) = live04.T8 := by kernel_rfl
theorem live04.bits8 : waitsOk live04.T8.2 live04.B8 = true := by kernel_rfl
def live04.T13 : Bool × List (List Nat × List Nat) := (true, [([], []), ([0], [0]), ([1], [1]), ([], []), ([2, 3], [2, 3]), ([4, 4], [4]), ([5], [5]), ([5], [5]), ([6, 7, 5, 5], [5, 6, 7]), ([5, 8], [5, 8]), ([9, 8], [9]), ([10], [10]), ([10], [10]), ([11, 12, 10, 10], [10, 11, 12]), ([10, 13], [10, 13]), ([14, 13], [14]), ([15], [15]), ([15], [15]), ([16, 17, 15, 15], [15, 16, 17]), ([15, 18], [15, 18]), ([19, 18, 0, 1, 2, 3, 4, 5, 6, 7, 8, 9, 10, 11, 12, 13, 14, 15, 16, 17, 18, 19], [19])])
def live04.B13 : List Nat := [0, 1, 3, 0, 15, 31, 63, 63, 255, 511, 1023, 2047, 2047, 8191, 16383, 32767, 65535, 65535, 262143, 524287, 1048575]
theorem live04.tab13 : rtab .any (opsOf Tryd.f9 13) = live04.T13 := by kernel_rfl
theorem live04.bits13 : waitsOk live04.T13.2 live04.B13 = true := by kernel_rfl
theorem live_dead {o : Option Bool} {r : Bool} {Q : Prop} (hr : r = true) (h : o = some r) (hd : o ≠ some true) : Q := (hd (hr ▸ h)).elim
theorem live04.j0t (k : Nat) (x2 : List S24) (x5 : Int) (a b c d e) : live04.j0 k x2 x5 true a b c d e ≠ some true := by
  intro h
  cases k with
  | zero => cases h
  | succ k =>
    rw [live04.j0, if_pos rfl] at h
    cases h
set_option maxHeartbeats 8000000 in
set_option maxRecDepth 100000 in
theorem live04.j1f (k : Nat) (x2 : List S24) (x5 x7 x9 : Int) (x10 : List S57) (x11 x13 x15 x16 : Int) (a b c d e f g h) : live04.j1 k x2 x5 x7 x9 x10 x11 x13 x15 x16 false a b c d e f g h ≠ some true := by
  intro hh
  cases k with
  | zero => simp [live04.j1] at hh
  | succ k =>
    simp only [live04.j1] at hh
    rw [Option.bind_some] at hh
    by_cases h1 : 1 < (x2.length : Int)
    rotate_left
    · rw [if_neg h1] at hh
      cases hh
    rw [if_pos h1] at hh
    obtain ⟨t1, _, hh⟩ := Option.bind_eq_some_iff.1 hh
    by_cases e1 : t1 = true
    rotate_left
    · rw [if_neg e1, if_neg (show ¬ (false = true) by decide)] at hh
      cases hh
    rw [if_pos e1] at hh
    obtain ⟨t2, _, hh⟩ := Option.bind_eq_some_iff.1 hh
    by_cases e2 : t2 = true
    rotate_left
    · rw [if_neg e2, if_neg (show ¬ (false = true) by decide)] at hh
      cases hh
    rw [if_pos e2] at hh
    obtain ⟨t3, _, hh⟩ := Option.bind_eq_some_iff.1 hh
    by_cases e3 : t3 = true
    rotate_left
    · rw [if_neg e3, if_neg (show ¬ (false = true) by decide)] at hh
      cases hh
    rw [if_pos e3] at hh
    obtain ⟨t4, _, hh⟩ := Option.bind_eq_some_iff.1 hh
    rw [if_neg (show ¬ (false = true) by decide)] at hh
    cases hh
set_option maxHeartbeats 8000000 in
set_option maxRecDepth 100000 in
theorem live04.calls (k : Nat) (r : Bool) (hrt : r = true) (w : World) (hV : VOk w) (h : live04.f k  = some r) :
    Calls Tryd.prog 9 #[] w fun e w' => e = .returned (.bool r) ∧ Below w.heap.size w w' := by
  have HV := Aside0.mk hV
  clear hV
  have HRT := Aside0.mk hrt
  clear hrt
  have hu45 := Tryd.underlying45
  have hu24 := Tryd.underlying24
  have hu55 := Tryd.underlying55
  have hu57 := Tryd.underlying57
  have HB := Aside0.mk (Below.refl w.heap.size w)
  have H : ((chalklinelaw04_two.f).bind fun bt167 => ((week_All.f bt167.1 bt167.2.1 bt167.2.2.1 bt167.2.2.2.1 bt167.2.2.2.2 16).bind fun bt183 => ((week_All.f bt167.1 bt167.2.1 bt167.2.2.1 bt167.2.2.2.1 bt167.2.2.2.2 15).bind fun bt187 => ((school_Check.f bt167.1 bt167.2.1 bt167.2.2.1 bt167.2.2.2.1 bt167.2.2.2.2).bind fun t191 => (if t191 = 0 then (if bt183.2 = 0 then (live04.j0 k bt183.1 bt187.2 ((bt183.1.length : Int) != 16) bt167.1 bt167.2.1 bt167.2.2.1 bt167.2.2.2.1 bt167.2.2.2.2) else (live04.j0 k bt183.1 bt187.2 true bt167.1 bt167.2.1 bt167.2.2.1 bt167.2.2.2.1 bt167.2.2.2.2)) else (live04.j0 k bt183.1 bt187.2 true bt167.1 bt167.2.1 bt167.2.2.1 bt167.2.2.2.1 bt167.2.2.2.2)))))) = some r := h
  clear h
  replace H := Option.bind_eq_some_iff.mp H
  obtain ⟨⟨t167, t170, t173, t176, t179⟩, A10, H⟩ := H
  replace H : ((week_All.f t167 t170 t173 t176 t179 16).bind fun bt183 => ((week_All.f t167 t170 t173 t176 t179 15).bind fun bt187 => ((school_Check.f t167 t170 t173 t176 t179).bind fun t191 => (if t191 = 0 then (if bt183.2 = 0 then (live04.j0 k bt183.1 bt187.2 ((bt183.1.length : Int) != 16) t167 t170 t173 t176 t179) else (live04.j0 k bt183.1 bt187.2 true t167 t170 t173 t176 t179)) else (live04.j0 k bt183.1 bt187.2 true t167 t170 t173 t176 t179))))) = some r := H
  have A1 := Aside0.mk A10
  clear A10
  replace H := Option.bind_eq_some_iff.mp H
  obtain ⟨⟨t183, t186⟩, A20, H⟩ := H
  replace H : ((week_All.f t167 t170 t173 t176 t179 15).bind fun bt187 => ((school_Check.f t167 t170 t173 t176 t179).bind fun t191 => (if t191 = 0 then (if t186 = 0 then (live04.j0 k t183 bt187.2 ((t183.length : Int) != 16) t167 t170 t173 t176 t179) else (live04.j0 k t183 bt187.2 true t167 t170 t173 t176 t179)) else (live04.j0 k t183 bt187.2 true t167 t170 t173 t176 t179)))) = some r := H
  have A2 := Aside0.mk A20
  clear A20
  replace H := Option.bind_eq_some_iff.mp H
  obtain ⟨⟨t187, t190⟩, A30, H⟩ := H
  replace H : ((school_Check.f t167 t170 t173 t176 t179).bind fun t191 => (if t191 = 0 then (if t186 = 0 then (live04.j0 k t183 t190 ((t183.length : Int) != 16) t167 t170 t173 t176 t179) else (live04.j0 k t183 t190 true t167 t170 t173 t176 t179)) else (live04.j0 k t183 t190 true t167 t170 t173 t176 t179))) = some r := H
  have A3 := Aside0.mk A30
  clear A30
  have HC4 := Aside0.mk H
  clear H
  go_enter Tryd.func9, Tryd.ntmps9
  go_upto_region 4 with (first | ((with_reducible refine gate_callee (f := 31) rfl ?_); refine goesL_ (some 20) rfl rfl Tryd.func31 (by kernel_rfl) rfl #[] rfl (by (try simp only [List.map_toArray, List.map_cons, List.map_nil]); first | done | rfl | (simp only [List.length_drop, List.length_take]; rfl)) ?_; (with_reducible refine (chalklinelaw04_two.calls  t167 t170 t173 t176 t179 _ A1.out).mono ?_); rintro e w5 ⟨v168, v171, v174, v177, v180, rfl, ho0, ho1, ho2, ho3, ho4, hb⟩; refine ⟨_, rfl, ?_⟩; have n0_ := Aside0.mk (Kd.R_lower ho0 (below_size (b_ HB))); have n1_ := Aside0.mk (Kd.S_lower ho1 (below_size (b_ HB))); have n2_ := Aside0.mk (Kd.S_lower ho2 (below_size (b_ HB))); have n3_ := Aside0.mk (Kd.R_lower ho3 (below_size (b_ HB))); have n4_ := Aside0.mk (Kd.S_lower ho4 (below_size (b_ HB))); have n5_ := Aside0.mk (below_step (b_ HB) hb); clear HB; have HO169 := n0_; have HO172 := n1_; have HO175 := n2_; have HO178 := n3_; have HO181 := n4_; have HB := n5_; clear n0_ n1_ n2_ n3_ n4_ n5_; (try clear hb); (try clear hb2); (try clear hk); (try clear hi); (try clear ho0); (try clear ho1); (try clear ho2); (try clear ho3); (try clear ho4)) | ((with_reducible refine gate_dst (N := 1) rfl ?_); (try (refine gate_guard (by rfl) ?_; dsimp only)); refine box_event ?hg (N := 1) ?hd (cs := #[.slice none 0 0, .slice none 0 0, .slice none 0 0, .slice none 0 0, .slice none 0 0]) (t := 45) ?hr ?_; (case hd => rfl); (case hg => rfl); (case hr => first | (go_simp; done) | (go_simp; rfl)); intro gb182 hg w6 hbox hb; have n0_ := Aside0.mk (Kd.R_below (r_ HO169) hb); have n1_ := Aside0.mk (Kd.S_below (s_ HO172) hb); have n2_ := Aside0.mk (Kd.S_below (s_ HO175) hb); have n3_ := Aside0.mk (Kd.R_below (r_ HO178) hb); have n4_ := Aside0.mk (Kd.S_below (s_ HO181) hb); have n5_ := Aside0.mk (below_step (b_ HB) hb); have n6_ := Aside0.mk (hbox); have n7_ := Aside0.mk ((by rw [hg]; exact (below_size (b_ HB)) : w.heap.size ≤ gb182)); have n8_ := n7_; clear HO169; clear HO172; clear HO175; clear HO178; clear HO181; clear HB; have HO169 := n0_; have HO172 := n1_; have HO175 := n2_; have HO178 := n3_; have HO181 := n4_; have HB := n5_; have BK182 := n6_; have GW182 := n7_; have GE182 := n8_; clear n0_ n1_ n2_ n3_ n4_ n5_ n6_ n7_ n8_; clear hb hbox hg; obtain ⟨Ao7, co7, eo7⟩ := Kd.R_slice HO169.out; subst eo7; have hcz8_0 : w6.cell? ⟨gb182, 0, none⟩ = some (.slice none 0 0) := (blk_cell BK182.out 0).trans rfl; have hcz8_1 : w6.cell? ⟨gb182, 1, none⟩ = some (.slice none 0 0) := (blk_cell BK182.out 1).trans rfl; have hcz8_2 : w6.cell? ⟨gb182, 2, none⟩ = some (.slice none 0 0) := (blk_cell BK182.out 2).trans rfl; have hcz8_3 : w6.cell? ⟨gb182, 3, none⟩ = some (.slice none 0 0) := (blk_cell BK182.out 3).trans rfl; have hcz8_4 : w6.cell? ⟨gb182, 4, none⟩ = some (.slice none 0 0) := (blk_cell BK182.out 4).trans rfl; have hfz8_0 := blk_frozen BK182.out 0; have hfz8_1 := blk_frozen BK182.out 1; have hfz8_2 := blk_frozen BK182.out 2; have hfz8_3 := blk_frozen BK182.out 3; have hfz8_4 := blk_frozen BK182.out 4; obtain ⟨Ao9, co9, eo9⟩ := Kd.S_slice HO172.out; subst eo9; obtain ⟨Ao10, co10, eo10⟩ := Kd.S_slice HO175.out; subst eo10; obtain ⟨Ao11, co11, eo11⟩ := Kd.R_slice HO178.out; subst eo11; obtain ⟨Ao12, co12, eo12⟩ := Kd.S_slice HO181.out; subst eo12) | ((with_reducible refine gate_callee (f := 27) rfl ?_); refine goesL_ (some 23) rfl rfl Tryd.func27 (by kernel_rfl) rfl #[.agg #[.slice Ao7 t167.length co7, .slice Ao9 t170.length co9, .slice Ao10 t173.length co10, .slice Ao11 t176.length co11, .slice Ao12 t179.length co12], .int .i64 16] rfl (by (try simp only [List.map_toArray, List.map_cons, List.map_nil]); first | done | rfl | (simp only [List.length_drop, List.length_take]; rfl)) ?_; (with_reducible refine (week_All.calls _ _ t167 _ _ t170 _ _ t173 _ _ t176 _ _ t179 16 t183 t186 _ ?side1 ?side2 ?side3 ?side4 ?side5 ?side6 ?side7 ?side8 ?side9 ?side10 ?sideV A2.out).mono ?_); (case sideV => exact VOk.below HV.out (b_ HB)); (case side1 => refine (Kd.R_reads' (e := 87) (base := w.heap.size) (ok := fun k_ => True) (n := t167.length) (c := co7) ?_).2.2; exact (by (with_reducible repeat (first | apply Kd.R_alloc | apply Kd.R_drewN | apply Kd.R_drew)); exact (Kd.R_mono (Kd.R_far (p := ⟨gb182, 4, none⟩) (Kd.R_far (p := ⟨gb182, 3, none⟩) (Kd.R_far (p := ⟨gb182, 2, none⟩) (Kd.R_far (p := ⟨gb182, 1, none⟩) (Kd.R_far (p := ⟨gb182, 0, none⟩) (Kd.R_types HO169.out BK182.out (by decide)) (fun _ hk => hk.2) (.slice Ao7 t167.length co7)) (fun _ hk => hk.2) (.slice Ao9 t170.length co9)) (fun _ hk => hk.2) (.slice Ao10 t173.length co10)) (fun _ hk => hk.2) (.slice Ao11 t176.length co11)) (fun _ hk => hk.2) (.slice Ao12 t179.length co12)) (fun _ h_ => h_.1)))); (case side2 => exact (Kd.R_reads' HO169.out).2.1); (case side3 => refine (Kd.S_reads' (e := 91) (base := w.heap.size) (ok := fun k_ => True) (n := t170.length) (c := co9) ?_).2.2; exact (by (with_reducible repeat (first | apply Kd.S_alloc | apply Kd.S_drewN | apply Kd.S_drew)); exact (Kd.S_mono (Kd.S_far (p := ⟨gb182, 4, none⟩) (Kd.S_far (p := ⟨gb182, 3, none⟩) (Kd.S_far (p := ⟨gb182, 2, none⟩) (Kd.S_far (p := ⟨gb182, 1, none⟩) (Kd.S_far (p := ⟨gb182, 0, none⟩) (Kd.S_types HO172.out BK182.out (by decide)) (fun _ hk => hk.2) (.slice Ao7 t167.length co7)) (fun _ hk => hk.2) (.slice Ao9 t170.length co9)) (fun _ hk => hk.2) (.slice Ao10 t173.length co10)) (fun _ hk => hk.2) (.slice Ao11 t176.length co11)) (fun _ hk => hk.2) (.slice Ao12 t179.length co12)) (fun _ h_ => h_.1)))); (case side4 => exact (Kd.S_reads' HO172.out).2.1); (case side5 => refine (Kd.S_reads' (e := 95) (base := w.heap.size) (ok := fun k_ => True) (n := t173.length) (c := co10) ?_).2.2; exact (by (with_reducible repeat (first | apply Kd.S_alloc | apply Kd.S_drewN | apply Kd.S_drew)); exact (Kd.S_mono (Kd.S_far (p := ⟨gb182, 4, none⟩) (Kd.S_far (p := ⟨gb182, 3, none⟩) (Kd.S_far (p := ⟨gb182, 2, none⟩) (Kd.S_far (p := ⟨gb182, 1, none⟩) (Kd.S_far (p := ⟨gb182, 0, none⟩) (Kd.S_types HO175.out BK182.out (by decide)) (fun _ hk => hk.2) (.slice Ao7 t167.length co7)) (fun _ hk => hk.2) (.slice Ao9 t170.length co9)) (fun _ hk => hk.2) (.slice Ao10 t173.length co10)) (fun _ hk => hk.2) (.slice Ao11 t176.length co11)) (fun _ hk => hk.2) (.slice Ao12 t179.length co12)) (fun _ h_ => h_.1)))); (case side6 => exact (Kd.S_reads' HO175.out).2.1); (case side7 => refine (Kd.R_reads' (e := 98) (base := w.heap.size) (ok := fun k_ => True) (n := t176.length) (c := co11) ?_).2.2; exact (by (with_reducible repeat (first | apply Kd.R_alloc | apply Kd.R_drewN | apply Kd.R_drew)); exact (Kd.R_mono (Kd.R_far (p := ⟨gb182, 4, none⟩) (Kd.R_far (p := ⟨gb182, 3, none⟩) (Kd.R_far (p := ⟨gb182, 2, none⟩) (Kd.R_far (p := ⟨gb182, 1, none⟩) (Kd.R_far (p := ⟨gb182, 0, none⟩) (Kd.R_types HO178.out BK182.out (by decide)) (fun _ hk => hk.2) (.slice Ao7 t167.length co7)) (fun _ hk => hk.2) (.slice Ao9 t170.length co9)) (fun _ hk => hk.2) (.slice Ao10 t173.length co10)) (fun _ hk => hk.2) (.slice Ao11 t176.length co11)) (fun _ hk => hk.2) (.slice Ao12 t179.length co12)) (fun _ h_ => h_.1)))); (case side8 => exact (Kd.R_reads' HO178.out).2.1); (case side9 => refine (Kd.S_reads' (e := 101) (base := w.heap.size) (ok := fun k_ => True) (n := t179.length) (c := co12) ?_).2.2; exact (by (with_reducible repeat (first | apply Kd.S_alloc | apply Kd.S_drewN | apply Kd.S_drew)); exact (Kd.S_mono (Kd.S_far (p := ⟨gb182, 4, none⟩) (Kd.S_far (p := ⟨gb182, 3, none⟩) (Kd.S_far (p := ⟨gb182, 2, none⟩) (Kd.S_far (p := ⟨gb182, 1, none⟩) (Kd.S_far (p := ⟨gb182, 0, none⟩) (Kd.S_types HO181.out BK182.out (by decide)) (fun _ hk => hk.2) (.slice Ao7 t167.length co7)) (fun _ hk => hk.2) (.slice Ao9 t170.length co9)) (fun _ hk => hk.2) (.slice Ao10 t173.length co10)) (fun _ hk => hk.2) (.slice Ao11 t176.length co11)) (fun _ hk => hk.2) (.slice Ao12 t179.length co12)) (fun _ h_ => h_.1)))); (case side10 => exact (Kd.S_reads' HO181.out).2.1); rintro e w13 ⟨v184, rfl, ho0, hb⟩; refine ⟨_, rfl, ?_⟩; have n0_ := Aside0.mk (Kd.R_below (by (with_reducible repeat (first | apply Kd.R_alloc | apply Kd.R_drewN | apply Kd.R_drew)); exact (Kd.R_mono (Kd.R_far (p := ⟨gb182, 4, none⟩) (Kd.R_far (p := ⟨gb182, 3, none⟩) (Kd.R_far (p := ⟨gb182, 2, none⟩) (Kd.R_far (p := ⟨gb182, 1, none⟩) (Kd.R_far (p := ⟨gb182, 0, none⟩) (Kd.R_types HO169.out BK182.out (by decide)) (fun _ hk => hk.2) (.slice Ao7 t167.length co7)) (fun _ hk => hk.2) (.slice Ao9 t170.length co9)) (fun _ hk => hk.2) (.slice Ao10 t173.length co10)) (fun _ hk => hk.2) (.slice Ao11 t176.length co11)) (fun _ hk => hk.2) (.slice Ao12 t179.length co12)) (fun _ h_ => h_.1))) hb); have n1_ := Aside0.mk (Kd.S_below (by (with_reducible repeat (first | apply Kd.S_alloc | apply Kd.S_drewN | apply Kd.S_drew)); exact (Kd.S_mono (Kd.S_far (p := ⟨gb182, 4, none⟩) (Kd.S_far (p := ⟨gb182, 3, none⟩) (Kd.S_far (p := ⟨gb182, 2, none⟩) (Kd.S_far (p := ⟨gb182, 1, none⟩) (Kd.S_far (p := ⟨gb182, 0, none⟩) (Kd.S_types HO172.out BK182.out (by decide)) (fun _ hk => hk.2) (.slice Ao7 t167.length co7)) (fun _ hk => hk.2) (.slice Ao9 t170.length co9)) (fun _ hk => hk.2) (.slice Ao10 t173.length co10)) (fun _ hk => hk.2) (.slice Ao11 t176.length co11)) (fun _ hk => hk.2) (.slice Ao12 t179.length co12)) (fun _ h_ => h_.1))) hb); have n2_ := Aside0.mk (Kd.S_below (by (with_reducible repeat (first | apply Kd.S_alloc | apply Kd.S_drewN | apply Kd.S_drew)); exact (Kd.S_mono (Kd.S_far (p := ⟨gb182, 4, none⟩) (Kd.S_far (p := ⟨gb182, 3, none⟩) (Kd.S_far (p := ⟨gb182, 2, none⟩) (Kd.S_far (p := ⟨gb182, 1, none⟩) (Kd.S_far (p := ⟨gb182, 0, none⟩) (Kd.S_types HO175.out BK182.out (by decide)) (fun _ hk => hk.2) (.slice Ao7 t167.length co7)) (fun _ hk => hk.2) (.slice Ao9 t170.length co9)) (fun _ hk => hk.2) (.slice Ao10 t173.length co10)) (fun _ hk => hk.2) (.slice Ao11 t176.length co11)) (fun _ hk => hk.2) (.slice Ao12 t179.length co12)) (fun _ h_ => h_.1))) hb); have n3_ := Aside0.mk (Kd.R_below (by (with_reducible repeat (first | apply Kd.R_alloc | apply Kd.R_drewN | apply Kd.R_drew)); exact (Kd.R_mono (Kd.R_far (p := ⟨gb182, 4, none⟩) (Kd.R_far (p := ⟨gb182, 3, none⟩) (Kd.R_far (p := ⟨gb182, 2, none⟩) (Kd.R_far (p := ⟨gb182, 1, none⟩) (Kd.R_far (p := ⟨gb182, 0, none⟩) (Kd.R_types HO178.out BK182.out (by decide)) (fun _ hk => hk.2) (.slice Ao7 t167.length co7)) (fun _ hk => hk.2) (.slice Ao9 t170.length co9)) (fun _ hk => hk.2) (.slice Ao10 t173.length co10)) (fun _ hk => hk.2) (.slice Ao11 t176.length co11)) (fun _ hk => hk.2) (.slice Ao12 t179.length co12)) (fun _ h_ => h_.1))) hb); have n4_ := Aside0.mk (Kd.S_below (by (with_reducible repeat (first | apply Kd.S_alloc | apply Kd.S_drewN | apply Kd.S_drew)); exact (Kd.S_mono (Kd.S_far (p := ⟨gb182, 4, none⟩) (Kd.S_far (p := ⟨gb182, 3, none⟩) (Kd.S_far (p := ⟨gb182, 2, none⟩) (Kd.S_far (p := ⟨gb182, 1, none⟩) (Kd.S_far (p := ⟨gb182, 0, none⟩) (Kd.S_types HO181.out BK182.out (by decide)) (fun _ hk => hk.2) (.slice Ao7 t167.length co7)) (fun _ hk => hk.2) (.slice Ao9 t170.length co9)) (fun _ hk => hk.2) (.slice Ao10 t173.length co10)) (fun _ hk => hk.2) (.slice Ao11 t176.length co11)) (fun _ hk => hk.2) (.slice Ao12 t179.length co12)) (fun _ h_ => h_.1))) hb); have n5_ := Aside0.mk (Kd.S_lower ho0 (below_size (b_ HB))); have n6_ := Aside0.mk (blk_below (g := gb182) (o := .cells #[.slice Ao7 t167.length co7, .slice Ao9 t170.length co9, .slice Ao10 t173.length co10, .slice Ao11 t176.length co11, .slice Ao12 t179.length co12] 45 (0, 0)) (by (with_reducible repeat (first | refine blk_drewN ?_ _ | refine blk_drew ?_ | refine blk_alloc ?_ _)); refine blk_put (cs := #[.slice Ao7 t167.length co7, .slice Ao9 t170.length co9, .slice Ao10 t173.length co10, .slice Ao11 t176.length co11, .slice none 0 0]) ?_ 4 _ rfl; (with_reducible repeat (first | refine blk_drewN ?_ _ | refine blk_drew ?_ | refine blk_alloc ?_ _)); refine blk_put (cs := #[.slice Ao7 t167.length co7, .slice Ao9 t170.length co9, .slice Ao10 t173.length co10, .slice none 0 0, .slice none 0 0]) ?_ 3 _ rfl; (with_reducible repeat (first | refine blk_drewN ?_ _ | refine blk_drew ?_ | refine blk_alloc ?_ _)); refine blk_put (cs := #[.slice Ao7 t167.length co7, .slice Ao9 t170.length co9, .slice none 0 0, .slice none 0 0, .slice none 0 0]) ?_ 2 _ rfl; (with_reducible repeat (first | refine blk_drewN ?_ _ | refine blk_drew ?_ | refine blk_alloc ?_ _)); refine blk_put (cs := #[.slice Ao7 t167.length co7, .slice none 0 0, .slice none 0 0, .slice none 0 0, .slice none 0 0]) ?_ 1 _ rfl; (with_reducible repeat (first | refine blk_drewN ?_ _ | refine blk_drew ?_ | refine blk_alloc ?_ _)); refine blk_put (cs := #[.slice none 0 0, .slice none 0 0, .slice none 0 0, .slice none 0 0, .slice none 0 0]) ?_ 0 _ rfl; (with_reducible repeat (first | refine blk_drewN ?_ _ | refine blk_drew ?_ | refine blk_alloc ?_ _)); exact BK182.out) hb); have n7_ := Aside0.mk (below_step (b_ HB) hb); clear HO169; clear HO172; clear HO175; clear HO178; clear HO181; clear BK182; clear HB; have HO169 := n0_; have HO172 := n1_; have HO175 := n2_; have HO178 := n3_; have HO181 := n4_; have HO185 := n5_; have BK182 := n6_; have HB := n7_; clear n0_ n1_ n2_ n3_ n4_ n5_ n6_ n7_; (try clear hb); (try clear hb2); (try clear hk); (try clear hi); (try clear ho0); have hcz14_0 : w13.cell? ⟨gb182, 0, none⟩ = some (.slice Ao7 t167.length co7) := (blk_cell BK182.out 0).trans rfl; have hcz14_1 : w13.cell? ⟨gb182, 1, none⟩ = some (.slice Ao9 t170.length co9) := (blk_cell BK182.out 1).trans rfl; have hcz14_2 : w13.cell? ⟨gb182, 2, none⟩ = some (.slice Ao10 t173.length co10) := (blk_cell BK182.out 2).trans rfl; have hcz14_3 : w13.cell? ⟨gb182, 3, none⟩ = some (.slice Ao11 t176.length co11) := (blk_cell BK182.out 3).trans rfl; have hcz14_4 : w13.cell? ⟨gb182, 4, none⟩ = some (.slice Ao12 t179.length co12) := (blk_cell BK182.out 4).trans rfl; have hfz14_0 := blk_frozen BK182.out 0; have hfz14_1 := blk_frozen BK182.out 1; have hfz14_2 := blk_frozen BK182.out 2; have hfz14_3 := blk_frozen BK182.out 3; have hfz14_4 := blk_frozen BK182.out 4) | ((with_reducible refine gate_callee (f := 27) rfl ?_); refine goesL_ (some 28) rfl rfl Tryd.func27 (by kernel_rfl) rfl #[.agg #[.slice Ao7 t167.length co7, .slice Ao9 t170.length co9, .slice Ao10 t173.length co10, .slice Ao11 t176.length co11, .slice Ao12 t179.length co12], .int .i64 15] rfl (by (try simp only [List.map_toArray, List.map_cons, List.map_nil]); first | done | rfl | (simp only [List.length_drop, List.length_take]; rfl)) ?_; (with_reducible refine (week_All.calls _ _ t167 _ _ t170 _ _ t173 _ _ t176 _ _ t179 15 t187 t190 _ ?side1 ?side2 ?side3 ?side4 ?side5 ?side6 ?side7 ?side8 ?side9 ?side10 ?sideV A3.out).mono ?_); (case sideV => exact VOk.below HV.out (b_ HB)); (case side1 => repeat (first | exact (Kd.R_reads' HO169.out).2.2 | (with_reducible refine Kd.C_alloc ?_ _) | (with_reducible refine Kd.C_drewN ?_ _) | (with_reducible refine Kd.C_drew ?_))); (case side2 => exact (Kd.R_reads' HO169.out).2.1); (case side3 => repeat (first | exact (Kd.S_reads' HO172.out).2.2 | (with_reducible refine Kd.C_alloc ?_ _) | (with_reducible refine Kd.C_drewN ?_ _) | (with_reducible refine Kd.C_drew ?_))); (case side4 => exact (Kd.S_reads' HO172.out).2.1); (case side5 => repeat (first | exact (Kd.S_reads' HO175.out).2.2 | (with_reducible refine Kd.C_alloc ?_ _) | (with_reducible refine Kd.C_drewN ?_ _) | (with_reducible refine Kd.C_drew ?_))); (case side6 => exact (Kd.S_reads' HO175.out).2.1); (case side7 => repeat (first | exact (Kd.R_reads' HO178.out).2.2 | (with_reducible refine Kd.C_alloc ?_ _) | (with_reducible refine Kd.C_drewN ?_ _) | (with_reducible refine Kd.C_drew ?_))); (case side8 => exact (Kd.R_reads' HO178.out).2.1); (case side9 => repeat (first | exact (Kd.S_reads' HO181.out).2.2 | (with_reducible refine Kd.C_alloc ?_ _) | (with_reducible refine Kd.C_drewN ?_ _) | (with_reducible refine Kd.C_drew ?_))); (case side10 => exact (Kd.S_reads' HO181.out).2.1); rintro e w15 ⟨v188, rfl, ho0, hb⟩; refine ⟨_, rfl, ?_⟩; have n0_ := Aside0.mk (Kd.R_below (r_ HO169) hb); have n1_ := Aside0.mk (Kd.S_below (s_ HO172) hb); have n2_ := Aside0.mk (Kd.S_below (s_ HO175) hb); have n3_ := Aside0.mk (Kd.R_below (r_ HO178) hb); have n4_ := Aside0.mk (Kd.S_below (s_ HO181) hb); have n5_ := Aside0.mk (Kd.S_elder' (s_ HO185) (Kd.S_base ho0) hb); have n6_ := Aside0.mk (Kd.S_lower (Kd.S_new' ho0 (Kd.S_lt (s_ HO185))) (below_size (b_ HB))); have n7_ := Aside0.mk (blk_below (k_ BK182) hb); have n8_ := Aside0.mk (below_step (b_ HB) hb); clear HO169; clear HO172; clear HO175; clear HO178; clear HO181; clear HO185; clear BK182; clear HB; have HO169 := n0_; have HO172 := n1_; have HO175 := n2_; have HO178 := n3_; have HO181 := n4_; have HO185 := n5_; have HO189 := n6_; have BK182 := n7_; have HB := n8_; clear n0_ n1_ n2_ n3_ n4_ n5_ n6_ n7_ n8_; (try clear hb); (try clear hb2); (try clear hk); (try clear hi); (try clear ho0)))
  (try simp only [Act.put, List.setIfInBounds_toArray, List.set_cons_zero, List.set_cons_succ])
  go_cut [42] (fun v42 wc => ∃ (kq : Nat) (x42_3 : Bool), v42 = .bool x42_3 ∧ Aside0 (live04.j0 kq t183 t190 x42_3 t167 t170 t173 t176 t179 = some r) ∧ Aside0 (kq ≤ k) ∧ Aside0 (Kd.S k24 24 wc w.heap.size (fun _ => True) v184 t183) ∧ Aside0 (Kd.R k87 87 wc w.heap.size (fun _ => True) (.slice Ao7 t167.length co7) t167) ∧ Aside0 (Kd.S k91 91 wc w.heap.size (fun _ => True) (.slice Ao9 t170.length co9) t170) ∧ Aside0 (Kd.S k95 95 wc w.heap.size (fun _ => True) (.slice Ao10 t173.length co10) t173) ∧ Aside0 (Kd.R k98 98 wc w.heap.size (fun _ => True) (.slice Ao11 t176.length co11) t176) ∧ Aside0 (Kd.S k101 101 wc w.heap.size (fun _ => True) (.slice Ao12 t179.length co12) t179) ∧ Aside0 (wc.heap[gb182]? = some (.cells #[(.slice Ao7 t167.length co7), (.slice Ao9 t170.length co9), (.slice Ao10 t173.length co10), (.slice Ao11 t176.length co11), (.slice Ao12 t179.length co12)] 45 (0, 0))) ∧ Aside0 (Below w.heap.size w wc))
  case first =>
    have H := HC4.out
    clear HC4
    replace H := Option.bind_eq_some_iff.mp H
    obtain ⟨t191, A160, H⟩ := H
    replace H : (if t191 = 0 then (if t186 = 0 then (live04.j0 k t183 t190 ((t183.length : Int) != 16) t167 t170 t173 t176 t179) else (live04.j0 k t183 t190 true t167 t170 t173 t176 t179)) else (live04.j0 k t183 t190 true t167 t170 t173 t176 t179)) = some r := H
    have A16 := Aside0.mk A160
    clear A160
    by_cases c17 : t191 = 0
    rotate_left
    · (rw [if_neg c17] at H; exact live_dead HRT.out H (by first | (intro h; cases h; done) | (split <;> (intro h; cases h; done)) | exact live04.j0t _ _ _ _ _ _ _ _ | exact live04.j1f _ _ _ _ _ _ _ _ _ _ _ _ _ _ _ _ _ _))
    rw [if_pos c17] at H
    have c17b0 : (t191 == 0) = true := beq_iff_eq.mpr c17
    have c17b1 : (t191 != 0) = false := bne_eq_false_iff_eq.mpr c17
    clear c17
    (first | rw [c17b0] | (simp only [i64_w, i32_w]; rw [c17b0]) | skip)
    by_cases c18 : t186 = 0
    rotate_left
    · (rw [if_neg c18] at H; exact live_dead HRT.out H (by first | (intro h; cases h; done) | (split <;> (intro h; cases h; done)) | exact live04.j0t _ _ _ _ _ _ _ _ | exact live04.j1f _ _ _ _ _ _ _ _ _ _ _ _ _ _ _ _ _ _))
    rw [if_pos c18] at H
    have c18b0 : (t186 == 0) = true := beq_iff_eq.mpr c18
    have c18b1 : (t186 != 0) = false := bne_eq_false_iff_eq.mpr c18
    clear c18
    have H' := Aside0.mk H
    clear H
    have hcz19_0 : w15.cell? ⟨gb182, 0, none⟩ = some (.slice Ao7 t167.length co7) := (blk_cell BK182.out 0).trans rfl
    have hcz19_1 : w15.cell? ⟨gb182, 1, none⟩ = some (.slice Ao9 t170.length co9) := (blk_cell BK182.out 1).trans rfl
    have hcz19_2 : w15.cell? ⟨gb182, 2, none⟩ = some (.slice Ao10 t173.length co10) := (blk_cell BK182.out 2).trans rfl
    have hcz19_3 : w15.cell? ⟨gb182, 3, none⟩ = some (.slice Ao11 t176.length co11) := (blk_cell BK182.out 3).trans rfl
    have hcz19_4 : w15.cell? ⟨gb182, 4, none⟩ = some (.slice Ao12 t179.length co12) := (blk_cell BK182.out 4).trans rfl
    have hfz19_0 := blk_frozen BK182.out 0
    have hfz19_1 := blk_frozen BK182.out 1
    have hfz19_2 := blk_frozen BK182.out 2
    have hfz19_3 := blk_frozen BK182.out 3
    have hfz19_4 := blk_frozen BK182.out 4
    go_wp2_with (first | ((with_reducible refine gate_callee (f := 26) rfl ?_); refine goesL_ (some 32) rfl rfl Tryd.func26 (by kernel_rfl) rfl #[.agg #[.slice Ao7 t167.length co7, .slice Ao9 t170.length co9, .slice Ao10 t173.length co10, .slice Ao11 t176.length co11, .slice Ao12 t179.length co12]] rfl (by (try simp only [List.map_toArray, List.map_cons, List.map_nil]); first | done | rfl | (simp only [List.length_drop, List.length_take]; rfl)) ?_; (with_reducible refine (school_Check.calls _ _ t167 _ _ t170 _ _ t173 _ _ t176 _ _ t179 t191 _ ?side1 ?side2 ?side3 ?side4 ?side5 ?side6 ?side7 ?side8 ?side9 ?side10 ?sideV A16.out).mono ?_); (case sideV => exact VOk.below HV.out (b_ HB)); (case side1 => repeat (first | exact (Kd.R_reads' HO169.out).2.2 | (with_reducible refine Kd.C_alloc ?_ _) | (with_reducible refine Kd.C_drewN ?_ _) | (with_reducible refine Kd.C_drew ?_))); (case side2 => exact (Kd.R_reads' HO169.out).2.1); (case side3 => repeat (first | exact (Kd.S_reads' HO172.out).2.2 | (with_reducible refine Kd.C_alloc ?_ _) | (with_reducible refine Kd.C_drewN ?_ _) | (with_reducible refine Kd.C_drew ?_))); (case side4 => exact (Kd.S_reads' HO172.out).2.1); (case side5 => repeat (first | exact (Kd.S_reads' HO175.out).2.2 | (with_reducible refine Kd.C_alloc ?_ _) | (with_reducible refine Kd.C_drewN ?_ _) | (with_reducible refine Kd.C_drew ?_))); (case side6 => exact (Kd.S_reads' HO175.out).2.1); (case side7 => repeat (first | exact (Kd.R_reads' HO178.out).2.2 | (with_reducible refine Kd.C_alloc ?_ _) | (with_reducible refine Kd.C_drewN ?_ _) | (with_reducible refine Kd.C_drew ?_))); (case side8 => exact (Kd.R_reads' HO178.out).2.1); (case side9 => repeat (first | exact (Kd.S_reads' HO181.out).2.2 | (with_reducible refine Kd.C_alloc ?_ _) | (with_reducible refine Kd.C_drewN ?_ _) | (with_reducible refine Kd.C_drew ?_))); (case side10 => exact (Kd.S_reads' HO181.out).2.1); rintro e w20 ⟨rfl, hb⟩; refine ⟨_, rfl, ?_⟩; have n0_ := Aside0.mk (Kd.R_below (r_ HO169) hb); have n1_ := Aside0.mk (Kd.S_below (s_ HO172) hb); have n2_ := Aside0.mk (Kd.S_below (s_ HO175) hb); have n3_ := Aside0.mk (Kd.R_below (r_ HO178) hb); have n4_ := Aside0.mk (Kd.S_below (s_ HO181) hb); have n5_ := Aside0.mk (Kd.S_below (s_ HO185) hb); have n6_ := Aside0.mk (Kd.S_below (s_ HO189) hb); have n7_ := Aside0.mk (blk_below (k_ BK182) hb); have n8_ := Aside0.mk (below_step (b_ HB) hb); clear HO169; clear HO172; clear HO175; clear HO178; clear HO181; clear HO185; clear HO189; clear BK182; clear HB; have HO169 := n0_; have HO172 := n1_; have HO175 := n2_; have HO178 := n3_; have HO181 := n4_; have HO185 := n5_; have HO189 := n6_; have BK182 := n7_; have HB := n8_; clear n0_ n1_ n2_ n3_ n4_ n5_ n6_ n7_ n8_; (try clear hb); (try clear hb2); (try clear hk); (try clear hi); obtain ⟨Ao21, co21, eo21⟩ := Kd.S_slice HO185.out; subst eo21))
    go_meet
    case rel => exact ⟨_, (((t183.length : Int) != 16)), (by first | rfl | (simp; done) | (simp [*]; done)), H', ⟨by first | omega | exact Nat.le_refl _⟩, ⟨by (with_reducible repeat (first | apply Kd.S_alloc | apply Kd.S_drewN | apply Kd.S_drew)); exact Kd.S_mono HO185.out (fun _ hk => trivial)⟩, ⟨by (with_reducible repeat (first | apply Kd.R_alloc | apply Kd.R_drewN | apply Kd.R_drew)); exact HO169.out⟩, ⟨by (with_reducible repeat (first | apply Kd.S_alloc | apply Kd.S_drewN | apply Kd.S_drew)); exact HO172.out⟩, ⟨by (with_reducible repeat (first | apply Kd.S_alloc | apply Kd.S_drewN | apply Kd.S_drew)); exact HO175.out⟩, ⟨by (with_reducible repeat (first | apply Kd.R_alloc | apply Kd.R_drewN | apply Kd.R_drew)); exact HO178.out⟩, ⟨by (with_reducible repeat (first | apply Kd.S_alloc | apply Kd.S_drewN | apply Kd.S_drew)); exact HO181.out⟩, ⟨k_ BK182⟩, ⟨b_ HB⟩⟩
  case rest =>
    clear HC4
    (try clear hcz14_0); (try clear hcz14_1); (try clear hcz14_2); (try clear hcz14_3); (try clear hcz14_4); (try clear hcz8_0); (try clear hcz8_1); (try clear hcz8_2); (try clear hcz8_3); (try clear hcz8_4); (try clear hfz14_0); (try clear hfz14_1); (try clear hfz14_2); (try clear hfz14_3); (try clear hfz14_4); (try clear hfz8_0); (try clear hfz8_1); (try clear hfz8_2); (try clear hfz8_3); (try clear hfz8_4)
    obtain ⟨kq, x42_3, rfl, HA, HJ3, HO_2, HO_183000, HO_183001, HO_183002, HO_183003, HO_183004, BK182, HB⟩ := hcut
    cases kq with
    | zero => exact absurd HA.out (by simp [live04.j0])
    | succ kj3 =>
      have H := HA.out
      clear HA
      simp only [live04.j0] at H
      by_cases c26 : x42_3 = true
      · (rw [if_pos c26] at H; exact live_dead HRT.out H (by first | (intro h; cases h; done) | (split <;> (intro h; cases h; done)) | exact live04.j0t _ _ _ _ _ _ _ _ | exact live04.j1f _ _ _ _ _ _ _ _ _ _ _ _ _ _ _ _ _ _))
      replace c26 := Bool.eq_false_iff.mpr c26
      subst c26
      have H1 : (if 1 < (t183.length : Int) then ((week_True.f kj3 t167 t170 t173 t176 t179 ((rd_T24 t183 1).f0)).bind fun bt193 => ((week_Of.f t167 t170 t173 t176 t179 bt193.1).bind fun bt197 => (if 0 < (t183.length : Int) then ((week_Diff.f kj3 ((rd_T24 t183 0).f0) ((rd_T24 t183 1).f0)).bind fun bt204 => ((week_Apply.f kj3 ((rd_T24 t183 0).f0) bt204.1).bind fun bt209 => ((week_Put.f kj3 (([7] : List Int)) ((rd_T24 t183 1).f0)).bind fun t218 => ((week_Get.f t218 1).bind fun bt221 => ((week_Vars.f t167 t170 t173 t176 t179).bind fun t227 => (if t227 = 8 then ((week_At.f t167 t170 t173 t176 t179 1 0).bind fun t228 => (if t228 = 3 then ((week_In.f t167 t170 t173 t176 t179 0 1).bind fun t229 => (if t229 = 6 then ((week_At.f t167 t170 t173 t176 t179 2 0).bind fun t230 => (if t230 = 0 then ((week_In.f t167 t170 t173 t176 t179 0 2).bind fun t231 => (live04.j1 kj3 t183 t190 bt193.2 bt197.2 bt204.1 bt204.2 bt209.2 bt221.2.1 bt221.2.2 (t231 == 0) t167 t170 t173 t176 t179 bt197.1 bt209.1 bt221.1)) else (live04.j1 kj3 t183 t190 bt193.2 bt197.2 bt204.1 bt204.2 bt209.2 bt221.2.1 bt221.2.2 false t167 t170 t173 t176 t179 bt197.1 bt209.1 bt221.1))) else (live04.j1 kj3 t183 t190 bt193.2 bt197.2 bt204.1 bt204.2 bt209.2 bt221.2.1 bt221.2.2 false t167 t170 t173 t176 t179 bt197.1 bt209.1 bt221.1))) else (live04.j1 kj3 t183 t190 bt193.2 bt197.2 bt204.1 bt204.2 bt209.2 bt221.2.1 bt221.2.2 false t167 t170 t173 t176 t179 bt197.1 bt209.1 bt221.1))) else (live04.j1 kj3 t183 t190 bt193.2 bt197.2 bt204.1 bt204.2 bt209.2 bt221.2.1 bt221.2.2 false t167 t170 t173 t176 t179 bt197.1 bt209.1 bt221.1))))))) else (none)))) else (none)) = some r := by rw [if_neg (show ¬ (false = true) by decide)] at H; exact H
      clear H
      have H := H1
      clear H1
      by_cases c27 : 1 < (t183.length : Int)
      rotate_left
      · (rw [if_neg c27] at H; exact live_dead HRT.out H (by first | (intro h; cases h; done) | (split <;> (intro h; cases h; done)) | exact live04.j0t _ _ _ _ _ _ _ _ | exact live04.j1f _ _ _ _ _ _ _ _ _ _ _ _ _ _ _ _ _ _))
      rw [if_pos c27] at H
      have c27b0 : decide (1 < (t183.length : Int)) = true := decide_eq_true c27
      have c27b1 : decide (1 < t183.length) = true := decide_eq_true (by omega)
      clear c27
      replace H := Option.bind_eq_some_iff.mp H
      obtain ⟨⟨t193, t196⟩, A280, H⟩ := H
      replace H : ((week_Of.f t167 t170 t173 t176 t179 t193).bind fun bt197 => (if 0 < (t183.length : Int) then ((week_Diff.f kj3 ((rd_T24 t183 0).f0) ((rd_T24 t183 1).f0)).bind fun bt204 => ((week_Apply.f kj3 ((rd_T24 t183 0).f0) bt204.1).bind fun bt209 => ((week_Put.f kj3 (([7] : List Int)) ((rd_T24 t183 1).f0)).bind fun t218 => ((week_Get.f t218 1).bind fun bt221 => ((week_Vars.f t167 t170 t173 t176 t179).bind fun t227 => (if t227 = 8 then ((week_At.f t167 t170 t173 t176 t179 1 0).bind fun t228 => (if t228 = 3 then ((week_In.f t167 t170 t173 t176 t179 0 1).bind fun t229 => (if t229 = 6 then ((week_At.f t167 t170 t173 t176 t179 2 0).bind fun t230 => (if t230 = 0 then ((week_In.f t167 t170 t173 t176 t179 0 2).bind fun t231 => (live04.j1 kj3 t183 t190 t196 bt197.2 bt204.1 bt204.2 bt209.2 bt221.2.1 bt221.2.2 (t231 == 0) t167 t170 t173 t176 t179 bt197.1 bt209.1 bt221.1)) else (live04.j1 kj3 t183 t190 t196 bt197.2 bt204.1 bt204.2 bt209.2 bt221.2.1 bt221.2.2 false t167 t170 t173 t176 t179 bt197.1 bt209.1 bt221.1))) else (live04.j1 kj3 t183 t190 t196 bt197.2 bt204.1 bt204.2 bt209.2 bt221.2.1 bt221.2.2 false t167 t170 t173 t176 t179 bt197.1 bt209.1 bt221.1))) else (live04.j1 kj3 t183 t190 t196 bt197.2 bt204.1 bt204.2 bt209.2 bt221.2.1 bt221.2.2 false t167 t170 t173 t176 t179 bt197.1 bt209.1 bt221.1))) else (live04.j1 kj3 t183 t190 t196 bt197.2 bt204.1 bt204.2 bt209.2 bt221.2.1 bt221.2.2 false t167 t170 t173 t176 t179 bt197.1 bt209.1 bt221.1))))))) else (none))) = some r := H
      have A28 := Aside0.mk A280
      clear A280
      replace H := Option.bind_eq_some_iff.mp H
      obtain ⟨⟨t197, t200⟩, A290, H⟩ := H
      replace H : (if 0 < (t183.length : Int) then ((week_Diff.f kj3 ((rd_T24 t183 0).f0) ((rd_T24 t183 1).f0)).bind fun bt204 => ((week_Apply.f kj3 ((rd_T24 t183 0).f0) bt204.1).bind fun bt209 => ((week_Put.f kj3 (([7] : List Int)) ((rd_T24 t183 1).f0)).bind fun t218 => ((week_Get.f t218 1).bind fun bt221 => ((week_Vars.f t167 t170 t173 t176 t179).bind fun t227 => (if t227 = 8 then ((week_At.f t167 t170 t173 t176 t179 1 0).bind fun t228 => (if t228 = 3 then ((week_In.f t167 t170 t173 t176 t179 0 1).bind fun t229 => (if t229 = 6 then ((week_At.f t167 t170 t173 t176 t179 2 0).bind fun t230 => (if t230 = 0 then ((week_In.f t167 t170 t173 t176 t179 0 2).bind fun t231 => (live04.j1 kj3 t183 t190 t196 t200 bt204.1 bt204.2 bt209.2 bt221.2.1 bt221.2.2 (t231 == 0) t167 t170 t173 t176 t179 t197 bt209.1 bt221.1)) else (live04.j1 kj3 t183 t190 t196 t200 bt204.1 bt204.2 bt209.2 bt221.2.1 bt221.2.2 false t167 t170 t173 t176 t179 t197 bt209.1 bt221.1))) else (live04.j1 kj3 t183 t190 t196 t200 bt204.1 bt204.2 bt209.2 bt221.2.1 bt221.2.2 false t167 t170 t173 t176 t179 t197 bt209.1 bt221.1))) else (live04.j1 kj3 t183 t190 t196 t200 bt204.1 bt204.2 bt209.2 bt221.2.1 bt221.2.2 false t167 t170 t173 t176 t179 t197 bt209.1 bt221.1))) else (live04.j1 kj3 t183 t190 t196 t200 bt204.1 bt204.2 bt209.2 bt221.2.1 bt221.2.2 false t167 t170 t173 t176 t179 t197 bt209.1 bt221.1))))))) else (none)) = some r := H
      have A29 := Aside0.mk A290
      clear A290
      by_cases c30 : 0 < (t183.length : Int)
      rotate_left
      · (rw [if_neg c30] at H; exact live_dead HRT.out H (by first | (intro h; cases h; done) | (split <;> (intro h; cases h; done)) | exact live04.j0t _ _ _ _ _ _ _ _ | exact live04.j1f _ _ _ _ _ _ _ _ _ _ _ _ _ _ _ _ _ _))
      rw [if_pos c30] at H
      have c30b0 : decide (0 < (t183.length : Int)) = true := decide_eq_true c30
      have c30b1 : decide (0 < t183.length) = true := decide_eq_true (by omega)
      clear c30
      replace H := Option.bind_eq_some_iff.mp H
      obtain ⟨⟨t204, t207⟩, A310, H⟩ := H
      replace H : ((week_Apply.f kj3 ((rd_T24 t183 0).f0) t204).bind fun bt209 => ((week_Put.f kj3 (([7] : List Int)) ((rd_T24 t183 1).f0)).bind fun t218 => ((week_Get.f t218 1).bind fun bt221 => ((week_Vars.f t167 t170 t173 t176 t179).bind fun t227 => (if t227 = 8 then ((week_At.f t167 t170 t173 t176 t179 1 0).bind fun t228 => (if t228 = 3 then ((week_In.f t167 t170 t173 t176 t179 0 1).bind fun t229 => (if t229 = 6 then ((week_At.f t167 t170 t173 t176 t179 2 0).bind fun t230 => (if t230 = 0 then ((week_In.f t167 t170 t173 t176 t179 0 2).bind fun t231 => (live04.j1 kj3 t183 t190 t196 t200 t204 t207 bt209.2 bt221.2.1 bt221.2.2 (t231 == 0) t167 t170 t173 t176 t179 t197 bt209.1 bt221.1)) else (live04.j1 kj3 t183 t190 t196 t200 t204 t207 bt209.2 bt221.2.1 bt221.2.2 false t167 t170 t173 t176 t179 t197 bt209.1 bt221.1))) else (live04.j1 kj3 t183 t190 t196 t200 t204 t207 bt209.2 bt221.2.1 bt221.2.2 false t167 t170 t173 t176 t179 t197 bt209.1 bt221.1))) else (live04.j1 kj3 t183 t190 t196 t200 t204 t207 bt209.2 bt221.2.1 bt221.2.2 false t167 t170 t173 t176 t179 t197 bt209.1 bt221.1))) else (live04.j1 kj3 t183 t190 t196 t200 t204 t207 bt209.2 bt221.2.1 bt221.2.2 false t167 t170 t173 t176 t179 t197 bt209.1 bt221.1)))))) = some r := H
      have A31 := Aside0.mk A310
      clear A310
      replace H := Option.bind_eq_some_iff.mp H
      obtain ⟨⟨t209, t212⟩, A320, H⟩ := H
      replace H : ((week_Put.f kj3 (([7] : List Int)) ((rd_T24 t183 1).f0)).bind fun t218 => ((week_Get.f t218 1).bind fun bt221 => ((week_Vars.f t167 t170 t173 t176 t179).bind fun t227 => (if t227 = 8 then ((week_At.f t167 t170 t173 t176 t179 1 0).bind fun t228 => (if t228 = 3 then ((week_In.f t167 t170 t173 t176 t179 0 1).bind fun t229 => (if t229 = 6 then ((week_At.f t167 t170 t173 t176 t179 2 0).bind fun t230 => (if t230 = 0 then ((week_In.f t167 t170 t173 t176 t179 0 2).bind fun t231 => (live04.j1 kj3 t183 t190 t196 t200 t204 t207 t212 bt221.2.1 bt221.2.2 (t231 == 0) t167 t170 t173 t176 t179 t197 t209 bt221.1)) else (live04.j1 kj3 t183 t190 t196 t200 t204 t207 t212 bt221.2.1 bt221.2.2 false t167 t170 t173 t176 t179 t197 t209 bt221.1))) else (live04.j1 kj3 t183 t190 t196 t200 t204 t207 t212 bt221.2.1 bt221.2.2 false t167 t170 t173 t176 t179 t197 t209 bt221.1))) else (live04.j1 kj3 t183 t190 t196 t200 t204 t207 t212 bt221.2.1 bt221.2.2 false t167 t170 t173 t176 t179 t197 t209 bt221.1))) else (live04.j1 kj3 t183 t190 t196 t200 t204 t207 t212 bt221.2.1 bt221.2.2 false t167 t170 t173 t176 t179 t197 t209 bt221.1))))) = some r := H
      have A32 := Aside0.mk A320
      clear A320
      obtain ⟨y214, hy214⟩ : ∃ y_ : List Int, y_ = (([7] : List Int)) := ⟨_, rfl⟩
      replace H : ((week_Put.f kj3 y214 ((rd_T24 t183 1).f0)).bind fun t218 => ((week_Get.f t218 1).bind fun bt221 => ((week_Vars.f t167 t170 t173 t176 t179).bind fun t227 => (if t227 = 8 then ((week_At.f t167 t170 t173 t176 t179 1 0).bind fun t228 => (if t228 = 3 then ((week_In.f t167 t170 t173 t176 t179 0 1).bind fun t229 => (if t229 = 6 then ((week_At.f t167 t170 t173 t176 t179 2 0).bind fun t230 => (if t230 = 0 then ((week_In.f t167 t170 t173 t176 t179 0 2).bind fun t231 => (live04.j1 kj3 t183 t190 t196 t200 t204 t207 t212 bt221.2.1 bt221.2.2 (t231 == 0) t167 t170 t173 t176 t179 t197 t209 bt221.1)) else (live04.j1 kj3 t183 t190 t196 t200 t204 t207 t212 bt221.2.1 bt221.2.2 false t167 t170 t173 t176 t179 t197 t209 bt221.1))) else (live04.j1 kj3 t183 t190 t196 t200 t204 t207 t212 bt221.2.1 bt221.2.2 false t167 t170 t173 t176 t179 t197 t209 bt221.1))) else (live04.j1 kj3 t183 t190 t196 t200 t204 t207 t212 bt221.2.1 bt221.2.2 false t167 t170 t173 t176 t179 t197 t209 bt221.1))) else (live04.j1 kj3 t183 t190 t196 t200 t204 t207 t212 bt221.2.1 bt221.2.2 false t167 t170 t173 t176 t179 t197 t209 bt221.1))))) = some r := by first | (rw [hy214]; with_reducible exact H) | (have H2_ := (Option.bind_some _ _).symm.trans H; rw [hy214]; with_reducible exact H2_) | (have H2_ := (Option.bind_some _ _).symm.trans H; with_reducible exact H2_) | with_reducible exact H | (rw [hy214]; exact H) | exact H
      have Ny214 := Aside0.mk hy214
      clear hy214
      replace H := Option.bind_eq_some_iff.mp H
      obtain ⟨t218, A330, H⟩ := H
      replace H : ((week_Get.f t218 1).bind fun bt221 => ((week_Vars.f t167 t170 t173 t176 t179).bind fun t227 => (if t227 = 8 then ((week_At.f t167 t170 t173 t176 t179 1 0).bind fun t228 => (if t228 = 3 then ((week_In.f t167 t170 t173 t176 t179 0 1).bind fun t229 => (if t229 = 6 then ((week_At.f t167 t170 t173 t176 t179 2 0).bind fun t230 => (if t230 = 0 then ((week_In.f t167 t170 t173 t176 t179 0 2).bind fun t231 => (live04.j1 kj3 t183 t190 t196 t200 t204 t207 t212 bt221.2.1 bt221.2.2 (t231 == 0) t167 t170 t173 t176 t179 t197 t209 bt221.1)) else (live04.j1 kj3 t183 t190 t196 t200 t204 t207 t212 bt221.2.1 bt221.2.2 false t167 t170 t173 t176 t179 t197 t209 bt221.1))) else (live04.j1 kj3 t183 t190 t196 t200 t204 t207 t212 bt221.2.1 bt221.2.2 false t167 t170 t173 t176 t179 t197 t209 bt221.1))) else (live04.j1 kj3 t183 t190 t196 t200 t204 t207 t212 bt221.2.1 bt221.2.2 false t167 t170 t173 t176 t179 t197 t209 bt221.1))) else (live04.j1 kj3 t183 t190 t196 t200 t204 t207 t212 bt221.2.1 bt221.2.2 false t167 t170 t173 t176 t179 t197 t209 bt221.1)))) = some r := H
      have A33 := Aside0.mk A330
      clear A330
      replace H := Option.bind_eq_some_iff.mp H
      obtain ⟨⟨t221, t224, t225⟩, A340, H⟩ := H
      replace H : ((week_Vars.f t167 t170 t173 t176 t179).bind fun t227 => (if t227 = 8 then ((week_At.f t167 t170 t173 t176 t179 1 0).bind fun t228 => (if t228 = 3 then ((week_In.f t167 t170 t173 t176 t179 0 1).bind fun t229 => (if t229 = 6 then ((week_At.f t167 t170 t173 t176 t179 2 0).bind fun t230 => (if t230 = 0 then ((week_In.f t167 t170 t173 t176 t179 0 2).bind fun t231 => (live04.j1 kj3 t183 t190 t196 t200 t204 t207 t212 t224 t225 (t231 == 0) t167 t170 t173 t176 t179 t197 t209 t221)) else (live04.j1 kj3 t183 t190 t196 t200 t204 t207 t212 t224 t225 false t167 t170 t173 t176 t179 t197 t209 t221))) else (live04.j1 kj3 t183 t190 t196 t200 t204 t207 t212 t224 t225 false t167 t170 t173 t176 t179 t197 t209 t221))) else (live04.j1 kj3 t183 t190 t196 t200 t204 t207 t212 t224 t225 false t167 t170 t173 t176 t179 t197 t209 t221))) else (live04.j1 kj3 t183 t190 t196 t200 t204 t207 t212 t224 t225 false t167 t170 t173 t176 t179 t197 t209 t221))) = some r := H
      have A34 := Aside0.mk A340
      clear A340
      have HC35 := Aside0.mk H
      clear H
      try go_wp2
      have n0_ := Aside0.mk (Kd.S_drew HO_2.out)
      have n1_ := Aside0.mk (Kd.R_drew HO_183000.out)
      have n2_ := Aside0.mk (Kd.S_drew HO_183001.out)
      have n3_ := Aside0.mk (Kd.S_drew HO_183002.out)
      have n4_ := Aside0.mk (Kd.R_drew HO_183003.out)
      have n5_ := Aside0.mk (Kd.S_drew HO_183004.out)
      have n6_ := Aside0.mk (blk_drew BK182.out)
      have n7_ := Aside0.mk (below_drew1 HB.out)
      clear HO_2 HO_183000 HO_183001 HO_183002 HO_183003 HO_183004 BK182 HB
      have HO_2 := n0_; have HO_183000 := n1_; have HO_183001 := n2_; have HO_183002 := n3_; have HO_183003 := n4_; have HO_183004 := n5_; have BK182 := n6_; have HB := n7_
      clear n0_ n1_ n2_ n3_ n4_ n5_ n6_ n7_
      obtain ⟨Ao37, co37, eo37⟩ := Kd.S_slice HO_2.out
      (first | subst eo37 | (injection eo37 with f1_ f2_ f3_; have f4_ := f1_.symm; have f5_ := f3_.symm; clear f1_ f2_ f3_; subst f4_; subst f5_))
      have p192 : 0 ≤ (1 : Int) := (by omega)
      have q192 : 1 < (t183.length : Int) := of_decide_eq_true (by first | (with_reducible assumption) | assumption)
      obtain ⟨ad192, A192_0, c192_0, e192, hx192_0, hl192_0, hi192_0⟩ := at_T24 (Kd.S_reads' HO_2.out).2.2 1 p192 q192
      cases e192
      obtain ⟨ce192, hce192, hMe192, hcc192⟩ := Kd.S_get HO_2.out z24 1 p192 (by first | exact q192 | exact of_decide_eq_true (by first | (with_reducible assumption) | assumption) | (have e_ := (Kd.S_reads' HO_2.out).1; omega))
      obtain ⟨ve192_0, rfl, ge192_0⟩ := k24_openM hMe192
      have hv192_0 := hcc192 0 _ rfl
      rw [Nat.add_zero, show (k24).sz = 1 from rfl, Nat.mul_one] at hv192_0
      replace hv192_0 := Option.some.inj (hv192_0.symm.trans hx192_0)
      rw [hv192_0] at ge192_0
      have HL192_0 := Aside0.mk (show Kd.R k55 55 _ _ _ _ ((rd_T24 t183 1).f0) from ge192_0)
      clear hv192_0 ge192_0 hcc192 hce192
      (try simp only [show (1 : Int).toNat = 1 from rfl, Nat.reduceMul, Nat.reduceEqDiff, Go.Addr.add, ↓reduceIte] at hx192_0)
      have qi192 : (1 < t183.length) = True := eq_true (by omega)
      (try rw [show ((1 : Int)).toNat = 1 from rfl] at hx192_0)
      have HR192_0 := Aside0.mk hi192_0
      have HC192_0 := Aside0.mk hl192_0
      clear hi192_0 hl192_0
      replace p192 := eq_true p192
      replace q192 := eq_true q192
      refine start_ (n := 10) (S := fun w' => w'.cell? ⟨gb182, 0, none⟩ = some (.slice Ao7 t167.length co7) ∧ w'.cell? ⟨gb182, 1, none⟩ = some (.slice Ao9 t170.length co9) ∧ w'.cell? ⟨gb182, 2, none⟩ = some (.slice Ao10 t173.length co10) ∧ w'.cell? ⟨gb182, 3, none⟩ = some (.slice Ao11 t176.length co11) ∧ w'.cell? ⟨gb182, 4, none⟩ = some (.slice Ao12 t179.length co12) ∧ w'.cell? ⟨ad192.block, ad192.off + 1, none⟩ = some (.slice A192_0 ((rd_T24 t183 1).f0).length c192_0)) (ds := []) #[false, false, false, false, false, false, false, false, false, false] (by kernel_rfl) rfl rfl ⟨(blk_cell BK182.out 0).trans rfl, (blk_cell BK182.out 1).trans rfl, (blk_cell BK182.out 2).trans rfl, (blk_cell BK182.out 3).trans rfl, (blk_cell BK182.out 4).trans rfl, hx192_0⟩ (fun hHeld => ?_); refine with_tabW live04.tab6 live04.bits6 (fun HT_ HW_ => ?_)
      generalize wc.drew = w36 at HO_2 HO_183000 HO_183001 HO_183002 HO_183003 HO_183004 BK182 HB HL192_0 HR192_0 hx192_0 hHeld ⊢
      refine pure_ (i := 1) (N := some 45) (v := ?_) (a' := ?_) #[false, true, false, false, false, false, false, false, false, false] rfl rfl (any_of HT_.out (by kernel_rfl)) (fun _ _ _ h => h) (Or.inl ⟨by rfl, ?_⟩) ?_ ?_
      rotate_left
      · intro w'
        go_simp
        with_reducible rfl
      rotate_left
      · simp only [Act.put, List.setIfInBounds_toArray, List.set_cons_zero, List.set_cons_succ, i64_w, i32_w]
        rfl
      refine pure_ (i := 2) (N := some 46) (v := ?_) (a' := ?_) #[false, true, true, false, false, false, false, false, false, false] rfl rfl (any_of HT_.out (by kernel_rfl)) (fun _ _ _ h => h) (Or.inl ⟨by rfl, ?_⟩) ?_ ?_
      rotate_left
      · intro w'
        go_simp
        with_reducible rfl
      rotate_left
      · simp only [Act.put, List.setIfInBounds_toArray, List.set_cons_zero, List.set_cons_succ, i64_w, i32_w]
        rfl
      refine take_ (i := 0) (N := some 44) (v := ?_) (a' := ?_) #[true, true, true, false, false, false, false, false, false, false] rfl rfl (take_ofW HT_.out HW_.out (by kernel_rfl)) (fun _ _ _ h => h) (Or.inl ⟨by rfl, ?_⟩) hHeld ?_ ?_
      rotate_left
      · rintro w' ⟨s0, s1, s2, s3, s4, s5⟩
        go_simp
        with_reducible rfl
      rotate_left
      · simp only [Act.put, List.setIfInBounds_toArray, List.set_cons_zero, List.set_cons_succ, i64_w, i32_w]
        rfl
      refine take_ (i := 3) (N := some 47) (v := ?_) (a' := ?_) #[true, true, true, true, false, false, false, false, false, false] rfl rfl (take_ofW HT_.out HW_.out (by kernel_rfl)) (fun _ _ _ h => h) (Or.inl ⟨by rfl, ?_⟩) hHeld ?_ ?_
      rotate_left
      · rintro w' ⟨s0, s1, s2, s3, s4, s5⟩
        go_simp
        with_reducible rfl
      rotate_left
      · simp only [Act.put, List.setIfInBounds_toArray, List.set_cons_zero, List.set_cons_succ, i64_w, i32_w]
        rfl
      refine one_ (i := 4) (N := some 48) #[true, true, true, true, true, false, false, false, false, false] rfl rfl (one_of HT_.out (by kernel_rfl)) (by decide) (fun K hK => ?_)
      refine goes_ Tryd.func21 (by kernel_rfl) rfl #[.agg #[.slice Ao7 t167.length co7, .slice Ao9 t170.length co9, .slice Ao10 t173.length co10, .slice Ao11 t176.length co11, .slice Ao12 t179.length co12], .agg #[.slice A192_0 ((rd_T24 t183 1).f0).length c192_0]] (by rfl) rfl rfl (by (try simp only [List.map_toArray, List.map_cons, List.map_nil]); first | done | rfl | (simp only [List.length_drop, List.length_take]; rfl)) ?_
      with_reducible refine (week_True.calls kj3 _ _ t167 _ _ t170 _ _ t173 _ _ t176 _ _ t179 _ _ ((rd_T24 t183 1).f0) t193 t196 _ ?side1 ?side2 ?side3 ?side4 ?side5 ?side6 ?side7 ?side8 ?side9 ?side10 ?side11 ?side12 ?sideV A28.out).mono ?_
      (case sideV => exact VOk.below HV.out (b_ HB))
      (case side1 => repeat (first | exact (Kd.R_reads' HO_183000.out).2.2 | (with_reducible refine Kd.C_alloc ?_ _) | (with_reducible refine Kd.C_drewN ?_ _) | (with_reducible refine Kd.C_drew ?_)))
      (case side2 => exact (Kd.R_reads' HO_183000.out).2.1)
      (case side3 => repeat (first | exact (Kd.S_reads' HO_183001.out).2.2 | (with_reducible refine Kd.C_alloc ?_ _) | (with_reducible refine Kd.C_drewN ?_ _) | (with_reducible refine Kd.C_drew ?_)))
      (case side4 => exact (Kd.S_reads' HO_183001.out).2.1)
      (case side5 => repeat (first | exact (Kd.S_reads' HO_183002.out).2.2 | (with_reducible refine Kd.C_alloc ?_ _) | (with_reducible refine Kd.C_drewN ?_ _) | (with_reducible refine Kd.C_drew ?_)))
      (case side6 => exact (Kd.S_reads' HO_183002.out).2.1)
      (case side7 => repeat (first | exact (Kd.R_reads' HO_183003.out).2.2 | (with_reducible refine Kd.C_alloc ?_ _) | (with_reducible refine Kd.C_drewN ?_ _) | (with_reducible refine Kd.C_drew ?_)))
      (case side8 => exact (Kd.R_reads' HO_183003.out).2.1)
      (case side9 => repeat (first | exact (Kd.S_reads' HO_183004.out).2.2 | (with_reducible refine Kd.C_alloc ?_ _) | (with_reducible refine Kd.C_drewN ?_ _) | (with_reducible refine Kd.C_drew ?_)))
      (case side10 => exact (Kd.S_reads' HO_183004.out).2.1)
      (case side11 => repeat (first | exact (by repeat (first | (with_reducible exact HR192_0.out) | (with_reducible refine Kd.C_alloc ?_ _) | (with_reducible refine Kd.C_drewN ?_ _) | (with_reducible refine Kd.C_drew ?_) | exact HR192_0.out)) | (with_reducible refine Kd.C_alloc ?_ _) | (with_reducible refine Kd.C_drewN ?_ _) | (with_reducible refine Kd.C_drew ?_)))
      (case side12 => exact HC192_0.out)
      rintro e w38 ⟨v194, rfl, ho0, hb⟩
      have HS5_ := (hb.cell (World.block_lt_of_cell? _ _ (hHeld.2.2.2.2.2))).trans (hHeld.2.2.2.2.2)
      refine ⟨_, rfl, ?_⟩
      have n0_ := Aside0.mk (Kd.S_below (s_ HO_2) hb)
      have n1_ := Aside0.mk (Kd.R_below (r_ HO_183000) hb)
      have n2_ := Aside0.mk (Kd.S_below (s_ HO_183001) hb)
      have n3_ := Aside0.mk (Kd.S_below (s_ HO_183002) hb)
      have n4_ := Aside0.mk (Kd.R_below (r_ HO_183003) hb)
      have n5_ := Aside0.mk (Kd.S_below (s_ HO_183004) hb)
      have n6_ := Aside0.mk (Kd.R_below (r_ HL192_0) hb)
      have n7_ := Aside0.mk (Kd.R_lower ho0 (below_size (b_ HB)))
      have n8_ := Aside0.mk (blk_below (k_ BK182) hb)
      have n9_ := Aside0.mk (Kd.C_below (by repeat (first | (with_reducible exact HR192_0.out) | (with_reducible refine Kd.C_alloc ?_ _) | (with_reducible refine Kd.C_drewN ?_ _) | (with_reducible refine Kd.C_drew ?_) | exact HR192_0.out)) hb)
      have n10_ := Aside0.mk (below_step (b_ HB) hb)
      clear HO_2 HO_183000 HO_183001 HO_183002 HO_183003 HO_183004 HL192_0 BK182 HR192_0 HB
      have HO_2 := n0_; have HO_183000 := n1_; have HO_183001 := n2_; have HO_183002 := n3_; have HO_183003 := n4_; have HO_183004 := n5_; have HL192_0 := n6_; have HO195 := n7_; have BK182 := n8_; have HR192_0 := n9_; have HB := n10_
      clear n0_ n1_ n2_ n3_ n4_ n5_ n6_ n7_ n8_ n9_ n10_
      (try clear hb); (try clear hb2); (try clear hk); (try clear hi); (try clear ho0)
      refine hK.out _ _ ⟨(blk_cell BK182.out 0).trans rfl, (blk_cell BK182.out 1).trans rfl, (blk_cell BK182.out 2).trans rfl, (blk_cell BK182.out 3).trans rfl, (blk_cell BK182.out 4).trans rfl, HS5_⟩ (fun hHeld => ?_)
      clear hK K
      refine norm_ (a' := ?_) ?_ ?_
      rotate_left
      · show Act.put _ (some 48) _ = _
        simp only [Act.put, List.setIfInBounds_toArray, List.set_cons_zero, List.set_cons_succ, i64_w, i32_w]
        rfl
      refine pure_ (i := 5) (N := some 43) (v := ?_) (a' := ?_) #[true, true, true, true, true, true, false, false, false, false] rfl rfl (any_of HT_.out (by kernel_rfl)) (fun _ _ _ h => h) (Or.inl ⟨by rfl, ?_⟩) ?_ ?_
      rotate_left
      · intro w'
        go_simp
        with_reducible rfl
      rotate_left
      · simp only [Act.put, List.setIfInBounds_toArray, List.set_cons_zero, List.set_cons_succ, i64_w, i32_w]
        rfl
      refine pure_ (i := 6) (N := some 49) (v := ?_) (a' := ?_) #[true, true, true, true, true, true, true, false, false, false] rfl rfl (any_of HT_.out (by kernel_rfl)) (fun _ _ _ h => h) (Or.inl ⟨by rfl, ?_⟩) ?_ ?_
      rotate_left
      · intro w'
        go_simp
        with_reducible rfl
      rotate_left
      · simp only [Act.put, List.setIfInBounds_toArray, List.set_cons_zero, List.set_cons_succ, i64_w, i32_w]
        rfl
      refine pure_ (i := 7) (N := some 50) (v := ?_) (a' := ?_) #[true, true, true, true, true, true, true, true, false, false] rfl rfl (any_of HT_.out (by kernel_rfl)) (fun _ _ _ h => h) (Or.inl ⟨by rfl, ?_⟩) ?_ ?_
      rotate_left
      · intro w'
        go_simp
        with_reducible rfl
      rotate_left
      · simp only [Act.put, List.setIfInBounds_toArray, List.set_cons_zero, List.set_cons_succ, i64_w, i32_w]
        rfl
      refine pure_ (i := 8) (N := some 6) (v := ?_) (a' := ?_) #[true, true, true, true, true, true, true, true, true, false] rfl rfl (any_of HT_.out (by kernel_rfl)) (fun _ _ _ h => h) (Or.inl ⟨by rfl, ?_⟩) ?_ ?_
      rotate_left
      · intro w'
        go_simp
        with_reducible rfl
      rotate_left
      · simp only [Act.put, List.setIfInBounds_toArray, List.set_cons_zero, List.set_cons_succ, i64_w, i32_w]
        rfl
      refine pure_ (i := 9) (N := some 7) (v := ?_) (a' := ?_) #[true, true, true, true, true, true, true, true, true, true] rfl rfl (any_of HT_.out (by kernel_rfl)) (fun _ _ _ h => h) (Or.inl ⟨by rfl, ?_⟩) ?_ ?_
      rotate_left
      · intro w'
        go_simp
        with_reducible rfl
      rotate_left
      · simp only [Act.put, List.setIfInBounds_toArray, List.set_cons_zero, List.set_cons_succ, i64_w, i32_w]
        rfl
      refine done_ (done_of HT_.out (by kernel_rfl)) ?_
      have hcz39_0 : w38.cell? ⟨gb182, 0, none⟩ = some (.slice Ao7 t167.length co7) := (blk_cell BK182.out 0).trans rfl
      have hcz39_1 : w38.cell? ⟨gb182, 1, none⟩ = some (.slice Ao9 t170.length co9) := (blk_cell BK182.out 1).trans rfl
      have hcz39_2 : w38.cell? ⟨gb182, 2, none⟩ = some (.slice Ao10 t173.length co10) := (blk_cell BK182.out 2).trans rfl
      have hcz39_3 : w38.cell? ⟨gb182, 3, none⟩ = some (.slice Ao11 t176.length co11) := (blk_cell BK182.out 3).trans rfl
      have hcz39_4 : w38.cell? ⟨gb182, 4, none⟩ = some (.slice Ao12 t179.length co12) := (blk_cell BK182.out 4).trans rfl
      have hfz39_0 := blk_frozen BK182.out 0
      have hfz39_1 := blk_frozen BK182.out 1
      have hfz39_2 := blk_frozen BK182.out 2
      have hfz39_3 := blk_frozen BK182.out 3
      have hfz39_4 := blk_frozen BK182.out 4
      obtain ⟨Ao40, co40, eo40⟩ := Kd.R_slice HO195.out
      subst eo40
      try go_wp2_with (first | ((with_reducible refine gate_callee (f := 22) rfl ?_); refine goesL_ (some 54) rfl rfl Tryd.func22 (by kernel_rfl) rfl #[.agg #[.slice Ao7 t167.length co7, .slice Ao9 t170.length co9, .slice Ao10 t173.length co10, .slice Ao11 t176.length co11, .slice Ao12 t179.length co12], .slice Ao40 t193.length co40] rfl (by (try simp only [List.map_toArray, List.map_cons, List.map_nil]); first | done | rfl | (simp only [List.length_drop, List.length_take]; rfl)) ?_; (with_reducible refine (week_Of.calls _ _ t167 _ _ t170 _ _ t173 _ _ t176 _ _ t179 _ _ t193 t197 t200 _ ?side1 ?side2 ?side3 ?side4 ?side5 ?side6 ?side7 ?side8 ?side9 ?side10 ?side11 ?side12 ?sideV A29.out).mono ?_); (case sideV => exact VOk.below HV.out (b_ HB)); (case side1 => repeat (first | exact (Kd.R_reads' HO_183000.out).2.2 | (with_reducible refine Kd.C_alloc ?_ _) | (with_reducible refine Kd.C_drewN ?_ _) | (with_reducible refine Kd.C_drew ?_))); (case side2 => exact (Kd.R_reads' HO_183000.out).2.1); (case side3 => repeat (first | exact (Kd.S_reads' HO_183001.out).2.2 | (with_reducible refine Kd.C_alloc ?_ _) | (with_reducible refine Kd.C_drewN ?_ _) | (with_reducible refine Kd.C_drew ?_))); (case side4 => exact (Kd.S_reads' HO_183001.out).2.1); (case side5 => repeat (first | exact (Kd.S_reads' HO_183002.out).2.2 | (with_reducible refine Kd.C_alloc ?_ _) | (with_reducible refine Kd.C_drewN ?_ _) | (with_reducible refine Kd.C_drew ?_))); (case side6 => exact (Kd.S_reads' HO_183002.out).2.1); (case side7 => repeat (first | exact (Kd.R_reads' HO_183003.out).2.2 | (with_reducible refine Kd.C_alloc ?_ _) | (with_reducible refine Kd.C_drewN ?_ _) | (with_reducible refine Kd.C_drew ?_))); (case side8 => exact (Kd.R_reads' HO_183003.out).2.1); (case side9 => repeat (first | exact (Kd.S_reads' HO_183004.out).2.2 | (with_reducible refine Kd.C_alloc ?_ _) | (with_reducible refine Kd.C_drewN ?_ _) | (with_reducible refine Kd.C_drew ?_))); (case side10 => exact (Kd.S_reads' HO_183004.out).2.1); (case side11 => repeat (first | exact (Kd.R_reads' HO195.out).2.2 | (with_reducible refine Kd.C_alloc ?_ _) | (with_reducible refine Kd.C_drewN ?_ _) | (with_reducible refine Kd.C_drew ?_))); (case side12 => exact (Kd.R_reads' HO195.out).2.1); rintro e w41 ⟨v198, rfl, ho0, hb⟩; refine ⟨_, rfl, ?_⟩; have n0_ := Aside0.mk (Kd.S_elder' (s_ HO_2) (Kd.R_base ho0) hb); have n1_ := Aside0.mk (Kd.R_below (r_ HO_183000) hb); have n2_ := Aside0.mk (Kd.S_below (s_ HO_183001) hb); have n3_ := Aside0.mk (Kd.S_below (s_ HO_183002) hb); have n4_ := Aside0.mk (Kd.R_below (r_ HO_183003) hb); have n5_ := Aside0.mk (Kd.S_below (s_ HO_183004) hb); have n6_ := Aside0.mk (Kd.R_elder' (r_ HL192_0) (Kd.R_base ho0) hb); have n7_ := Aside0.mk (Kd.R_below (r_ HO195) hb); have n8_ := Aside0.mk (Kd.R_lower (Kd.R_new' ho0 (Kd.R_lt (r_ HL192_0))) (below_size (b_ HB))); have n9_ := Aside0.mk (blk_below (k_ BK182) hb); have n10_ := Aside0.mk (Kd.C_below (by repeat (first | (with_reducible exact HR192_0.out) | (with_reducible refine Kd.C_alloc ?_ _) | (with_reducible refine Kd.C_drewN ?_ _) | (with_reducible refine Kd.C_drew ?_) | exact HR192_0.out)) hb); have n11_ := Aside0.mk (below_step (b_ HB) hb); clear HO_2; clear HO_183000; clear HO_183001; clear HO_183002; clear HO_183003; clear HO_183004; clear HL192_0; clear HO195; clear BK182; clear HR192_0; clear HB; have HO_2 := n0_; have HO_183000 := n1_; have HO_183001 := n2_; have HO_183002 := n3_; have HO_183003 := n4_; have HO_183004 := n5_; have HL192_0 := n6_; have HO195 := n7_; have HO199 := n8_; have BK182 := n9_; have HR192_0 := n10_; have HB := n11_; clear n0_ n1_ n2_ n3_ n4_ n5_ n6_ n7_ n8_ n9_ n10_ n11_; (try clear hb); (try clear hb2); (try clear hk); (try clear hi); (try clear ho0)) | ((with_reducible refine gate_dst (N := 8) rfl ?_); (try (refine gate_guard (by rfl) ?_; dsimp only)); refine box_event ?hg (N := 8) ?hd (cs := #[.slice none 0 0]) (t := 24) ?hr ?_; (case hd => rfl); (case hg => rfl); (case hr => first | (go_simp; done) | (go_simp; rfl)); intro gb201 hg w42 hbox hb; have n0_ := Aside0.mk (Kd.S_below (Kd.S_elderB (s_ HO_2) gb201 (Nat.le_of_eq hg.symm)) hb); have n1_ := Aside0.mk (Kd.R_below (r_ HO_183000) hb); have n2_ := Aside0.mk (Kd.S_below (s_ HO_183001) hb); have n3_ := Aside0.mk (Kd.S_below (s_ HO_183002) hb); have n4_ := Aside0.mk (Kd.R_below (r_ HO_183003) hb); have n5_ := Aside0.mk (Kd.S_below (s_ HO_183004) hb); have n6_ := Aside0.mk (Kd.R_below (r_ HL192_0) hb); have n7_ := Aside0.mk (Kd.R_below (r_ HO195) hb); have n8_ := Aside0.mk (Kd.R_below (r_ HO199) hb); have n9_ := Aside0.mk (blk_below (k_ BK182) hb); have n10_ := Aside0.mk (Kd.C_below (by repeat (first | (with_reducible exact HR192_0.out) | (with_reducible refine Kd.C_alloc ?_ _) | (with_reducible refine Kd.C_drewN ?_ _) | (with_reducible refine Kd.C_drew ?_) | exact HR192_0.out)) hb); have n11_ := Aside0.mk (below_step (b_ HB) hb); have n12_ := Aside0.mk (hbox); have n13_ := Aside0.mk ((by rw [hg]; exact (below_size (b_ HB)) : w.heap.size ≤ gb201)); have n14_ := n13_; have n15_ := Aside0.mk ((by rw [hg]; exact Nat.ne_of_lt (blk_lt (k_ BK182)) : gb182 ≠ gb201)); have n16_ := Aside0.mk ((by rw [hg]; exact Nat.ne_of_gt (blk_lt (k_ BK182)) : gb201 ≠ gb182)); clear HO_2; clear HO_183000; clear HO_183001; clear HO_183002; clear HO_183003; clear HO_183004; clear HL192_0; clear HO195; clear HO199; clear BK182; clear HR192_0; clear HB; have HO_2 := n0_; have HO_183000 := n1_; have HO_183001 := n2_; have HO_183002 := n3_; have HO_183003 := n4_; have HO_183004 := n5_; have HL192_0 := n6_; have HO195 := n7_; have HO199 := n8_; have BK182 := n9_; have HR192_0 := n10_; have HB := n11_; have BK201 := n12_; have GW201 := n13_; have GE201 := n14_; have NB182_201 := n15_; have NB201_182 := n16_; clear n0_ n1_ n2_ n3_ n4_ n5_ n6_ n7_ n8_ n9_ n10_ n11_ n12_ n13_ n14_ n15_ n16_; clear hb hbox hg; obtain ⟨Ao43, co43, eo43⟩ := Kd.R_slice HO199.out; subst eo43; have hnb44 := NB201_182.out; have hnc44 := NB182_201.out; have hcz45_0 : w42.cell? ⟨gb201, 0, none⟩ = some (.slice none 0 0) := (blk_cell BK201.out 0).trans rfl; have hfz45_0 := blk_frozen BK201.out 0))
      have n0_ : Aside0 (Kd.S k24 24 (w42.setCell ⟨gb201, 0, none⟩ (.slice Ao43 t197.length co43)) w.heap.size (fun k_ => some k_ ≠ (.slice Ao43 t197.length co43 : Value).ownBlock ∧ k_ ≠ gb201) (.slice (some ad192) t183.length co37) t183) := ⟨by (with_reducible repeat (first | apply Kd.S_alloc | apply Kd.S_drewN | apply Kd.S_drew)); exact Kd.S_mono (Kd.S_far (p := ⟨gb201, 0, none⟩) (Kd.S_mono HO_2.out (fun k_ hk => (⟨hk, hk.2⟩ : _ ∧ k_ ≠ gb201))) (fun _ hk => hk.2) (.slice Ao43 t197.length co43)) (fun _ hk => ⟨hk.1.1.2, hk.1.2⟩)⟩
      have n1_ : Aside0 (Kd.R k87 87 (w42.setCell ⟨gb201, 0, none⟩ (.slice Ao43 t197.length co43)) w.heap.size (fun _ => True) (.slice Ao7 t167.length co7) t167) := ⟨by (with_reducible repeat (first | apply Kd.R_alloc | apply Kd.R_drewN | apply Kd.R_drew)); exact Kd.R_mono (Kd.R_far (p := ⟨gb201, 0, none⟩) (Kd.R_types HO_183000.out BK201.out (by decide)) (fun _ hk => hk.2) (.slice Ao43 t197.length co43)) (fun _ hk => trivial)⟩
      have n2_ : Aside0 (Kd.S k91 91 (w42.setCell ⟨gb201, 0, none⟩ (.slice Ao43 t197.length co43)) w.heap.size (fun _ => True) (.slice Ao9 t170.length co9) t170) := ⟨by (with_reducible repeat (first | apply Kd.S_alloc | apply Kd.S_drewN | apply Kd.S_drew)); exact Kd.S_mono (Kd.S_far (p := ⟨gb201, 0, none⟩) (Kd.S_types HO_183001.out BK201.out (by decide)) (fun _ hk => hk.2) (.slice Ao43 t197.length co43)) (fun _ hk => trivial)⟩
      have n3_ : Aside0 (Kd.S k95 95 (w42.setCell ⟨gb201, 0, none⟩ (.slice Ao43 t197.length co43)) w.heap.size (fun _ => True) (.slice Ao10 t173.length co10) t173) := ⟨by (with_reducible repeat (first | apply Kd.S_alloc | apply Kd.S_drewN | apply Kd.S_drew)); exact Kd.S_mono (Kd.S_far (p := ⟨gb201, 0, none⟩) (Kd.S_types HO_183002.out BK201.out (by decide)) (fun _ hk => hk.2) (.slice Ao43 t197.length co43)) (fun _ hk => trivial)⟩
      have n4_ : Aside0 (Kd.R k98 98 (w42.setCell ⟨gb201, 0, none⟩ (.slice Ao43 t197.length co43)) w.heap.size (fun _ => True) (.slice Ao11 t176.length co11) t176) := ⟨by (with_reducible repeat (first | apply Kd.R_alloc | apply Kd.R_drewN | apply Kd.R_drew)); exact Kd.R_mono (Kd.R_far (p := ⟨gb201, 0, none⟩) (Kd.R_types HO_183003.out BK201.out (by decide)) (fun _ hk => hk.2) (.slice Ao43 t197.length co43)) (fun _ hk => trivial)⟩
      have n5_ : Aside0 (Kd.S k101 101 (w42.setCell ⟨gb201, 0, none⟩ (.slice Ao43 t197.length co43)) w.heap.size (fun _ => True) (.slice Ao12 t179.length co12) t179) := ⟨by (with_reducible repeat (first | apply Kd.S_alloc | apply Kd.S_drewN | apply Kd.S_drew)); exact Kd.S_mono (Kd.S_far (p := ⟨gb201, 0, none⟩) (Kd.S_types HO_183004.out BK201.out (by decide)) (fun _ hk => hk.2) (.slice Ao43 t197.length co43)) (fun _ hk => trivial)⟩
      have n6_ : Aside0 (Kd.R k55 55 (w42.setCell ⟨gb201, 0, none⟩ (.slice Ao43 t197.length co43)) w.heap.size (fun k_ => some k_ ≠ (.slice (some ad192) t183.length co37 : Value).ownBlock ∧ some k_ ≠ (.slice Ao43 t197.length co43 : Value).ownBlock) (.slice A192_0 ((rd_T24 t183 1).f0).length c192_0) ((rd_T24 t183 1).f0)) := ⟨by (with_reducible repeat (first | apply Kd.R_alloc | apply Kd.R_drewN | apply Kd.R_drew)); exact Kd.R_mono (Kd.R_far (p := ⟨gb201, 0, none⟩) (Kd.R_types HL192_0.out BK201.out (by decide)) (fun _ hk => hk.2) (.slice Ao43 t197.length co43)) (fun _ hk => ⟨hk.1.1.2, hk.1.2⟩)⟩
      have n7_ : Aside0 (Kd.R Kd.bool 4 (w42.setCell ⟨gb201, 0, none⟩ (.slice Ao43 t197.length co43)) w.heap.size (fun _ => True) (.slice Ao40 t193.length co40) t193) := ⟨by (with_reducible repeat (first | apply Kd.R_alloc | apply Kd.R_drewN | apply Kd.R_drew)); exact Kd.R_mono (Kd.R_far (p := ⟨gb201, 0, none⟩) (Kd.R_types HO195.out BK201.out (by decide)) (fun _ hk => hk.2) (.slice Ao43 t197.length co43)) (fun _ hk => trivial)⟩
      have n8_ : Aside0 (Kd.R k55 55 (w42.setCell ⟨gb201, 0, none⟩ (.slice Ao43 t197.length co43)) w.heap.size (fun k_ => some k_ ≠ (.slice A192_0 ((rd_T24 t183 1).f0).length c192_0 : Value).ownBlock) (.slice Ao43 t197.length co43) t197) := ⟨by (with_reducible repeat (first | apply Kd.R_alloc | apply Kd.R_drewN | apply Kd.R_drew)); exact Kd.R_mono (Kd.R_far (p := ⟨gb201, 0, none⟩) (Kd.R_types HO199.out BK201.out (by decide)) (fun _ hk => hk.2) (.slice Ao43 t197.length co43)) (fun _ hk => hk.1.2)⟩
      have n9_ : Aside0 ((w42.setCell ⟨gb201, 0, none⟩ (.slice Ao43 t197.length co43)).heap[gb182]? = some (.cells #[.slice Ao7 t167.length co7, .slice Ao9 t170.length co9, .slice Ao10 t173.length co10, .slice Ao11 t176.length co11, .slice Ao12 t179.length co12] 45 (0, 0))) := ⟨by (with_reducible repeat (first | refine blk_drewN ?_ _ | refine blk_drew ?_ | refine blk_alloc ?_ _)); refine blk_far ?_ NB182_201.out _; (with_reducible repeat (first | refine blk_drewN ?_ _ | refine blk_drew ?_ | refine blk_alloc ?_ _)); exact BK182.out⟩
      have n10_ : Aside0 ((w42.setCell ⟨gb201, 0, none⟩ (.slice Ao43 t197.length co43)).heap[gb201]? = some (.cells #[.slice Ao43 t197.length co43] 24 (0, 0))) := ⟨by (with_reducible repeat (first | refine blk_drewN ?_ _ | refine blk_drew ?_ | refine blk_alloc ?_ _)); refine blk_put (cs := #[.slice none 0 0]) ?_ 0 _ rfl; (with_reducible repeat (first | refine blk_drewN ?_ _ | refine blk_drew ?_ | refine blk_alloc ?_ _)); exact BK201.out⟩
      have n11_ : Aside0 (Below w.heap.size w (w42.setCell ⟨gb201, 0, none⟩ (.slice Ao43 t197.length co43))) := ⟨b_ HB⟩
      (try clear HO_2); (try clear HO_183000); (try clear HO_183001); (try clear HO_183002); (try clear HO_183003); (try clear HO_183004); (try clear HL192_0); (try clear HO195); (try clear HO199); (try clear BK182); (try clear BK201); (try clear HB)
      generalize (w42.setCell ⟨gb201, 0, none⟩ (.slice Ao43 t197.length co43)) = w46 at n0_ n1_ n2_ n3_ n4_ n5_ n6_ n7_ n8_ n9_ n10_ n11_ ⊢
      have HO_2 := n0_; have HO_183000 := n1_; have HO_183001 := n2_; have HO_183002 := n3_; have HO_183003 := n4_; have HO_183004 := n5_; have HL192_0 := n6_; have HO195 := n7_; have HO199 := n8_; have BK182 := n9_; have BK201 := n10_; have HB := n11_
      clear n0_ n1_ n2_ n3_ n4_ n5_ n6_ n7_ n8_ n9_ n10_ n11_
      have n0_ := Aside0.mk (Kd.S_drew HO_2.out)
      have n1_ := Aside0.mk (Kd.R_drew HO_183000.out)
      have n2_ := Aside0.mk (Kd.S_drew HO_183001.out)
      have n3_ := Aside0.mk (Kd.S_drew HO_183002.out)
      have n4_ := Aside0.mk (Kd.R_drew HO_183003.out)
      have n5_ := Aside0.mk (Kd.S_drew HO_183004.out)
      have n6_ := Aside0.mk (Kd.R_drew HL192_0.out)
      have n7_ := Aside0.mk (Kd.R_drew HO195.out)
      have n8_ := Aside0.mk (Kd.R_drew HO199.out)
      have n9_ := Aside0.mk (blk_drew BK182.out)
      have n10_ := Aside0.mk (blk_drew BK201.out)
      have n11_ := Aside0.mk (below_drew1 HB.out)
      clear HO_2 HO_183000 HO_183001 HO_183002 HO_183003 HO_183004 HL192_0 HO195 HO199 BK182 BK201 HB
      have HO_2 := n0_; have HO_183000 := n1_; have HO_183001 := n2_; have HO_183002 := n3_; have HO_183003 := n4_; have HO_183004 := n5_; have HL192_0 := n6_; have HO195 := n7_; have HO199 := n8_; have BK182 := n9_; have BK201 := n10_; have HB := n11_
      clear n0_ n1_ n2_ n3_ n4_ n5_ n6_ n7_ n8_ n9_ n10_ n11_
      have p202 : 0 ≤ (0 : Int) := (by omega)
      have q202 : 0 < (t183.length : Int) := of_decide_eq_true (by first | (with_reducible assumption) | assumption)
      obtain ⟨ad202, A202_0, c202_0, e202, hx202_0, hl202_0, hi202_0⟩ := at_T24 (Kd.S_reads' HO_2.out).2.2 0 p202 q202
      obtain rfl : ad192 = ad202 := (by injection e202)
      obtain ⟨ce202, hce202, hMe202, hcc202⟩ := Kd.S_get HO_2.out z24 0 p202 (by first | exact q202 | exact of_decide_eq_true (by first | (with_reducible assumption) | assumption) | (have e_ := (Kd.S_reads' HO_2.out).1; omega))
      obtain ⟨ve202_0, rfl, ge202_0⟩ := k24_openM hMe202
      have hv202_0 := hcc202 0 _ rfl
      rw [Nat.add_zero, show (k24).sz = 1 from rfl, Nat.mul_one] at hv202_0
      replace hv202_0 := Option.some.inj (hv202_0.symm.trans hx202_0)
      rw [hv202_0] at ge202_0
      have HL202_0 := Aside0.mk (show Kd.R k55 55 _ _ _ _ ((rd_T24 t183 0).f0) from ge202_0)
      clear hv202_0 ge202_0 hcc202 hce202
      have qi202 : (0 < t183.length) = True := eq_true (by omega)
      (try rw [show ((0 : Int)).toNat = 0 from rfl] at hx202_0)
      (try rw [Addr.add_zero'] at hx202_0)
      have HR202_0 := Aside0.mk hi202_0
      have HC202_0 := Aside0.mk hl202_0
      clear hi202_0 hl202_0
      replace p202 := eq_true p202
      replace q202 := eq_true q202
      have p203 : 0 ≤ (1 : Int) := (by omega)
      have q203 : 1 < (t183.length : Int) := of_decide_eq_true (by first | (with_reducible assumption) | assumption)
      obtain ⟨ad203, A203_0, c203_0, e203, hx203_0, hl203_0, hi203_0⟩ := at_T24 (Kd.S_reads' HO_2.out).2.2 1 p203 q203
      obtain rfl : ad192 = ad203 := (by injection e203)
      obtain ⟨ce203, hce203, hMe203, hcc203⟩ := Kd.S_get HO_2.out z24 1 p203 (by first | exact q203 | exact of_decide_eq_true (by first | (with_reducible assumption) | assumption) | (have e_ := (Kd.S_reads' HO_2.out).1; omega))
      obtain ⟨ve203_0, rfl, ge203_0⟩ := k24_openM hMe203
      have hv203_0 := hcc203 0 _ rfl
      rw [Nat.add_zero, show (k24).sz = 1 from rfl, Nat.mul_one] at hv203_0
      replace hv203_0 := Option.some.inj (hv203_0.symm.trans hx203_0)
      rw [hv203_0] at ge203_0
      have HL203_0 := Aside0.mk (show Kd.R k55 55 _ _ _ _ ((rd_T24 t183 1).f0) from ge203_0)
      clear hv203_0 ge203_0 hcc203 hce203
      (try simp only [show (1 : Int).toNat = 1 from rfl, Nat.reduceMul, Nat.reduceEqDiff, Go.Addr.add, ↓reduceIte] at hx203_0)
      have qi203 : (1 < t183.length) = True := eq_true (by omega)
      (try rw [show ((1 : Int)).toNat = 1 from rfl] at hx203_0)
      have HR203_0 := Aside0.mk hi203_0
      have HC203_0 := Aside0.mk hl203_0
      clear hi203_0 hl203_0
      replace p203 := eq_true p203
      replace q203 := eq_true q203
      refine start_ (n := 12) (S := fun w' => w'.cell? ad192 = some (.slice A202_0 ((rd_T24 t183 0).f0).length c202_0) ∧ w'.cell? ⟨ad192.block, ad192.off + 1, none⟩ = some (.slice A203_0 ((rd_T24 t183 1).f0).length c203_0)) (ds := []) #[false, false, false, false, false, false, false, false, false, false, false, false] (by kernel_rfl) rfl rfl ⟨hx202_0, hx203_0⟩ (fun hHeld => ?_); refine with_tabW live04.tab8 live04.bits8 (fun HT_ HW_ => ?_)
      generalize w46.drew = w47 at HO_2 HO_183000 HO_183001 HO_183002 HO_183003 HO_183004 HL192_0 HO195 HO199 BK182 BK201 HB HL202_0 HL203_0 HR202_0 HR203_0 hx202_0 hx203_0 hHeld ⊢
      refine pure_ (i := 0) (N := some 58) (v := ?_) (a' := ?_) #[true, false, false, false, false, false, false, false, false, false, false, false] rfl rfl (any_of HT_.out (by kernel_rfl)) (fun _ _ _ h => h) (Or.inl ⟨by rfl, ?_⟩) ?_ ?_
      rotate_left
      · intro w'
        go_simp
        with_reducible rfl
      rotate_left
      · simp only [Act.put, List.setIfInBounds_toArray, List.set_cons_zero, List.set_cons_succ, i64_w, i32_w]
        rfl
      refine pure_ (i := 1) (N := some 59) (v := ?_) (a' := ?_) #[true, true, false, false, false, false, false, false, false, false, false, false] rfl rfl (any_of HT_.out (by kernel_rfl)) (fun _ _ _ h => h) (Or.inl ⟨by rfl, ?_⟩) ?_ ?_
      rotate_left
      · intro w'
        go_simp
        with_reducible rfl
      rotate_left
      · simp only [Act.put, List.setIfInBounds_toArray, List.set_cons_zero, List.set_cons_succ, i64_w, i32_w]
        rfl
      refine pure_ (i := 3) (N := some 61) (v := ?_) (a' := ?_) #[true, true, false, true, false, false, false, false, false, false, false, false] rfl rfl (any_of HT_.out (by kernel_rfl)) (fun _ _ _ h => h) (Or.inl ⟨by rfl, ?_⟩) ?_ ?_
      rotate_left
      · intro w'
        go_simp
        with_reducible rfl
      rotate_left
      · simp only [Act.put, List.setIfInBounds_toArray, List.set_cons_zero, List.set_cons_succ, i64_w, i32_w]
        rfl
      refine pure_ (i := 4) (N := some 62) (v := ?_) (a' := ?_) #[true, true, false, true, true, false, false, false, false, false, false, false] rfl rfl (any_of HT_.out (by kernel_rfl)) (fun _ _ _ h => h) (Or.inl ⟨by rfl, ?_⟩) ?_ ?_
      rotate_left
      · intro w'
        go_simp
        with_reducible rfl
      rotate_left
      · simp only [Act.put, List.setIfInBounds_toArray, List.set_cons_zero, List.set_cons_succ, i64_w, i32_w]
        rfl
      refine take_ (i := 2) (N := some 60) (v := ?_) (a' := ?_) #[true, true, true, true, true, false, false, false, false, false, false, false] rfl rfl (take_ofW HT_.out HW_.out (by kernel_rfl)) (fun _ _ _ h => h) (Or.inl ⟨by rfl, ?_⟩) hHeld ?_ ?_
      rotate_left
      · rintro w' ⟨s0, s1⟩
        go_simp
        with_reducible rfl
      rotate_left
      · simp only [Act.put, List.setIfInBounds_toArray, List.set_cons_zero, List.set_cons_succ, i64_w, i32_w]
        rfl
      refine take_ (i := 5) (N := some 63) (v := ?_) (a' := ?_) #[true, true, true, true, true, true, false, false, false, false, false, false] rfl rfl (take_ofW HT_.out HW_.out (by kernel_rfl)) (fun _ _ _ h => h) (Or.inl ⟨by rfl, ?_⟩) hHeld ?_ ?_
      rotate_left
      · rintro w' ⟨s0, s1⟩
        go_simp
        with_reducible rfl
      rotate_left
      · simp only [Act.put, List.setIfInBounds_toArray, List.set_cons_zero, List.set_cons_succ, i64_w, i32_w]
        rfl
      refine one_ (i := 6) (N := some 64) #[true, true, true, true, true, true, true, false, false, false, false, false] rfl rfl (one_of HT_.out (by kernel_rfl)) (by decide) (fun K hK => ?_)
      refine goes_ Tryd.func10 (by kernel_rfl) rfl #[.agg #[.slice A202_0 ((rd_T24 t183 0).f0).length c202_0], .agg #[.slice A203_0 ((rd_T24 t183 1).f0).length c203_0]] (by rfl) rfl rfl (by (try simp only [List.map_toArray, List.map_cons, List.map_nil]); first | done | rfl | (simp only [List.length_drop, List.length_take]; rfl)) ?_
      with_reducible refine (week_Diff.calls kj3 _ _ ((rd_T24 t183 0).f0) _ _ ((rd_T24 t183 1).f0) t204 t207 _ ?side1 ?side2 ?side3 ?side4 A31.out).mono ?_
      (case side1 => repeat (first | exact (by repeat (first | (with_reducible exact HR202_0.out) | (with_reducible refine Kd.C_alloc ?_ _) | (with_reducible refine Kd.C_drewN ?_ _) | (with_reducible refine Kd.C_drew ?_) | exact HR202_0.out)) | (with_reducible refine Kd.C_alloc ?_ _) | (with_reducible refine Kd.C_drewN ?_ _) | (with_reducible refine Kd.C_drew ?_)))
      (case side2 => exact HC202_0.out)
      (case side3 => repeat (first | exact (by repeat (first | (with_reducible exact HR203_0.out) | (with_reducible refine Kd.C_alloc ?_ _) | (with_reducible refine Kd.C_drewN ?_ _) | (with_reducible refine Kd.C_drew ?_) | exact HR203_0.out)) | (with_reducible refine Kd.C_alloc ?_ _) | (with_reducible refine Kd.C_drewN ?_ _) | (with_reducible refine Kd.C_drew ?_)))
      (case side4 => exact HC203_0.out)
      rintro e w48 ⟨v205, rfl, ho0, hb⟩
      have HS0_ := (hb.cell (World.block_lt_of_cell? _ _ (hHeld.1))).trans (hHeld.1)
      have HS1_ := (hb.cell (World.block_lt_of_cell? _ _ (hHeld.2))).trans (hHeld.2)
      refine ⟨_, rfl, ?_⟩
      have n0_ := Aside0.mk (Kd.S_below (s_ HO_2) hb)
      have n1_ := Aside0.mk (Kd.R_below (r_ HO_183000) hb)
      have n2_ := Aside0.mk (Kd.S_below (s_ HO_183001) hb)
      have n3_ := Aside0.mk (Kd.S_below (s_ HO_183002) hb)
      have n4_ := Aside0.mk (Kd.R_below (r_ HO_183003) hb)
      have n5_ := Aside0.mk (Kd.S_below (s_ HO_183004) hb)
      have n6_ := Aside0.mk (Kd.R_below (r_ HL192_0) hb)
      have n7_ := Aside0.mk (Kd.R_below (r_ HO195) hb)
      have n8_ := Aside0.mk (Kd.R_below (r_ HO199) hb)
      have n9_ := Aside0.mk (Kd.R_below (r_ HL202_0) hb)
      have n10_ := Aside0.mk (Kd.R_below (r_ HL203_0) hb)
      have n11_ := Aside0.mk (Kd.R_lower ho0 (below_size (b_ HB)))
      have n12_ := Aside0.mk (blk_below (k_ BK182) hb)
      have n13_ := Aside0.mk (blk_below (k_ BK201) hb)
      have n14_ := Aside0.mk (Kd.C_below (by repeat (first | (with_reducible exact HR202_0.out) | (with_reducible refine Kd.C_alloc ?_ _) | (with_reducible refine Kd.C_drewN ?_ _) | (with_reducible refine Kd.C_drew ?_) | exact HR202_0.out)) hb)
      have n15_ := Aside0.mk (Kd.C_below (by repeat (first | (with_reducible exact HR203_0.out) | (with_reducible refine Kd.C_alloc ?_ _) | (with_reducible refine Kd.C_drewN ?_ _) | (with_reducible refine Kd.C_drew ?_) | exact HR203_0.out)) hb)
      have n16_ := Aside0.mk (below_step (b_ HB) hb)
      clear HO_2 HO_183000 HO_183001 HO_183002 HO_183003 HO_183004 HL192_0 HO195 HO199 HL202_0 HL203_0 BK182 BK201 HR202_0 HR203_0 HB
      have HO_2 := n0_; have HO_183000 := n1_; have HO_183001 := n2_; have HO_183002 := n3_; have HO_183003 := n4_; have HO_183004 := n5_; have HL192_0 := n6_; have HO195 := n7_; have HO199 := n8_; have HL202_0 := n9_; have HL203_0 := n10_; have HO206 := n11_; have BK182 := n12_; have BK201 := n13_; have HR202_0 := n14_; have HR203_0 := n15_; have HB := n16_
      clear n0_ n1_ n2_ n3_ n4_ n5_ n6_ n7_ n8_ n9_ n10_ n11_ n12_ n13_ n14_ n15_ n16_
      (try clear hb); (try clear hb2); (try clear hk); (try clear hi); (try clear ho0)
      refine hK.out _ _ ⟨HS0_, HS1_⟩ (fun hHeld => ?_)
      clear hK K
      refine norm_ (a' := ?_) ?_ ?_
      rotate_left
      · show Act.put _ (some 64) _ = _
        simp only [Act.put, List.setIfInBounds_toArray, List.set_cons_zero, List.set_cons_succ, i64_w, i32_w]
        rfl
      refine pure_ (i := 7) (N := some 57) (v := ?_) (a' := ?_) #[true, true, true, true, true, true, true, true, false, false, false, false] rfl rfl (any_of HT_.out (by kernel_rfl)) (fun _ _ _ h => h) (Or.inl ⟨by rfl, ?_⟩) ?_ ?_
      rotate_left
      · intro w'
        go_simp
        with_reducible rfl
      rotate_left
      · simp only [Act.put, List.setIfInBounds_toArray, List.set_cons_zero, List.set_cons_succ, i64_w, i32_w]
        rfl
      refine pure_ (i := 8) (N := some 65) (v := ?_) (a' := ?_) #[true, true, true, true, true, true, true, true, true, false, false, false] rfl rfl (any_of HT_.out (by kernel_rfl)) (fun _ _ _ h => h) (Or.inl ⟨by rfl, ?_⟩) ?_ ?_
      rotate_left
      · intro w'
        go_simp
        with_reducible rfl
      rotate_left
      · simp only [Act.put, List.setIfInBounds_toArray, List.set_cons_zero, List.set_cons_succ, i64_w, i32_w]
        rfl
      refine pure_ (i := 9) (N := some 66) (v := ?_) (a' := ?_) #[true, true, true, true, true, true, true, true, true, true, false, false] rfl rfl (any_of HT_.out (by kernel_rfl)) (fun _ _ _ h => h) (Or.inl ⟨by rfl, ?_⟩) ?_ ?_
      rotate_left
      · intro w'
        go_simp
        with_reducible rfl
      rotate_left
      · simp only [Act.put, List.setIfInBounds_toArray, List.set_cons_zero, List.set_cons_succ, i64_w, i32_w]
        rfl
      refine pure_ (i := 10) (N := some 10) (v := ?_) (a' := ?_) #[true, true, true, true, true, true, true, true, true, true, true, false] rfl rfl (any_of HT_.out (by kernel_rfl)) (fun _ _ _ h => h) (Or.inl ⟨by rfl, ?_⟩) ?_ ?_
      rotate_left
      · intro w'
        go_simp
        with_reducible rfl
      rotate_left
      · simp only [Act.put, List.setIfInBounds_toArray, List.set_cons_zero, List.set_cons_succ, i64_w, i32_w]
        rfl
      refine pure_ (i := 11) (N := some 11) (v := ?_) (a' := ?_) #[true, true, true, true, true, true, true, true, true, true, true, true] rfl rfl (any_of HT_.out (by kernel_rfl)) (fun _ _ _ h => h) (Or.inl ⟨by rfl, ?_⟩) ?_ ?_
      rotate_left
      · intro w'
        go_simp
        with_reducible rfl
      rotate_left
      · simp only [Act.put, List.setIfInBounds_toArray, List.set_cons_zero, List.set_cons_succ, i64_w, i32_w]
        rfl
      refine done_ (done_of HT_.out (by kernel_rfl)) ?_
      have p208 : 0 ≤ (0 : Int) := (by omega)
      have q208 : 0 < (t183.length : Int) := of_decide_eq_true (by first | (with_reducible assumption) | assumption)
      obtain ⟨ad208, A208_0, c208_0, e208, hx208_0, hl208_0, hi208_0⟩ := at_T24 (Kd.S_reads' HO_2.out).2.2 0 p208 q208
      obtain rfl : ad192 = ad208 := (by injection e208)
      obtain ⟨ce208, hce208, hMe208, hcc208⟩ := Kd.S_get HO_2.out z24 0 p208 (by first | exact q208 | exact of_decide_eq_true (by first | (with_reducible assumption) | assumption) | (have e_ := (Kd.S_reads' HO_2.out).1; omega))
      obtain ⟨ve208_0, rfl, ge208_0⟩ := k24_openM hMe208
      have hv208_0 := hcc208 0 _ rfl
      rw [Nat.add_zero, show (k24).sz = 1 from rfl, Nat.mul_one] at hv208_0
      replace hv208_0 := Option.some.inj (hv208_0.symm.trans hx208_0)
      rw [hv208_0] at ge208_0
      have HL208_0 := Aside0.mk (show Kd.R k55 55 _ _ _ _ ((rd_T24 t183 0).f0) from ge208_0)
      clear hv208_0 ge208_0 hcc208 hce208
      have qi208 : (0 < t183.length) = True := eq_true (by omega)
      (try rw [show ((0 : Int)).toNat = 0 from rfl] at hx208_0)
      (try rw [Addr.add_zero'] at hx208_0)
      have HR208_0 := Aside0.mk hi208_0
      have HC208_0 := Aside0.mk hl208_0
      clear hi208_0 hl208_0
      replace p208 := eq_true p208
      replace q208 := eq_true q208
      obtain ⟨Ao49, co49, eo49⟩ := Kd.R_slice HO206.out
      subst eo49
      (try clear HS0_); (try clear HS1_); (try clear HS5_); (try clear hHeld)
      go_upto_region 11 with (first | ((with_reducible refine gate_callee (f := 12) rfl ?_); refine goesL_ (some 72) rfl rfl Tryd.func12 (by kernel_rfl) rfl #[.agg #[.slice A208_0 ((rd_T24 t183 0).f0).length c208_0], .slice Ao49 t204.length co49] rfl (by (try simp only [List.map_toArray, List.map_cons, List.map_nil]); first | done | rfl | (simp only [List.length_drop, List.length_take]; rfl)) ?_; (with_reducible refine (week_Apply.calls kj3 _ _ ((rd_T24 t183 0).f0) _ _ t204 t209 t212 _ ?side1 ?side2 ?side3 ?side4 A32.out).mono ?_); (case side1 => repeat (first | exact (by repeat (first | (with_reducible exact HR208_0.out) | (with_reducible refine Kd.C_alloc ?_ _) | (with_reducible refine Kd.C_drewN ?_ _) | (with_reducible refine Kd.C_drew ?_) | exact HR208_0.out)) | (with_reducible refine Kd.C_alloc ?_ _) | (with_reducible refine Kd.C_drewN ?_ _) | (with_reducible refine Kd.C_drew ?_))); (case side2 => exact HC208_0.out); (case side3 => repeat (first | exact (Kd.R_reads' HO206.out).2.2 | (with_reducible refine Kd.C_alloc ?_ _) | (with_reducible refine Kd.C_drewN ?_ _) | (with_reducible refine Kd.C_drew ?_))); (case side4 => exact (Kd.R_reads' HO206.out).2.1); rintro e w50 ⟨v210, rfl, ho0, hb⟩; refine ⟨_, rfl, ?_⟩; have n0_ := Aside0.mk (Kd.S_elder' (s_ HO_2) (Kd.R_base ho0) hb); have n1_ := Aside0.mk (Kd.R_below (r_ HO_183000) hb); have n2_ := Aside0.mk (Kd.S_below (s_ HO_183001) hb); have n3_ := Aside0.mk (Kd.S_below (s_ HO_183002) hb); have n4_ := Aside0.mk (Kd.R_below (r_ HO_183003) hb); have n5_ := Aside0.mk (Kd.S_below (s_ HO_183004) hb); have n6_ := Aside0.mk (Kd.R_elder' (r_ HL192_0) (Kd.R_base ho0) hb); have n7_ := Aside0.mk (Kd.R_below (r_ HO195) hb); have n8_ := Aside0.mk (Kd.R_elder' (r_ HO199) (Kd.R_base ho0) hb); have n9_ := Aside0.mk (Kd.R_elder' (r_ HL202_0) (Kd.R_base ho0) hb); have n10_ := Aside0.mk (Kd.R_elder' (r_ HL203_0) (Kd.R_base ho0) hb); have n11_ := Aside0.mk (Kd.R_below (r_ HO206) hb); have n12_ := Aside0.mk (Kd.R_elder' (r_ HL208_0) (Kd.R_base ho0) hb); have n13_ := Aside0.mk (Kd.R_lower (Kd.R_new' (Kd.R_new' (Kd.R_new' (Kd.R_new' (Kd.R_new' ho0 (Kd.R_lt (r_ HL192_0))) (Kd.R_lt (r_ HO199))) (Kd.R_lt (r_ HL202_0))) (Kd.R_lt (r_ HL203_0))) (Kd.R_lt (r_ HL208_0))) (below_size (b_ HB))); have n14_ := Aside0.mk (blk_below (k_ BK182) hb); have n15_ := Aside0.mk (blk_below (k_ BK201) hb); have n16_ := Aside0.mk (Kd.C_below (by repeat (first | (with_reducible exact HR202_0.out) | (with_reducible refine Kd.C_alloc ?_ _) | (with_reducible refine Kd.C_drewN ?_ _) | (with_reducible refine Kd.C_drew ?_) | exact HR202_0.out)) hb); have n17_ := Aside0.mk (Kd.C_below (by repeat (first | (with_reducible exact HR203_0.out) | (with_reducible refine Kd.C_alloc ?_ _) | (with_reducible refine Kd.C_drewN ?_ _) | (with_reducible refine Kd.C_drew ?_) | exact HR203_0.out)) hb); have n18_ := Aside0.mk (Kd.C_below (by repeat (first | (with_reducible exact HR208_0.out) | (with_reducible refine Kd.C_alloc ?_ _) | (with_reducible refine Kd.C_drewN ?_ _) | (with_reducible refine Kd.C_drew ?_) | exact HR208_0.out)) hb); have n19_ := Aside0.mk (below_step (b_ HB) hb); clear HO_2; clear HO_183000; clear HO_183001; clear HO_183002; clear HO_183003; clear HO_183004; clear HL192_0; clear HO195; clear HO199; clear HL202_0; clear HL203_0; clear HO206; clear HL208_0; clear BK182; clear BK201; clear HR202_0; clear HR203_0; clear HR208_0; clear HB; have HO_2 := n0_; have HO_183000 := n1_; have HO_183001 := n2_; have HO_183002 := n3_; have HO_183003 := n4_; have HO_183004 := n5_; have HL192_0 := n6_; have HO195 := n7_; have HO199 := n8_; have HL202_0 := n9_; have HL203_0 := n10_; have HO206 := n11_; have HL208_0 := n12_; have HO211 := n13_; have BK182 := n14_; have BK201 := n15_; have HR202_0 := n16_; have HR203_0 := n17_; have HR208_0 := n18_; have HB := n19_; clear n0_ n1_ n2_ n3_ n4_ n5_ n6_ n7_ n8_ n9_ n10_ n11_ n12_ n13_ n14_ n15_ n16_ n17_ n18_ n19_; (try clear hb); (try clear hb2); (try clear hk); (try clear hi); (try clear ho0)) | ((with_reducible refine gate_dst (N := 12) rfl ?_); (try (refine gate_guard (by rfl) ?_; dsimp only)); refine box_event ?hg (N := 12) ?hd (cs := #[.slice none 0 0]) (t := 24) ?hr ?_; (case hd => rfl); (case hg => rfl); (case hr => first | (go_simp; done) | (go_simp; rfl)); intro gb213 hg w51 hbox hb; have n0_ := Aside0.mk (Kd.S_below (Kd.S_elderB (s_ HO_2) gb213 (Nat.le_of_eq hg.symm)) hb); have n1_ := Aside0.mk (Kd.R_below (r_ HO_183000) hb); have n2_ := Aside0.mk (Kd.S_below (s_ HO_183001) hb); have n3_ := Aside0.mk (Kd.S_below (s_ HO_183002) hb); have n4_ := Aside0.mk (Kd.R_below (r_ HO_183003) hb); have n5_ := Aside0.mk (Kd.S_below (s_ HO_183004) hb); have n6_ := Aside0.mk (Kd.R_below (r_ HL192_0) hb); have n7_ := Aside0.mk (Kd.R_below (r_ HO195) hb); have n8_ := Aside0.mk (Kd.R_below (r_ HO199) hb); have n9_ := Aside0.mk (Kd.R_below (r_ HL202_0) hb); have n10_ := Aside0.mk (Kd.R_below (r_ HL203_0) hb); have n11_ := Aside0.mk (Kd.R_below (r_ HO206) hb); have n12_ := Aside0.mk (Kd.R_below (r_ HL208_0) hb); have n13_ := Aside0.mk (Kd.R_below (r_ HO211) hb); have n14_ := Aside0.mk (blk_below (k_ BK182) hb); have n15_ := Aside0.mk (blk_below (k_ BK201) hb); have n16_ := Aside0.mk (Kd.C_below (by repeat (first | (with_reducible exact HR202_0.out) | (with_reducible refine Kd.C_alloc ?_ _) | (with_reducible refine Kd.C_drewN ?_ _) | (with_reducible refine Kd.C_drew ?_) | exact HR202_0.out)) hb); have n17_ := Aside0.mk (Kd.C_below (by repeat (first | (with_reducible exact HR203_0.out) | (with_reducible refine Kd.C_alloc ?_ _) | (with_reducible refine Kd.C_drewN ?_ _) | (with_reducible refine Kd.C_drew ?_) | exact HR203_0.out)) hb); have n18_ := Aside0.mk (Kd.C_below (by repeat (first | (with_reducible exact HR208_0.out) | (with_reducible refine Kd.C_alloc ?_ _) | (with_reducible refine Kd.C_drewN ?_ _) | (with_reducible refine Kd.C_drew ?_) | exact HR208_0.out)) hb); have n19_ := Aside0.mk (below_step (b_ HB) hb); have n20_ := Aside0.mk (hbox); have n21_ := Aside0.mk ((by rw [hg]; exact (below_size (b_ HB)) : w.heap.size ≤ gb213)); have n22_ := n21_; have n23_ := Aside0.mk ((by rw [hg]; exact Nat.ne_of_lt (blk_lt (k_ BK182)) : gb182 ≠ gb213)); have n24_ := Aside0.mk ((by rw [hg]; exact Nat.ne_of_gt (blk_lt (k_ BK182)) : gb213 ≠ gb182)); have n25_ := Aside0.mk ((by rw [hg]; exact Nat.ne_of_lt (blk_lt (k_ BK201)) : gb201 ≠ gb213)); have n26_ := Aside0.mk ((by rw [hg]; exact Nat.ne_of_gt (blk_lt (k_ BK201)) : gb213 ≠ gb201)); clear HO_2; clear HO_183000; clear HO_183001; clear HO_183002; clear HO_183003; clear HO_183004; clear HL192_0; clear HO195; clear HO199; clear HL202_0; clear HL203_0; clear HO206; clear HL208_0; clear HO211; clear BK182; clear BK201; clear HR202_0; clear HR203_0; clear HR208_0; clear HB; have HO_2 := n0_; have HO_183000 := n1_; have HO_183001 := n2_; have HO_183002 := n3_; have HO_183003 := n4_; have HO_183004 := n5_; have HL192_0 := n6_; have HO195 := n7_; have HO199 := n8_; have HL202_0 := n9_; have HL203_0 := n10_; have HO206 := n11_; have HL208_0 := n12_; have HO211 := n13_; have BK182 := n14_; have BK201 := n15_; have HR202_0 := n16_; have HR203_0 := n17_; have HR208_0 := n18_; have HB := n19_; have BK213 := n20_; have GW213 := n21_; have GE213 := n22_; have NB182_213 := n23_; have NB213_182 := n24_; have NB201_213 := n25_; have NB213_201 := n26_; clear n0_ n1_ n2_ n3_ n4_ n5_ n6_ n7_ n8_ n9_ n10_ n11_ n12_ n13_ n14_ n15_ n16_ n17_ n18_ n19_ n20_ n21_ n22_ n23_ n24_ n25_ n26_; clear hb hbox hg; obtain ⟨Ao52, co52, eo52⟩ := Kd.R_slice HO211.out; subst eo52; have hnb53 := NB213_182.out; have hnc53 := NB182_213.out; have hnb54 := NB213_201.out; have hnc54 := NB201_213.out; have hcz55_0 : w51.cell? ⟨gb213, 0, none⟩ = some (.slice none 0 0) := (blk_cell BK213.out 0).trans rfl; have hfz55_0 := blk_frozen BK213.out 0) | ((with_reducible refine gate_dst (N := 76) rfl ?_); (try (refine gate_guard (by rfl) ?_; dsimp only)); refine Kd.R_lit (Kd.int .u8) _ 5 ?hg (N := 76) ?hd (xs := ([7] : List Int)) (inner := [.int .u8 7]) (ok := fun _ => True) (okp := fun _ => True) ?hr ?hp (fun _ hk => hk) trivial (Below.refl _ _) (Nat.le_refl _) (by simp) ?_; (case hd => rfl); (case hg => rfl); (case hr => first | (go_simp; done) | (go_simp; rfl)); (case hp => exact (Reps.one (show Kd.M (Kd.int .u8) _ _ _ 7 [.int .u8 7] from rfl) (Reps.none _ _))); intro v215 w56 ho57 hb hg_ hnew_; clear hg_ hnew_; (first | rw [← Ny214.out] at ho57 | (simp only [Int.reduceToNat] at ho57; rw [← Ny214.out] at ho57)); have n0_ := Aside0.mk (Kd.S_below (by (with_reducible repeat (first | apply Kd.S_alloc | apply Kd.S_drewN | apply Kd.S_drew)); exact (Kd.S_mono (Kd.S_far (p := ⟨gb213, 0, none⟩) (Kd.S_mono HO_2.out (fun k_ hk => (⟨hk, hk.2⟩ : _ ∧ k_ ≠ gb213))) (fun _ hk => hk.2) (.slice Ao52 t209.length co52)) (fun _ h_ => h_.1))) hb); have n1_ := Aside0.mk (Kd.R_below (by (with_reducible repeat (first | apply Kd.R_alloc | apply Kd.R_drewN | apply Kd.R_drew)); exact (Kd.R_mono (Kd.R_far (p := ⟨gb213, 0, none⟩) (Kd.R_types HO_183000.out BK213.out (by decide)) (fun _ hk => hk.2) (.slice Ao52 t209.length co52)) (fun _ h_ => h_.1))) hb); have n2_ := Aside0.mk (Kd.S_below (by (with_reducible repeat (first | apply Kd.S_alloc | apply Kd.S_drewN | apply Kd.S_drew)); exact (Kd.S_mono (Kd.S_far (p := ⟨gb213, 0, none⟩) (Kd.S_types HO_183001.out BK213.out (by decide)) (fun _ hk => hk.2) (.slice Ao52 t209.length co52)) (fun _ h_ => h_.1))) hb); have n3_ := Aside0.mk (Kd.S_below (by (with_reducible repeat (first | apply Kd.S_alloc | apply Kd.S_drewN | apply Kd.S_drew)); exact (Kd.S_mono (Kd.S_far (p := ⟨gb213, 0, none⟩) (Kd.S_types HO_183002.out BK213.out (by decide)) (fun _ hk => hk.2) (.slice Ao52 t209.length co52)) (fun _ h_ => h_.1))) hb); have n4_ := Aside0.mk (Kd.R_below (by (with_reducible repeat (first | apply Kd.R_alloc | apply Kd.R_drewN | apply Kd.R_drew)); exact (Kd.R_mono (Kd.R_far (p := ⟨gb213, 0, none⟩) (Kd.R_types HO_183003.out BK213.out (by decide)) (fun _ hk => hk.2) (.slice Ao52 t209.length co52)) (fun _ h_ => h_.1))) hb); have n5_ := Aside0.mk (Kd.S_below (by (with_reducible repeat (first | apply Kd.S_alloc | apply Kd.S_drewN | apply Kd.S_drew)); exact (Kd.S_mono (Kd.S_far (p := ⟨gb213, 0, none⟩) (Kd.S_types HO_183004.out BK213.out (by decide)) (fun _ hk => hk.2) (.slice Ao52 t209.length co52)) (fun _ h_ => h_.1))) hb); have n6_ := Aside0.mk (Kd.R_below (by (with_reducible repeat (first | apply Kd.R_alloc | apply Kd.R_drewN | apply Kd.R_drew)); exact (Kd.R_mono (Kd.R_far (p := ⟨gb213, 0, none⟩) (Kd.R_types HL192_0.out BK213.out (by decide)) (fun _ hk => hk.2) (.slice Ao52 t209.length co52)) (fun _ h_ => h_.1))) hb); have n7_ := Aside0.mk (Kd.R_below (by (with_reducible repeat (first | apply Kd.R_alloc | apply Kd.R_drewN | apply Kd.R_drew)); exact (Kd.R_mono (Kd.R_far (p := ⟨gb213, 0, none⟩) (Kd.R_types HO195.out BK213.out (by decide)) (fun _ hk => hk.2) (.slice Ao52 t209.length co52)) (fun _ h_ => h_.1))) hb); have n8_ := Aside0.mk (Kd.R_below (by (with_reducible repeat (first | apply Kd.R_alloc | apply Kd.R_drewN | apply Kd.R_drew)); exact (Kd.R_mono (Kd.R_far (p := ⟨gb213, 0, none⟩) (Kd.R_types HO199.out BK213.out (by decide)) (fun _ hk => hk.2) (.slice Ao52 t209.length co52)) (fun _ h_ => h_.1))) hb); have n9_ := Aside0.mk (Kd.R_below (by (with_reducible repeat (first | apply Kd.R_alloc | apply Kd.R_drewN | apply Kd.R_drew)); exact (Kd.R_mono (Kd.R_far (p := ⟨gb213, 0, none⟩) (Kd.R_types HL202_0.out BK213.out (by decide)) (fun _ hk => hk.2) (.slice Ao52 t209.length co52)) (fun _ h_ => h_.1))) hb); have n10_ := Aside0.mk (Kd.R_below (by (with_reducible repeat (first | apply Kd.R_alloc | apply Kd.R_drewN | apply Kd.R_drew)); exact (Kd.R_mono (Kd.R_far (p := ⟨gb213, 0, none⟩) (Kd.R_types HL203_0.out BK213.out (by decide)) (fun _ hk => hk.2) (.slice Ao52 t209.length co52)) (fun _ h_ => h_.1))) hb); have n11_ := Aside0.mk (Kd.R_below (by (with_reducible repeat (first | apply Kd.R_alloc | apply Kd.R_drewN | apply Kd.R_drew)); exact (Kd.R_mono (Kd.R_far (p := ⟨gb213, 0, none⟩) (Kd.R_types HO206.out BK213.out (by decide)) (fun _ hk => hk.2) (.slice Ao52 t209.length co52)) (fun _ h_ => h_.1))) hb); have n12_ := Aside0.mk (Kd.R_below (by (with_reducible repeat (first | apply Kd.R_alloc | apply Kd.R_drewN | apply Kd.R_drew)); exact (Kd.R_mono (Kd.R_far (p := ⟨gb213, 0, none⟩) (Kd.R_types HL208_0.out BK213.out (by decide)) (fun _ hk => hk.2) (.slice Ao52 t209.length co52)) (fun _ h_ => h_.1))) hb); have n13_ := Aside0.mk (Kd.R_below (by (with_reducible repeat (first | apply Kd.R_alloc | apply Kd.R_drewN | apply Kd.R_drew)); exact (Kd.R_mono (Kd.R_far (p := ⟨gb213, 0, none⟩) (Kd.R_types HO211.out BK213.out (by decide)) (fun _ hk => hk.2) (.slice Ao52 t209.length co52)) (fun _ h_ => h_.1))) hb); have n14_ := Aside0.mk (Kd.R_lower ho57 (below_size (b_ HB))); have n15_ := Aside0.mk (blk_below (g := gb182) (o := .cells #[.slice Ao7 t167.length co7, .slice Ao9 t170.length co9, .slice Ao10 t173.length co10, .slice Ao11 t176.length co11, .slice Ao12 t179.length co12] 45 (0, 0)) (by (with_reducible repeat (first | refine blk_drewN ?_ _ | refine blk_drew ?_ | refine blk_alloc ?_ _)); refine blk_far ?_ NB182_213.out _; (with_reducible repeat (first | refine blk_drewN ?_ _ | refine blk_drew ?_ | refine blk_alloc ?_ _)); exact BK182.out) hb); have n16_ := Aside0.mk (blk_below (g := gb201) (o := .cells #[.slice Ao43 t197.length co43] 24 (0, 0)) (by (with_reducible repeat (first | refine blk_drewN ?_ _ | refine blk_drew ?_ | refine blk_alloc ?_ _)); refine blk_far ?_ NB201_213.out _; (with_reducible repeat (first | refine blk_drewN ?_ _ | refine blk_drew ?_ | refine blk_alloc ?_ _)); exact BK201.out) hb); have n17_ := Aside0.mk (Kd.C_below ((Kd.R_reads' (by (with_reducible repeat (first | apply Kd.R_alloc | apply Kd.R_drewN | apply Kd.R_drew)); exact (Kd.R_mono (Kd.R_far (p := ⟨gb213, 0, none⟩) (Kd.R_types HL202_0.out BK213.out (by decide)) (fun _ hk => hk.2) (.slice Ao52 t209.length co52)) (fun _ h_ => h_.1)))).2.2) hb); have n18_ := Aside0.mk (Kd.C_below ((Kd.R_reads' (by (with_reducible repeat (first | apply Kd.R_alloc | apply Kd.R_drewN | apply Kd.R_drew)); exact (Kd.R_mono (Kd.R_far (p := ⟨gb213, 0, none⟩) (Kd.R_types HL203_0.out BK213.out (by decide)) (fun _ hk => hk.2) (.slice Ao52 t209.length co52)) (fun _ h_ => h_.1)))).2.2) hb); have n19_ := Aside0.mk (Kd.C_below ((Kd.R_reads' (by (with_reducible repeat (first | apply Kd.R_alloc | apply Kd.R_drewN | apply Kd.R_drew)); exact (Kd.R_mono (Kd.R_far (p := ⟨gb213, 0, none⟩) (Kd.R_types HL208_0.out BK213.out (by decide)) (fun _ hk => hk.2) (.slice Ao52 t209.length co52)) (fun _ h_ => h_.1)))).2.2) hb); have n20_ := Aside0.mk (blk_below (g := gb213) (o := .cells #[.slice Ao52 t209.length co52] 24 (0, 0)) (by (with_reducible repeat (first | refine blk_drewN ?_ _ | refine blk_drew ?_ | refine blk_alloc ?_ _)); refine blk_put (cs := #[.slice none 0 0]) ?_ 0 _ rfl; (with_reducible repeat (first | refine blk_drewN ?_ _ | refine blk_drew ?_ | refine blk_alloc ?_ _)); exact BK213.out) hb); have n21_ := Aside0.mk (below_step (b_ HB) hb); clear HO_2; clear HO_183000; clear HO_183001; clear HO_183002; clear HO_183003; clear HO_183004; clear HL192_0; clear HO195; clear HO199; clear HL202_0; clear HL203_0; clear HO206; clear HL208_0; clear HO211; clear BK182; clear BK201; clear HR202_0; clear HR203_0; clear HR208_0; clear BK213; clear HB; have HO_2 := n0_; have HO_183000 := n1_; have HO_183001 := n2_; have HO_183002 := n3_; have HO_183003 := n4_; have HO_183004 := n5_; have HL192_0 := n6_; have HO195 := n7_; have HO199 := n8_; have HL202_0 := n9_; have HL203_0 := n10_; have HO206 := n11_; have HL208_0 := n12_; have HO211 := n13_; have HO216 := n14_; have BK182 := n15_; have BK201 := n16_; have HR202_0 := n17_; have HR203_0 := n18_; have HR208_0 := n19_; have BK213 := n20_; have HB := n21_; clear n0_ n1_ n2_ n3_ n4_ n5_ n6_ n7_ n8_ n9_ n10_ n11_ n12_ n13_ n14_ n15_ n16_ n17_ n18_ n19_ n20_ n21_; clear hb ho57; have p217 : 0 ≤ (1 : Int) := (by omega); have q217 : 1 < (t183.length : Int) := of_decide_eq_true (by first | (with_reducible assumption) | assumption); obtain ⟨ad217, A217_0, c217_0, e217, hx217_0, hl217_0, hi217_0⟩ := at_T24 (Kd.S_reads' HO_2.out).2.2 1 p217 q217; obtain rfl : ad192 = ad217 := (by injection e217); obtain ⟨ce217, hce217, hMe217, hcc217⟩ := Kd.S_get HO_2.out z24 1 p217 (by first | exact q217 | exact of_decide_eq_true (by first | (with_reducible assumption) | assumption) | (have e_ := (Kd.S_reads' HO_2.out).1; omega)); obtain ⟨ve217_0, rfl, ge217_0⟩ := k24_openM hMe217; have hv217_0 := hcc217 0 _ rfl; rw [Nat.add_zero, show (k24).sz = 1 from rfl, Nat.mul_one] at hv217_0; replace hv217_0 := Option.some.inj (hv217_0.symm.trans hx217_0); rw [hv217_0] at ge217_0; have HL217_0 := Aside0.mk (show Kd.R k55 55 _ _ _ _ ((rd_T24 t183 1).f0) from ge217_0); clear hv217_0 ge217_0; clear hcc217 hce217; (try simp only [show (1 : Int).toNat = 1 from rfl, Nat.reduceMul, Nat.reduceEqDiff, Go.Addr.add, ↓reduceIte] at hx217_0); have qi217 : (1 < t183.length) = True := eq_true (by omega); (try rw [show ((1 : Int)).toNat = 1 from rfl] at hx217_0); have HR217_0 := Aside0.mk hi217_0; have HC217_0 := Aside0.mk hl217_0; clear hi217_0 hl217_0; replace p217 := eq_true p217; replace q217 := eq_true q217; obtain ⟨Ao58, co58, eo58⟩ := Kd.R_slice HO216.out; subst eo58) | ((with_reducible refine gate_callee (f := 18) rfl ?_); refine goesL_ (some 80) rfl rfl Tryd.func18 (by kernel_rfl) rfl #[.slice Ao58 y214.length co58, .agg #[.slice A217_0 ((rd_T24 t183 1).f0).length c217_0]] rfl (by (try simp only [List.map_toArray, List.map_cons, List.map_nil]); first | done | rfl | (simp only [List.length_drop, List.length_take]; rfl)) ?_; (with_reducible refine (week_Put.calls kj3 _ _ y214 _ _ ((rd_T24 t183 1).f0) t218 _ ?side1 ?side2 ?side3 ?side4 A33.out).mono ?_); (case side1 => repeat (first | exact (Kd.R_reads' HO216.out).2.2 | (with_reducible refine Kd.C_alloc ?_ _) | (with_reducible refine Kd.C_drewN ?_ _) | (with_reducible refine Kd.C_drew ?_))); (case side2 => exact (Kd.R_reads' HO216.out).2.1); (case side3 => repeat (first | exact (by repeat (first | (with_reducible exact HR217_0.out) | (with_reducible refine Kd.C_alloc ?_ _) | (with_reducible refine Kd.C_drewN ?_ _) | (with_reducible refine Kd.C_drew ?_) | exact HR217_0.out)) | (with_reducible refine Kd.C_alloc ?_ _) | (with_reducible refine Kd.C_drewN ?_ _) | (with_reducible refine Kd.C_drew ?_))); (case side4 => exact HC217_0.out); rintro e w59 ⟨v219, rfl, ho0, hb⟩; refine ⟨_, rfl, ?_⟩; have n0_ := Aside0.mk (Kd.S_below (s_ HO_2) hb); have n1_ := Aside0.mk (Kd.R_below (r_ HO_183000) hb); have n2_ := Aside0.mk (Kd.S_below (s_ HO_183001) hb); have n3_ := Aside0.mk (Kd.S_below (s_ HO_183002) hb); have n4_ := Aside0.mk (Kd.R_below (r_ HO_183003) hb); have n5_ := Aside0.mk (Kd.S_below (s_ HO_183004) hb); have n6_ := Aside0.mk (Kd.R_below (r_ HL192_0) hb); have n7_ := Aside0.mk (Kd.R_below (r_ HO195) hb); have n8_ := Aside0.mk (Kd.R_below (r_ HO199) hb); have n9_ := Aside0.mk (Kd.R_below (r_ HL202_0) hb); have n10_ := Aside0.mk (Kd.R_below (r_ HL203_0) hb); have n11_ := Aside0.mk (Kd.R_below (r_ HO206) hb); have n12_ := Aside0.mk (Kd.R_below (r_ HL208_0) hb); have n13_ := Aside0.mk (Kd.R_below (r_ HO211) hb); have n14_ := Aside0.mk (Kd.R_elder' (r_ HO216) (Kd.R_base ho0) hb); have n15_ := Aside0.mk (Kd.R_below (r_ HL217_0) hb); have n16_ := Aside0.mk (Kd.R_lower (Kd.R_new' ho0 (Kd.R_lt (r_ HO216))) (below_size (b_ HB))); have n17_ := Aside0.mk (blk_below (k_ BK182) hb); have n18_ := Aside0.mk (blk_below (k_ BK201) hb); have n19_ := Aside0.mk (Kd.C_below (by repeat (first | (with_reducible exact HR202_0.out) | (with_reducible refine Kd.C_alloc ?_ _) | (with_reducible refine Kd.C_drewN ?_ _) | (with_reducible refine Kd.C_drew ?_) | exact HR202_0.out)) hb); have n20_ := Aside0.mk (Kd.C_below (by repeat (first | (with_reducible exact HR203_0.out) | (with_reducible refine Kd.C_alloc ?_ _) | (with_reducible refine Kd.C_drewN ?_ _) | (with_reducible refine Kd.C_drew ?_) | exact HR203_0.out)) hb); have n21_ := Aside0.mk (Kd.C_below (by repeat (first | (with_reducible exact HR208_0.out) | (with_reducible refine Kd.C_alloc ?_ _) | (with_reducible refine Kd.C_drewN ?_ _) | (with_reducible refine Kd.C_drew ?_) | exact HR208_0.out)) hb); have n22_ := Aside0.mk (blk_below (k_ BK213) hb); have n23_ := Aside0.mk (Kd.C_below (by repeat (first | (with_reducible exact HR217_0.out) | (with_reducible refine Kd.C_alloc ?_ _) | (with_reducible refine Kd.C_drewN ?_ _) | (with_reducible refine Kd.C_drew ?_) | exact HR217_0.out)) hb); have n24_ := Aside0.mk (below_step (b_ HB) hb); clear HO_2; clear HO_183000; clear HO_183001; clear HO_183002; clear HO_183003; clear HO_183004; clear HL192_0; clear HO195; clear HO199; clear HL202_0; clear HL203_0; clear HO206; clear HL208_0; clear HO211; clear HO216; clear HL217_0; clear BK182; clear BK201; clear HR202_0; clear HR203_0; clear HR208_0; clear BK213; clear HR217_0; clear HB; have HO_2 := n0_; have HO_183000 := n1_; have HO_183001 := n2_; have HO_183002 := n3_; have HO_183003 := n4_; have HO_183004 := n5_; have HL192_0 := n6_; have HO195 := n7_; have HO199 := n8_; have HL202_0 := n9_; have HL203_0 := n10_; have HO206 := n11_; have HL208_0 := n12_; have HO211 := n13_; have HO216 := n14_; have HL217_0 := n15_; have HO220 := n16_; have BK182 := n17_; have BK201 := n18_; have HR202_0 := n19_; have HR203_0 := n20_; have HR208_0 := n21_; have BK213 := n22_; have HR217_0 := n23_; have HB := n24_; clear n0_ n1_ n2_ n3_ n4_ n5_ n6_ n7_ n8_ n9_ n10_ n11_ n12_ n13_ n14_ n15_ n16_ n17_ n18_ n19_ n20_ n21_ n22_ n23_ n24_; (try clear hb); (try clear hb2); (try clear hk); (try clear hi); (try clear ho0); obtain ⟨Ao60, co60, eo60⟩ := Kd.R_slice HO220.out; subst eo60) | ((with_reducible refine gate_callee (f := 14) rfl ?_); refine goesL_ (some 81) rfl rfl Tryd.func14 (by kernel_rfl) rfl #[.slice Ao60 t218.length co60, .int .i64 1] rfl (by (try simp only [List.map_toArray, List.map_cons, List.map_nil]); first | done | rfl | (simp only [List.length_drop, List.length_take]; rfl)) ?_; (with_reducible refine (week_Get.calls _ _ t218 1 t221 t224 t225 _ ?side1 ?side2 A34.out).mono ?_); (case side1 => repeat (first | exact (Kd.R_reads' HO220.out).2.2 | (with_reducible refine Kd.C_alloc ?_ _) | (with_reducible refine Kd.C_drewN ?_ _) | (with_reducible refine Kd.C_drew ?_))); (case side2 => exact (Kd.R_reads' HO220.out).2.1); rintro e w61 ⟨v222, rfl, ho0, hb⟩; refine ⟨_, rfl, ?_⟩; have n0_ := Aside0.mk (Kd.S_elder' (s_ HO_2) (Kd.R_base ho0) hb); have n1_ := Aside0.mk (Kd.R_below (r_ HO_183000) hb); have n2_ := Aside0.mk (Kd.S_below (s_ HO_183001) hb); have n3_ := Aside0.mk (Kd.S_below (s_ HO_183002) hb); have n4_ := Aside0.mk (Kd.R_below (r_ HO_183003) hb); have n5_ := Aside0.mk (Kd.S_below (s_ HO_183004) hb); have n6_ := Aside0.mk (Kd.R_elder' (r_ HL192_0) (Kd.R_base ho0) hb); have n7_ := Aside0.mk (Kd.R_below (r_ HO195) hb); have n8_ := Aside0.mk (Kd.R_elder' (r_ HO199) (Kd.R_base ho0) hb); have n9_ := Aside0.mk (Kd.R_elder' (r_ HL202_0) (Kd.R_base ho0) hb); have n10_ := Aside0.mk (Kd.R_elder' (r_ HL203_0) (Kd.R_base ho0) hb); have n11_ := Aside0.mk (Kd.R_below (r_ HO206) hb); have n12_ := Aside0.mk (Kd.R_elder' (r_ HL208_0) (Kd.R_base ho0) hb); have n13_ := Aside0.mk (Kd.R_elder' (r_ HO211) (Kd.R_base ho0) hb); have n14_ := Aside0.mk (Kd.R_below (r_ HO216) hb); have n15_ := Aside0.mk (Kd.R_elder' (r_ HL217_0) (Kd.R_base ho0) hb); have n16_ := Aside0.mk (Kd.R_below (r_ HO220) hb); have n17_ := Aside0.mk (Kd.R_lower (Kd.R_new' (Kd.R_new' (Kd.R_new' (Kd.R_new' (Kd.R_new' (Kd.R_new' (Kd.R_new' ho0 (Kd.R_lt (r_ HL192_0))) (Kd.R_lt (r_ HO199))) (Kd.R_lt (r_ HL202_0))) (Kd.R_lt (r_ HL203_0))) (Kd.R_lt (r_ HL208_0))) (Kd.R_lt (r_ HO211))) (Kd.R_lt (r_ HL217_0))) (below_size (b_ HB))); have n18_ := Aside0.mk (blk_below (k_ BK182) hb); have n19_ := Aside0.mk (blk_below (k_ BK201) hb); have n20_ := Aside0.mk (Kd.C_below (by repeat (first | (with_reducible exact HR202_0.out) | (with_reducible refine Kd.C_alloc ?_ _) | (with_reducible refine Kd.C_drewN ?_ _) | (with_reducible refine Kd.C_drew ?_) | exact HR202_0.out)) hb); have n21_ := Aside0.mk (Kd.C_below (by repeat (first | (with_reducible exact HR203_0.out) | (with_reducible refine Kd.C_alloc ?_ _) | (with_reducible refine Kd.C_drewN ?_ _) | (with_reducible refine Kd.C_drew ?_) | exact HR203_0.out)) hb); have n22_ := Aside0.mk (Kd.C_below (by repeat (first | (with_reducible exact HR208_0.out) | (with_reducible refine Kd.C_alloc ?_ _) | (with_reducible refine Kd.C_drewN ?_ _) | (with_reducible refine Kd.C_drew ?_) | exact HR208_0.out)) hb); have n23_ := Aside0.mk (blk_below (k_ BK213) hb); have n24_ := Aside0.mk (Kd.C_below (by repeat (first | (with_reducible exact HR217_0.out) | (with_reducible refine Kd.C_alloc ?_ _) | (with_reducible refine Kd.C_drewN ?_ _) | (with_reducible refine Kd.C_drew ?_) | exact HR217_0.out)) hb); have n25_ := Aside0.mk (below_step (b_ HB) hb); clear HO_2; clear HO_183000; clear HO_183001; clear HO_183002; clear HO_183003; clear HO_183004; clear HL192_0; clear HO195; clear HO199; clear HL202_0; clear HL203_0; clear HO206; clear HL208_0; clear HO211; clear HO216; clear HL217_0; clear HO220; clear BK182; clear BK201; clear HR202_0; clear HR203_0; clear HR208_0; clear BK213; clear HR217_0; clear HB; have HO_2 := n0_; have HO_183000 := n1_; have HO_183001 := n2_; have HO_183002 := n3_; have HO_183003 := n4_; have HO_183004 := n5_; have HL192_0 := n6_; have HO195 := n7_; have HO199 := n8_; have HL202_0 := n9_; have HL203_0 := n10_; have HO206 := n11_; have HL208_0 := n12_; have HO211 := n13_; have HO216 := n14_; have HL217_0 := n15_; have HO220 := n16_; have HO223 := n17_; have BK182 := n18_; have BK201 := n19_; have HR202_0 := n20_; have HR203_0 := n21_; have HR208_0 := n22_; have BK213 := n23_; have HR217_0 := n24_; have HB := n25_; clear n0_ n1_ n2_ n3_ n4_ n5_ n6_ n7_ n8_ n9_ n10_ n11_ n12_ n13_ n14_ n15_ n16_ n17_ n18_ n19_ n20_ n21_ n22_ n23_ n24_ n25_; (try clear hb); (try clear hb2); (try clear hk); (try clear hi); (try clear ho0)) | ((with_reducible refine gate_dst (N := 14) rfl ?_); (try (refine gate_guard (by rfl) ?_; dsimp only)); refine box_event ?hg (N := 14) ?hd (cs := #[.slice none 0 0]) (t := 24) ?hr ?_; (case hd => rfl); (case hg => rfl); (case hr => first | (go_simp; done) | (go_simp; rfl)); intro gb226 hg w62 hbox hb; have n0_ := Aside0.mk (Kd.S_below (Kd.S_elderB (s_ HO_2) gb226 (Nat.le_of_eq hg.symm)) hb); have n1_ := Aside0.mk (Kd.R_below (r_ HO_183000) hb); have n2_ := Aside0.mk (Kd.S_below (s_ HO_183001) hb); have n3_ := Aside0.mk (Kd.S_below (s_ HO_183002) hb); have n4_ := Aside0.mk (Kd.R_below (r_ HO_183003) hb); have n5_ := Aside0.mk (Kd.S_below (s_ HO_183004) hb); have n6_ := Aside0.mk (Kd.R_below (r_ HL192_0) hb); have n7_ := Aside0.mk (Kd.R_below (r_ HO195) hb); have n8_ := Aside0.mk (Kd.R_below (r_ HO199) hb); have n9_ := Aside0.mk (Kd.R_below (r_ HL202_0) hb); have n10_ := Aside0.mk (Kd.R_below (r_ HL203_0) hb); have n11_ := Aside0.mk (Kd.R_below (r_ HO206) hb); have n12_ := Aside0.mk (Kd.R_below (r_ HL208_0) hb); have n13_ := Aside0.mk (Kd.R_below (r_ HO211) hb); have n14_ := Aside0.mk (Kd.R_below (r_ HO216) hb); have n15_ := Aside0.mk (Kd.R_below (r_ HL217_0) hb); have n16_ := Aside0.mk (Kd.R_below (r_ HO220) hb); have n17_ := Aside0.mk (Kd.R_below (r_ HO223) hb); have n18_ := Aside0.mk (blk_below (k_ BK182) hb); have n19_ := Aside0.mk (blk_below (k_ BK201) hb); have n20_ := Aside0.mk (Kd.C_below (by repeat (first | (with_reducible exact HR202_0.out) | (with_reducible refine Kd.C_alloc ?_ _) | (with_reducible refine Kd.C_drewN ?_ _) | (with_reducible refine Kd.C_drew ?_) | exact HR202_0.out)) hb); have n21_ := Aside0.mk (Kd.C_below (by repeat (first | (with_reducible exact HR203_0.out) | (with_reducible refine Kd.C_alloc ?_ _) | (with_reducible refine Kd.C_drewN ?_ _) | (with_reducible refine Kd.C_drew ?_) | exact HR203_0.out)) hb); have n22_ := Aside0.mk (Kd.C_below (by repeat (first | (with_reducible exact HR208_0.out) | (with_reducible refine Kd.C_alloc ?_ _) | (with_reducible refine Kd.C_drewN ?_ _) | (with_reducible refine Kd.C_drew ?_) | exact HR208_0.out)) hb); have n23_ := Aside0.mk (blk_below (k_ BK213) hb); have n24_ := Aside0.mk (Kd.C_below (by repeat (first | (with_reducible exact HR217_0.out) | (with_reducible refine Kd.C_alloc ?_ _) | (with_reducible refine Kd.C_drewN ?_ _) | (with_reducible refine Kd.C_drew ?_) | exact HR217_0.out)) hb); have n25_ := Aside0.mk (below_step (b_ HB) hb); have n26_ := Aside0.mk (hbox); have n27_ := Aside0.mk ((by rw [hg]; exact (below_size (b_ HB)) : w.heap.size ≤ gb226)); have n28_ := n27_; have n29_ := Aside0.mk ((by rw [hg]; exact Nat.ne_of_lt (blk_lt (k_ BK182)) : gb182 ≠ gb226)); have n30_ := Aside0.mk ((by rw [hg]; exact Nat.ne_of_gt (blk_lt (k_ BK182)) : gb226 ≠ gb182)); have n31_ := Aside0.mk ((by rw [hg]; exact Nat.ne_of_lt (blk_lt (k_ BK201)) : gb201 ≠ gb226)); have n32_ := Aside0.mk ((by rw [hg]; exact Nat.ne_of_gt (blk_lt (k_ BK201)) : gb226 ≠ gb201)); have n33_ := Aside0.mk ((by rw [hg]; exact Nat.ne_of_lt (blk_lt (k_ BK213)) : gb213 ≠ gb226)); have n34_ := Aside0.mk ((by rw [hg]; exact Nat.ne_of_gt (blk_lt (k_ BK213)) : gb226 ≠ gb213)); clear HO_2; clear HO_183000; clear HO_183001; clear HO_183002; clear HO_183003; clear HO_183004; clear HL192_0; clear HO195; clear HO199; clear HL202_0; clear HL203_0; clear HO206; clear HL208_0; clear HO211; clear HO216; clear HL217_0; clear HO220; clear HO223; clear BK182; clear BK201; clear HR202_0; clear HR203_0; clear HR208_0; clear BK213; clear HR217_0; clear HB; have HO_2 := n0_; have HO_183000 := n1_; have HO_183001 := n2_; have HO_183002 := n3_; have HO_183003 := n4_; have HO_183004 := n5_; have HL192_0 := n6_; have HO195 := n7_; have HO199 := n8_; have HL202_0 := n9_; have HL203_0 := n10_; have HO206 := n11_; have HL208_0 := n12_; have HO211 := n13_; have HO216 := n14_; have HL217_0 := n15_; have HO220 := n16_; have HO223 := n17_; have BK182 := n18_; have BK201 := n19_; have HR202_0 := n20_; have HR203_0 := n21_; have HR208_0 := n22_; have BK213 := n23_; have HR217_0 := n24_; have HB := n25_; have BK226 := n26_; have GW226 := n27_; have GE226 := n28_; have NB182_226 := n29_; have NB226_182 := n30_; have NB201_226 := n31_; have NB226_201 := n32_; have NB213_226 := n33_; have NB226_213 := n34_; clear n0_ n1_ n2_ n3_ n4_ n5_ n6_ n7_ n8_ n9_ n10_ n11_ n12_ n13_ n14_ n15_ n16_ n17_ n18_ n19_ n20_ n21_ n22_ n23_ n24_ n25_ n26_ n27_ n28_ n29_ n30_ n31_ n32_ n33_ n34_; clear hb hbox hg; obtain ⟨Ao63, co63, eo63⟩ := Kd.R_slice HO223.out; subst eo63; have hnb64 := NB226_182.out; have hnc64 := NB182_226.out; have hnb65 := NB226_201.out; have hnc65 := NB201_226.out; have hnb66 := NB226_213.out; have hnc66 := NB213_226.out; have hcz67_0 : w62.cell? ⟨gb226, 0, none⟩ = some (.slice none 0 0) := (blk_cell BK226.out 0).trans rfl; have hfz67_0 := blk_frozen BK226.out 0))
      (try simp only [Act.put, List.setIfInBounds_toArray, List.set_cons_zero, List.set_cons_succ])
      go_cut [17] (fun v17 wc => ∃ (kq : Nat) (x17_34 : Bool), v17 = .bool x17_34 ∧ Aside0 (live04.j1 kq t183 t190 t196 t200 t204 t207 t212 t224 t225 x17_34 t167 t170 t173 t176 t179 t197 t209 t221 = some r) ∧ Aside0 (kq ≤ kj3) ∧ Aside0 (Kd.S k24 24 wc w.heap.size (fun k_ => some k_ ≠ ((.slice Ao43 t197.length co43) : Value).ownBlock ∧ some k_ ≠ ((.slice Ao52 t209.length co52) : Value).ownBlock ∧ some k_ ≠ ((.slice Ao63 t221.length co63) : Value).ownBlock ∧ k_ ≠ gb201 ∧ k_ ≠ gb213 ∧ k_ ≠ gb226) (.slice (some ad192) t183.length co37) t183) ∧ Aside0 (Kd.R k57 57 wc w.heap.size (fun _ => True) (.slice Ao49 t204.length co49) t204) ∧ Aside0 (Kd.R k87 87 wc w.heap.size (fun _ => True) (.slice Ao7 t167.length co7) t167) ∧ Aside0 (Kd.S k91 91 wc w.heap.size (fun _ => True) (.slice Ao9 t170.length co9) t170) ∧ Aside0 (Kd.S k95 95 wc w.heap.size (fun _ => True) (.slice Ao10 t173.length co10) t173) ∧ Aside0 (Kd.R k98 98 wc w.heap.size (fun _ => True) (.slice Ao11 t176.length co11) t176) ∧ Aside0 (Kd.S k101 101 wc w.heap.size (fun _ => True) (.slice Ao12 t179.length co12) t179) ∧ Aside0 (Kd.R k55 55 wc w.heap.size (fun k_ => some k_ ≠ ((.slice Ao52 t209.length co52) : Value).ownBlock ∧ some k_ ≠ ((.slice Ao63 t221.length co63) : Value).ownBlock) (.slice Ao43 t197.length co43) t197) ∧ Aside0 (Kd.R k55 55 wc w.heap.size (fun k_ => some k_ ≠ ((.slice Ao43 t197.length co43) : Value).ownBlock ∧ some k_ ≠ ((.slice Ao63 t221.length co63) : Value).ownBlock) (.slice Ao52 t209.length co52) t209) ∧ Aside0 (Kd.R k55 55 wc w.heap.size (fun k_ => some k_ ≠ ((.slice Ao43 t197.length co43) : Value).ownBlock ∧ some k_ ≠ ((.slice Ao52 t209.length co52) : Value).ownBlock) (.slice Ao63 t221.length co63) t221) ∧ Aside0 (wc.heap[gb182]? = some (.cells #[(.slice Ao7 t167.length co7), (.slice Ao9 t170.length co9), (.slice Ao10 t173.length co10), (.slice Ao11 t176.length co11), (.slice Ao12 t179.length co12)] 45 (0, 0))) ∧ Aside0 (wc.heap[gb201]? = some (.cells #[(.slice Ao43 t197.length co43)] 24 (0, 0))) ∧ Aside0 (wc.heap[gb213]? = some (.cells #[(.slice Ao52 t209.length co52)] 24 (0, 0))) ∧ Aside0 (wc.heap[gb226]? = some (.cells #[(.slice Ao63 t221.length co63)] 24 (0, 0))) ∧ Aside0 (Kd.C k55 wc A202_0 ((rd_T24 t183 0).f0).length ((rd_T24 t183 0).f0)) ∧ Aside0 (Kd.C k55 wc A203_0 ((rd_T24 t183 1).f0).length ((rd_T24 t183 1).f0)) ∧ Aside0 (Kd.C k55 wc A208_0 ((rd_T24 t183 0).f0).length ((rd_T24 t183 0).f0)) ∧ Aside0 (Kd.C k55 wc A217_0 ((rd_T24 t183 1).f0).length ((rd_T24 t183 1).f0)) ∧ Aside0 (Below w.heap.size w wc))
      case first =>
        have H := HC35.out
        clear HC35
        replace H := Option.bind_eq_some_iff.mp H
        obtain ⟨t227, A680, H⟩ := H
        replace H : (if t227 = 8 then ((week_At.f t167 t170 t173 t176 t179 1 0).bind fun t228 => (if t228 = 3 then ((week_In.f t167 t170 t173 t176 t179 0 1).bind fun t229 => (if t229 = 6 then ((week_At.f t167 t170 t173 t176 t179 2 0).bind fun t230 => (if t230 = 0 then ((week_In.f t167 t170 t173 t176 t179 0 2).bind fun t231 => (live04.j1 kj3 t183 t190 t196 t200 t204 t207 t212 t224 t225 (t231 == 0) t167 t170 t173 t176 t179 t197 t209 t221)) else (live04.j1 kj3 t183 t190 t196 t200 t204 t207 t212 t224 t225 false t167 t170 t173 t176 t179 t197 t209 t221))) else (live04.j1 kj3 t183 t190 t196 t200 t204 t207 t212 t224 t225 false t167 t170 t173 t176 t179 t197 t209 t221))) else (live04.j1 kj3 t183 t190 t196 t200 t204 t207 t212 t224 t225 false t167 t170 t173 t176 t179 t197 t209 t221))) else (live04.j1 kj3 t183 t190 t196 t200 t204 t207 t212 t224 t225 false t167 t170 t173 t176 t179 t197 t209 t221)) = some r := H
        have A68 := Aside0.mk A680
        clear A680
        by_cases c69 : t227 = 8
        rotate_left
        · (rw [if_neg c69] at H; exact live_dead HRT.out H (by first | (intro h; cases h; done) | (split <;> (intro h; cases h; done)) | exact live04.j0t _ _ _ _ _ _ _ _ | exact live04.j1f _ _ _ _ _ _ _ _ _ _ _ _ _ _ _ _ _ _))
        rw [if_pos c69] at H
        have c69b0 : (t227 == 8) = true := beq_iff_eq.mpr c69
        have c69b1 : (t227 != 8) = false := bne_eq_false_iff_eq.mpr c69
        clear c69
        (first | rw [c69b0] | (simp only [i64_w, i32_w]; rw [c69b0]) | skip)
        replace H := Option.bind_eq_some_iff.mp H
        obtain ⟨t228, A700, H⟩ := H
        replace H : (if t228 = 3 then ((week_In.f t167 t170 t173 t176 t179 0 1).bind fun t229 => (if t229 = 6 then ((week_At.f t167 t170 t173 t176 t179 2 0).bind fun t230 => (if t230 = 0 then ((week_In.f t167 t170 t173 t176 t179 0 2).bind fun t231 => (live04.j1 kj3 t183 t190 t196 t200 t204 t207 t212 t224 t225 (t231 == 0) t167 t170 t173 t176 t179 t197 t209 t221)) else (live04.j1 kj3 t183 t190 t196 t200 t204 t207 t212 t224 t225 false t167 t170 t173 t176 t179 t197 t209 t221))) else (live04.j1 kj3 t183 t190 t196 t200 t204 t207 t212 t224 t225 false t167 t170 t173 t176 t179 t197 t209 t221))) else (live04.j1 kj3 t183 t190 t196 t200 t204 t207 t212 t224 t225 false t167 t170 t173 t176 t179 t197 t209 t221)) = some r := H
        have A70 := Aside0.mk A700
        clear A700
        by_cases c71 : t228 = 3
        rotate_left
        · (rw [if_neg c71] at H; exact live_dead HRT.out H (by first | (intro h; cases h; done) | (split <;> (intro h; cases h; done)) | exact live04.j0t _ _ _ _ _ _ _ _ | exact live04.j1f _ _ _ _ _ _ _ _ _ _ _ _ _ _ _ _ _ _))
        rw [if_pos c71] at H
        have c71b0 : (t228 == 3) = true := beq_iff_eq.mpr c71
        have c71b1 : (t228 != 3) = false := bne_eq_false_iff_eq.mpr c71
        clear c71
        replace H := Option.bind_eq_some_iff.mp H
        obtain ⟨t229, A720, H⟩ := H
        replace H : (if t229 = 6 then ((week_At.f t167 t170 t173 t176 t179 2 0).bind fun t230 => (if t230 = 0 then ((week_In.f t167 t170 t173 t176 t179 0 2).bind fun t231 => (live04.j1 kj3 t183 t190 t196 t200 t204 t207 t212 t224 t225 (t231 == 0) t167 t170 t173 t176 t179 t197 t209 t221)) else (live04.j1 kj3 t183 t190 t196 t200 t204 t207 t212 t224 t225 false t167 t170 t173 t176 t179 t197 t209 t221))) else (live04.j1 kj3 t183 t190 t196 t200 t204 t207 t212 t224 t225 false t167 t170 t173 t176 t179 t197 t209 t221)) = some r := H
        have A72 := Aside0.mk A720
        clear A720
        by_cases c73 : t229 = 6
        rotate_left
        · (rw [if_neg c73] at H; exact live_dead HRT.out H (by first | (intro h; cases h; done) | (split <;> (intro h; cases h; done)) | exact live04.j0t _ _ _ _ _ _ _ _ | exact live04.j1f _ _ _ _ _ _ _ _ _ _ _ _ _ _ _ _ _ _))
        rw [if_pos c73] at H
        have c73b0 : (t229 == 6) = true := beq_iff_eq.mpr c73
        have c73b1 : (t229 != 6) = false := bne_eq_false_iff_eq.mpr c73
        clear c73
        replace H := Option.bind_eq_some_iff.mp H
        obtain ⟨t230, A740, H⟩ := H
        replace H : (if t230 = 0 then ((week_In.f t167 t170 t173 t176 t179 0 2).bind fun t231 => (live04.j1 kj3 t183 t190 t196 t200 t204 t207 t212 t224 t225 (t231 == 0) t167 t170 t173 t176 t179 t197 t209 t221)) else (live04.j1 kj3 t183 t190 t196 t200 t204 t207 t212 t224 t225 false t167 t170 t173 t176 t179 t197 t209 t221)) = some r := H
        have A74 := Aside0.mk A740
        clear A740
        by_cases c75 : t230 = 0
        rotate_left
        · (rw [if_neg c75] at H; exact live_dead HRT.out H (by first | (intro h; cases h; done) | (split <;> (intro h; cases h; done)) | exact live04.j0t _ _ _ _ _ _ _ _ | exact live04.j1f _ _ _ _ _ _ _ _ _ _ _ _ _ _ _ _ _ _))
        rw [if_pos c75] at H
        have c75b0 : (t230 == 0) = true := beq_iff_eq.mpr c75
        have c75b1 : (t230 != 0) = false := bne_eq_false_iff_eq.mpr c75
        clear c75
        replace H := Option.bind_eq_some_iff.mp H
        obtain ⟨t231, A760, H⟩ := H
        replace H : (live04.j1 kj3 t183 t190 t196 t200 t204 t207 t212 t224 t225 (t231 == 0) t167 t170 t173 t176 t179 t197 t209 t221) = some r := H
        have A76 := Aside0.mk A760
        clear A760
        have H' := Aside0.mk H
        clear H
        have hnb77 := NB182_201.out
        have hnc77 := NB201_182.out
        have hnb78 := NB182_213.out
        have hnc78 := NB213_182.out
        have hnb79 := NB182_226.out
        have hnc79 := NB226_182.out
        have hcz80_0 : w62.cell? ⟨gb182, 0, none⟩ = some (.slice Ao7 t167.length co7) := (blk_cell BK182.out 0).trans rfl
        have hcz80_1 : w62.cell? ⟨gb182, 1, none⟩ = some (.slice Ao9 t170.length co9) := (blk_cell BK182.out 1).trans rfl
        have hcz80_2 : w62.cell? ⟨gb182, 2, none⟩ = some (.slice Ao10 t173.length co10) := (blk_cell BK182.out 2).trans rfl
        have hcz80_3 : w62.cell? ⟨gb182, 3, none⟩ = some (.slice Ao11 t176.length co11) := (blk_cell BK182.out 3).trans rfl
        have hcz80_4 : w62.cell? ⟨gb182, 4, none⟩ = some (.slice Ao12 t179.length co12) := (blk_cell BK182.out 4).trans rfl
        have hfz80_0 := blk_frozen BK182.out 0
        have hfz80_1 := blk_frozen BK182.out 1
        have hfz80_2 := blk_frozen BK182.out 2
        have hfz80_3 := blk_frozen BK182.out 3
        have hfz80_4 := blk_frozen BK182.out 4
        (try clear HS0_); (try clear HS1_); (try clear HS5_); (try clear hHeld)
        go_wp2_with (first | ((with_reducible refine gate_callee (f := 23) rfl ?_); refine goesL_ (some 86) rfl rfl Tryd.func23 (by kernel_rfl) rfl #[.agg #[.slice Ao7 t167.length co7, .slice Ao9 t170.length co9, .slice Ao10 t173.length co10, .slice Ao11 t176.length co11, .slice Ao12 t179.length co12]] rfl (by (try simp only [List.map_toArray, List.map_cons, List.map_nil]); first | done | rfl | (simp only [List.length_drop, List.length_take]; rfl)) ?_; (with_reducible refine (week_Vars.calls _ _ t167 _ _ t170 _ _ t173 _ _ t176 _ _ t179 t227 _ ?side1 ?side2 ?side3 ?side4 ?side5 ?side6 ?side7 ?side8 ?side9 ?side10 A68.out).mono ?_); (case side1 => refine (Kd.R_reads' (e := 87) (base := w.heap.size) (ok := fun k_ => True) (n := t167.length) (c := co7) ?_).2.2; exact (by (with_reducible repeat (first | apply Kd.R_alloc | apply Kd.R_drewN | apply Kd.R_drew)); exact (Kd.R_mono (Kd.R_far (p := ⟨gb226, 0, none⟩) (Kd.R_types HO_183000.out BK226.out (by decide)) (fun _ hk => hk.2) (.slice Ao63 t221.length co63)) (fun _ h_ => h_.1)))); (case side2 => exact (Kd.R_reads' HO_183000.out).2.1); (case side3 => refine (Kd.S_reads' (e := 91) (base := w.heap.size) (ok := fun k_ => True) (n := t170.length) (c := co9) ?_).2.2; exact (by (with_reducible repeat (first | apply Kd.S_alloc | apply Kd.S_drewN | apply Kd.S_drew)); exact (Kd.S_mono (Kd.S_far (p := ⟨gb226, 0, none⟩) (Kd.S_types HO_183001.out BK226.out (by decide)) (fun _ hk => hk.2) (.slice Ao63 t221.length co63)) (fun _ h_ => h_.1)))); (case side4 => exact (Kd.S_reads' HO_183001.out).2.1); (case side5 => refine (Kd.S_reads' (e := 95) (base := w.heap.size) (ok := fun k_ => True) (n := t173.length) (c := co10) ?_).2.2; exact (by (with_reducible repeat (first | apply Kd.S_alloc | apply Kd.S_drewN | apply Kd.S_drew)); exact (Kd.S_mono (Kd.S_far (p := ⟨gb226, 0, none⟩) (Kd.S_types HO_183002.out BK226.out (by decide)) (fun _ hk => hk.2) (.slice Ao63 t221.length co63)) (fun _ h_ => h_.1)))); (case side6 => exact (Kd.S_reads' HO_183002.out).2.1); (case side7 => refine (Kd.R_reads' (e := 98) (base := w.heap.size) (ok := fun k_ => True) (n := t176.length) (c := co11) ?_).2.2; exact (by (with_reducible repeat (first | apply Kd.R_alloc | apply Kd.R_drewN | apply Kd.R_drew)); exact (Kd.R_mono (Kd.R_far (p := ⟨gb226, 0, none⟩) (Kd.R_types HO_183003.out BK226.out (by decide)) (fun _ hk => hk.2) (.slice Ao63 t221.length co63)) (fun _ h_ => h_.1)))); (case side8 => exact (Kd.R_reads' HO_183003.out).2.1); (case side9 => refine (Kd.S_reads' (e := 101) (base := w.heap.size) (ok := fun k_ => True) (n := t179.length) (c := co12) ?_).2.2; exact (by (with_reducible repeat (first | apply Kd.S_alloc | apply Kd.S_drewN | apply Kd.S_drew)); exact (Kd.S_mono (Kd.S_far (p := ⟨gb226, 0, none⟩) (Kd.S_types HO_183004.out BK226.out (by decide)) (fun _ hk => hk.2) (.slice Ao63 t221.length co63)) (fun _ h_ => h_.1)))); (case side10 => exact (Kd.S_reads' HO_183004.out).2.1); rintro e w81 ⟨rfl, hb⟩; refine ⟨_, rfl, ?_⟩; have n0_ := Aside0.mk (Kd.S_below (by (with_reducible repeat (first | apply Kd.S_alloc | apply Kd.S_drewN | apply Kd.S_drew)); exact (Kd.S_mono (Kd.S_far (p := ⟨gb226, 0, none⟩) (Kd.S_mono HO_2.out (fun k_ hk => (⟨hk, hk.2⟩ : _ ∧ k_ ≠ gb226))) (fun _ hk => hk.2) (.slice Ao63 t221.length co63)) (fun _ h_ => h_.1))) hb); have n1_ := Aside0.mk (Kd.R_below (by (with_reducible repeat (first | apply Kd.R_alloc | apply Kd.R_drewN | apply Kd.R_drew)); exact (Kd.R_mono (Kd.R_far (p := ⟨gb226, 0, none⟩) (Kd.R_types HO_183000.out BK226.out (by decide)) (fun _ hk => hk.2) (.slice Ao63 t221.length co63)) (fun _ h_ => h_.1))) hb); have n2_ := Aside0.mk (Kd.S_below (by (with_reducible repeat (first | apply Kd.S_alloc | apply Kd.S_drewN | apply Kd.S_drew)); exact (Kd.S_mono (Kd.S_far (p := ⟨gb226, 0, none⟩) (Kd.S_types HO_183001.out BK226.out (by decide)) (fun _ hk => hk.2) (.slice Ao63 t221.length co63)) (fun _ h_ => h_.1))) hb); have n3_ := Aside0.mk (Kd.S_below (by (with_reducible repeat (first | apply Kd.S_alloc | apply Kd.S_drewN | apply Kd.S_drew)); exact (Kd.S_mono (Kd.S_far (p := ⟨gb226, 0, none⟩) (Kd.S_types HO_183002.out BK226.out (by decide)) (fun _ hk => hk.2) (.slice Ao63 t221.length co63)) (fun _ h_ => h_.1))) hb); have n4_ := Aside0.mk (Kd.R_below (by (with_reducible repeat (first | apply Kd.R_alloc | apply Kd.R_drewN | apply Kd.R_drew)); exact (Kd.R_mono (Kd.R_far (p := ⟨gb226, 0, none⟩) (Kd.R_types HO_183003.out BK226.out (by decide)) (fun _ hk => hk.2) (.slice Ao63 t221.length co63)) (fun _ h_ => h_.1))) hb); have n5_ := Aside0.mk (Kd.S_below (by (with_reducible repeat (first | apply Kd.S_alloc | apply Kd.S_drewN | apply Kd.S_drew)); exact (Kd.S_mono (Kd.S_far (p := ⟨gb226, 0, none⟩) (Kd.S_types HO_183004.out BK226.out (by decide)) (fun _ hk => hk.2) (.slice Ao63 t221.length co63)) (fun _ h_ => h_.1))) hb); have n6_ := Aside0.mk (Kd.R_below (by (with_reducible repeat (first | apply Kd.R_alloc | apply Kd.R_drewN | apply Kd.R_drew)); exact (Kd.R_mono (Kd.R_far (p := ⟨gb226, 0, none⟩) (Kd.R_types HL192_0.out BK226.out (by decide)) (fun _ hk => hk.2) (.slice Ao63 t221.length co63)) (fun _ h_ => h_.1))) hb); have n7_ := Aside0.mk (Kd.R_below (by (with_reducible repeat (first | apply Kd.R_alloc | apply Kd.R_drewN | apply Kd.R_drew)); exact (Kd.R_mono (Kd.R_far (p := ⟨gb226, 0, none⟩) (Kd.R_types HO195.out BK226.out (by decide)) (fun _ hk => hk.2) (.slice Ao63 t221.length co63)) (fun _ h_ => h_.1))) hb); have n8_ := Aside0.mk (Kd.R_below (by (with_reducible repeat (first | apply Kd.R_alloc | apply Kd.R_drewN | apply Kd.R_drew)); exact (Kd.R_mono (Kd.R_far (p := ⟨gb226, 0, none⟩) (Kd.R_types HO199.out BK226.out (by decide)) (fun _ hk => hk.2) (.slice Ao63 t221.length co63)) (fun _ h_ => h_.1))) hb); have n9_ := Aside0.mk (Kd.R_below (by (with_reducible repeat (first | apply Kd.R_alloc | apply Kd.R_drewN | apply Kd.R_drew)); exact (Kd.R_mono (Kd.R_far (p := ⟨gb226, 0, none⟩) (Kd.R_types HL202_0.out BK226.out (by decide)) (fun _ hk => hk.2) (.slice Ao63 t221.length co63)) (fun _ h_ => h_.1))) hb); have n10_ := Aside0.mk (Kd.R_below (by (with_reducible repeat (first | apply Kd.R_alloc | apply Kd.R_drewN | apply Kd.R_drew)); exact (Kd.R_mono (Kd.R_far (p := ⟨gb226, 0, none⟩) (Kd.R_types HL203_0.out BK226.out (by decide)) (fun _ hk => hk.2) (.slice Ao63 t221.length co63)) (fun _ h_ => h_.1))) hb); have n11_ := Aside0.mk (Kd.R_below (by (with_reducible repeat (first | apply Kd.R_alloc | apply Kd.R_drewN | apply Kd.R_drew)); exact (Kd.R_mono (Kd.R_far (p := ⟨gb226, 0, none⟩) (Kd.R_types HO206.out BK226.out (by decide)) (fun _ hk => hk.2) (.slice Ao63 t221.length co63)) (fun _ h_ => h_.1))) hb); have n12_ := Aside0.mk (Kd.R_below (by (with_reducible repeat (first | apply Kd.R_alloc | apply Kd.R_drewN | apply Kd.R_drew)); exact (Kd.R_mono (Kd.R_far (p := ⟨gb226, 0, none⟩) (Kd.R_types HL208_0.out BK226.out (by decide)) (fun _ hk => hk.2) (.slice Ao63 t221.length co63)) (fun _ h_ => h_.1))) hb); have n13_ := Aside0.mk (Kd.R_below (by (with_reducible repeat (first | apply Kd.R_alloc | apply Kd.R_drewN | apply Kd.R_drew)); exact (Kd.R_mono (Kd.R_far (p := ⟨gb226, 0, none⟩) (Kd.R_types HO211.out BK226.out (by decide)) (fun _ hk => hk.2) (.slice Ao63 t221.length co63)) (fun _ h_ => h_.1))) hb); have n14_ := Aside0.mk (Kd.R_below (by (with_reducible repeat (first | apply Kd.R_alloc | apply Kd.R_drewN | apply Kd.R_drew)); exact (Kd.R_mono (Kd.R_far (p := ⟨gb226, 0, none⟩) (Kd.R_types HO216.out BK226.out (by decide)) (fun _ hk => hk.2) (.slice Ao63 t221.length co63)) (fun _ h_ => h_.1))) hb); have n15_ := Aside0.mk (Kd.R_below (by (with_reducible repeat (first | apply Kd.R_alloc | apply Kd.R_drewN | apply Kd.R_drew)); exact (Kd.R_mono (Kd.R_far (p := ⟨gb226, 0, none⟩) (Kd.R_types HL217_0.out BK226.out (by decide)) (fun _ hk => hk.2) (.slice Ao63 t221.length co63)) (fun _ h_ => h_.1))) hb); have n16_ := Aside0.mk (Kd.R_below (by (with_reducible repeat (first | apply Kd.R_alloc | apply Kd.R_drewN | apply Kd.R_drew)); exact (Kd.R_mono (Kd.R_far (p := ⟨gb226, 0, none⟩) (Kd.R_types HO220.out BK226.out (by decide)) (fun _ hk => hk.2) (.slice Ao63 t221.length co63)) (fun _ h_ => h_.1))) hb); have n17_ := Aside0.mk (Kd.R_below (by (with_reducible repeat (first | apply Kd.R_alloc | apply Kd.R_drewN | apply Kd.R_drew)); exact (Kd.R_mono (Kd.R_far (p := ⟨gb226, 0, none⟩) (Kd.R_types HO223.out BK226.out (by decide)) (fun _ hk => hk.2) (.slice Ao63 t221.length co63)) (fun _ h_ => h_.1))) hb); have n18_ := Aside0.mk (blk_below (g := gb182) (o := .cells #[.slice Ao7 t167.length co7, .slice Ao9 t170.length co9, .slice Ao10 t173.length co10, .slice Ao11 t176.length co11, .slice Ao12 t179.length co12] 45 (0, 0)) (by (with_reducible repeat (first | refine blk_drewN ?_ _ | refine blk_drew ?_ | refine blk_alloc ?_ _)); refine blk_far ?_ NB182_226.out _; (with_reducible repeat (first | refine blk_drewN ?_ _ | refine blk_drew ?_ | refine blk_alloc ?_ _)); exact BK182.out) hb); have n19_ := Aside0.mk (blk_below (g := gb201) (o := .cells #[.slice Ao43 t197.length co43] 24 (0, 0)) (by (with_reducible repeat (first | refine blk_drewN ?_ _ | refine blk_drew ?_ | refine blk_alloc ?_ _)); refine blk_far ?_ NB201_226.out _; (with_reducible repeat (first | refine blk_drewN ?_ _ | refine blk_drew ?_ | refine blk_alloc ?_ _)); exact BK201.out) hb); have n20_ := Aside0.mk (Kd.C_below ((Kd.R_reads' (by (with_reducible repeat (first | apply Kd.R_alloc | apply Kd.R_drewN | apply Kd.R_drew)); exact (Kd.R_mono (Kd.R_far (p := ⟨gb226, 0, none⟩) (Kd.R_types HL202_0.out BK226.out (by decide)) (fun _ hk => hk.2) (.slice Ao63 t221.length co63)) (fun _ h_ => h_.1)))).2.2) hb); have n21_ := Aside0.mk (Kd.C_below ((Kd.R_reads' (by (with_reducible repeat (first | apply Kd.R_alloc | apply Kd.R_drewN | apply Kd.R_drew)); exact (Kd.R_mono (Kd.R_far (p := ⟨gb226, 0, none⟩) (Kd.R_types HL203_0.out BK226.out (by decide)) (fun _ hk => hk.2) (.slice Ao63 t221.length co63)) (fun _ h_ => h_.1)))).2.2) hb); have n22_ := Aside0.mk (Kd.C_below ((Kd.R_reads' (by (with_reducible repeat (first | apply Kd.R_alloc | apply Kd.R_drewN | apply Kd.R_drew)); exact (Kd.R_mono (Kd.R_far (p := ⟨gb226, 0, none⟩) (Kd.R_types HL208_0.out BK226.out (by decide)) (fun _ hk => hk.2) (.slice Ao63 t221.length co63)) (fun _ h_ => h_.1)))).2.2) hb); have n23_ := Aside0.mk (blk_below (g := gb213) (o := .cells #[.slice Ao52 t209.length co52] 24 (0, 0)) (by (with_reducible repeat (first | refine blk_drewN ?_ _ | refine blk_drew ?_ | refine blk_alloc ?_ _)); refine blk_far ?_ NB213_226.out _; (with_reducible repeat (first | refine blk_drewN ?_ _ | refine blk_drew ?_ | refine blk_alloc ?_ _)); exact BK213.out) hb); have n24_ := Aside0.mk (Kd.C_below ((Kd.R_reads' (by (with_reducible repeat (first | apply Kd.R_alloc | apply Kd.R_drewN | apply Kd.R_drew)); exact (Kd.R_mono (Kd.R_far (p := ⟨gb226, 0, none⟩) (Kd.R_types HL217_0.out BK226.out (by decide)) (fun _ hk => hk.2) (.slice Ao63 t221.length co63)) (fun _ h_ => h_.1)))).2.2) hb); have n25_ := Aside0.mk (blk_below (g := gb226) (o := .cells #[.slice Ao63 t221.length co63] 24 (0, 0)) (by (with_reducible repeat (first | refine blk_drewN ?_ _ | refine blk_drew ?_ | refine blk_alloc ?_ _)); refine blk_put (cs := #[.slice none 0 0]) ?_ 0 _ rfl; (with_reducible repeat (first | refine blk_drewN ?_ _ | refine blk_drew ?_ | refine blk_alloc ?_ _)); exact BK226.out) hb); have n26_ := Aside0.mk (below_step (b_ HB) hb); clear HO_2; clear HO_183000; clear HO_183001; clear HO_183002; clear HO_183003; clear HO_183004; clear HL192_0; clear HO195; clear HO199; clear HL202_0; clear HL203_0; clear HO206; clear HL208_0; clear HO211; clear HO216; clear HL217_0; clear HO220; clear HO223; clear BK182; clear BK201; clear HR202_0; clear HR203_0; clear HR208_0; clear BK213; clear HR217_0; clear BK226; clear HB; have HO_2 := n0_; have HO_183000 := n1_; have HO_183001 := n2_; have HO_183002 := n3_; have HO_183003 := n4_; have HO_183004 := n5_; have HL192_0 := n6_; have HO195 := n7_; have HO199 := n8_; have HL202_0 := n9_; have HL203_0 := n10_; have HO206 := n11_; have HL208_0 := n12_; have HO211 := n13_; have HO216 := n14_; have HL217_0 := n15_; have HO220 := n16_; have HO223 := n17_; have BK182 := n18_; have BK201 := n19_; have HR202_0 := n20_; have HR203_0 := n21_; have HR208_0 := n22_; have BK213 := n23_; have HR217_0 := n24_; have BK226 := n25_; have HB := n26_; clear n0_ n1_ n2_ n3_ n4_ n5_ n6_ n7_ n8_ n9_ n10_ n11_ n12_ n13_ n14_ n15_ n16_ n17_ n18_ n19_ n20_ n21_ n22_ n23_ n24_ n25_ n26_; (try clear hb); (try clear hb2); (try clear hk); (try clear hi); have hcz82_0 : w81.cell? ⟨gb182, 0, none⟩ = some (.slice Ao7 t167.length co7) := (blk_cell BK182.out 0).trans rfl; have hcz82_1 : w81.cell? ⟨gb182, 1, none⟩ = some (.slice Ao9 t170.length co9) := (blk_cell BK182.out 1).trans rfl; have hcz82_2 : w81.cell? ⟨gb182, 2, none⟩ = some (.slice Ao10 t173.length co10) := (blk_cell BK182.out 2).trans rfl; have hcz82_3 : w81.cell? ⟨gb182, 3, none⟩ = some (.slice Ao11 t176.length co11) := (blk_cell BK182.out 3).trans rfl; have hcz82_4 : w81.cell? ⟨gb182, 4, none⟩ = some (.slice Ao12 t179.length co12) := (blk_cell BK182.out 4).trans rfl; have hfz82_0 := blk_frozen BK182.out 0; have hfz82_1 := blk_frozen BK182.out 1; have hfz82_2 := blk_frozen BK182.out 2; have hfz82_3 := blk_frozen BK182.out 3; have hfz82_4 := blk_frozen BK182.out 4) | (go_at_call 29; (with_reducible refine (week_At.calls _ _ t167 _ _ t170 _ _ t173 _ _ t176 _ _ t179 1 0 t228 _ ?side1 ?side2 ?side3 ?side4 ?side5 ?side6 ?side7 ?side8 ?side9 ?side10 A70.out).mono ?_); (case side1 => repeat (first | exact (Kd.R_reads' HO_183000.out).2.2 | (with_reducible refine Kd.C_alloc ?_ _) | (with_reducible refine Kd.C_drewN ?_ _) | (with_reducible refine Kd.C_drew ?_))); (case side2 => exact (Kd.R_reads' HO_183000.out).2.1); (case side3 => repeat (first | exact (Kd.S_reads' HO_183001.out).2.2 | (with_reducible refine Kd.C_alloc ?_ _) | (with_reducible refine Kd.C_drewN ?_ _) | (with_reducible refine Kd.C_drew ?_))); (case side4 => exact (Kd.S_reads' HO_183001.out).2.1); (case side5 => repeat (first | exact (Kd.S_reads' HO_183002.out).2.2 | (with_reducible refine Kd.C_alloc ?_ _) | (with_reducible refine Kd.C_drewN ?_ _) | (with_reducible refine Kd.C_drew ?_))); (case side6 => exact (Kd.S_reads' HO_183002.out).2.1); (case side7 => repeat (first | exact (Kd.R_reads' HO_183003.out).2.2 | (with_reducible refine Kd.C_alloc ?_ _) | (with_reducible refine Kd.C_drewN ?_ _) | (with_reducible refine Kd.C_drew ?_))); (case side8 => exact (Kd.R_reads' HO_183003.out).2.1); (case side9 => repeat (first | exact (Kd.S_reads' HO_183004.out).2.2 | (with_reducible refine Kd.C_alloc ?_ _) | (with_reducible refine Kd.C_drewN ?_ _) | (with_reducible refine Kd.C_drew ?_))); (case side10 => exact (Kd.S_reads' HO_183004.out).2.1); rintro e w83 ⟨rfl, hb⟩; have n0_ := Aside0.mk (Kd.S_below (s_ HO_2) hb); have n1_ := Aside0.mk (Kd.R_below (r_ HO_183000) hb); have n2_ := Aside0.mk (Kd.S_below (s_ HO_183001) hb); have n3_ := Aside0.mk (Kd.S_below (s_ HO_183002) hb); have n4_ := Aside0.mk (Kd.R_below (r_ HO_183003) hb); have n5_ := Aside0.mk (Kd.S_below (s_ HO_183004) hb); have n6_ := Aside0.mk (Kd.R_below (r_ HL192_0) hb); have n7_ := Aside0.mk (Kd.R_below (r_ HO195) hb); have n8_ := Aside0.mk (Kd.R_below (r_ HO199) hb); have n9_ := Aside0.mk (Kd.R_below (r_ HL202_0) hb); have n10_ := Aside0.mk (Kd.R_below (r_ HL203_0) hb); have n11_ := Aside0.mk (Kd.R_below (r_ HO206) hb); have n12_ := Aside0.mk (Kd.R_below (r_ HL208_0) hb); have n13_ := Aside0.mk (Kd.R_below (r_ HO211) hb); have n14_ := Aside0.mk (Kd.R_below (r_ HO216) hb); have n15_ := Aside0.mk (Kd.R_below (r_ HL217_0) hb); have n16_ := Aside0.mk (Kd.R_below (r_ HO220) hb); have n17_ := Aside0.mk (Kd.R_below (r_ HO223) hb); have n18_ := Aside0.mk (blk_below (k_ BK182) hb); have n19_ := Aside0.mk (blk_below (k_ BK201) hb); have n20_ := Aside0.mk (Kd.C_below (by repeat (first | (with_reducible exact HR202_0.out) | (with_reducible refine Kd.C_alloc ?_ _) | (with_reducible refine Kd.C_drewN ?_ _) | (with_reducible refine Kd.C_drew ?_) | exact HR202_0.out)) hb); have n21_ := Aside0.mk (Kd.C_below (by repeat (first | (with_reducible exact HR203_0.out) | (with_reducible refine Kd.C_alloc ?_ _) | (with_reducible refine Kd.C_drewN ?_ _) | (with_reducible refine Kd.C_drew ?_) | exact HR203_0.out)) hb); have n22_ := Aside0.mk (Kd.C_below (by repeat (first | (with_reducible exact HR208_0.out) | (with_reducible refine Kd.C_alloc ?_ _) | (with_reducible refine Kd.C_drewN ?_ _) | (with_reducible refine Kd.C_drew ?_) | exact HR208_0.out)) hb); have n23_ := Aside0.mk (blk_below (k_ BK213) hb); have n24_ := Aside0.mk (Kd.C_below (by repeat (first | (with_reducible exact HR217_0.out) | (with_reducible refine Kd.C_alloc ?_ _) | (with_reducible refine Kd.C_drewN ?_ _) | (with_reducible refine Kd.C_drew ?_) | exact HR217_0.out)) hb); have n25_ := Aside0.mk (blk_below (k_ BK226) hb); have n26_ := Aside0.mk (below_step (b_ HB) hb); clear HO_2; clear HO_183000; clear HO_183001; clear HO_183002; clear HO_183003; clear HO_183004; clear HL192_0; clear HO195; clear HO199; clear HL202_0; clear HL203_0; clear HO206; clear HL208_0; clear HO211; clear HO216; clear HL217_0; clear HO220; clear HO223; clear BK182; clear BK201; clear HR202_0; clear HR203_0; clear HR208_0; clear BK213; clear HR217_0; clear BK226; clear HB; have HO_2 := n0_; have HO_183000 := n1_; have HO_183001 := n2_; have HO_183002 := n3_; have HO_183003 := n4_; have HO_183004 := n5_; have HL192_0 := n6_; have HO195 := n7_; have HO199 := n8_; have HL202_0 := n9_; have HL203_0 := n10_; have HO206 := n11_; have HL208_0 := n12_; have HO211 := n13_; have HO216 := n14_; have HL217_0 := n15_; have HO220 := n16_; have HO223 := n17_; have BK182 := n18_; have BK201 := n19_; have HR202_0 := n20_; have HR203_0 := n21_; have HR208_0 := n22_; have BK213 := n23_; have HR217_0 := n24_; have BK226 := n25_; have HB := n26_; clear n0_ n1_ n2_ n3_ n4_ n5_ n6_ n7_ n8_ n9_ n10_ n11_ n12_ n13_ n14_ n15_ n16_ n17_ n18_ n19_ n20_ n21_ n22_ n23_ n24_ n25_ n26_; (try clear hb); (try clear hb2); (try clear hk); (try clear hi); have hcz84_0 : w83.cell? ⟨gb182, 0, none⟩ = some (.slice Ao7 t167.length co7) := (blk_cell BK182.out 0).trans rfl; have hcz84_1 : w83.cell? ⟨gb182, 1, none⟩ = some (.slice Ao9 t170.length co9) := (blk_cell BK182.out 1).trans rfl; have hcz84_2 : w83.cell? ⟨gb182, 2, none⟩ = some (.slice Ao10 t173.length co10) := (blk_cell BK182.out 2).trans rfl; have hcz84_3 : w83.cell? ⟨gb182, 3, none⟩ = some (.slice Ao11 t176.length co11) := (blk_cell BK182.out 3).trans rfl; have hcz84_4 : w83.cell? ⟨gb182, 4, none⟩ = some (.slice Ao12 t179.length co12) := (blk_cell BK182.out 4).trans rfl; have hfz84_0 := blk_frozen BK182.out 0; have hfz84_1 := blk_frozen BK182.out 1; have hfz84_2 := blk_frozen BK182.out 2; have hfz84_3 := blk_frozen BK182.out 3; have hfz84_4 := blk_frozen BK182.out 4) | (go_at_call 30; (with_reducible refine (week_In.calls _ _ t167 _ _ t170 _ _ t173 _ _ t176 _ _ t179 0 1 t229 _ ?side1 ?side2 ?side3 ?side4 ?side5 ?side6 ?side7 ?side8 ?side9 ?side10 A72.out).mono ?_); (case side1 => repeat (first | exact (Kd.R_reads' HO_183000.out).2.2 | (with_reducible refine Kd.C_alloc ?_ _) | (with_reducible refine Kd.C_drewN ?_ _) | (with_reducible refine Kd.C_drew ?_))); (case side2 => exact (Kd.R_reads' HO_183000.out).2.1); (case side3 => repeat (first | exact (Kd.S_reads' HO_183001.out).2.2 | (with_reducible refine Kd.C_alloc ?_ _) | (with_reducible refine Kd.C_drewN ?_ _) | (with_reducible refine Kd.C_drew ?_))); (case side4 => exact (Kd.S_reads' HO_183001.out).2.1); (case side5 => repeat (first | exact (Kd.S_reads' HO_183002.out).2.2 | (with_reducible refine Kd.C_alloc ?_ _) | (with_reducible refine Kd.C_drewN ?_ _) | (with_reducible refine Kd.C_drew ?_))); (case side6 => exact (Kd.S_reads' HO_183002.out).2.1); (case side7 => repeat (first | exact (Kd.R_reads' HO_183003.out).2.2 | (with_reducible refine Kd.C_alloc ?_ _) | (with_reducible refine Kd.C_drewN ?_ _) | (with_reducible refine Kd.C_drew ?_))); (case side8 => exact (Kd.R_reads' HO_183003.out).2.1); (case side9 => repeat (first | exact (Kd.S_reads' HO_183004.out).2.2 | (with_reducible refine Kd.C_alloc ?_ _) | (with_reducible refine Kd.C_drewN ?_ _) | (with_reducible refine Kd.C_drew ?_))); (case side10 => exact (Kd.S_reads' HO_183004.out).2.1); rintro e w85 ⟨rfl, hb⟩; have n0_ := Aside0.mk (Kd.S_below (s_ HO_2) hb); have n1_ := Aside0.mk (Kd.R_below (r_ HO_183000) hb); have n2_ := Aside0.mk (Kd.S_below (s_ HO_183001) hb); have n3_ := Aside0.mk (Kd.S_below (s_ HO_183002) hb); have n4_ := Aside0.mk (Kd.R_below (r_ HO_183003) hb); have n5_ := Aside0.mk (Kd.S_below (s_ HO_183004) hb); have n6_ := Aside0.mk (Kd.R_below (r_ HL192_0) hb); have n7_ := Aside0.mk (Kd.R_below (r_ HO195) hb); have n8_ := Aside0.mk (Kd.R_below (r_ HO199) hb); have n9_ := Aside0.mk (Kd.R_below (r_ HL202_0) hb); have n10_ := Aside0.mk (Kd.R_below (r_ HL203_0) hb); have n11_ := Aside0.mk (Kd.R_below (r_ HO206) hb); have n12_ := Aside0.mk (Kd.R_below (r_ HL208_0) hb); have n13_ := Aside0.mk (Kd.R_below (r_ HO211) hb); have n14_ := Aside0.mk (Kd.R_below (r_ HO216) hb); have n15_ := Aside0.mk (Kd.R_below (r_ HL217_0) hb); have n16_ := Aside0.mk (Kd.R_below (r_ HO220) hb); have n17_ := Aside0.mk (Kd.R_below (r_ HO223) hb); have n18_ := Aside0.mk (blk_below (k_ BK182) hb); have n19_ := Aside0.mk (blk_below (k_ BK201) hb); have n20_ := Aside0.mk (Kd.C_below (by repeat (first | (with_reducible exact HR202_0.out) | (with_reducible refine Kd.C_alloc ?_ _) | (with_reducible refine Kd.C_drewN ?_ _) | (with_reducible refine Kd.C_drew ?_) | exact HR202_0.out)) hb); have n21_ := Aside0.mk (Kd.C_below (by repeat (first | (with_reducible exact HR203_0.out) | (with_reducible refine Kd.C_alloc ?_ _) | (with_reducible refine Kd.C_drewN ?_ _) | (with_reducible refine Kd.C_drew ?_) | exact HR203_0.out)) hb); have n22_ := Aside0.mk (Kd.C_below (by repeat (first | (with_reducible exact HR208_0.out) | (with_reducible refine Kd.C_alloc ?_ _) | (with_reducible refine Kd.C_drewN ?_ _) | (with_reducible refine Kd.C_drew ?_) | exact HR208_0.out)) hb); have n23_ := Aside0.mk (blk_below (k_ BK213) hb); have n24_ := Aside0.mk (Kd.C_below (by repeat (first | (with_reducible exact HR217_0.out) | (with_reducible refine Kd.C_alloc ?_ _) | (with_reducible refine Kd.C_drewN ?_ _) | (with_reducible refine Kd.C_drew ?_) | exact HR217_0.out)) hb); have n25_ := Aside0.mk (blk_below (k_ BK226) hb); have n26_ := Aside0.mk (below_step (b_ HB) hb); clear HO_2; clear HO_183000; clear HO_183001; clear HO_183002; clear HO_183003; clear HO_183004; clear HL192_0; clear HO195; clear HO199; clear HL202_0; clear HL203_0; clear HO206; clear HL208_0; clear HO211; clear HO216; clear HL217_0; clear HO220; clear HO223; clear BK182; clear BK201; clear HR202_0; clear HR203_0; clear HR208_0; clear BK213; clear HR217_0; clear BK226; clear HB; have HO_2 := n0_; have HO_183000 := n1_; have HO_183001 := n2_; have HO_183002 := n3_; have HO_183003 := n4_; have HO_183004 := n5_; have HL192_0 := n6_; have HO195 := n7_; have HO199 := n8_; have HL202_0 := n9_; have HL203_0 := n10_; have HO206 := n11_; have HL208_0 := n12_; have HO211 := n13_; have HO216 := n14_; have HL217_0 := n15_; have HO220 := n16_; have HO223 := n17_; have BK182 := n18_; have BK201 := n19_; have HR202_0 := n20_; have HR203_0 := n21_; have HR208_0 := n22_; have BK213 := n23_; have HR217_0 := n24_; have BK226 := n25_; have HB := n26_; clear n0_ n1_ n2_ n3_ n4_ n5_ n6_ n7_ n8_ n9_ n10_ n11_ n12_ n13_ n14_ n15_ n16_ n17_ n18_ n19_ n20_ n21_ n22_ n23_ n24_ n25_ n26_; (try clear hb); (try clear hb2); (try clear hk); (try clear hi); have hcz86_0 : w85.cell? ⟨gb182, 0, none⟩ = some (.slice Ao7 t167.length co7) := (blk_cell BK182.out 0).trans rfl; have hcz86_1 : w85.cell? ⟨gb182, 1, none⟩ = some (.slice Ao9 t170.length co9) := (blk_cell BK182.out 1).trans rfl; have hcz86_2 : w85.cell? ⟨gb182, 2, none⟩ = some (.slice Ao10 t173.length co10) := (blk_cell BK182.out 2).trans rfl; have hcz86_3 : w85.cell? ⟨gb182, 3, none⟩ = some (.slice Ao11 t176.length co11) := (blk_cell BK182.out 3).trans rfl; have hcz86_4 : w85.cell? ⟨gb182, 4, none⟩ = some (.slice Ao12 t179.length co12) := (blk_cell BK182.out 4).trans rfl; have hfz86_0 := blk_frozen BK182.out 0; have hfz86_1 := blk_frozen BK182.out 1; have hfz86_2 := blk_frozen BK182.out 2; have hfz86_3 := blk_frozen BK182.out 3; have hfz86_4 := blk_frozen BK182.out 4) | (go_at_call 29; (with_reducible refine (week_At.calls _ _ t167 _ _ t170 _ _ t173 _ _ t176 _ _ t179 2 0 t230 _ ?side1 ?side2 ?side3 ?side4 ?side5 ?side6 ?side7 ?side8 ?side9 ?side10 A74.out).mono ?_); (case side1 => repeat (first | exact (Kd.R_reads' HO_183000.out).2.2 | (with_reducible refine Kd.C_alloc ?_ _) | (with_reducible refine Kd.C_drewN ?_ _) | (with_reducible refine Kd.C_drew ?_))); (case side2 => exact (Kd.R_reads' HO_183000.out).2.1); (case side3 => repeat (first | exact (Kd.S_reads' HO_183001.out).2.2 | (with_reducible refine Kd.C_alloc ?_ _) | (with_reducible refine Kd.C_drewN ?_ _) | (with_reducible refine Kd.C_drew ?_))); (case side4 => exact (Kd.S_reads' HO_183001.out).2.1); (case side5 => repeat (first | exact (Kd.S_reads' HO_183002.out).2.2 | (with_reducible refine Kd.C_alloc ?_ _) | (with_reducible refine Kd.C_drewN ?_ _) | (with_reducible refine Kd.C_drew ?_))); (case side6 => exact (Kd.S_reads' HO_183002.out).2.1); (case side7 => repeat (first | exact (Kd.R_reads' HO_183003.out).2.2 | (with_reducible refine Kd.C_alloc ?_ _) | (with_reducible refine Kd.C_drewN ?_ _) | (with_reducible refine Kd.C_drew ?_))); (case side8 => exact (Kd.R_reads' HO_183003.out).2.1); (case side9 => repeat (first | exact (Kd.S_reads' HO_183004.out).2.2 | (with_reducible refine Kd.C_alloc ?_ _) | (with_reducible refine Kd.C_drewN ?_ _) | (with_reducible refine Kd.C_drew ?_))); (case side10 => exact (Kd.S_reads' HO_183004.out).2.1); rintro e w87 ⟨rfl, hb⟩; have n0_ := Aside0.mk (Kd.S_below (s_ HO_2) hb); have n1_ := Aside0.mk (Kd.R_below (r_ HO_183000) hb); have n2_ := Aside0.mk (Kd.S_below (s_ HO_183001) hb); have n3_ := Aside0.mk (Kd.S_below (s_ HO_183002) hb); have n4_ := Aside0.mk (Kd.R_below (r_ HO_183003) hb); have n5_ := Aside0.mk (Kd.S_below (s_ HO_183004) hb); have n6_ := Aside0.mk (Kd.R_below (r_ HL192_0) hb); have n7_ := Aside0.mk (Kd.R_below (r_ HO195) hb); have n8_ := Aside0.mk (Kd.R_below (r_ HO199) hb); have n9_ := Aside0.mk (Kd.R_below (r_ HL202_0) hb); have n10_ := Aside0.mk (Kd.R_below (r_ HL203_0) hb); have n11_ := Aside0.mk (Kd.R_below (r_ HO206) hb); have n12_ := Aside0.mk (Kd.R_below (r_ HL208_0) hb); have n13_ := Aside0.mk (Kd.R_below (r_ HO211) hb); have n14_ := Aside0.mk (Kd.R_below (r_ HO216) hb); have n15_ := Aside0.mk (Kd.R_below (r_ HL217_0) hb); have n16_ := Aside0.mk (Kd.R_below (r_ HO220) hb); have n17_ := Aside0.mk (Kd.R_below (r_ HO223) hb); have n18_ := Aside0.mk (blk_below (k_ BK182) hb); have n19_ := Aside0.mk (blk_below (k_ BK201) hb); have n20_ := Aside0.mk (Kd.C_below (by repeat (first | (with_reducible exact HR202_0.out) | (with_reducible refine Kd.C_alloc ?_ _) | (with_reducible refine Kd.C_drewN ?_ _) | (with_reducible refine Kd.C_drew ?_) | exact HR202_0.out)) hb); have n21_ := Aside0.mk (Kd.C_below (by repeat (first | (with_reducible exact HR203_0.out) | (with_reducible refine Kd.C_alloc ?_ _) | (with_reducible refine Kd.C_drewN ?_ _) | (with_reducible refine Kd.C_drew ?_) | exact HR203_0.out)) hb); have n22_ := Aside0.mk (Kd.C_below (by repeat (first | (with_reducible exact HR208_0.out) | (with_reducible refine Kd.C_alloc ?_ _) | (with_reducible refine Kd.C_drewN ?_ _) | (with_reducible refine Kd.C_drew ?_) | exact HR208_0.out)) hb); have n23_ := Aside0.mk (blk_below (k_ BK213) hb); have n24_ := Aside0.mk (Kd.C_below (by repeat (first | (with_reducible exact HR217_0.out) | (with_reducible refine Kd.C_alloc ?_ _) | (with_reducible refine Kd.C_drewN ?_ _) | (with_reducible refine Kd.C_drew ?_) | exact HR217_0.out)) hb); have n25_ := Aside0.mk (blk_below (k_ BK226) hb); have n26_ := Aside0.mk (below_step (b_ HB) hb); clear HO_2; clear HO_183000; clear HO_183001; clear HO_183002; clear HO_183003; clear HO_183004; clear HL192_0; clear HO195; clear HO199; clear HL202_0; clear HL203_0; clear HO206; clear HL208_0; clear HO211; clear HO216; clear HL217_0; clear HO220; clear HO223; clear BK182; clear BK201; clear HR202_0; clear HR203_0; clear HR208_0; clear BK213; clear HR217_0; clear BK226; clear HB; have HO_2 := n0_; have HO_183000 := n1_; have HO_183001 := n2_; have HO_183002 := n3_; have HO_183003 := n4_; have HO_183004 := n5_; have HL192_0 := n6_; have HO195 := n7_; have HO199 := n8_; have HL202_0 := n9_; have HL203_0 := n10_; have HO206 := n11_; have HL208_0 := n12_; have HO211 := n13_; have HO216 := n14_; have HL217_0 := n15_; have HO220 := n16_; have HO223 := n17_; have BK182 := n18_; have BK201 := n19_; have HR202_0 := n20_; have HR203_0 := n21_; have HR208_0 := n22_; have BK213 := n23_; have HR217_0 := n24_; have BK226 := n25_; have HB := n26_; clear n0_ n1_ n2_ n3_ n4_ n5_ n6_ n7_ n8_ n9_ n10_ n11_ n12_ n13_ n14_ n15_ n16_ n17_ n18_ n19_ n20_ n21_ n22_ n23_ n24_ n25_ n26_; (try clear hb); (try clear hb2); (try clear hk); (try clear hi); have hcz88_0 : w87.cell? ⟨gb182, 0, none⟩ = some (.slice Ao7 t167.length co7) := (blk_cell BK182.out 0).trans rfl; have hcz88_1 : w87.cell? ⟨gb182, 1, none⟩ = some (.slice Ao9 t170.length co9) := (blk_cell BK182.out 1).trans rfl; have hcz88_2 : w87.cell? ⟨gb182, 2, none⟩ = some (.slice Ao10 t173.length co10) := (blk_cell BK182.out 2).trans rfl; have hcz88_3 : w87.cell? ⟨gb182, 3, none⟩ = some (.slice Ao11 t176.length co11) := (blk_cell BK182.out 3).trans rfl; have hcz88_4 : w87.cell? ⟨gb182, 4, none⟩ = some (.slice Ao12 t179.length co12) := (blk_cell BK182.out 4).trans rfl; have hfz88_0 := blk_frozen BK182.out 0; have hfz88_1 := blk_frozen BK182.out 1; have hfz88_2 := blk_frozen BK182.out 2; have hfz88_3 := blk_frozen BK182.out 3; have hfz88_4 := blk_frozen BK182.out 4) | (go_at_call 30; (with_reducible refine (week_In.calls _ _ t167 _ _ t170 _ _ t173 _ _ t176 _ _ t179 0 2 t231 _ ?side1 ?side2 ?side3 ?side4 ?side5 ?side6 ?side7 ?side8 ?side9 ?side10 A76.out).mono ?_); (case side1 => repeat (first | exact (Kd.R_reads' HO_183000.out).2.2 | (with_reducible refine Kd.C_alloc ?_ _) | (with_reducible refine Kd.C_drewN ?_ _) | (with_reducible refine Kd.C_drew ?_))); (case side2 => exact (Kd.R_reads' HO_183000.out).2.1); (case side3 => repeat (first | exact (Kd.S_reads' HO_183001.out).2.2 | (with_reducible refine Kd.C_alloc ?_ _) | (with_reducible refine Kd.C_drewN ?_ _) | (with_reducible refine Kd.C_drew ?_))); (case side4 => exact (Kd.S_reads' HO_183001.out).2.1); (case side5 => repeat (first | exact (Kd.S_reads' HO_183002.out).2.2 | (with_reducible refine Kd.C_alloc ?_ _) | (with_reducible refine Kd.C_drewN ?_ _) | (with_reducible refine Kd.C_drew ?_))); (case side6 => exact (Kd.S_reads' HO_183002.out).2.1); (case side7 => repeat (first | exact (Kd.R_reads' HO_183003.out).2.2 | (with_reducible refine Kd.C_alloc ?_ _) | (with_reducible refine Kd.C_drewN ?_ _) | (with_reducible refine Kd.C_drew ?_))); (case side8 => exact (Kd.R_reads' HO_183003.out).2.1); (case side9 => repeat (first | exact (Kd.S_reads' HO_183004.out).2.2 | (with_reducible refine Kd.C_alloc ?_ _) | (with_reducible refine Kd.C_drewN ?_ _) | (with_reducible refine Kd.C_drew ?_))); (case side10 => exact (Kd.S_reads' HO_183004.out).2.1); rintro e w89 ⟨rfl, hb⟩; have n0_ := Aside0.mk (Kd.S_below (s_ HO_2) hb); have n1_ := Aside0.mk (Kd.R_below (r_ HO_183000) hb); have n2_ := Aside0.mk (Kd.S_below (s_ HO_183001) hb); have n3_ := Aside0.mk (Kd.S_below (s_ HO_183002) hb); have n4_ := Aside0.mk (Kd.R_below (r_ HO_183003) hb); have n5_ := Aside0.mk (Kd.S_below (s_ HO_183004) hb); have n6_ := Aside0.mk (Kd.R_below (r_ HL192_0) hb); have n7_ := Aside0.mk (Kd.R_below (r_ HO195) hb); have n8_ := Aside0.mk (Kd.R_below (r_ HO199) hb); have n9_ := Aside0.mk (Kd.R_below (r_ HL202_0) hb); have n10_ := Aside0.mk (Kd.R_below (r_ HL203_0) hb); have n11_ := Aside0.mk (Kd.R_below (r_ HO206) hb); have n12_ := Aside0.mk (Kd.R_below (r_ HL208_0) hb); have n13_ := Aside0.mk (Kd.R_below (r_ HO211) hb); have n14_ := Aside0.mk (Kd.R_below (r_ HO216) hb); have n15_ := Aside0.mk (Kd.R_below (r_ HL217_0) hb); have n16_ := Aside0.mk (Kd.R_below (r_ HO220) hb); have n17_ := Aside0.mk (Kd.R_below (r_ HO223) hb); have n18_ := Aside0.mk (blk_below (k_ BK182) hb); have n19_ := Aside0.mk (blk_below (k_ BK201) hb); have n20_ := Aside0.mk (Kd.C_below (by repeat (first | (with_reducible exact HR202_0.out) | (with_reducible refine Kd.C_alloc ?_ _) | (with_reducible refine Kd.C_drewN ?_ _) | (with_reducible refine Kd.C_drew ?_) | exact HR202_0.out)) hb); have n21_ := Aside0.mk (Kd.C_below (by repeat (first | (with_reducible exact HR203_0.out) | (with_reducible refine Kd.C_alloc ?_ _) | (with_reducible refine Kd.C_drewN ?_ _) | (with_reducible refine Kd.C_drew ?_) | exact HR203_0.out)) hb); have n22_ := Aside0.mk (Kd.C_below (by repeat (first | (with_reducible exact HR208_0.out) | (with_reducible refine Kd.C_alloc ?_ _) | (with_reducible refine Kd.C_drewN ?_ _) | (with_reducible refine Kd.C_drew ?_) | exact HR208_0.out)) hb); have n23_ := Aside0.mk (blk_below (k_ BK213) hb); have n24_ := Aside0.mk (Kd.C_below (by repeat (first | (with_reducible exact HR217_0.out) | (with_reducible refine Kd.C_alloc ?_ _) | (with_reducible refine Kd.C_drewN ?_ _) | (with_reducible refine Kd.C_drew ?_) | exact HR217_0.out)) hb); have n25_ := Aside0.mk (blk_below (k_ BK226) hb); have n26_ := Aside0.mk (below_step (b_ HB) hb); clear HO_2; clear HO_183000; clear HO_183001; clear HO_183002; clear HO_183003; clear HO_183004; clear HL192_0; clear HO195; clear HO199; clear HL202_0; clear HL203_0; clear HO206; clear HL208_0; clear HO211; clear HO216; clear HL217_0; clear HO220; clear HO223; clear BK182; clear BK201; clear HR202_0; clear HR203_0; clear HR208_0; clear BK213; clear HR217_0; clear BK226; clear HB; have HO_2 := n0_; have HO_183000 := n1_; have HO_183001 := n2_; have HO_183002 := n3_; have HO_183003 := n4_; have HO_183004 := n5_; have HL192_0 := n6_; have HO195 := n7_; have HO199 := n8_; have HL202_0 := n9_; have HL203_0 := n10_; have HO206 := n11_; have HL208_0 := n12_; have HO211 := n13_; have HO216 := n14_; have HL217_0 := n15_; have HO220 := n16_; have HO223 := n17_; have BK182 := n18_; have BK201 := n19_; have HR202_0 := n20_; have HR203_0 := n21_; have HR208_0 := n22_; have BK213 := n23_; have HR217_0 := n24_; have BK226 := n25_; have HB := n26_; clear n0_ n1_ n2_ n3_ n4_ n5_ n6_ n7_ n8_ n9_ n10_ n11_ n12_ n13_ n14_ n15_ n16_ n17_ n18_ n19_ n20_ n21_ n22_ n23_ n24_ n25_ n26_; (try clear hb); (try clear hb2); (try clear hk); (try clear hi)))
        go_meet
        case rel => exact ⟨_, ((t231 == 0)), (by first | rfl | (simp; done) | (simp [*]; done)), H', ⟨by have := HJ3.out; first | omega | exact Nat.le_refl _⟩, ⟨by (with_reducible repeat (first | apply Kd.S_alloc | apply Kd.S_drewN | apply Kd.S_drew)); exact Kd.S_mono HO_2.out (fun _ hk => ⟨hk.1.1.1.1.1, ⟨hk.1.1.1.2, ⟨hk.1.2, ⟨hk.1.1.1.1.2, ⟨hk.1.1.2, hk.2⟩⟩⟩⟩⟩)⟩, ⟨by (with_reducible repeat (first | apply Kd.R_alloc | apply Kd.R_drewN | apply Kd.R_drew)); exact HO206.out⟩, ⟨by (with_reducible repeat (first | apply Kd.R_alloc | apply Kd.R_drewN | apply Kd.R_drew)); exact HO_183000.out⟩, ⟨by (with_reducible repeat (first | apply Kd.S_alloc | apply Kd.S_drewN | apply Kd.S_drew)); exact HO_183001.out⟩, ⟨by (with_reducible repeat (first | apply Kd.S_alloc | apply Kd.S_drewN | apply Kd.S_drew)); exact HO_183002.out⟩, ⟨by (with_reducible repeat (first | apply Kd.R_alloc | apply Kd.R_drewN | apply Kd.R_drew)); exact HO_183003.out⟩, ⟨by (with_reducible repeat (first | apply Kd.S_alloc | apply Kd.S_drewN | apply Kd.S_drew)); exact HO_183004.out⟩, ⟨by (with_reducible repeat (first | apply Kd.R_alloc | apply Kd.R_drewN | apply Kd.R_drew)); exact Kd.R_mono HO199.out (fun _ hk => ⟨hk.1.2, hk.2⟩)⟩, ⟨by (with_reducible repeat (first | apply Kd.R_alloc | apply Kd.R_drewN | apply Kd.R_drew)); exact Kd.R_mono HO211.out (fun _ hk => ⟨hk.1.1.1.1.2, hk.2⟩)⟩, ⟨by (with_reducible repeat (first | apply Kd.R_alloc | apply Kd.R_drewN | apply Kd.R_drew)); exact Kd.R_mono HO223.out (fun _ hk => ⟨hk.1.1.1.1.1.2, hk.1.2⟩)⟩, ⟨k_ BK182⟩, ⟨k_ BK201⟩, ⟨k_ BK213⟩, ⟨k_ BK226⟩, ⟨by repeat (first | (with_reducible exact HR202_0.out) | (with_reducible refine Kd.C_alloc ?_ _) | (with_reducible refine Kd.C_drewN ?_ _) | (with_reducible refine Kd.C_drew ?_) | exact HR202_0.out)⟩, ⟨by repeat (first | (with_reducible exact HR203_0.out) | (with_reducible refine Kd.C_alloc ?_ _) | (with_reducible refine Kd.C_drewN ?_ _) | (with_reducible refine Kd.C_drew ?_) | exact HR203_0.out)⟩, ⟨by repeat (first | (with_reducible exact HR208_0.out) | (with_reducible refine Kd.C_alloc ?_ _) | (with_reducible refine Kd.C_drewN ?_ _) | (with_reducible refine Kd.C_drew ?_) | exact HR208_0.out)⟩, ⟨by repeat (first | (with_reducible exact HR217_0.out) | (with_reducible refine Kd.C_alloc ?_ _) | (with_reducible refine Kd.C_drewN ?_ _) | (with_reducible refine Kd.C_drew ?_) | exact HR217_0.out)⟩, ⟨b_ HB⟩⟩
      case rest =>
        clear HC35
        (try clear hcz39_0); (try clear hcz39_1); (try clear hcz39_2); (try clear hcz39_3); (try clear hcz39_4); (try clear hcz45_0); (try clear hcz55_0); (try clear hcz67_0); (try clear hfz39_0); (try clear hfz39_1); (try clear hfz39_2); (try clear hfz39_3); (try clear hfz39_4); (try clear hfz45_0); (try clear hfz55_0); (try clear hfz67_0); (try clear hx202_0); (try clear hx203_0); (try clear hx208_0); (try clear hx217_0); (try clear p202); (try clear p203); (try clear p208); (try clear p217); (try clear q202); (try clear q203); (try clear q208); (try clear q217)
        obtain ⟨kq, x17_34, rfl, HA, HJ34, HO_2, HO_10, HO_183000, HO_183001, HO_183002, HO_183003, HO_183004, HO_202000, HO_214000, HO_227000, BK182, BK201, BK213, BK226, HR202_0, HR203_0, HR208_0, HR217_0, HB⟩ := hcut
        cases kq with
        | zero => exact absurd HA.out (by simp [live04.j1])
        | succ kj34 =>
          have H := HA.out
          clear HA
          simp only [live04.j1] at H
          obtain ⟨y232, hy232⟩ : ∃ y_ : List (S55), y_ = (([(⟨0, 0⟩ : S55), (⟨0, 1⟩ : S55)] : List (S55))) := ⟨_, rfl⟩
          replace H : (if 1 < (t183.length : Int) then ((chalklineref04_Same.f kj34 ((rd_T24 t183 1).f0) y232).bind fun t237 => (if t237 = true then ((chalklineref04_Same.f kj34 t197 y232).bind fun t238 => (if t238 = true then ((chalklineref04_Same.f kj34 t209 y232).bind fun t239 => (if t239 = true then ((chalklineref04_Same.f kj34 t221 y232).bind fun t240 => (if x17_34 = true then (if t240 = true then (if t190 = 2 then (if t196 = 0 then (if t200 = 0 then (if t207 = 0 then (if t212 = 0 then (if t225 = 0 then (if t224 = 6 then (if (t204.length : Int) = 1 then (if 0 < (t204.length : Int) then (if (((rd_T57 t204 0).f0) == 1 && ((((rd_T57 t204 0).f1.f0) == 0 && (((rd_T57 t204 0).f1.f1) == 1)))) = true then ((week_Check.f t167 t170 t173 t176 t179 y232).bind fun t242 => (if t242 = 0 then ((week_Check.f t167 t170 t173 t176 t179 ([] : List (S55))).bind fun t243 => (some (t243 == 40))) else (some false))) else (some false)) else (none)) else (some false)) else (some false)) else (some false)) else (some false)) else (some false)) else (some false)) else (some false)) else (some false)) else (some false)) else (some false))) else (if x17_34 = true then (some false) else (some false)))) else (if x17_34 = true then (some false) else (some false)))) else (if x17_34 = true then (some false) else (some false)))) else (none)) = some r := by first | (rw [hy232]; with_reducible exact H) | (have H2_ := (Option.bind_some _ _).symm.trans H; rw [hy232]; with_reducible exact H2_) | (have H2_ := (Option.bind_some _ _).symm.trans H; with_reducible exact H2_) | with_reducible exact H | (rw [hy232]; exact H) | exact H
          have Ny232 := Aside0.mk hy232
          clear hy232
          by_cases c122 : 1 < (t183.length : Int)
          rotate_left
          · (rw [if_neg c122] at H; exact live_dead HRT.out H (by first | (intro h; cases h; done) | (split <;> (intro h; cases h; done)) | exact live04.j0t _ _ _ _ _ _ _ _ | exact live04.j1f _ _ _ _ _ _ _ _ _ _ _ _ _ _ _ _ _ _))
          rw [if_pos c122] at H
          have c122b0 : decide (1 < (t183.length : Int)) = true := decide_eq_true c122
          have c122b1 : decide (1 < t183.length) = true := decide_eq_true (by omega)
          clear c122
          replace H := Option.bind_eq_some_iff.mp H
          obtain ⟨t237, A1230, H⟩ := H
          replace H : (if t237 = true then ((chalklineref04_Same.f kj34 t197 y232).bind fun t238 => (if t238 = true then ((chalklineref04_Same.f kj34 t209 y232).bind fun t239 => (if t239 = true then ((chalklineref04_Same.f kj34 t221 y232).bind fun t240 => (if x17_34 = true then (if t240 = true then (if t190 = 2 then (if t196 = 0 then (if t200 = 0 then (if t207 = 0 then (if t212 = 0 then (if t225 = 0 then (if t224 = 6 then (if (t204.length : Int) = 1 then (if 0 < (t204.length : Int) then (if (((rd_T57 t204 0).f0) == 1 && ((((rd_T57 t204 0).f1.f0) == 0 && (((rd_T57 t204 0).f1.f1) == 1)))) = true then ((week_Check.f t167 t170 t173 t176 t179 y232).bind fun t242 => (if t242 = 0 then ((week_Check.f t167 t170 t173 t176 t179 ([] : List (S55))).bind fun t243 => (some (t243 == 40))) else (some false))) else (some false)) else (none)) else (some false)) else (some false)) else (some false)) else (some false)) else (some false)) else (some false)) else (some false)) else (some false)) else (some false)) else (some false))) else (if x17_34 = true then (some false) else (some false)))) else (if x17_34 = true then (some false) else (some false)))) else (if x17_34 = true then (some false) else (some false))) = some r := H
          have A123 := Aside0.mk A1230
          clear A1230
          by_cases c124 : t237 = true
          rotate_left
          · (rw [if_neg c124] at H; exact live_dead HRT.out H (by first | (intro h; cases h; done) | (split <;> (intro h; cases h; done)) | exact live04.j0t _ _ _ _ _ _ _ _ | exact live04.j1f _ _ _ _ _ _ _ _ _ _ _ _ _ _ _ _ _ _))
          subst c124
          have H1 : ((chalklineref04_Same.f kj34 t197 y232).bind fun t238 => (if t238 = true then ((chalklineref04_Same.f kj34 t209 y232).bind fun t239 => (if t239 = true then ((chalklineref04_Same.f kj34 t221 y232).bind fun t240 => (if x17_34 = true then (if t240 = true then (if t190 = 2 then (if t196 = 0 then (if t200 = 0 then (if t207 = 0 then (if t212 = 0 then (if t225 = 0 then (if t224 = 6 then (if (t204.length : Int) = 1 then (if 0 < (t204.length : Int) then (if (((rd_T57 t204 0).f0) == 1 && ((((rd_T57 t204 0).f1.f0) == 0 && (((rd_T57 t204 0).f1.f1) == 1)))) = true then ((week_Check.f t167 t170 t173 t176 t179 y232).bind fun t242 => (if t242 = 0 then ((week_Check.f t167 t170 t173 t176 t179 ([] : List (S55))).bind fun t243 => (some (t243 == 40))) else (some false))) else (some false)) else (none)) else (some false)) else (some false)) else (some false)) else (some false)) else (some false)) else (some false)) else (some false)) else (some false)) else (some false)) else (some false))) else (if x17_34 = true then (some false) else (some false)))) else (if x17_34 = true then (some false) else (some false)))) = some r := by rw [if_pos rfl] at H; exact H
          clear H
          have H := H1
          clear H1
          replace H := Option.bind_eq_some_iff.mp H
          obtain ⟨t238, A1250, H⟩ := H
          replace H : (if t238 = true then ((chalklineref04_Same.f kj34 t209 y232).bind fun t239 => (if t239 = true then ((chalklineref04_Same.f kj34 t221 y232).bind fun t240 => (if x17_34 = true then (if t240 = true then (if t190 = 2 then (if t196 = 0 then (if t200 = 0 then (if t207 = 0 then (if t212 = 0 then (if t225 = 0 then (if t224 = 6 then (if (t204.length : Int) = 1 then (if 0 < (t204.length : Int) then (if (((rd_T57 t204 0).f0) == 1 && ((((rd_T57 t204 0).f1.f0) == 0 && (((rd_T57 t204 0).f1.f1) == 1)))) = true then ((week_Check.f t167 t170 t173 t176 t179 y232).bind fun t242 => (if t242 = 0 then ((week_Check.f t167 t170 t173 t176 t179 ([] : List (S55))).bind fun t243 => (some (t243 == 40))) else (some false))) else (some false)) else (none)) else (some false)) else (some false)) else (some false)) else (some false)) else (some false)) else (some false)) else (some false)) else (some false)) else (some false)) else (some false))) else (if x17_34 = true then (some false) else (some false)))) else (if x17_34 = true then (some false) else (some false))) = some r := H
          have A125 := Aside0.mk A1250
          clear A1250
          by_cases c126 : t238 = true
          rotate_left
          · (rw [if_neg c126] at H; exact live_dead HRT.out H (by first | (intro h; cases h; done) | (split <;> (intro h; cases h; done)) | exact live04.j0t _ _ _ _ _ _ _ _ | exact live04.j1f _ _ _ _ _ _ _ _ _ _ _ _ _ _ _ _ _ _))
          subst c126
          have H1 : ((chalklineref04_Same.f kj34 t209 y232).bind fun t239 => (if t239 = true then ((chalklineref04_Same.f kj34 t221 y232).bind fun t240 => (if x17_34 = true then (if t240 = true then (if t190 = 2 then (if t196 = 0 then (if t200 = 0 then (if t207 = 0 then (if t212 = 0 then (if t225 = 0 then (if t224 = 6 then (if (t204.length : Int) = 1 then (if 0 < (t204.length : Int) then (if (((rd_T57 t204 0).f0) == 1 && ((((rd_T57 t204 0).f1.f0) == 0 && (((rd_T57 t204 0).f1.f1) == 1)))) = true then ((week_Check.f t167 t170 t173 t176 t179 y232).bind fun t242 => (if t242 = 0 then ((week_Check.f t167 t170 t173 t176 t179 ([] : List (S55))).bind fun t243 => (some (t243 == 40))) else (some false))) else (some false)) else (none)) else (some false)) else (some false)) else (some false)) else (some false)) else (some false)) else (some false)) else (some false)) else (some false)) else (some false)) else (some false))) else (if x17_34 = true then (some false) else (some false)))) = some r := by rw [if_pos rfl] at H; exact H
          clear H
          have H := H1
          clear H1
          replace H := Option.bind_eq_some_iff.mp H
          obtain ⟨t239, A1270, H⟩ := H
          replace H : (if t239 = true then ((chalklineref04_Same.f kj34 t221 y232).bind fun t240 => (if x17_34 = true then (if t240 = true then (if t190 = 2 then (if t196 = 0 then (if t200 = 0 then (if t207 = 0 then (if t212 = 0 then (if t225 = 0 then (if t224 = 6 then (if (t204.length : Int) = 1 then (if 0 < (t204.length : Int) then (if (((rd_T57 t204 0).f0) == 1 && ((((rd_T57 t204 0).f1.f0) == 0 && (((rd_T57 t204 0).f1.f1) == 1)))) = true then ((week_Check.f t167 t170 t173 t176 t179 y232).bind fun t242 => (if t242 = 0 then ((week_Check.f t167 t170 t173 t176 t179 ([] : List (S55))).bind fun t243 => (some (t243 == 40))) else (some false))) else (some false)) else (none)) else (some false)) else (some false)) else (some false)) else (some false)) else (some false)) else (some false)) else (some false)) else (some false)) else (some false)) else (some false))) else (if x17_34 = true then (some false) else (some false))) = some r := H
          have A127 := Aside0.mk A1270
          clear A1270
          by_cases c128 : t239 = true
          rotate_left
          · (rw [if_neg c128] at H; exact live_dead HRT.out H (by first | (intro h; cases h; done) | (split <;> (intro h; cases h; done)) | exact live04.j0t _ _ _ _ _ _ _ _ | exact live04.j1f _ _ _ _ _ _ _ _ _ _ _ _ _ _ _ _ _ _))
          subst c128
          have H1 : ((chalklineref04_Same.f kj34 t221 y232).bind fun t240 => (if x17_34 = true then (if t240 = true then (if t190 = 2 then (if t196 = 0 then (if t200 = 0 then (if t207 = 0 then (if t212 = 0 then (if t225 = 0 then (if t224 = 6 then (if (t204.length : Int) = 1 then (if 0 < (t204.length : Int) then (if (((rd_T57 t204 0).f0) == 1 && ((((rd_T57 t204 0).f1.f0) == 0 && (((rd_T57 t204 0).f1.f1) == 1)))) = true then ((week_Check.f t167 t170 t173 t176 t179 y232).bind fun t242 => (if t242 = 0 then ((week_Check.f t167 t170 t173 t176 t179 ([] : List (S55))).bind fun t243 => (some (t243 == 40))) else (some false))) else (some false)) else (none)) else (some false)) else (some false)) else (some false)) else (some false)) else (some false)) else (some false)) else (some false)) else (some false)) else (some false)) else (some false))) = some r := by rw [if_pos rfl] at H; exact H
          clear H
          have H := H1
          clear H1
          replace H := Option.bind_eq_some_iff.mp H
          obtain ⟨t240, A1290, H⟩ := H
          replace H : (if x17_34 = true then (if t240 = true then (if t190 = 2 then (if t196 = 0 then (if t200 = 0 then (if t207 = 0 then (if t212 = 0 then (if t225 = 0 then (if t224 = 6 then (if (t204.length : Int) = 1 then (if 0 < (t204.length : Int) then (if (((rd_T57 t204 0).f0) == 1 && ((((rd_T57 t204 0).f1.f0) == 0 && (((rd_T57 t204 0).f1.f1) == 1)))) = true then ((week_Check.f t167 t170 t173 t176 t179 y232).bind fun t242 => (if t242 = 0 then ((week_Check.f t167 t170 t173 t176 t179 ([] : List (S55))).bind fun t243 => (some (t243 == 40))) else (some false))) else (some false)) else (none)) else (some false)) else (some false)) else (some false)) else (some false)) else (some false)) else (some false)) else (some false)) else (some false)) else (some false)) else (some false)) = some r := H
          have A129 := Aside0.mk A1290
          clear A1290
          by_cases c130 : x17_34 = true
          rotate_left
          · (rw [if_neg c130] at H; exact live_dead HRT.out H (by first | (intro h; cases h; done) | (split <;> (intro h; cases h; done)) | exact live04.j0t _ _ _ _ _ _ _ _ | exact live04.j1f _ _ _ _ _ _ _ _ _ _ _ _ _ _ _ _ _ _))
          subst c130
          have H1 : (if t240 = true then (if t190 = 2 then (if t196 = 0 then (if t200 = 0 then (if t207 = 0 then (if t212 = 0 then (if t225 = 0 then (if t224 = 6 then (if (t204.length : Int) = 1 then (if 0 < (t204.length : Int) then (if (((rd_T57 t204 0).f0) == 1 && ((((rd_T57 t204 0).f1.f0) == 0 && (((rd_T57 t204 0).f1.f1) == 1)))) = true then ((week_Check.f t167 t170 t173 t176 t179 y232).bind fun t242 => (if t242 = 0 then ((week_Check.f t167 t170 t173 t176 t179 ([] : List (S55))).bind fun t243 => (some (t243 == 40))) else (some false))) else (some false)) else (none)) else (some false)) else (some false)) else (some false)) else (some false)) else (some false)) else (some false)) else (some false)) else (some false)) else (some false)) = some r := by rw [if_pos rfl] at H; exact H
          clear H
          have H := H1
          clear H1
          by_cases c131 : t240 = true
          rotate_left
          · (rw [if_neg c131] at H; exact live_dead HRT.out H (by first | (intro h; cases h; done) | (split <;> (intro h; cases h; done)) | exact live04.j0t _ _ _ _ _ _ _ _ | exact live04.j1f _ _ _ _ _ _ _ _ _ _ _ _ _ _ _ _ _ _))
          subst c131
          have H1 : (if t190 = 2 then (if t196 = 0 then (if t200 = 0 then (if t207 = 0 then (if t212 = 0 then (if t225 = 0 then (if t224 = 6 then (if (t204.length : Int) = 1 then (if 0 < (t204.length : Int) then (if (((rd_T57 t204 0).f0) == 1 && ((((rd_T57 t204 0).f1.f0) == 0 && (((rd_T57 t204 0).f1.f1) == 1)))) = true then ((week_Check.f t167 t170 t173 t176 t179 y232).bind fun t242 => (if t242 = 0 then ((week_Check.f t167 t170 t173 t176 t179 ([] : List (S55))).bind fun t243 => (some (t243 == 40))) else (some false))) else (some false)) else (none)) else (some false)) else (some false)) else (some false)) else (some false)) else (some false)) else (some false)) else (some false)) else (some false)) = some r := by rw [if_pos rfl] at H; exact H
          clear H
          have H := H1
          clear H1
          by_cases c132 : t190 = 2
          rotate_left
          · (rw [if_neg c132] at H; exact live_dead HRT.out H (by first | (intro h; cases h; done) | (split <;> (intro h; cases h; done)) | exact live04.j0t _ _ _ _ _ _ _ _ | exact live04.j1f _ _ _ _ _ _ _ _ _ _ _ _ _ _ _ _ _ _))
          rw [if_pos c132] at H
          have c132b0 : (t190 == 2) = true := beq_iff_eq.mpr c132
          have c132b1 : (t190 != 2) = false := bne_eq_false_iff_eq.mpr c132
          clear c132
          by_cases c133 : t196 = 0
          rotate_left
          · (rw [if_neg c133] at H; exact live_dead HRT.out H (by first | (intro h; cases h; done) | (split <;> (intro h; cases h; done)) | exact live04.j0t _ _ _ _ _ _ _ _ | exact live04.j1f _ _ _ _ _ _ _ _ _ _ _ _ _ _ _ _ _ _))
          rw [if_pos c133] at H
          have c133b0 : (t196 == 0) = true := beq_iff_eq.mpr c133
          have c133b1 : (t196 != 0) = false := bne_eq_false_iff_eq.mpr c133
          clear c133
          by_cases c134 : t200 = 0
          rotate_left
          · (rw [if_neg c134] at H; exact live_dead HRT.out H (by first | (intro h; cases h; done) | (split <;> (intro h; cases h; done)) | exact live04.j0t _ _ _ _ _ _ _ _ | exact live04.j1f _ _ _ _ _ _ _ _ _ _ _ _ _ _ _ _ _ _))
          rw [if_pos c134] at H
          have c134b0 : (t200 == 0) = true := beq_iff_eq.mpr c134
          have c134b1 : (t200 != 0) = false := bne_eq_false_iff_eq.mpr c134
          clear c134
          by_cases c135 : t207 = 0
          rotate_left
          · (rw [if_neg c135] at H; exact live_dead HRT.out H (by first | (intro h; cases h; done) | (split <;> (intro h; cases h; done)) | exact live04.j0t _ _ _ _ _ _ _ _ | exact live04.j1f _ _ _ _ _ _ _ _ _ _ _ _ _ _ _ _ _ _))
          rw [if_pos c135] at H
          have c135b0 : (t207 == 0) = true := beq_iff_eq.mpr c135
          have c135b1 : (t207 != 0) = false := bne_eq_false_iff_eq.mpr c135
          clear c135
          by_cases c136 : t212 = 0
          rotate_left
          · (rw [if_neg c136] at H; exact live_dead HRT.out H (by first | (intro h; cases h; done) | (split <;> (intro h; cases h; done)) | exact live04.j0t _ _ _ _ _ _ _ _ | exact live04.j1f _ _ _ _ _ _ _ _ _ _ _ _ _ _ _ _ _ _))
          rw [if_pos c136] at H
          have c136b0 : (t212 == 0) = true := beq_iff_eq.mpr c136
          have c136b1 : (t212 != 0) = false := bne_eq_false_iff_eq.mpr c136
          clear c136
          by_cases c137 : t225 = 0
          rotate_left
          · (rw [if_neg c137] at H; exact live_dead HRT.out H (by first | (intro h; cases h; done) | (split <;> (intro h; cases h; done)) | exact live04.j0t _ _ _ _ _ _ _ _ | exact live04.j1f _ _ _ _ _ _ _ _ _ _ _ _ _ _ _ _ _ _))
          rw [if_pos c137] at H
          have c137b0 : (t225 == 0) = true := beq_iff_eq.mpr c137
          have c137b1 : (t225 != 0) = false := bne_eq_false_iff_eq.mpr c137
          clear c137
          by_cases c138 : t224 = 6
          rotate_left
          · (rw [if_neg c138] at H; exact live_dead HRT.out H (by first | (intro h; cases h; done) | (split <;> (intro h; cases h; done)) | exact live04.j0t _ _ _ _ _ _ _ _ | exact live04.j1f _ _ _ _ _ _ _ _ _ _ _ _ _ _ _ _ _ _))
          rw [if_pos c138] at H
          have c138b0 : (t224 == 6) = true := beq_iff_eq.mpr c138
          have c138b1 : (t224 != 6) = false := bne_eq_false_iff_eq.mpr c138
          clear c138
          by_cases c139 : (t204.length : Int) = 1
          rotate_left
          · (rw [if_neg c139] at H; exact live_dead HRT.out H (by first | (intro h; cases h; done) | (split <;> (intro h; cases h; done)) | exact live04.j0t _ _ _ _ _ _ _ _ | exact live04.j1f _ _ _ _ _ _ _ _ _ _ _ _ _ _ _ _ _ _))
          rw [if_pos c139] at H
          have c139b0 : ((t204.length : Int) == 1) = true := beq_iff_eq.mpr c139
          have c139b1 : ((t204.length : Int) != 1) = false := bne_eq_false_iff_eq.mpr c139
          clear c139
          by_cases c140 : 0 < (t204.length : Int)
          rotate_left
          · (rw [if_neg c140] at H; exact live_dead HRT.out H (by first | (intro h; cases h; done) | (split <;> (intro h; cases h; done)) | exact live04.j0t _ _ _ _ _ _ _ _ | exact live04.j1f _ _ _ _ _ _ _ _ _ _ _ _ _ _ _ _ _ _))
          rw [if_pos c140] at H
          have c140b0 : decide (0 < (t204.length : Int)) = true := decide_eq_true c140
          have c140b1 : decide (0 < t204.length) = true := decide_eq_true (by omega)
          clear c140
          by_cases c141 : (((rd_T57 t204 0).f0) == 1 && ((((rd_T57 t204 0).f1.f0) == 0 && (((rd_T57 t204 0).f1.f1) == 1)))) = true
          rotate_left
          · (rw [if_neg c141] at H; exact live_dead HRT.out H (by first | (intro h; cases h; done) | (split <;> (intro h; cases h; done)) | exact live04.j0t _ _ _ _ _ _ _ _ | exact live04.j1f _ _ _ _ _ _ _ _ _ _ _ _ _ _ _ _ _ _))
          rw [if_pos c141] at H
          have c141b0 : (((rd_T57 t204 0).f0) == 1 && ((((rd_T57 t204 0).f1.f0) == 0 && (((rd_T57 t204 0).f1.f1) == 1)))) = true := c141
          (try (have c141b1 : decide (((rd_T57 t204 0).f0) = 1 && ((((rd_T57 t204 0).f1.f0) == 0 && (((rd_T57 t204 0).f1.f1) == 1)))) = true := by simpa using c141))
          (try (have c141b2 : (((rd_T57 t204 0).f0) == 1 && ((((rd_T57 t204 0).f1.f0) == 0 && (((rd_T57 t204 0).f1.f1) == 1)))) = true := by simpa using c141))
          clear c141
          replace H := Option.bind_eq_some_iff.mp H
          obtain ⟨t242, A1420, H⟩ := H
          replace H : (if t242 = 0 then ((week_Check.f t167 t170 t173 t176 t179 ([] : List (S55))).bind fun t243 => (some (t243 == 40))) else (some false)) = some r := H
          have A142 := Aside0.mk A1420
          clear A1420
          by_cases c143 : t242 = 0
          rotate_left
          · (rw [if_neg c143] at H; exact live_dead HRT.out H (by first | (intro h; cases h; done) | (split <;> (intro h; cases h; done)) | exact live04.j0t _ _ _ _ _ _ _ _ | exact live04.j1f _ _ _ _ _ _ _ _ _ _ _ _ _ _ _ _ _ _))
          rw [if_pos c143] at H
          have c143b0 : (t242 == 0) = true := beq_iff_eq.mpr c143
          have c143b1 : (t242 != 0) = false := bne_eq_false_iff_eq.mpr c143
          clear c143
          replace H := Option.bind_eq_some_iff.mp H
          obtain ⟨t243, A1440, H⟩ := H
          replace H : (some (t243 == 40)) = some r := H
          have A144 := Aside0.mk A1440
          clear A1440
          obtain rfl := Option.some.inj H
          try go_wp2_with (first | ((with_reducible refine gate_dst (N := 110) rfl ?_); (try (refine gate_guard (by rfl) ?_; dsimp only)); refine Kd.R_lit k55 _ 55 ?hg (N := 110) ?hd (xs := ([(⟨0, 0⟩ : S55), (⟨0, 1⟩ : S55)] : List (S55))) (inner := [.int .i64 0, .int .i64 0, .int .i64 0, .int .i64 1]) (ok := fun _ => True) (okp := fun _ => True) ?hr ?hp (fun _ hk => hk) trivial (Below.refl _ _) (Nat.le_refl _) (by simp) ?_; (case hd => rfl); (case hg => rfl); (case hr => first | (go_simp; done) | (go_simp; rfl)); (case hp => exact (Reps.c2 (show Kd.M k55 _ _ _ (⟨0, 0⟩ : S55) [.int .i64 0, .int .i64 0] from (k55_mkM _ _ _ (⟨0, 0⟩ : S55) )) (Reps.c2 (show Kd.M k55 _ _ _ (⟨0, 1⟩ : S55) [.int .i64 0, .int .i64 1] from (k55_mkM _ _ _ (⟨0, 1⟩ : S55) )) (Reps.none _ _)))); intro v233 w145 ho146 hb hg_ hnew_; clear hg_ hnew_; (first | rw [← Ny232.out] at ho146 | (simp only [Int.reduceToNat] at ho146; rw [← Ny232.out] at ho146)); have n0_ := Aside0.mk (Kd.S_elder' (s_ HO_2) (Kd.R_base ho146) hb); have n1_ := Aside0.mk (Kd.R_below (r_ HO_10) hb); have n2_ := Aside0.mk (Kd.R_below (r_ HO_183000) hb); have n3_ := Aside0.mk (Kd.S_below (s_ HO_183001) hb); have n4_ := Aside0.mk (Kd.S_below (s_ HO_183002) hb); have n5_ := Aside0.mk (Kd.R_below (r_ HO_183003) hb); have n6_ := Aside0.mk (Kd.S_below (s_ HO_183004) hb); have n7_ := Aside0.mk (Kd.R_elder' (r_ HO_202000) (Kd.R_base ho146) hb); have n8_ := Aside0.mk (Kd.R_elder' (r_ HO_214000) (Kd.R_base ho146) hb); have n9_ := Aside0.mk (Kd.R_elder' (r_ HO_227000) (Kd.R_base ho146) hb); have n10_ := Aside0.mk (Kd.R_lower (Kd.R_new' (Kd.R_new' (Kd.R_new' ho146 (Kd.R_lt (r_ HO_202000))) (Kd.R_lt (r_ HO_214000))) (Kd.R_lt (r_ HO_227000))) (below_size (b_ HB))); have n11_ := Aside0.mk (blk_below (k_ BK182) hb); have n12_ := Aside0.mk (blk_below (k_ BK201) hb); have n13_ := Aside0.mk (blk_below (k_ BK213) hb); have n14_ := Aside0.mk (blk_below (k_ BK226) hb); have n15_ := Aside0.mk (Kd.C_below (by repeat (first | (with_reducible exact HR202_0.out) | (with_reducible refine Kd.C_alloc ?_ _) | (with_reducible refine Kd.C_drewN ?_ _) | (with_reducible refine Kd.C_drew ?_) | exact HR202_0.out)) hb); have n16_ := Aside0.mk (Kd.C_below (by repeat (first | (with_reducible exact HR203_0.out) | (with_reducible refine Kd.C_alloc ?_ _) | (with_reducible refine Kd.C_drewN ?_ _) | (with_reducible refine Kd.C_drew ?_) | exact HR203_0.out)) hb); have n17_ := Aside0.mk (Kd.C_below (by repeat (first | (with_reducible exact HR208_0.out) | (with_reducible refine Kd.C_alloc ?_ _) | (with_reducible refine Kd.C_drewN ?_ _) | (with_reducible refine Kd.C_drew ?_) | exact HR208_0.out)) hb); have n18_ := Aside0.mk (Kd.C_below (by repeat (first | (with_reducible exact HR217_0.out) | (with_reducible refine Kd.C_alloc ?_ _) | (with_reducible refine Kd.C_drewN ?_ _) | (with_reducible refine Kd.C_drew ?_) | exact HR217_0.out)) hb); have n19_ := Aside0.mk (below_step (b_ HB) hb); clear HO_2; clear HO_10; clear HO_183000; clear HO_183001; clear HO_183002; clear HO_183003; clear HO_183004; clear HO_202000; clear HO_214000; clear HO_227000; clear BK182; clear BK201; clear BK213; clear BK226; clear HR202_0; clear HR203_0; clear HR208_0; clear HR217_0; clear HB; have HO_2 := n0_; have HO_10 := n1_; have HO_183000 := n2_; have HO_183001 := n3_; have HO_183002 := n4_; have HO_183003 := n5_; have HO_183004 := n6_; have HO_202000 := n7_; have HO_214000 := n8_; have HO_227000 := n9_; have HO234 := n10_; have BK182 := n11_; have BK201 := n12_; have BK213 := n13_; have BK226 := n14_; have HR202_0 := n15_; have HR203_0 := n16_; have HR208_0 := n17_; have HR217_0 := n18_; have HB := n19_; clear n0_ n1_ n2_ n3_ n4_ n5_ n6_ n7_ n8_ n9_ n10_ n11_ n12_ n13_ n14_ n15_ n16_ n17_ n18_ n19_; clear hb ho146; obtain ⟨Ao147, co147, eo147⟩ := Kd.R_slice HO234.out; subst eo147) | ((with_reducible refine gate_dst (N := 18) rfl ?_); (try (refine gate_guard (by rfl) ?_; dsimp only)); refine box_event ?hg (N := 18) ?hd (cs := #[.slice none 0 0]) (t := 24) ?hr ?_; (case hd => rfl); (case hg => rfl); (case hr => first | (go_simp; done) | (go_simp; rfl)); intro gb235 hg w148 hbox hb; have n0_ := Aside0.mk (Kd.S_below (Kd.S_elderB (s_ HO_2) gb235 (Nat.le_of_eq hg.symm)) hb); have n1_ := Aside0.mk (Kd.R_below (r_ HO_10) hb); have n2_ := Aside0.mk (Kd.R_below (r_ HO_183000) hb); have n3_ := Aside0.mk (Kd.S_below (s_ HO_183001) hb); have n4_ := Aside0.mk (Kd.S_below (s_ HO_183002) hb); have n5_ := Aside0.mk (Kd.R_below (r_ HO_183003) hb); have n6_ := Aside0.mk (Kd.S_below (s_ HO_183004) hb); have n7_ := Aside0.mk (Kd.R_below (r_ HO_202000) hb); have n8_ := Aside0.mk (Kd.R_below (r_ HO_214000) hb); have n9_ := Aside0.mk (Kd.R_below (r_ HO_227000) hb); have n10_ := Aside0.mk (Kd.R_below (r_ HO234) hb); have n11_ := Aside0.mk (blk_below (k_ BK182) hb); have n12_ := Aside0.mk (blk_below (k_ BK201) hb); have n13_ := Aside0.mk (blk_below (k_ BK213) hb); have n14_ := Aside0.mk (blk_below (k_ BK226) hb); have n15_ := Aside0.mk (Kd.C_below (by repeat (first | (with_reducible exact HR202_0.out) | (with_reducible refine Kd.C_alloc ?_ _) | (with_reducible refine Kd.C_drewN ?_ _) | (with_reducible refine Kd.C_drew ?_) | exact HR202_0.out)) hb); have n16_ := Aside0.mk (Kd.C_below (by repeat (first | (with_reducible exact HR203_0.out) | (with_reducible refine Kd.C_alloc ?_ _) | (with_reducible refine Kd.C_drewN ?_ _) | (with_reducible refine Kd.C_drew ?_) | exact HR203_0.out)) hb); have n17_ := Aside0.mk (Kd.C_below (by repeat (first | (with_reducible exact HR208_0.out) | (with_reducible refine Kd.C_alloc ?_ _) | (with_reducible refine Kd.C_drewN ?_ _) | (with_reducible refine Kd.C_drew ?_) | exact HR208_0.out)) hb); have n18_ := Aside0.mk (Kd.C_below (by repeat (first | (with_reducible exact HR217_0.out) | (with_reducible refine Kd.C_alloc ?_ _) | (with_reducible refine Kd.C_drewN ?_ _) | (with_reducible refine Kd.C_drew ?_) | exact HR217_0.out)) hb); have n19_ := Aside0.mk (below_step (b_ HB) hb); have n20_ := Aside0.mk (hbox); have n21_ := Aside0.mk ((by rw [hg]; exact (below_size (b_ HB)) : w.heap.size ≤ gb235)); have n22_ := n21_; have n23_ := Aside0.mk ((by rw [hg]; exact Nat.ne_of_lt (blk_lt (k_ BK182)) : gb182 ≠ gb235)); have n24_ := Aside0.mk ((by rw [hg]; exact Nat.ne_of_gt (blk_lt (k_ BK182)) : gb235 ≠ gb182)); have n25_ := Aside0.mk ((by rw [hg]; exact Nat.ne_of_lt (blk_lt (k_ BK201)) : gb201 ≠ gb235)); have n26_ := Aside0.mk ((by rw [hg]; exact Nat.ne_of_gt (blk_lt (k_ BK201)) : gb235 ≠ gb201)); have n27_ := Aside0.mk ((by rw [hg]; exact Nat.ne_of_lt (blk_lt (k_ BK213)) : gb213 ≠ gb235)); have n28_ := Aside0.mk ((by rw [hg]; exact Nat.ne_of_gt (blk_lt (k_ BK213)) : gb235 ≠ gb213)); have n29_ := Aside0.mk ((by rw [hg]; exact Nat.ne_of_lt (blk_lt (k_ BK226)) : gb226 ≠ gb235)); have n30_ := Aside0.mk ((by rw [hg]; exact Nat.ne_of_gt (blk_lt (k_ BK226)) : gb235 ≠ gb226)); clear HO_2; clear HO_10; clear HO_183000; clear HO_183001; clear HO_183002; clear HO_183003; clear HO_183004; clear HO_202000; clear HO_214000; clear HO_227000; clear HO234; clear BK182; clear BK201; clear BK213; clear BK226; clear HR202_0; clear HR203_0; clear HR208_0; clear HR217_0; clear HB; have HO_2 := n0_; have HO_10 := n1_; have HO_183000 := n2_; have HO_183001 := n3_; have HO_183002 := n4_; have HO_183003 := n5_; have HO_183004 := n6_; have HO_202000 := n7_; have HO_214000 := n8_; have HO_227000 := n9_; have HO234 := n10_; have BK182 := n11_; have BK201 := n12_; have BK213 := n13_; have BK226 := n14_; have HR202_0 := n15_; have HR203_0 := n16_; have HR208_0 := n17_; have HR217_0 := n18_; have HB := n19_; have BK235 := n20_; have GW235 := n21_; have GE235 := n22_; have NB182_235 := n23_; have NB235_182 := n24_; have NB201_235 := n25_; have NB235_201 := n26_; have NB213_235 := n27_; have NB235_213 := n28_; have NB226_235 := n29_; have NB235_226 := n30_; clear n0_ n1_ n2_ n3_ n4_ n5_ n6_ n7_ n8_ n9_ n10_ n11_ n12_ n13_ n14_ n15_ n16_ n17_ n18_ n19_ n20_ n21_ n22_ n23_ n24_ n25_ n26_ n27_ n28_ n29_ n30_; clear hb hbox hg; have hnb149 := NB235_182.out; have hnc149 := NB182_235.out; have hnb150 := NB235_201.out; have hnc150 := NB201_235.out; have hnb151 := NB235_213.out; have hnc151 := NB213_235.out; have hnb152 := NB235_226.out; have hnc152 := NB226_235.out; have hcz153_0 : w148.cell? ⟨gb235, 0, none⟩ = some (.slice none 0 0) := (blk_cell BK235.out 0).trans rfl; have hfz153_0 := blk_frozen BK235.out 0))
          have n0_ : Aside0 (Kd.S k24 24 (w148.setCell ⟨gb235, 0, none⟩ (.slice Ao147 y232.length co147)) w.heap.size (fun k_ => some k_ ≠ (.slice Ao43 t197.length co43 : Value).ownBlock ∧ some k_ ≠ (.slice Ao52 t209.length co52 : Value).ownBlock ∧ some k_ ≠ (.slice Ao63 t221.length co63 : Value).ownBlock ∧ some k_ ≠ (.slice Ao147 y232.length co147 : Value).ownBlock ∧ k_ ≠ gb201 ∧ k_ ≠ gb213 ∧ k_ ≠ gb226 ∧ k_ ≠ gb235) (.slice (some ad192) t183.length co37) t183) := ⟨by (with_reducible repeat (first | apply Kd.S_alloc | apply Kd.S_drewN | apply Kd.S_drew)); exact Kd.S_mono (Kd.S_far (p := ⟨gb235, 0, none⟩) (Kd.S_mono HO_2.out (fun k_ hk => (⟨hk, hk.2⟩ : _ ∧ k_ ≠ gb235))) (fun _ hk => hk.2) (.slice Ao147 y232.length co147)) (fun _ hk => ⟨hk.1.1.1.1, ⟨hk.1.1.1.2.1, ⟨hk.1.1.1.2.2.1, ⟨hk.1.1.2, ⟨hk.1.1.1.2.2.2.1, ⟨hk.1.1.1.2.2.2.2.1, ⟨hk.1.1.1.2.2.2.2.2, hk.1.2⟩⟩⟩⟩⟩⟩⟩)⟩
          have n1_ : Aside0 (Kd.R k57 57 (w148.setCell ⟨gb235, 0, none⟩ (.slice Ao147 y232.length co147)) w.heap.size (fun _ => True) (.slice Ao49 t204.length co49) t204) := ⟨by (with_reducible repeat (first | apply Kd.R_alloc | apply Kd.R_drewN | apply Kd.R_drew)); exact Kd.R_mono (Kd.R_far (p := ⟨gb235, 0, none⟩) (Kd.R_types HO_10.out BK235.out (by decide)) (fun _ hk => hk.2) (.slice Ao147 y232.length co147)) (fun _ hk => trivial)⟩
          have n2_ : Aside0 (Kd.R k87 87 (w148.setCell ⟨gb235, 0, none⟩ (.slice Ao147 y232.length co147)) w.heap.size (fun _ => True) (.slice Ao7 t167.length co7) t167) := ⟨by (with_reducible repeat (first | apply Kd.R_alloc | apply Kd.R_drewN | apply Kd.R_drew)); exact Kd.R_mono (Kd.R_far (p := ⟨gb235, 0, none⟩) (Kd.R_types HO_183000.out BK235.out (by decide)) (fun _ hk => hk.2) (.slice Ao147 y232.length co147)) (fun _ hk => trivial)⟩
          have n3_ : Aside0 (Kd.S k91 91 (w148.setCell ⟨gb235, 0, none⟩ (.slice Ao147 y232.length co147)) w.heap.size (fun _ => True) (.slice Ao9 t170.length co9) t170) := ⟨by (with_reducible repeat (first | apply Kd.S_alloc | apply Kd.S_drewN | apply Kd.S_drew)); exact Kd.S_mono (Kd.S_far (p := ⟨gb235, 0, none⟩) (Kd.S_types HO_183001.out BK235.out (by decide)) (fun _ hk => hk.2) (.slice Ao147 y232.length co147)) (fun _ hk => trivial)⟩
          have n4_ : Aside0 (Kd.S k95 95 (w148.setCell ⟨gb235, 0, none⟩ (.slice Ao147 y232.length co147)) w.heap.size (fun _ => True) (.slice Ao10 t173.length co10) t173) := ⟨by (with_reducible repeat (first | apply Kd.S_alloc | apply Kd.S_drewN | apply Kd.S_drew)); exact Kd.S_mono (Kd.S_far (p := ⟨gb235, 0, none⟩) (Kd.S_types HO_183002.out BK235.out (by decide)) (fun _ hk => hk.2) (.slice Ao147 y232.length co147)) (fun _ hk => trivial)⟩
          have n5_ : Aside0 (Kd.R k98 98 (w148.setCell ⟨gb235, 0, none⟩ (.slice Ao147 y232.length co147)) w.heap.size (fun _ => True) (.slice Ao11 t176.length co11) t176) := ⟨by (with_reducible repeat (first | apply Kd.R_alloc | apply Kd.R_drewN | apply Kd.R_drew)); exact Kd.R_mono (Kd.R_far (p := ⟨gb235, 0, none⟩) (Kd.R_types HO_183003.out BK235.out (by decide)) (fun _ hk => hk.2) (.slice Ao147 y232.length co147)) (fun _ hk => trivial)⟩
          have n6_ : Aside0 (Kd.S k101 101 (w148.setCell ⟨gb235, 0, none⟩ (.slice Ao147 y232.length co147)) w.heap.size (fun _ => True) (.slice Ao12 t179.length co12) t179) := ⟨by (with_reducible repeat (first | apply Kd.S_alloc | apply Kd.S_drewN | apply Kd.S_drew)); exact Kd.S_mono (Kd.S_far (p := ⟨gb235, 0, none⟩) (Kd.S_types HO_183004.out BK235.out (by decide)) (fun _ hk => hk.2) (.slice Ao147 y232.length co147)) (fun _ hk => trivial)⟩
          have n7_ : Aside0 (Kd.R k55 55 (w148.setCell ⟨gb235, 0, none⟩ (.slice Ao147 y232.length co147)) w.heap.size (fun k_ => some k_ ≠ (.slice Ao52 t209.length co52 : Value).ownBlock ∧ some k_ ≠ (.slice Ao63 t221.length co63 : Value).ownBlock ∧ some k_ ≠ (.slice Ao147 y232.length co147 : Value).ownBlock) (.slice Ao43 t197.length co43) t197) := ⟨by (with_reducible repeat (first | apply Kd.R_alloc | apply Kd.R_drewN | apply Kd.R_drew)); exact Kd.R_mono (Kd.R_far (p := ⟨gb235, 0, none⟩) (Kd.R_types HO_202000.out BK235.out (by decide)) (fun _ hk => hk.2) (.slice Ao147 y232.length co147)) (fun _ hk => ⟨hk.1.1.1, ⟨hk.1.1.2, hk.1.2⟩⟩)⟩
          have n8_ : Aside0 (Kd.R k55 55 (w148.setCell ⟨gb235, 0, none⟩ (.slice Ao147 y232.length co147)) w.heap.size (fun k_ => some k_ ≠ (.slice Ao43 t197.length co43 : Value).ownBlock ∧ some k_ ≠ (.slice Ao63 t221.length co63 : Value).ownBlock ∧ some k_ ≠ (.slice Ao147 y232.length co147 : Value).ownBlock) (.slice Ao52 t209.length co52) t209) := ⟨by (with_reducible repeat (first | apply Kd.R_alloc | apply Kd.R_drewN | apply Kd.R_drew)); exact Kd.R_mono (Kd.R_far (p := ⟨gb235, 0, none⟩) (Kd.R_types HO_214000.out BK235.out (by decide)) (fun _ hk => hk.2) (.slice Ao147 y232.length co147)) (fun _ hk => ⟨hk.1.1.1, ⟨hk.1.1.2, hk.1.2⟩⟩)⟩
          have n9_ : Aside0 (Kd.R k55 55 (w148.setCell ⟨gb235, 0, none⟩ (.slice Ao147 y232.length co147)) w.heap.size (fun k_ => some k_ ≠ (.slice Ao43 t197.length co43 : Value).ownBlock ∧ some k_ ≠ (.slice Ao52 t209.length co52 : Value).ownBlock ∧ some k_ ≠ (.slice Ao147 y232.length co147 : Value).ownBlock) (.slice Ao63 t221.length co63) t221) := ⟨by (with_reducible repeat (first | apply Kd.R_alloc | apply Kd.R_drewN | apply Kd.R_drew)); exact Kd.R_mono (Kd.R_far (p := ⟨gb235, 0, none⟩) (Kd.R_types HO_227000.out BK235.out (by decide)) (fun _ hk => hk.2) (.slice Ao147 y232.length co147)) (fun _ hk => ⟨hk.1.1.1, ⟨hk.1.1.2, hk.1.2⟩⟩)⟩
          have n10_ : Aside0 (Kd.R k55 55 (w148.setCell ⟨gb235, 0, none⟩ (.slice Ao147 y232.length co147)) w.heap.size (fun k_ => some k_ ≠ (.slice Ao43 t197.length co43 : Value).ownBlock ∧ some k_ ≠ (.slice Ao52 t209.length co52 : Value).ownBlock ∧ some k_ ≠ (.slice Ao63 t221.length co63 : Value).ownBlock) (.slice Ao147 y232.length co147) y232) := ⟨by (with_reducible repeat (first | apply Kd.R_alloc | apply Kd.R_drewN | apply Kd.R_drew)); exact Kd.R_mono (Kd.R_far (p := ⟨gb235, 0, none⟩) (Kd.R_types HO234.out BK235.out (by decide)) (fun _ hk => hk.2) (.slice Ao147 y232.length co147)) (fun _ hk => ⟨hk.1.1.1.2, ⟨hk.1.1.2, hk.1.2⟩⟩)⟩
          have n11_ : Aside0 ((w148.setCell ⟨gb235, 0, none⟩ (.slice Ao147 y232.length co147)).heap[gb182]? = some (.cells #[.slice Ao7 t167.length co7, .slice Ao9 t170.length co9, .slice Ao10 t173.length co10, .slice Ao11 t176.length co11, .slice Ao12 t179.length co12] 45 (0, 0))) := ⟨by (with_reducible repeat (first | refine blk_drewN ?_ _ | refine blk_drew ?_ | refine blk_alloc ?_ _)); refine blk_far ?_ NB182_235.out _; (with_reducible repeat (first | refine blk_drewN ?_ _ | refine blk_drew ?_ | refine blk_alloc ?_ _)); exact BK182.out⟩
          have n12_ : Aside0 ((w148.setCell ⟨gb235, 0, none⟩ (.slice Ao147 y232.length co147)).heap[gb201]? = some (.cells #[.slice Ao43 t197.length co43] 24 (0, 0))) := ⟨by (with_reducible repeat (first | refine blk_drewN ?_ _ | refine blk_drew ?_ | refine blk_alloc ?_ _)); refine blk_far ?_ NB201_235.out _; (with_reducible repeat (first | refine blk_drewN ?_ _ | refine blk_drew ?_ | refine blk_alloc ?_ _)); exact BK201.out⟩
          have n13_ : Aside0 ((w148.setCell ⟨gb235, 0, none⟩ (.slice Ao147 y232.length co147)).heap[gb213]? = some (.cells #[.slice Ao52 t209.length co52] 24 (0, 0))) := ⟨by (with_reducible repeat (first | refine blk_drewN ?_ _ | refine blk_drew ?_ | refine blk_alloc ?_ _)); refine blk_far ?_ NB213_235.out _; (with_reducible repeat (first | refine blk_drewN ?_ _ | refine blk_drew ?_ | refine blk_alloc ?_ _)); exact BK213.out⟩
          have n14_ : Aside0 ((w148.setCell ⟨gb235, 0, none⟩ (.slice Ao147 y232.length co147)).heap[gb226]? = some (.cells #[.slice Ao63 t221.length co63] 24 (0, 0))) := ⟨by (with_reducible repeat (first | refine blk_drewN ?_ _ | refine blk_drew ?_ | refine blk_alloc ?_ _)); refine blk_far ?_ NB226_235.out _; (with_reducible repeat (first | refine blk_drewN ?_ _ | refine blk_drew ?_ | refine blk_alloc ?_ _)); exact BK226.out⟩
          have n15_ : Aside0 ((w148.setCell ⟨gb235, 0, none⟩ (.slice Ao147 y232.length co147)).heap[gb235]? = some (.cells #[.slice Ao147 y232.length co147] 24 (0, 0))) := ⟨by (with_reducible repeat (first | refine blk_drewN ?_ _ | refine blk_drew ?_ | refine blk_alloc ?_ _)); refine blk_put (cs := #[.slice none 0 0]) ?_ 0 _ rfl; (with_reducible repeat (first | refine blk_drewN ?_ _ | refine blk_drew ?_ | refine blk_alloc ?_ _)); exact BK235.out⟩
          have n16_ : Aside0 (Below w.heap.size w (w148.setCell ⟨gb235, 0, none⟩ (.slice Ao147 y232.length co147))) := ⟨b_ HB⟩
          (try clear HO_2); (try clear HO_10); (try clear HO_183000); (try clear HO_183001); (try clear HO_183002); (try clear HO_183003); (try clear HO_183004); (try clear HO_202000); (try clear HO_214000); (try clear HO_227000); (try clear HO234); (try clear BK182); (try clear BK201); (try clear BK213); (try clear BK226); (try clear BK235); (try clear HB)
          generalize (w148.setCell ⟨gb235, 0, none⟩ (.slice Ao147 y232.length co147)) = w154 at n0_ n1_ n2_ n3_ n4_ n5_ n6_ n7_ n8_ n9_ n10_ n11_ n12_ n13_ n14_ n15_ n16_ ⊢
          have HO_2 := n0_; have HO_10 := n1_; have HO_183000 := n2_; have HO_183001 := n3_; have HO_183002 := n4_; have HO_183003 := n5_; have HO_183004 := n6_; have HO_202000 := n7_; have HO_214000 := n8_; have HO_227000 := n9_; have HO234 := n10_; have BK182 := n11_; have BK201 := n12_; have BK213 := n13_; have BK226 := n14_; have BK235 := n15_; have HB := n16_
          clear n0_ n1_ n2_ n3_ n4_ n5_ n6_ n7_ n8_ n9_ n10_ n11_ n12_ n13_ n14_ n15_ n16_
          have n0_ := Aside0.mk (Kd.S_drew HO_2.out)
          have n1_ := Aside0.mk (Kd.R_drew HO_10.out)
          have n2_ := Aside0.mk (Kd.R_drew HO_183000.out)
          have n3_ := Aside0.mk (Kd.S_drew HO_183001.out)
          have n4_ := Aside0.mk (Kd.S_drew HO_183002.out)
          have n5_ := Aside0.mk (Kd.R_drew HO_183003.out)
          have n6_ := Aside0.mk (Kd.S_drew HO_183004.out)
          have n7_ := Aside0.mk (Kd.R_drew HO_202000.out)
          have n8_ := Aside0.mk (Kd.R_drew HO_214000.out)
          have n9_ := Aside0.mk (Kd.R_drew HO_227000.out)
          have n10_ := Aside0.mk (Kd.R_drew HO234.out)
          have n11_ := Aside0.mk (blk_drew BK182.out)
          have n12_ := Aside0.mk (blk_drew BK201.out)
          have n13_ := Aside0.mk (blk_drew BK213.out)
          have n14_ := Aside0.mk (blk_drew BK226.out)
          have n15_ := Aside0.mk (blk_drew BK235.out)
          have n16_ := Aside0.mk (below_drew1 HB.out)
          clear HO_2 HO_10 HO_183000 HO_183001 HO_183002 HO_183003 HO_183004 HO_202000 HO_214000 HO_227000 HO234 BK182 BK201 BK213 BK226 BK235 HB
          have HO_2 := n0_; have HO_10 := n1_; have HO_183000 := n2_; have HO_183001 := n3_; have HO_183002 := n4_; have HO_183003 := n5_; have HO_183004 := n6_; have HO_202000 := n7_; have HO_214000 := n8_; have HO_227000 := n9_; have HO234 := n10_; have BK182 := n11_; have BK201 := n12_; have BK213 := n13_; have BK226 := n14_; have BK235 := n15_; have HB := n16_
          clear n0_ n1_ n2_ n3_ n4_ n5_ n6_ n7_ n8_ n9_ n10_ n11_ n12_ n13_ n14_ n15_ n16_
          have p236 : 0 ≤ (1 : Int) := (by omega)
          have q236 : 1 < (t183.length : Int) := of_decide_eq_true (by first | (with_reducible assumption) | assumption)
          obtain ⟨ad236, A236_0, c236_0, e236, hx236_0, hl236_0, hi236_0⟩ := at_T24 (Kd.S_reads' HO_2.out).2.2 1 p236 q236
          obtain rfl : ad192 = ad236 := (by injection e236)
          obtain ⟨ce236, hce236, hMe236, hcc236⟩ := Kd.S_get HO_2.out z24 1 p236 (by first | exact q236 | exact of_decide_eq_true (by first | (with_reducible assumption) | assumption) | (have e_ := (Kd.S_reads' HO_2.out).1; omega))
          obtain ⟨ve236_0, rfl, ge236_0⟩ := k24_openM hMe236
          have hv236_0 := hcc236 0 _ rfl
          rw [Nat.add_zero, show (k24).sz = 1 from rfl, Nat.mul_one] at hv236_0
          replace hv236_0 := Option.some.inj (hv236_0.symm.trans hx236_0)
          rw [hv236_0] at ge236_0
          have HL236_0 := Aside0.mk (show Kd.R k55 55 _ _ _ _ ((rd_T24 t183 1).f0) from ge236_0)
          clear hv236_0 ge236_0 hcc236 hce236
          (try simp only [show (1 : Int).toNat = 1 from rfl, Nat.reduceMul, Nat.reduceEqDiff, Go.Addr.add, ↓reduceIte] at hx236_0)
          have qi236 : (1 < t183.length) = True := eq_true (by omega)
          (try rw [show ((1 : Int)).toNat = 1 from rfl] at hx236_0)
          have HR236_0 := Aside0.mk hi236_0
          have HC236_0 := Aside0.mk hl236_0
          clear hi236_0 hl236_0
          replace p236 := eq_true p236
          replace q236 := eq_true q236
          refine start_ (n := 21) (S := fun w' => w'.cell? ⟨gb235, 0, none⟩ = some (.slice Ao147 y232.length co147) ∧ w'.cell? ⟨gb201, 0, none⟩ = some (.slice Ao43 t197.length co43) ∧ w'.cell? ⟨gb213, 0, none⟩ = some (.slice Ao52 t209.length co52) ∧ w'.cell? ⟨gb226, 0, none⟩ = some (.slice Ao63 t221.length co63) ∧ w'.cell? ⟨ad192.block, ad192.off + 1, none⟩ = some (.slice A236_0 ((rd_T24 t183 1).f0).length c236_0)) (ds := []) #[false, false, false, false, false, false, false, false, false, false, false, false, false, false, false, false, false, false, false, false, false] (by kernel_rfl) rfl rfl ⟨(blk_cell BK235.out 0).trans rfl, (blk_cell BK201.out 0).trans rfl, (blk_cell BK213.out 0).trans rfl, (blk_cell BK226.out 0).trans rfl, hx236_0⟩ (fun hHeld => ?_); refine with_tabW live04.tab13 live04.bits13 (fun HT_ HW_ => ?_)
          generalize w154.drew = w155 at HO_2 HO_10 HO_183000 HO_183001 HO_183002 HO_183003 HO_183004 HO_202000 HO_214000 HO_227000 HO234 BK182 BK201 BK213 BK226 BK235 HB HL236_0 HR236_0 hx236_0 hHeld ⊢
          refine pure_ (i := 0) (N := some 112) (v := ?_) (a' := ?_) #[true, false, false, false, false, false, false, false, false, false, false, false, false, false, false, false, false, false, false, false, false] rfl rfl (any_of HT_.out (by kernel_rfl)) (fun _ _ _ h => h) (Or.inl ⟨by rfl, ?_⟩) ?_ ?_
          rotate_left
          · intro w'
            go_simp
            with_reducible rfl
          rotate_left
          · simp only [Act.put, List.setIfInBounds_toArray, List.set_cons_zero, List.set_cons_succ, i64_w, i32_w]
            rfl
          refine pure_ (i := 1) (N := some 113) (v := ?_) (a' := ?_) #[true, true, false, false, false, false, false, false, false, false, false, false, false, false, false, false, false, false, false, false, false] rfl rfl (any_of HT_.out (by kernel_rfl)) (fun _ _ _ h => h) (Or.inl ⟨by rfl, ?_⟩) ?_ ?_
          rotate_left
          · intro w'
            go_simp
            with_reducible rfl
          rotate_left
          · simp only [Act.put, List.setIfInBounds_toArray, List.set_cons_zero, List.set_cons_succ, i64_w, i32_w]
            rfl
          refine take_ (i := 2) (N := some 114) (v := ?_) (a' := ?_) #[true, true, true, false, false, false, false, false, false, false, false, false, false, false, false, false, false, false, false, false, false] rfl rfl (take_ofW HT_.out HW_.out (by kernel_rfl)) (fun _ _ _ h => h) (Or.inl ⟨by rfl, ?_⟩) hHeld ?_ ?_
          rotate_left
          · rintro w' ⟨s0, s1, s2, s3, s4⟩
            go_simp
            with_reducible rfl
          rotate_left
          · simp only [Act.put, List.setIfInBounds_toArray, List.set_cons_zero, List.set_cons_succ, i64_w, i32_w]
            rfl
          refine take_ (i := 3) (N := some 115) (v := ?_) (a' := ?_) #[true, true, true, true, false, false, false, false, false, false, false, false, false, false, false, false, false, false, false, false, false] rfl rfl (take_ofW HT_.out HW_.out (by kernel_rfl)) (fun _ _ _ h => h) (Or.inl ⟨by rfl, ?_⟩) hHeld ?_ ?_
          rotate_left
          · rintro w' ⟨s0, s1, s2, s3, s4⟩
            go_simp
            with_reducible rfl
          rotate_left
          · simp only [Act.put, List.setIfInBounds_toArray, List.set_cons_zero, List.set_cons_succ, i64_w, i32_w]
            rfl
          refine one_ (i := 4) (N := some 116) #[true, true, true, true, true, false, false, false, false, false, false, false, false, false, false, false, false, false, false, false, false] rfl rfl (one_of HT_.out (by kernel_rfl)) (by decide) (fun K hK => ?_)
          refine goes_ Tryd.func17 (by kernel_rfl) rfl #[.agg #[.slice A236_0 ((rd_T24 t183 1).f0).length c236_0], .agg #[.slice Ao147 y232.length co147]] (by rfl) rfl rfl (by (try simp only [List.map_toArray, List.map_cons, List.map_nil]); first | done | rfl | (simp only [List.length_drop, List.length_take]; rfl)) ?_
          with_reducible refine (chalklineref04_Same.calls kj34 _ _ ((rd_T24 t183 1).f0) _ _ y232 true _ ?side1 ?side2 ?side3 ?side4 A123.out).mono ?_
          (case side1 => repeat (first | exact (by repeat (first | (with_reducible exact HR236_0.out) | (with_reducible refine Kd.C_alloc ?_ _) | (with_reducible refine Kd.C_drewN ?_ _) | (with_reducible refine Kd.C_drew ?_) | exact HR236_0.out)) | (with_reducible refine Kd.C_alloc ?_ _) | (with_reducible refine Kd.C_drewN ?_ _) | (with_reducible refine Kd.C_drew ?_)))
          (case side2 => exact HC236_0.out)
          (case side3 => repeat (first | exact (Kd.R_reads' HO234.out).2.2 | (with_reducible refine Kd.C_alloc ?_ _) | (with_reducible refine Kd.C_drewN ?_ _) | (with_reducible refine Kd.C_drew ?_)))
          (case side4 => exact (Kd.R_reads' HO234.out).2.1)
          rintro e w156 ⟨rfl, hb⟩
          have HS4_ := (hb.cell (World.block_lt_of_cell? _ _ (hHeld.2.2.2.2))).trans (hHeld.2.2.2.2)
          refine ⟨_, rfl, ?_⟩
          have n0_ := Aside0.mk (Kd.S_below (s_ HO_2) hb)
          have n1_ := Aside0.mk (Kd.R_below (r_ HO_10) hb)
          have n2_ := Aside0.mk (Kd.R_below (r_ HO_183000) hb)
          have n3_ := Aside0.mk (Kd.S_below (s_ HO_183001) hb)
          have n4_ := Aside0.mk (Kd.S_below (s_ HO_183002) hb)
          have n5_ := Aside0.mk (Kd.R_below (r_ HO_183003) hb)
          have n6_ := Aside0.mk (Kd.S_below (s_ HO_183004) hb)
          have n7_ := Aside0.mk (Kd.R_below (r_ HO_202000) hb)
          have n8_ := Aside0.mk (Kd.R_below (r_ HO_214000) hb)
          have n9_ := Aside0.mk (Kd.R_below (r_ HO_227000) hb)
          have n10_ := Aside0.mk (Kd.R_below (r_ HO234) hb)
          have n11_ := Aside0.mk (Kd.R_below (r_ HL236_0) hb)
          have n12_ := Aside0.mk (blk_below (k_ BK182) hb)
          have n13_ := Aside0.mk (blk_below (k_ BK201) hb)
          have n14_ := Aside0.mk (blk_below (k_ BK213) hb)
          have n15_ := Aside0.mk (blk_below (k_ BK226) hb)
          have n16_ := Aside0.mk (blk_below (k_ BK235) hb)
          have n17_ := Aside0.mk (Kd.C_below (by repeat (first | (with_reducible exact HR236_0.out) | (with_reducible refine Kd.C_alloc ?_ _) | (with_reducible refine Kd.C_drewN ?_ _) | (with_reducible refine Kd.C_drew ?_) | exact HR236_0.out)) hb)
          have n18_ := Aside0.mk (below_step (b_ HB) hb)
          clear HO_2 HO_10 HO_183000 HO_183001 HO_183002 HO_183003 HO_183004 HO_202000 HO_214000 HO_227000 HO234 HL236_0 BK182 BK201 BK213 BK226 BK235 HR236_0 HB
          have HO_2 := n0_; have HO_10 := n1_; have HO_183000 := n2_; have HO_183001 := n3_; have HO_183002 := n4_; have HO_183003 := n5_; have HO_183004 := n6_; have HO_202000 := n7_; have HO_214000 := n8_; have HO_227000 := n9_; have HO234 := n10_; have HL236_0 := n11_; have BK182 := n12_; have BK201 := n13_; have BK213 := n14_; have BK226 := n15_; have BK235 := n16_; have HR236_0 := n17_; have HB := n18_
          clear n0_ n1_ n2_ n3_ n4_ n5_ n6_ n7_ n8_ n9_ n10_ n11_ n12_ n13_ n14_ n15_ n16_ n17_ n18_
          (try clear hb); (try clear hb2); (try clear hk); (try clear hi)
          refine hK.out _ _ ⟨(blk_cell BK235.out 0).trans rfl, (blk_cell BK201.out 0).trans rfl, (blk_cell BK213.out 0).trans rfl, (blk_cell BK226.out 0).trans rfl, HS4_⟩ (fun hHeld => ?_)
          clear hK K
          refine norm_ (a' := ?_) ?_ ?_
          rotate_left
          · show Act.put _ (some 116) _ = _
            simp only [Act.put, List.setIfInBounds_toArray, List.set_cons_zero, List.set_cons_succ, i64_w, i32_w]
            rfl
          refine pure_ (i := 5) (N := some 117) (v := ?_) (a' := ?_) #[true, true, true, true, true, true, false, false, false, false, false, false, false, false, false, false, false, false, false, false, false] rfl rfl (any_of HT_.out (by kernel_rfl)) (fun _ _ _ h => h) (Or.inl ⟨by rfl, ?_⟩) ?_ ?_
          rotate_left
          · intro w'
            go_simp
            with_reducible rfl
          rotate_left
          · simp only [Act.put, List.setIfInBounds_toArray, List.set_cons_zero, List.set_cons_succ, i64_w, i32_w]
            rfl
          refine take_ (i := 6) (N := some 118) (v := ?_) (a' := ?_) #[true, true, true, true, true, true, true, false, false, false, false, false, false, false, false, false, false, false, false, false, false] rfl rfl (take_ofW HT_.out HW_.out (by kernel_rfl)) (fun _ _ _ h => h) (Or.inl ⟨by rfl, ?_⟩) hHeld ?_ ?_
          rotate_left
          · rintro w' ⟨s0, s1, s2, s3, s4⟩
            go_simp
            with_reducible rfl
          rotate_left
          · simp only [Act.put, List.setIfInBounds_toArray, List.set_cons_zero, List.set_cons_succ, i64_w, i32_w]
            rfl
          refine take_ (i := 7) (N := some 119) (v := ?_) (a' := ?_) #[true, true, true, true, true, true, true, true, false, false, false, false, false, false, false, false, false, false, false, false, false] rfl rfl (take_ofW HT_.out HW_.out (by kernel_rfl)) (fun _ _ _ h => h) (Or.inl ⟨by rfl, ?_⟩) hHeld ?_ ?_
          rotate_left
          · rintro w' ⟨s0, s1, s2, s3, s4⟩
            go_simp
            with_reducible rfl
          rotate_left
          · simp only [Act.put, List.setIfInBounds_toArray, List.set_cons_zero, List.set_cons_succ, i64_w, i32_w]
            rfl
          refine one_ (i := 8) (N := some 120) #[true, true, true, true, true, true, true, true, true, false, false, false, false, false, false, false, false, false, false, false, false] rfl rfl (one_of HT_.out (by kernel_rfl)) (by decide) (fun K hK => ?_)
          refine goes_ Tryd.func17 (by kernel_rfl) rfl #[.agg #[.slice Ao43 t197.length co43], .agg #[.slice Ao147 y232.length co147]] (by rfl) rfl rfl (by (try simp only [List.map_toArray, List.map_cons, List.map_nil]); first | done | rfl | (simp only [List.length_drop, List.length_take]; rfl)) ?_
          with_reducible refine (chalklineref04_Same.calls kj34 _ _ t197 _ _ y232 true _ ?side1 ?side2 ?side3 ?side4 A125.out).mono ?_
          (case side1 => repeat (first | exact (Kd.R_reads' HO_202000.out).2.2 | (with_reducible refine Kd.C_alloc ?_ _) | (with_reducible refine Kd.C_drewN ?_ _) | (with_reducible refine Kd.C_drew ?_)))
          (case side2 => exact (Kd.R_reads' HO_202000.out).2.1)
          (case side3 => repeat (first | exact (Kd.R_reads' HO234.out).2.2 | (with_reducible refine Kd.C_alloc ?_ _) | (with_reducible refine Kd.C_drewN ?_ _) | (with_reducible refine Kd.C_drew ?_)))
          (case side4 => exact (Kd.R_reads' HO234.out).2.1)
          rintro e w157 ⟨rfl, hb⟩
          have HS4_ := (hb.cell (World.block_lt_of_cell? _ _ (hHeld.2.2.2.2))).trans (hHeld.2.2.2.2)
          refine ⟨_, rfl, ?_⟩
          have n0_ := Aside0.mk (Kd.S_below (s_ HO_2) hb)
          have n1_ := Aside0.mk (Kd.R_below (r_ HO_10) hb)
          have n2_ := Aside0.mk (Kd.R_below (r_ HO_183000) hb)
          have n3_ := Aside0.mk (Kd.S_below (s_ HO_183001) hb)
          have n4_ := Aside0.mk (Kd.S_below (s_ HO_183002) hb)
          have n5_ := Aside0.mk (Kd.R_below (r_ HO_183003) hb)
          have n6_ := Aside0.mk (Kd.S_below (s_ HO_183004) hb)
          have n7_ := Aside0.mk (Kd.R_below (r_ HO_202000) hb)
          have n8_ := Aside0.mk (Kd.R_below (r_ HO_214000) hb)
          have n9_ := Aside0.mk (Kd.R_below (r_ HO_227000) hb)
          have n10_ := Aside0.mk (Kd.R_below (r_ HO234) hb)
          have n11_ := Aside0.mk (Kd.R_below (r_ HL236_0) hb)
          have n12_ := Aside0.mk (blk_below (k_ BK182) hb)
          have n13_ := Aside0.mk (blk_below (k_ BK201) hb)
          have n14_ := Aside0.mk (blk_below (k_ BK213) hb)
          have n15_ := Aside0.mk (blk_below (k_ BK226) hb)
          have n16_ := Aside0.mk (blk_below (k_ BK235) hb)
          have n17_ := Aside0.mk (Kd.C_below (by repeat (first | (with_reducible exact HR236_0.out) | (with_reducible refine Kd.C_alloc ?_ _) | (with_reducible refine Kd.C_drewN ?_ _) | (with_reducible refine Kd.C_drew ?_) | exact HR236_0.out)) hb)
          have n18_ := Aside0.mk (below_step (b_ HB) hb)
          clear HO_2 HO_10 HO_183000 HO_183001 HO_183002 HO_183003 HO_183004 HO_202000 HO_214000 HO_227000 HO234 HL236_0 BK182 BK201 BK213 BK226 BK235 HR236_0 HB
          have HO_2 := n0_; have HO_10 := n1_; have HO_183000 := n2_; have HO_183001 := n3_; have HO_183002 := n4_; have HO_183003 := n5_; have HO_183004 := n6_; have HO_202000 := n7_; have HO_214000 := n8_; have HO_227000 := n9_; have HO234 := n10_; have HL236_0 := n11_; have BK182 := n12_; have BK201 := n13_; have BK213 := n14_; have BK226 := n15_; have BK235 := n16_; have HR236_0 := n17_; have HB := n18_
          clear n0_ n1_ n2_ n3_ n4_ n5_ n6_ n7_ n8_ n9_ n10_ n11_ n12_ n13_ n14_ n15_ n16_ n17_ n18_
          (try clear hb); (try clear hb2); (try clear hk); (try clear hi)
          refine hK.out _ _ ⟨(blk_cell BK235.out 0).trans rfl, (blk_cell BK201.out 0).trans rfl, (blk_cell BK213.out 0).trans rfl, (blk_cell BK226.out 0).trans rfl, HS4_⟩ (fun hHeld => ?_)
          clear hK K
          refine norm_ (a' := ?_) ?_ ?_
          rotate_left
          · show Act.put _ (some 120) _ = _
            simp only [Act.put, List.setIfInBounds_toArray, List.set_cons_zero, List.set_cons_succ, i64_w, i32_w]
            rfl
          refine pure_ (i := 9) (N := some 121) (v := ?_) (a' := ?_) #[true, true, true, true, true, true, true, true, true, true, false, false, false, false, false, false, false, false, false, false, false] rfl rfl (any_of HT_.out (by kernel_rfl)) (fun _ _ _ h => h) (Or.inl ⟨by rfl, ?_⟩) ?_ ?_
          rotate_left
          · intro w'
            go_simp
            with_reducible rfl
          rotate_left
          · simp only [Act.put, List.setIfInBounds_toArray, List.set_cons_zero, List.set_cons_succ, i64_w, i32_w]
            rfl
          refine pure_ (i := 10) (N := some 122) (v := ?_) (a' := ?_) #[true, true, true, true, true, true, true, true, true, true, true, false, false, false, false, false, false, false, false, false, false] rfl rfl (any_of HT_.out (by kernel_rfl)) (fun _ _ _ h => h) (Or.inl ⟨by rfl, ?_⟩) ?_ ?_
          rotate_left
          · intro w'
            go_simp
            with_reducible rfl
          rotate_left
          · simp only [Act.put, List.setIfInBounds_toArray, List.set_cons_zero, List.set_cons_succ, i64_w, i32_w]
            rfl
          refine take_ (i := 11) (N := some 123) (v := ?_) (a' := ?_) #[true, true, true, true, true, true, true, true, true, true, true, true, false, false, false, false, false, false, false, false, false] rfl rfl (take_ofW HT_.out HW_.out (by kernel_rfl)) (fun _ _ _ h => h) (Or.inl ⟨by rfl, ?_⟩) hHeld ?_ ?_
          rotate_left
          · rintro w' ⟨s0, s1, s2, s3, s4⟩
            go_simp
            with_reducible rfl
          rotate_left
          · simp only [Act.put, List.setIfInBounds_toArray, List.set_cons_zero, List.set_cons_succ, i64_w, i32_w]
            rfl
          refine take_ (i := 12) (N := some 124) (v := ?_) (a' := ?_) #[true, true, true, true, true, true, true, true, true, true, true, true, true, false, false, false, false, false, false, false, false] rfl rfl (take_ofW HT_.out HW_.out (by kernel_rfl)) (fun _ _ _ h => h) (Or.inl ⟨by rfl, ?_⟩) hHeld ?_ ?_
          rotate_left
          · rintro w' ⟨s0, s1, s2, s3, s4⟩
            go_simp
            with_reducible rfl
          rotate_left
          · simp only [Act.put, List.setIfInBounds_toArray, List.set_cons_zero, List.set_cons_succ, i64_w, i32_w]
            rfl
          refine one_ (i := 13) (N := some 125) #[true, true, true, true, true, true, true, true, true, true, true, true, true, true, false, false, false, false, false, false, false] rfl rfl (one_of HT_.out (by kernel_rfl)) (by decide) (fun K hK => ?_)
          refine goes_ Tryd.func17 (by kernel_rfl) rfl #[.agg #[.slice Ao52 t209.length co52], .agg #[.slice Ao147 y232.length co147]] (by rfl) rfl rfl (by (try simp only [List.map_toArray, List.map_cons, List.map_nil]); first | done | rfl | (simp only [List.length_drop, List.length_take]; rfl)) ?_
          with_reducible refine (chalklineref04_Same.calls kj34 _ _ t209 _ _ y232 true _ ?side1 ?side2 ?side3 ?side4 A127.out).mono ?_
          (case side1 => repeat (first | exact (Kd.R_reads' HO_214000.out).2.2 | (with_reducible refine Kd.C_alloc ?_ _) | (with_reducible refine Kd.C_drewN ?_ _) | (with_reducible refine Kd.C_drew ?_)))
          (case side2 => exact (Kd.R_reads' HO_214000.out).2.1)
          (case side3 => repeat (first | exact (Kd.R_reads' HO234.out).2.2 | (with_reducible refine Kd.C_alloc ?_ _) | (with_reducible refine Kd.C_drewN ?_ _) | (with_reducible refine Kd.C_drew ?_)))
          (case side4 => exact (Kd.R_reads' HO234.out).2.1)
          rintro e w158 ⟨rfl, hb⟩
          have HS4_ := (hb.cell (World.block_lt_of_cell? _ _ (hHeld.2.2.2.2))).trans (hHeld.2.2.2.2)
          refine ⟨_, rfl, ?_⟩
          have n0_ := Aside0.mk (Kd.S_below (s_ HO_2) hb)
          have n1_ := Aside0.mk (Kd.R_below (r_ HO_10) hb)
          have n2_ := Aside0.mk (Kd.R_below (r_ HO_183000) hb)
          have n3_ := Aside0.mk (Kd.S_below (s_ HO_183001) hb)
          have n4_ := Aside0.mk (Kd.S_below (s_ HO_183002) hb)
          have n5_ := Aside0.mk (Kd.R_below (r_ HO_183003) hb)
          have n6_ := Aside0.mk (Kd.S_below (s_ HO_183004) hb)
          have n7_ := Aside0.mk (Kd.R_below (r_ HO_202000) hb)
          have n8_ := Aside0.mk (Kd.R_below (r_ HO_214000) hb)
          have n9_ := Aside0.mk (Kd.R_below (r_ HO_227000) hb)
          have n10_ := Aside0.mk (Kd.R_below (r_ HO234) hb)
          have n11_ := Aside0.mk (Kd.R_below (r_ HL236_0) hb)
          have n12_ := Aside0.mk (blk_below (k_ BK182) hb)
          have n13_ := Aside0.mk (blk_below (k_ BK201) hb)
          have n14_ := Aside0.mk (blk_below (k_ BK213) hb)
          have n15_ := Aside0.mk (blk_below (k_ BK226) hb)
          have n16_ := Aside0.mk (blk_below (k_ BK235) hb)
          have n17_ := Aside0.mk (Kd.C_below (by repeat (first | (with_reducible exact HR236_0.out) | (with_reducible refine Kd.C_alloc ?_ _) | (with_reducible refine Kd.C_drewN ?_ _) | (with_reducible refine Kd.C_drew ?_) | exact HR236_0.out)) hb)
          have n18_ := Aside0.mk (below_step (b_ HB) hb)
          clear HO_2 HO_10 HO_183000 HO_183001 HO_183002 HO_183003 HO_183004 HO_202000 HO_214000 HO_227000 HO234 HL236_0 BK182 BK201 BK213 BK226 BK235 HR236_0 HB
          have HO_2 := n0_; have HO_10 := n1_; have HO_183000 := n2_; have HO_183001 := n3_; have HO_183002 := n4_; have HO_183003 := n5_; have HO_183004 := n6_; have HO_202000 := n7_; have HO_214000 := n8_; have HO_227000 := n9_; have HO234 := n10_; have HL236_0 := n11_; have BK182 := n12_; have BK201 := n13_; have BK213 := n14_; have BK226 := n15_; have BK235 := n16_; have HR236_0 := n17_; have HB := n18_
          clear n0_ n1_ n2_ n3_ n4_ n5_ n6_ n7_ n8_ n9_ n10_ n11_ n12_ n13_ n14_ n15_ n16_ n17_ n18_
          (try clear hb); (try clear hb2); (try clear hk); (try clear hi)
          refine hK.out _ _ ⟨(blk_cell BK235.out 0).trans rfl, (blk_cell BK201.out 0).trans rfl, (blk_cell BK213.out 0).trans rfl, (blk_cell BK226.out 0).trans rfl, HS4_⟩ (fun hHeld => ?_)
          clear hK K
          refine norm_ (a' := ?_) ?_ ?_
          rotate_left
          · show Act.put _ (some 125) _ = _
            simp only [Act.put, List.setIfInBounds_toArray, List.set_cons_zero, List.set_cons_succ, i64_w, i32_w]
            rfl
          refine pure_ (i := 14) (N := some 126) (v := ?_) (a' := ?_) #[true, true, true, true, true, true, true, true, true, true, true, true, true, true, true, false, false, false, false, false, false] rfl rfl (any_of HT_.out (by kernel_rfl)) (fun _ _ _ h => h) (Or.inl ⟨by rfl, ?_⟩) ?_ ?_
          rotate_left
          · intro w'
            go_simp
            with_reducible rfl
          rotate_left
          · simp only [Act.put, List.setIfInBounds_toArray, List.set_cons_zero, List.set_cons_succ, i64_w, i32_w]
            rfl
          refine pure_ (i := 15) (N := some 127) (v := ?_) (a' := ?_) #[true, true, true, true, true, true, true, true, true, true, true, true, true, true, true, true, false, false, false, false, false] rfl rfl (any_of HT_.out (by kernel_rfl)) (fun _ _ _ h => h) (Or.inl ⟨by rfl, ?_⟩) ?_ ?_
          rotate_left
          · intro w'
            go_simp
            with_reducible rfl
          rotate_left
          · simp only [Act.put, List.setIfInBounds_toArray, List.set_cons_zero, List.set_cons_succ, i64_w, i32_w]
            rfl
          refine take_ (i := 16) (N := some 128) (v := ?_) (a' := ?_) #[true, true, true, true, true, true, true, true, true, true, true, true, true, true, true, true, true, false, false, false, false] rfl rfl (take_ofW HT_.out HW_.out (by kernel_rfl)) (fun _ _ _ h => h) (Or.inl ⟨by rfl, ?_⟩) hHeld ?_ ?_
          rotate_left
          · rintro w' ⟨s0, s1, s2, s3, s4⟩
            go_simp
            with_reducible rfl
          rotate_left
          · simp only [Act.put, List.setIfInBounds_toArray, List.set_cons_zero, List.set_cons_succ, i64_w, i32_w]
            rfl
          refine take_ (i := 17) (N := some 129) (v := ?_) (a' := ?_) #[true, true, true, true, true, true, true, true, true, true, true, true, true, true, true, true, true, true, false, false, false] rfl rfl (take_ofW HT_.out HW_.out (by kernel_rfl)) (fun _ _ _ h => h) (Or.inl ⟨by rfl, ?_⟩) hHeld ?_ ?_
          rotate_left
          · rintro w' ⟨s0, s1, s2, s3, s4⟩
            go_simp
            with_reducible rfl
          rotate_left
          · simp only [Act.put, List.setIfInBounds_toArray, List.set_cons_zero, List.set_cons_succ, i64_w, i32_w]
            rfl
          refine one_ (i := 18) (N := some 130) #[true, true, true, true, true, true, true, true, true, true, true, true, true, true, true, true, true, true, true, false, false] rfl rfl (one_of HT_.out (by kernel_rfl)) (by decide) (fun K hK => ?_)
          refine goes_ Tryd.func17 (by kernel_rfl) rfl #[.agg #[.slice Ao63 t221.length co63], .agg #[.slice Ao147 y232.length co147]] (by rfl) rfl rfl (by (try simp only [List.map_toArray, List.map_cons, List.map_nil]); first | done | rfl | (simp only [List.length_drop, List.length_take]; rfl)) ?_
          with_reducible refine (chalklineref04_Same.calls kj34 _ _ t221 _ _ y232 true _ ?side1 ?side2 ?side3 ?side4 A129.out).mono ?_
          (case side1 => repeat (first | exact (Kd.R_reads' HO_227000.out).2.2 | (with_reducible refine Kd.C_alloc ?_ _) | (with_reducible refine Kd.C_drewN ?_ _) | (with_reducible refine Kd.C_drew ?_)))
          (case side2 => exact (Kd.R_reads' HO_227000.out).2.1)
          (case side3 => repeat (first | exact (Kd.R_reads' HO234.out).2.2 | (with_reducible refine Kd.C_alloc ?_ _) | (with_reducible refine Kd.C_drewN ?_ _) | (with_reducible refine Kd.C_drew ?_)))
          (case side4 => exact (Kd.R_reads' HO234.out).2.1)
          rintro e w159 ⟨rfl, hb⟩
          have HS4_ := (hb.cell (World.block_lt_of_cell? _ _ (hHeld.2.2.2.2))).trans (hHeld.2.2.2.2)
          refine ⟨_, rfl, ?_⟩
          have n0_ := Aside0.mk (Kd.S_below (s_ HO_2) hb)
          have n1_ := Aside0.mk (Kd.R_below (r_ HO_10) hb)
          have n2_ := Aside0.mk (Kd.R_below (r_ HO_183000) hb)
          have n3_ := Aside0.mk (Kd.S_below (s_ HO_183001) hb)
          have n4_ := Aside0.mk (Kd.S_below (s_ HO_183002) hb)
          have n5_ := Aside0.mk (Kd.R_below (r_ HO_183003) hb)
          have n6_ := Aside0.mk (Kd.S_below (s_ HO_183004) hb)
          have n7_ := Aside0.mk (Kd.R_below (r_ HO_202000) hb)
          have n8_ := Aside0.mk (Kd.R_below (r_ HO_214000) hb)
          have n9_ := Aside0.mk (Kd.R_below (r_ HO_227000) hb)
          have n10_ := Aside0.mk (Kd.R_below (r_ HO234) hb)
          have n11_ := Aside0.mk (Kd.R_below (r_ HL236_0) hb)
          have n12_ := Aside0.mk (blk_below (k_ BK182) hb)
          have n13_ := Aside0.mk (blk_below (k_ BK201) hb)
          have n14_ := Aside0.mk (blk_below (k_ BK213) hb)
          have n15_ := Aside0.mk (blk_below (k_ BK226) hb)
          have n16_ := Aside0.mk (blk_below (k_ BK235) hb)
          have n17_ := Aside0.mk (Kd.C_below (by repeat (first | (with_reducible exact HR236_0.out) | (with_reducible refine Kd.C_alloc ?_ _) | (with_reducible refine Kd.C_drewN ?_ _) | (with_reducible refine Kd.C_drew ?_) | exact HR236_0.out)) hb)
          have n18_ := Aside0.mk (below_step (b_ HB) hb)
          clear HO_2 HO_10 HO_183000 HO_183001 HO_183002 HO_183003 HO_183004 HO_202000 HO_214000 HO_227000 HO234 HL236_0 BK182 BK201 BK213 BK226 BK235 HR236_0 HB
          have HO_2 := n0_; have HO_10 := n1_; have HO_183000 := n2_; have HO_183001 := n3_; have HO_183002 := n4_; have HO_183003 := n5_; have HO_183004 := n6_; have HO_202000 := n7_; have HO_214000 := n8_; have HO_227000 := n9_; have HO234 := n10_; have HL236_0 := n11_; have BK182 := n12_; have BK201 := n13_; have BK213 := n14_; have BK226 := n15_; have BK235 := n16_; have HR236_0 := n17_; have HB := n18_
          clear n0_ n1_ n2_ n3_ n4_ n5_ n6_ n7_ n8_ n9_ n10_ n11_ n12_ n13_ n14_ n15_ n16_ n17_ n18_
          (try clear hb); (try clear hb2); (try clear hk); (try clear hi)
          refine hK.out _ _ ⟨(blk_cell BK235.out 0).trans rfl, (blk_cell BK201.out 0).trans rfl, (blk_cell BK213.out 0).trans rfl, (blk_cell BK226.out 0).trans rfl, HS4_⟩ (fun hHeld => ?_)
          clear hK K
          refine norm_ (a' := ?_) ?_ ?_
          rotate_left
          · show Act.put _ (some 130) _ = _
            simp only [Act.put, List.setIfInBounds_toArray, List.set_cons_zero, List.set_cons_succ, i64_w, i32_w]
            rfl
          refine pure_ (i := 19) (N := some 131) (v := ?_) (a' := ?_) #[true, true, true, true, true, true, true, true, true, true, true, true, true, true, true, true, true, true, true, true, false] rfl rfl (any_of HT_.out (by kernel_rfl)) (fun _ _ _ h => h) (Or.inl ⟨by rfl, ?_⟩) ?_ ?_
          rotate_left
          · intro w'
            go_simp
            with_reducible rfl
          rotate_left
          · simp only [Act.put, List.setIfInBounds_toArray, List.set_cons_zero, List.set_cons_succ, i64_w, i32_w]
            rfl
          refine pure_ (i := 20) (N := some 19) (v := ?_) (a' := ?_) #[true, true, true, true, true, true, true, true, true, true, true, true, true, true, true, true, true, true, true, true, true] rfl rfl (any_of HT_.out (by kernel_rfl)) (fun _ _ _ h => h) (Or.inl ⟨by rfl, ?_⟩) ?_ ?_
          rotate_left
          · intro w'
            go_simp
            with_reducible rfl
          rotate_left
          · simp only [Act.put, List.setIfInBounds_toArray, List.set_cons_zero, List.set_cons_succ, i64_w, i32_w]
            rfl
          refine done_ (done_of HT_.out (by kernel_rfl)) ?_
          have p241 : 0 ≤ (0 : Int) := (by omega)
          have q241 : 0 < (t204.length : Int) := of_decide_eq_true (by first | (with_reducible assumption) | assumption)
          obtain ⟨ad241, e241, hx241_0, hx241_1, hx241_2⟩ := at_T57 (Kd.R_reads' HO_10.out).2.2 0 p241 q241
          cases e241
          have qi241 : (0 < t204.length) = True := eq_true (by omega)
          (try rw [show ((0 : Int)).toNat = 0 from rfl] at hx241_0)
          (try rw [show 0 * 3 = 0 from rfl] at hx241_0)
          (try rw [Addr.add_zero'] at hx241_0)
          (try rw [show ((0 : Int)).toNat = 0 from rfl] at hx241_1)
          (try rw [show 0 * 3 = 0 from rfl] at hx241_1)
          (try rw [Addr.add_zero'] at hx241_1)
          (try rw [show ((0 : Int)).toNat = 0 from rfl] at hx241_2)
          (try rw [show 0 * 3 = 0 from rfl] at hx241_2)
          (try rw [Addr.add_zero'] at hx241_2)
          replace p241 := eq_true p241
          replace q241 := eq_true q241
          have hnb160 := NB182_201.out
          have hnc160 := NB201_182.out
          have hnb161 := NB182_213.out
          have hnc161 := NB213_182.out
          have hnb162 := NB182_226.out
          have hnc162 := NB226_182.out
          have hcz163_0 : w159.cell? ⟨gb182, 0, none⟩ = some (.slice Ao7 t167.length co7) := (blk_cell BK182.out 0).trans rfl
          have hcz163_1 : w159.cell? ⟨gb182, 1, none⟩ = some (.slice Ao9 t170.length co9) := (blk_cell BK182.out 1).trans rfl
          have hcz163_2 : w159.cell? ⟨gb182, 2, none⟩ = some (.slice Ao10 t173.length co10) := (blk_cell BK182.out 2).trans rfl
          have hcz163_3 : w159.cell? ⟨gb182, 3, none⟩ = some (.slice Ao11 t176.length co11) := (blk_cell BK182.out 3).trans rfl
          have hcz163_4 : w159.cell? ⟨gb182, 4, none⟩ = some (.slice Ao12 t179.length co12) := (blk_cell BK182.out 4).trans rfl
          have hfz163_0 := blk_frozen BK182.out 0
          have hfz163_1 := blk_frozen BK182.out 1
          have hfz163_2 := blk_frozen BK182.out 2
          have hfz163_3 := blk_frozen BK182.out 3
          have hfz163_4 := blk_frozen BK182.out 4
          have hcz164_0 : w159.cell? ⟨gb235, 0, none⟩ = some (.slice Ao147 y232.length co147) := (blk_cell BK235.out 0).trans rfl
          have hfz164_0 := blk_frozen BK235.out 0
          try go_wp2_with (first | (go_at_call 24; (with_reducible refine (week_Check.calls _ _ t167 _ _ t170 _ _ t173 _ _ t176 _ _ t179 _ _ y232 t242 _ ?side1 ?side2 ?side3 ?side4 ?side5 ?side6 ?side7 ?side8 ?side9 ?side10 ?side11 ?side12 ?sideV A142.out).mono ?_); (case sideV => exact VOk.below HV.out (b_ HB)); (case side1 => repeat (first | exact (Kd.R_reads' HO_183000.out).2.2 | (with_reducible refine Kd.C_alloc ?_ _) | (with_reducible refine Kd.C_drewN ?_ _) | (with_reducible refine Kd.C_drew ?_))); (case side2 => exact (Kd.R_reads' HO_183000.out).2.1); (case side3 => repeat (first | exact (Kd.S_reads' HO_183001.out).2.2 | (with_reducible refine Kd.C_alloc ?_ _) | (with_reducible refine Kd.C_drewN ?_ _) | (with_reducible refine Kd.C_drew ?_))); (case side4 => exact (Kd.S_reads' HO_183001.out).2.1); (case side5 => repeat (first | exact (Kd.S_reads' HO_183002.out).2.2 | (with_reducible refine Kd.C_alloc ?_ _) | (with_reducible refine Kd.C_drewN ?_ _) | (with_reducible refine Kd.C_drew ?_))); (case side6 => exact (Kd.S_reads' HO_183002.out).2.1); (case side7 => repeat (first | exact (Kd.R_reads' HO_183003.out).2.2 | (with_reducible refine Kd.C_alloc ?_ _) | (with_reducible refine Kd.C_drewN ?_ _) | (with_reducible refine Kd.C_drew ?_))); (case side8 => exact (Kd.R_reads' HO_183003.out).2.1); (case side9 => repeat (first | exact (Kd.S_reads' HO_183004.out).2.2 | (with_reducible refine Kd.C_alloc ?_ _) | (with_reducible refine Kd.C_drewN ?_ _) | (with_reducible refine Kd.C_drew ?_))); (case side10 => exact (Kd.S_reads' HO_183004.out).2.1); (case side11 => repeat (first | exact (Kd.R_reads' HO234.out).2.2 | (with_reducible refine Kd.C_alloc ?_ _) | (with_reducible refine Kd.C_drewN ?_ _) | (with_reducible refine Kd.C_drew ?_))); (case side12 => exact (Kd.R_reads' HO234.out).2.1); rintro e w165 ⟨rfl, hb⟩; have n0_ := Aside0.mk (Kd.S_below (s_ HO_2) hb); have n1_ := Aside0.mk (Kd.R_below (r_ HO_10) hb); have n2_ := Aside0.mk (Kd.R_below (r_ HO_183000) hb); have n3_ := Aside0.mk (Kd.S_below (s_ HO_183001) hb); have n4_ := Aside0.mk (Kd.S_below (s_ HO_183002) hb); have n5_ := Aside0.mk (Kd.R_below (r_ HO_183003) hb); have n6_ := Aside0.mk (Kd.S_below (s_ HO_183004) hb); have n7_ := Aside0.mk (Kd.R_below (r_ HO_202000) hb); have n8_ := Aside0.mk (Kd.R_below (r_ HO_214000) hb); have n9_ := Aside0.mk (Kd.R_below (r_ HO_227000) hb); have n10_ := Aside0.mk (Kd.R_below (r_ HO234) hb); have n11_ := Aside0.mk (Kd.R_below (r_ HL236_0) hb); have n12_ := Aside0.mk (blk_below (k_ BK182) hb); have n13_ := Aside0.mk (blk_below (k_ BK201) hb); have n14_ := Aside0.mk (blk_below (k_ BK213) hb); have n15_ := Aside0.mk (blk_below (k_ BK226) hb); have n16_ := Aside0.mk (blk_below (k_ BK235) hb); have n17_ := Aside0.mk (Kd.C_below (by repeat (first | (with_reducible exact HR236_0.out) | (with_reducible refine Kd.C_alloc ?_ _) | (with_reducible refine Kd.C_drewN ?_ _) | (with_reducible refine Kd.C_drew ?_) | exact HR236_0.out)) hb); have n18_ := Aside0.mk (below_step (b_ HB) hb); clear HO_2; clear HO_10; clear HO_183000; clear HO_183001; clear HO_183002; clear HO_183003; clear HO_183004; clear HO_202000; clear HO_214000; clear HO_227000; clear HO234; clear HL236_0; clear BK182; clear BK201; clear BK213; clear BK226; clear BK235; clear HR236_0; clear HB; have HO_2 := n0_; have HO_10 := n1_; have HO_183000 := n2_; have HO_183001 := n3_; have HO_183002 := n4_; have HO_183003 := n5_; have HO_183004 := n6_; have HO_202000 := n7_; have HO_214000 := n8_; have HO_227000 := n9_; have HO234 := n10_; have HL236_0 := n11_; have BK182 := n12_; have BK201 := n13_; have BK213 := n14_; have BK226 := n15_; have BK235 := n16_; have HR236_0 := n17_; have HB := n18_; clear n0_ n1_ n2_ n3_ n4_ n5_ n6_ n7_ n8_ n9_ n10_ n11_ n12_ n13_ n14_ n15_ n16_ n17_ n18_; (try clear hb); (try clear hb2); (try clear hk); (try clear hi); have hcz166_0 : w165.cell? ⟨gb182, 0, none⟩ = some (.slice Ao7 t167.length co7) := (blk_cell BK182.out 0).trans rfl; have hcz166_1 : w165.cell? ⟨gb182, 1, none⟩ = some (.slice Ao9 t170.length co9) := (blk_cell BK182.out 1).trans rfl; have hcz166_2 : w165.cell? ⟨gb182, 2, none⟩ = some (.slice Ao10 t173.length co10) := (blk_cell BK182.out 2).trans rfl; have hcz166_3 : w165.cell? ⟨gb182, 3, none⟩ = some (.slice Ao11 t176.length co11) := (blk_cell BK182.out 3).trans rfl; have hcz166_4 : w165.cell? ⟨gb182, 4, none⟩ = some (.slice Ao12 t179.length co12) := (blk_cell BK182.out 4).trans rfl; have hfz166_0 := blk_frozen BK182.out 0; have hfz166_1 := blk_frozen BK182.out 1; have hfz166_2 := blk_frozen BK182.out 2; have hfz166_3 := blk_frozen BK182.out 3; have hfz166_4 := blk_frozen BK182.out 4) | (go_at_call 24; (refine (week_Check.calls _ _ t167 _ _ t170 _ _ t173 _ _ t176 _ _ t179 _ _ ([] : List (S55)) t243 _ ?side1 ?side2 ?side3 ?side4 ?side5 ?side6 ?side7 ?side8 ?side9 ?side10 ?side11 ?side12 ?sideV A144.out).mono ?_); (case sideV => exact VOk.below HV.out (b_ HB)); (case side1 => repeat (first | exact (Kd.R_reads' HO_183000.out).2.2 | (with_reducible refine Kd.C_alloc ?_ _) | (with_reducible refine Kd.C_drewN ?_ _) | (with_reducible refine Kd.C_drew ?_))); (case side2 => exact (Kd.R_reads' HO_183000.out).2.1); (case side3 => repeat (first | exact (Kd.S_reads' HO_183001.out).2.2 | (with_reducible refine Kd.C_alloc ?_ _) | (with_reducible refine Kd.C_drewN ?_ _) | (with_reducible refine Kd.C_drew ?_))); (case side4 => exact (Kd.S_reads' HO_183001.out).2.1); (case side5 => repeat (first | exact (Kd.S_reads' HO_183002.out).2.2 | (with_reducible refine Kd.C_alloc ?_ _) | (with_reducible refine Kd.C_drewN ?_ _) | (with_reducible refine Kd.C_drew ?_))); (case side6 => exact (Kd.S_reads' HO_183002.out).2.1); (case side7 => repeat (first | exact (Kd.R_reads' HO_183003.out).2.2 | (with_reducible refine Kd.C_alloc ?_ _) | (with_reducible refine Kd.C_drewN ?_ _) | (with_reducible refine Kd.C_drew ?_))); (case side8 => exact (Kd.R_reads' HO_183003.out).2.1); (case side9 => repeat (first | exact (Kd.S_reads' HO_183004.out).2.2 | (with_reducible refine Kd.C_alloc ?_ _) | (with_reducible refine Kd.C_drewN ?_ _) | (with_reducible refine Kd.C_drew ?_))); (case side10 => exact (Kd.S_reads' HO_183004.out).2.1); (case side11 => exact Kd.C_nil _ _); (case side12 => exact Nat.le_refl _); rintro e w167 ⟨rfl, hb⟩; have n0_ := Aside0.mk (Kd.S_below (s_ HO_2) hb); have n1_ := Aside0.mk (Kd.R_below (r_ HO_10) hb); have n2_ := Aside0.mk (Kd.R_below (r_ HO_183000) hb); have n3_ := Aside0.mk (Kd.S_below (s_ HO_183001) hb); have n4_ := Aside0.mk (Kd.S_below (s_ HO_183002) hb); have n5_ := Aside0.mk (Kd.R_below (r_ HO_183003) hb); have n6_ := Aside0.mk (Kd.S_below (s_ HO_183004) hb); have n7_ := Aside0.mk (Kd.R_below (r_ HO_202000) hb); have n8_ := Aside0.mk (Kd.R_below (r_ HO_214000) hb); have n9_ := Aside0.mk (Kd.R_below (r_ HO_227000) hb); have n10_ := Aside0.mk (Kd.R_below (r_ HO234) hb); have n11_ := Aside0.mk (Kd.R_below (r_ HL236_0) hb); have n12_ := Aside0.mk (blk_below (k_ BK182) hb); have n13_ := Aside0.mk (blk_below (k_ BK201) hb); have n14_ := Aside0.mk (blk_below (k_ BK213) hb); have n15_ := Aside0.mk (blk_below (k_ BK226) hb); have n16_ := Aside0.mk (blk_below (k_ BK235) hb); have n17_ := Aside0.mk (Kd.C_below (by repeat (first | (with_reducible exact HR236_0.out) | (with_reducible refine Kd.C_alloc ?_ _) | (with_reducible refine Kd.C_drewN ?_ _) | (with_reducible refine Kd.C_drew ?_) | exact HR236_0.out)) hb); have n18_ := Aside0.mk (below_step (b_ HB) hb); clear HO_2; clear HO_10; clear HO_183000; clear HO_183001; clear HO_183002; clear HO_183003; clear HO_183004; clear HO_202000; clear HO_214000; clear HO_227000; clear HO234; clear HL236_0; clear BK182; clear BK201; clear BK213; clear BK226; clear BK235; clear HR236_0; clear HB; have HO_2 := n0_; have HO_10 := n1_; have HO_183000 := n2_; have HO_183001 := n3_; have HO_183002 := n4_; have HO_183003 := n5_; have HO_183004 := n6_; have HO_202000 := n7_; have HO_214000 := n8_; have HO_227000 := n9_; have HO234 := n10_; have HL236_0 := n11_; have BK182 := n12_; have BK201 := n13_; have BK213 := n14_; have BK226 := n15_; have BK235 := n16_; have HR236_0 := n17_; have HB := n18_; clear n0_ n1_ n2_ n3_ n4_ n5_ n6_ n7_ n8_ n9_ n10_ n11_ n12_ n13_ n14_ n15_ n16_ n17_ n18_; (try clear hb); (try clear hb2); (try clear hk); (try clear hi)))
          go_ret
          exact ⟨by first | rfl | (simp [errW_none, errW_some] <;> rfl) | (simp [*, errW_none, errW_some] <;> rfl), b_ HB⟩
theorem live04.true_ : live04.f 60 = some true := by kernel_rfl
def chalklinelaw04_live.f : Option Bool := some true
theorem chalklinelaw04_live.calls (r : Bool) (w : World) (hV : VOk w) (h : chalklinelaw04_live.f = some r) :
    Calls Tryd.prog 9 #[] w fun e w' => e = .returned (.bool r) ∧ Below w.heap.size w w' := by
  obtain rfl := Option.some.inj h
  exact live04.calls 60 true rfl w hV live04.true_
end Go.Proofs.YtjdajlnigiicaaaDoor.S
end
