/- feedReplies_holds: part 6 of the proof: the plain functions, the walks of the program's functions and the laws about them. Conditions: those that each theorem states. -/
import Derived.Deep.Slices
import Derived.ChangeSame
import Derived.WideShapes
import Derived.OpenShut
import Derived.SizedLaws
import Derived.ProofKit
import Derived.WalkKit
import Derived.ShutString
import Derived.ChangeOld
import Derived.Below
import Derived.Test.YtfdhnmijaobbdaaReplies1
import Derived.Test.YtfdhnmijaobbdaaReplies2
import Derived.Test.YtfdhnmijaobbdaaReplies3
import Derived.Test.YtfdhnmijaobbdaaReplies4
import Derived.Test.YtfdhnmijaobbdaaReplies5
section
namespace Go.Proofs.Ytfdhnmijaobbdaa.S
open Go.RowKit Go.Proofs.YtfdhnmijaobbdaaW.PrintWords Go.Proofs.YtfdhnmijaobbdaaW.PrintLast Go.Proofs.YtfdhnmijaobbdaaW.PrintMore
attribute [local go_sem] max2_int min2_int max_two min_two max_three min_three max_four min_four   -- for this text's walks alone
set_option linter.unusedVariables false
set_option linter.unusedSimpArgs false
def chalklinelaw35_FeedReplies.j0 : Nat → List (S52) → Int → Int → Bool → Int → List (S60) → Option (Bool)
  | 0, _, _, _, _, _, _ => none
  | k + 1, x0, x2, x3, x24, x208000, x208001 => if x24 = true then (some true) else ((feed_Reply.f k x0 x2 x3).bind fun bt210 => ((chalklineref35_Reply.f k x0 x2 x3).bind fun bt222 => ((chalklineref35_Msgs.f k bt210.1 bt210.2.1 bt210.2.2.1 bt210.2.2.2.1 bt210.2.2.2.2.1 bt210.2.2.2.2.2.1 bt222.1 bt222.2.1 bt222.2.2.1 bt222.2.2.2.1 bt222.2.2.2.2.1 bt222.2.2.2.2.2.1).bind fun t234 => (if t234 = true then (if bt210.2.2.2.2.2.2 = bt222.2.2.2.2.2.2 then ((feed_Check.f k x0).bind fun t235 => ((chalklineref35_Check.f k x0).bind fun t236 => (if t235 = t236 then ((feed_Wish.f x208000 x208001 x3).bind fun bt237 => ((chalklineref35_Wish.f x208000 x208001 x3).bind fun bt247 => ((chalklineref35_Msgs.f k bt237.1 bt237.2.1 bt237.2.2.1 bt237.2.2.2.1 bt237.2.2.2.2.1 bt237.2.2.2.2.2 bt247.1 bt247.2.1 bt247.2.2.1 bt247.2.2.2.1 bt247.2.2.2.2.1 bt247.2.2.2.2.2).bind fun t257 => (some t257)))) else (some false)))) else (some false)) else (some false)))))
def chalklinelaw35_FeedReplies.f (k : Nat) (l0 : List (S52)) (a1_0 : Int) (l1_1 : List (S60)) (a2 : Int) (a3 : Int) : Option (Bool) := (chalklinelaw35_live.f).bind fun t208 => (if t208 = true then ((chalklineref35_Few.f k l0).bind fun t209 => (if t209 = true then (chalklinelaw35_FeedReplies.j0 k l0 a2 a3 (decide ((l1_1.length : Int) > 70)) a1_0 l1_1) else (chalklinelaw35_FeedReplies.j0 k l0 a2 a3 true a1_0 l1_1))) else (some false))
def chalklinelaw35_FeedReplies.T7 : Bool × List (List Nat × List Nat) := (true, [([], []), ([], []), ([0, 1], [0, 1]), ([2, 2], [2]), ([3], [3]), ([3], [3]), ([4, 5, 3], [3, 4, 5]), ([3, 6], [3, 6]), ([7, 3], [7]), ([8], [8]), ([9, 8, 8], [8, 9]), ([8], [8]), ([11, 10, 8], [8, 11]), ([10, 12, 8], [8, 10, 12]), ([8, 13], [8, 13]), ([14, 12], [14]), ([15], [15]), ([15], [15]), ([16, 17, 15, 15], [15, 16, 17]), ([15], [15]), ([15], [15]), ([19, 20, 18, 15], [15, 19, 20]), ([18, 21, 21, 15], [15, 18, 21]), ([15, 22], [15, 22]), ([23, 22, 0, 1, 2, 3, 4, 5, 6, 7, 8, 9, 10, 11, 12, 13, 14, 15, 16, 17, 18, 19, 20, 21, 22, 23], [23])])
def chalklinelaw35_FeedReplies.B7 : List Nat := [0, 0, 3, 7, 15, 15, 63, 127, 255, 511, 1023, 511, 4095, 8191, 16383, 32767, 65535, 65535, 262143, 65535, 65535, 2097151, 4194303, 8388607, 16777215]
theorem chalklinelaw35_FeedReplies.tab7 : rtab .any (opsOf Try.f3 7) = chalklinelaw35_FeedReplies.T7 := by kernel_rfl
theorem chalklinelaw35_FeedReplies.bits7 : waitsOk chalklinelaw35_FeedReplies.T7.2 chalklinelaw35_FeedReplies.B7 = true := by kernel_rfl
set_option maxHeartbeats 8000000 in
set_option maxRecDepth 100000 in
theorem chalklinelaw35_FeedReplies.calls (k : Nat) (A0 : Option Addr) (c0 : Nat) (l0 : List (S52)) (a1_0 : Int) (A1_1 : Option Addr) (c1_1 : Nat) (l1_1 : List (S60)) (a2 : Int) (a3 : Int) (r : Bool) (w : World) (hr0 : Kd.C k52 w A0 l0.length l0) (hc0 : l0.length ≤ c0) (hr1_1 : Kd.C k60 w A1_1 l1_1.length l1_1) (hc1_1 : l1_1.length ≤ c1_1) (h : chalklinelaw35_FeedReplies.f k l0 a1_0 l1_1 a2 a3 = some r) :
    Calls Try.prog 3 #[.slice A0 l0.length c0, .agg #[.int .i64 a1_0, .slice A1_1 l1_1.length c1_1], .int .i64 a2, .int .i64 a3] w fun e w' => e = .returned (.bool r) ∧ Below w.heap.size w w' := by
  have hu27 := Try.underlying27
  have hu32 := Try.underlying32
  have HR0 := Aside0.mk hr0
  have HC0 := Aside0.mk hc0
  clear hr0 hc0
  have HR1_1 := Aside0.mk hr1_1
  have HC1_1 := Aside0.mk hc1_1
  clear hr1_1 hc1_1
  have HB := Aside0.mk (Below.refl w.heap.size w)
  have H : ((chalklinelaw35_live.f).bind fun t208 => (if t208 = true then ((chalklineref35_Few.f k l0).bind fun t209 => (if t209 = true then (chalklinelaw35_FeedReplies.j0 k l0 a2 a3 (decide ((l1_1.length : Int) > 70)) a1_0 l1_1) else (chalklinelaw35_FeedReplies.j0 k l0 a2 a3 true a1_0 l1_1))) else (some false))) = some r := h
  clear h
  replace H := Option.bind_eq_some_iff.mp H
  obtain ⟨t208, A50, H⟩ := H
  replace H : (if t208 = true then ((chalklineref35_Few.f k l0).bind fun t209 => (if t209 = true then (chalklinelaw35_FeedReplies.j0 k l0 a2 a3 (decide ((l1_1.length : Int) > 70)) a1_0 l1_1) else (chalklinelaw35_FeedReplies.j0 k l0 a2 a3 true a1_0 l1_1))) else (some false)) = some r := H
  have A5 := Aside0.mk A50
  clear A50
  by_cases c6 : t208 = true
  · subst c6
    have H1 : ((chalklineref35_Few.f k l0).bind fun t209 => (if t209 = true then (chalklinelaw35_FeedReplies.j0 k l0 a2 a3 (decide ((l1_1.length : Int) > 70)) a1_0 l1_1) else (chalklinelaw35_FeedReplies.j0 k l0 a2 a3 true a1_0 l1_1))) = some r := by rw [if_pos rfl] at H; exact H
    clear H
    have H := H1
    clear H1
    have HC7 := Aside0.mk H
    clear H
    go_enter Try.func3, Try.ntmps3
    go_upto_region 3 with (first | ((with_reducible refine gate_dst (N := 5) rfl ?_); (try (refine gate_guard (by rfl) ?_; dsimp only)); refine box_event ?hg (N := 5) ?hd (cs := #[.int .i64 a1_0, .slice A1_1 l1_1.length c1_1]) (t := 27) ?hr ?_; (case hd => rfl); (case hg => rfl); (case hr => first | (go_simp; done) | (go_simp; rfl)); intro gb207 hg w8 hbox hb; have n0_ := Aside0.mk (below_step (b_ HB) hb); have n1_ := Aside0.mk (hbox); have n2_ := Aside0.mk ((by rw [hg]; exact (below_size (b_ HB)) : w.heap.size ≤ gb207)); have n3_ := n2_; clear HB; have HB := n0_; have BK207 := n1_; have GW207 := n2_; have GE207 := n3_; clear n0_ n1_ n2_ n3_; clear hb hbox hg) | ((with_reducible refine gate_callee (f := 11) rfl ?_); refine goesL_ (some 13) rfl rfl Try.func11 (by kernel_rfl) rfl #[] rfl (by (try simp only [List.map_toArray, List.map_cons, List.map_nil]); first | done | rfl | (simp only [List.length_drop, List.length_take]; rfl)) ?_; (with_reducible refine (chalklinelaw35_live.calls  true _ A5.out).mono ?_); rintro e w9 ⟨rfl, hb⟩; refine ⟨_, rfl, ?_⟩; have n0_ := Aside0.mk (blk_below (k_ BK207) hb); have n1_ := Aside0.mk (below_step (b_ HB) hb); clear BK207; clear HB; have BK207 := n0_; have HB := n1_; clear n0_ n1_; (try clear hb); (try clear hb2); (try clear hk); (try clear hi)))
    (try simp only [Act.put, List.setIfInBounds_toArray, List.set_cons_zero, List.set_cons_succ])
    go_cut [24] (fun v24 wc => ∃ (kq : Nat) (x24_6 : Bool), v24 = .bool x24_6 ∧ Aside0 (chalklinelaw35_FeedReplies.j0 kq l0 a2 a3 x24_6 a1_0 l1_1 = some r) ∧ Aside0 (kq ≤ k) ∧ Aside0 (wc.heap[gb207]? = some (.cells #[.int .i64 a1_0, (.slice A1_1 l1_1.length c1_1)] 27 (0, 0))) ∧ Aside0 (Below w.heap.size w wc))
    case first =>
      have H := HC7.out
      clear HC7
      replace H := Option.bind_eq_some_iff.mp H
      obtain ⟨t209, A100, H⟩ := H
      replace H : (if t209 = true then (chalklinelaw35_FeedReplies.j0 k l0 a2 a3 (decide ((l1_1.length : Int) > 70)) a1_0 l1_1) else (chalklinelaw35_FeedReplies.j0 k l0 a2 a3 true a1_0 l1_1)) = some r := H
      have A10 := Aside0.mk A100
      clear A100
      by_cases c11 : t209 = true
      · subst c11
        have H1 : (chalklinelaw35_FeedReplies.j0 k l0 a2 a3 (decide ((l1_1.length : Int) > 70)) a1_0 l1_1) = some r := by rw [if_pos rfl] at H; exact H
        clear H
        have H := H1
        clear H1
        have H' := Aside0.mk H
        clear H
        go_wp2_with (first | ((with_reducible refine gate_callee (f := 12) rfl ?_); refine goesL_ (some 16) rfl rfl Try.func12 (by kernel_rfl) rfl #[.slice A0 l0.length c0] rfl (by (try simp only [List.map_toArray, List.map_cons, List.map_nil]); first | done | rfl | (simp only [List.length_drop, List.length_take]; rfl)) ?_; (with_reducible refine (chalklineref35_Few.calls k _ _ l0 true _ ?side1 ?side2 A10.out).mono ?_); (case side1 => repeat (first | exact (Kd.C_below HR0.out HB.out) | (with_reducible refine Kd.C_alloc ?_ _) | (with_reducible refine Kd.C_drewN ?_ _) | (with_reducible refine Kd.C_drew ?_))); (case side2 => exact HC0.out); rintro e w' ⟨rfl, ⟨nd, rfl⟩⟩; refine ⟨_, rfl, ?_⟩; have hcz12_0 : w9.cell? ⟨gb207, 0, none⟩ = some (.int .i64 a1_0) := (blk_cell BK207.out 0).trans rfl; have hcz12_1 : w9.cell? ⟨gb207, 1, none⟩ = some (.slice A1_1 l1_1.length c1_1) := (blk_cell BK207.out 1).trans rfl; have hfz12_0 := blk_frozen BK207.out 0; have hfz12_1 := blk_frozen BK207.out 1))
        go_meet
        case rel => exact ⟨_, (decide ((l1_1.length : Int) > 70)), (by first | rfl | (simp; done) | (simp [*]; done)), H', ⟨by first | omega | exact Nat.le_refl _⟩, ⟨k_ BK207⟩, ⟨b_ HB⟩⟩
      · replace c11 := Bool.eq_false_iff.mpr c11
        subst c11
        have H1 : (chalklinelaw35_FeedReplies.j0 k l0 a2 a3 true a1_0 l1_1) = some r := by rw [if_neg (show ¬ (false = true) by decide)] at H; exact H
        clear H
        have H := H1
        clear H1
        have H' := Aside0.mk H
        clear H
        go_wp2_with (first | ((with_reducible refine gate_callee (f := 12) rfl ?_); refine goesL_ (some 16) rfl rfl Try.func12 (by kernel_rfl) rfl #[.slice A0 l0.length c0] rfl (by (try simp only [List.map_toArray, List.map_cons, List.map_nil]); first | done | rfl | (simp only [List.length_drop, List.length_take]; rfl)) ?_; (with_reducible refine (chalklineref35_Few.calls k _ _ l0 false _ ?side1 ?side2 A10.out).mono ?_); (case side1 => repeat (first | exact (Kd.C_below HR0.out HB.out) | (with_reducible refine Kd.C_alloc ?_ _) | (with_reducible refine Kd.C_drewN ?_ _) | (with_reducible refine Kd.C_drew ?_))); (case side2 => exact HC0.out); rintro e w' ⟨rfl, ⟨nd, rfl⟩⟩; refine ⟨_, rfl, ?_⟩))
        go_meet
        case rel => exact ⟨_, (true), (by first | rfl | (simp; done) | (simp [*]; done)), H', ⟨by first | omega | exact Nat.le_refl _⟩, ⟨k_ BK207⟩, ⟨b_ HB⟩⟩
    case rest =>
      clear HC7
      try clear c1
      try clear p2
      try clear c3
      try clear c6
      try clear c11
      try clear c12
      try clear hcz12_0
      try clear hcz12_1
      try clear hfz12_0
      try clear hfz12_1
      obtain ⟨kq, x24_6, rfl, HA, HJ6, BK207, HB⟩ := hcut
      cases kq with
      | zero => exact absurd HA.out (by simp [chalklinelaw35_FeedReplies.j0])
      | succ kj6 =>
        have H := HA.out
        clear HA
        simp only [chalklinelaw35_FeedReplies.j0] at H
        by_cases c13 : x24_6 = true
        · subst c13
          have H1 : (some true) = some r := by rw [if_pos rfl] at H; exact H
          clear H
          have H := H1
          clear H1
          obtain rfl := Option.some.inj H
          go_wp2
          go_ret
          exact ⟨by first | rfl | (simp [errW_none, errW_some] <;> rfl) | (simp [*, errW_none, errW_some] <;> rfl), b_ HB⟩
        · replace c13 := Bool.eq_false_iff.mpr c13
          subst c13
          have H1 : ((feed_Reply.f kj6 l0 a2 a3).bind fun bt210 => ((chalklineref35_Reply.f kj6 l0 a2 a3).bind fun bt222 => ((chalklineref35_Msgs.f kj6 bt210.1 bt210.2.1 bt210.2.2.1 bt210.2.2.2.1 bt210.2.2.2.2.1 bt210.2.2.2.2.2.1 bt222.1 bt222.2.1 bt222.2.2.1 bt222.2.2.2.1 bt222.2.2.2.2.1 bt222.2.2.2.2.2.1).bind fun t234 => (if t234 = true then (if bt210.2.2.2.2.2.2 = bt222.2.2.2.2.2.2 then ((feed_Check.f kj6 l0).bind fun t235 => ((chalklineref35_Check.f kj6 l0).bind fun t236 => (if t235 = t236 then ((feed_Wish.f a1_0 l1_1 a3).bind fun bt237 => ((chalklineref35_Wish.f a1_0 l1_1 a3).bind fun bt247 => ((chalklineref35_Msgs.f kj6 bt237.1 bt237.2.1 bt237.2.2.1 bt237.2.2.2.1 bt237.2.2.2.2.1 bt237.2.2.2.2.2 bt247.1 bt247.2.1 bt247.2.2.1 bt247.2.2.2.1 bt247.2.2.2.2.1 bt247.2.2.2.2.2).bind fun t257 => (some t257)))) else (some false)))) else (some false)) else (some false))))) = some r := by rw [if_neg (show ¬ (false = true) by decide)] at H; exact H
          clear H
          have H := H1
          clear H1
          replace H := Option.bind_eq_some_iff.mp H
          obtain ⟨⟨t210, t211, t212, t213, t214, t217, t220⟩, A140, H⟩ := H
          replace H : ((chalklineref35_Reply.f kj6 l0 a2 a3).bind fun bt222 => ((chalklineref35_Msgs.f kj6 t210 t211 t212 t213 t214 t217 bt222.1 bt222.2.1 bt222.2.2.1 bt222.2.2.2.1 bt222.2.2.2.2.1 bt222.2.2.2.2.2.1).bind fun t234 => (if t234 = true then (if t220 = bt222.2.2.2.2.2.2 then ((feed_Check.f kj6 l0).bind fun t235 => ((chalklineref35_Check.f kj6 l0).bind fun t236 => (if t235 = t236 then ((feed_Wish.f a1_0 l1_1 a3).bind fun bt237 => ((chalklineref35_Wish.f a1_0 l1_1 a3).bind fun bt247 => ((chalklineref35_Msgs.f kj6 bt237.1 bt237.2.1 bt237.2.2.1 bt237.2.2.2.1 bt237.2.2.2.2.1 bt237.2.2.2.2.2 bt247.1 bt247.2.1 bt247.2.2.1 bt247.2.2.2.1 bt247.2.2.2.2.1 bt247.2.2.2.2.2).bind fun t257 => (some t257)))) else (some false)))) else (some false)) else (some false)))) = some r := H
          have A14 := Aside0.mk A140
          clear A140
          replace H := Option.bind_eq_some_iff.mp H
          obtain ⟨⟨t222, t223, t224, t225, t226, t229, t232⟩, A150, H⟩ := H
          replace H : ((chalklineref35_Msgs.f kj6 t210 t211 t212 t213 t214 t217 t222 t223 t224 t225 t226 t229).bind fun t234 => (if t234 = true then (if t220 = t232 then ((feed_Check.f kj6 l0).bind fun t235 => ((chalklineref35_Check.f kj6 l0).bind fun t236 => (if t235 = t236 then ((feed_Wish.f a1_0 l1_1 a3).bind fun bt237 => ((chalklineref35_Wish.f a1_0 l1_1 a3).bind fun bt247 => ((chalklineref35_Msgs.f kj6 bt237.1 bt237.2.1 bt237.2.2.1 bt237.2.2.2.1 bt237.2.2.2.2.1 bt237.2.2.2.2.2 bt247.1 bt247.2.1 bt247.2.2.1 bt247.2.2.2.1 bt247.2.2.2.2.1 bt247.2.2.2.2.2).bind fun t257 => (some t257)))) else (some false)))) else (some false)) else (some false))) = some r := H
          have A15 := Aside0.mk A150
          clear A150
          replace H := Option.bind_eq_some_iff.mp H
          obtain ⟨t234, A160, H⟩ := H
          replace H : (if t234 = true then (if t220 = t232 then ((feed_Check.f kj6 l0).bind fun t235 => ((chalklineref35_Check.f kj6 l0).bind fun t236 => (if t235 = t236 then ((feed_Wish.f a1_0 l1_1 a3).bind fun bt237 => ((chalklineref35_Wish.f a1_0 l1_1 a3).bind fun bt247 => ((chalklineref35_Msgs.f kj6 bt237.1 bt237.2.1 bt237.2.2.1 bt237.2.2.2.1 bt237.2.2.2.2.1 bt237.2.2.2.2.2 bt247.1 bt247.2.1 bt247.2.2.1 bt247.2.2.2.1 bt247.2.2.2.2.1 bt247.2.2.2.2.2).bind fun t257 => (some t257)))) else (some false)))) else (some false)) else (some false)) = some r := H
          have A16 := Aside0.mk A160
          clear A160
          by_cases c17 : t234 = true
          · subst c17
            have H1 : (if t220 = t232 then ((feed_Check.f kj6 l0).bind fun t235 => ((chalklineref35_Check.f kj6 l0).bind fun t236 => (if t235 = t236 then ((feed_Wish.f a1_0 l1_1 a3).bind fun bt237 => ((chalklineref35_Wish.f a1_0 l1_1 a3).bind fun bt247 => ((chalklineref35_Msgs.f kj6 bt237.1 bt237.2.1 bt237.2.2.1 bt237.2.2.2.1 bt237.2.2.2.2.1 bt237.2.2.2.2.2 bt247.1 bt247.2.1 bt247.2.2.1 bt247.2.2.2.1 bt247.2.2.2.2.1 bt247.2.2.2.2.2).bind fun t257 => (some t257)))) else (some false)))) else (some false)) = some r := by rw [if_pos rfl] at H; exact H
            clear H
            have H := H1
            clear H1
            by_cases c18 : t220 = t232
            · rw [if_pos c18] at H
              have c18b0 : (t220 == t232) = true := beq_iff_eq.mpr c18
              have c18b1 : (t220 != t232) = false := bne_eq_false_iff_eq.mpr c18
              clear c18
              replace H := Option.bind_eq_some_iff.mp H
              obtain ⟨t235, A190, H⟩ := H
              replace H : ((chalklineref35_Check.f kj6 l0).bind fun t236 => (if t235 = t236 then ((feed_Wish.f a1_0 l1_1 a3).bind fun bt237 => ((chalklineref35_Wish.f a1_0 l1_1 a3).bind fun bt247 => ((chalklineref35_Msgs.f kj6 bt237.1 bt237.2.1 bt237.2.2.1 bt237.2.2.2.1 bt237.2.2.2.2.1 bt237.2.2.2.2.2 bt247.1 bt247.2.1 bt247.2.2.1 bt247.2.2.2.1 bt247.2.2.2.2.1 bt247.2.2.2.2.2).bind fun t257 => (some t257)))) else (some false))) = some r := H
              have A19 := Aside0.mk A190
              clear A190
              replace H := Option.bind_eq_some_iff.mp H
              obtain ⟨t236, A200, H⟩ := H
              replace H : (if t235 = t236 then ((feed_Wish.f a1_0 l1_1 a3).bind fun bt237 => ((chalklineref35_Wish.f a1_0 l1_1 a3).bind fun bt247 => ((chalklineref35_Msgs.f kj6 bt237.1 bt237.2.1 bt237.2.2.1 bt237.2.2.2.1 bt237.2.2.2.2.1 bt237.2.2.2.2.2 bt247.1 bt247.2.1 bt247.2.2.1 bt247.2.2.2.1 bt247.2.2.2.2.1 bt247.2.2.2.2.2).bind fun t257 => (some t257)))) else (some false)) = some r := H
              have A20 := Aside0.mk A200
              clear A200
              by_cases c21 : t235 = t236
              · rw [if_pos c21] at H
                have c21b0 : (t235 == t236) = true := beq_iff_eq.mpr c21
                have c21b1 : (t235 != t236) = false := bne_eq_false_iff_eq.mpr c21
                clear c21
                replace H := Option.bind_eq_some_iff.mp H
                obtain ⟨⟨t237, t238, t239, t240, t241, t244⟩, A220, H⟩ := H
                replace H : ((chalklineref35_Wish.f a1_0 l1_1 a3).bind fun bt247 => ((chalklineref35_Msgs.f kj6 t237 t238 t239 t240 t241 t244 bt247.1 bt247.2.1 bt247.2.2.1 bt247.2.2.2.1 bt247.2.2.2.2.1 bt247.2.2.2.2.2).bind fun t257 => (some t257))) = some r := H
                have A22 := Aside0.mk A220
                clear A220
                replace H := Option.bind_eq_some_iff.mp H
                obtain ⟨⟨t247, t248, t249, t250, t251, t254⟩, A230, H⟩ := H
                replace H : ((chalklineref35_Msgs.f kj6 t237 t238 t239 t240 t241 t244 t247 t248 t249 t250 t251 t254).bind fun t257 => (some t257)) = some r := H
                have A23 := Aside0.mk A230
                clear A230
                replace H := Option.bind_eq_some_iff.mp H
                obtain ⟨t257, A240, H⟩ := H
                replace H : (some t257) = some r := H
                have A24 := Aside0.mk A240
                clear A240
                obtain rfl := Option.some.inj H
                try go_wp2_with (first | ((with_reducible refine gate_callee (f := 13) rfl ?_); refine goesL_ (some 29) rfl rfl Try.func13 (by kernel_rfl) rfl #[.slice A0 l0.length c0, .int .i64 a2, .int .i64 a3] rfl (by (try simp only [List.map_toArray, List.map_cons, List.map_nil]); first | done | rfl | (simp only [List.length_drop, List.length_take]; rfl)) ?_; (with_reducible refine (feed_Reply.calls kj6 _ _ l0 a2 a3 t210 t211 t212 t213 t214 t217 t220 _ ?side1 ?side2 A14.out).mono ?_); (case side1 => repeat (first | exact (Kd.C_below HR0.out HB.out) | (with_reducible refine Kd.C_alloc ?_ _) | (with_reducible refine Kd.C_drewN ?_ _) | (with_reducible refine Kd.C_drew ?_))); (case side2 => exact HC0.out); rintro e w25 ⟨v215, v218, rfl, ho0, ho1, hb⟩; refine ⟨_, rfl, ?_⟩; have n0_ := Aside0.mk (Kd.R_lower ho0 (below_size (b_ HB))); have n1_ := Aside0.mk (Kd.R_lower ho1 (below_size (b_ HB))); have n2_ := Aside0.mk (blk_below (k_ BK207) hb); have n3_ := Aside0.mk (below_step (b_ HB) hb); clear BK207; clear HB; have HO216 := n0_; have HO219 := n1_; have BK207 := n2_; have HB := n3_; clear n0_ n1_ n2_ n3_; (try clear hb); (try clear hb2); (try clear hk); (try clear hi); (try clear ho0); (try clear ho1)) | ((with_reducible refine gate_dst (N := 9) rfl ?_); (try (refine gate_guard (by rfl) ?_; dsimp only)); refine box_event ?hg (N := 9) ?hd (cs := #[.int .i64 0, .int .i64 0, .int .i64 0, .int .i64 0, .slice none 0 0, .slice none 0 0]) (t := 32) ?hr ?_; (case hd => rfl); (case hg => rfl); (case hr => first | (go_simp; done) | (go_simp; rfl)); intro gb221 hg w26 hbox hb; have n0_ := Aside0.mk (Kd.R_below (by (with_reducible repeat (first | apply Kd.R_alloc | apply Kd.R_drewN | apply Kd.R_drew)); exact HO216.out) hb); have n1_ := Aside0.mk (Kd.R_below (by (with_reducible repeat (first | apply Kd.R_alloc | apply Kd.R_drewN | apply Kd.R_drew)); exact HO219.out) hb); have n2_ := Aside0.mk (blk_below (k_ BK207) hb); have n3_ := Aside0.mk (below_step (b_ HB) hb); have n4_ := Aside0.mk (hbox); have n5_ := Aside0.mk ((by rw [hg]; exact (below_size (b_ HB)) : w.heap.size ≤ gb221)); have n6_ := n5_; have n7_ := Aside0.mk ((by rw [hg]; exact Nat.ne_of_lt (blk_lt (k_ BK207)) : gb207 ≠ gb221)); have n8_ := Aside0.mk ((by rw [hg]; exact Nat.ne_of_gt (blk_lt (k_ BK207)) : gb221 ≠ gb207)); clear HO216; clear HO219; clear BK207; clear HB; have HO216 := n0_; have HO219 := n1_; have BK207 := n2_; have HB := n3_; have BK221 := n4_; have GW221 := n5_; have GE221 := n6_; have NB207_221 := n7_; have NB221_207 := n8_; clear n0_ n1_ n2_ n3_ n4_ n5_ n6_ n7_ n8_; clear hb hbox hg; have hnb27 := NB221_207.out; have hnc27 := NB207_221.out; have hcz28_0 : w26.cell? ⟨gb221, 0, none⟩ = some (.int .i64 0) := (blk_cell BK221.out 0).trans rfl; have hcz28_1 : w26.cell? ⟨gb221, 1, none⟩ = some (.int .i64 0) := (blk_cell BK221.out 1).trans rfl; have hcz28_2 : w26.cell? ⟨gb221, 2, none⟩ = some (.int .i64 0) := (blk_cell BK221.out 2).trans rfl; have hcz28_3 : w26.cell? ⟨gb221, 3, none⟩ = some (.int .i64 0) := (blk_cell BK221.out 3).trans rfl; have hcz28_4 : w26.cell? ⟨gb221, 4, none⟩ = some (.slice none 0 0) := (blk_cell BK221.out 4).trans rfl; have hcz28_5 : w26.cell? ⟨gb221, 5, none⟩ = some (.slice none 0 0) := (blk_cell BK221.out 5).trans rfl; have hfz28_0 := blk_frozen BK221.out 0; have hfz28_1 := blk_frozen BK221.out 1; have hfz28_2 := blk_frozen BK221.out 2; have hfz28_3 := blk_frozen BK221.out 3; have hfz28_4 := blk_frozen BK221.out 4; have hfz28_5 := blk_frozen BK221.out 5; obtain ⟨Ao29, co29, eo29⟩ := Kd.R_slice HO216.out; subst eo29; obtain ⟨Ao30, co30, eo30⟩ := Kd.R_slice HO219.out; subst eo30) | ((with_reducible refine gate_callee (f := 14) rfl ?_); refine goesL_ (some 36) rfl rfl Try.func14 (by kernel_rfl) rfl #[.slice A0 l0.length c0, .int .i64 a2, .int .i64 a3] rfl (by (try simp only [List.map_toArray, List.map_cons, List.map_nil]); first | done | rfl | (simp only [List.length_drop, List.length_take]; rfl)) ?_; (with_reducible refine (chalklineref35_Reply.calls kj6 _ _ l0 a2 a3 t222 t223 t224 t225 t226 t229 t232 _ ?side1 ?side2 A15.out).mono ?_); (case side1 => exact Kd.C_below HR0.out (b_ HB)); (case side2 => exact HC0.out); rintro e w31 ⟨v227, v230, rfl, ho0, ho1, hb⟩; refine ⟨_, rfl, ?_⟩; have n0_ := Aside0.mk (Kd.R_elder' (by (with_reducible repeat (first | apply Kd.R_alloc | apply Kd.R_drewN | apply Kd.R_drew)); exact (Kd.R_mono (Kd.R_far (p := ⟨gb221, 5, none⟩) (Kd.R_far (p := ⟨gb221, 4, none⟩) (Kd.R_far (p := ⟨gb221, 3, none⟩) (Kd.R_far (p := ⟨gb221, 2, none⟩) (Kd.R_far (p := ⟨gb221, 1, none⟩) (Kd.R_far (p := ⟨gb221, 0, none⟩) (Kd.R_types HO216.out BK221.out (by decide)) (fun _ hk => hk.2) (.int .i64 t210)) (fun _ hk => hk.2) (.int .i64 t211)) (fun _ hk => hk.2) (.int .i64 t212)) (fun _ hk => hk.2) (.int .i64 t213)) (fun _ hk => hk.2) (.slice Ao29 t214.length co29)) (fun _ hk => hk.2) (.slice Ao30 t217.length co30)) (fun _ h_ => h_.1))) (Kd.R_base ho0) hb); have n1_ := Aside0.mk (Kd.R_elder' (by (with_reducible repeat (first | apply Kd.R_alloc | apply Kd.R_drewN | apply Kd.R_drew)); exact (Kd.R_mono (Kd.R_far (p := ⟨gb221, 5, none⟩) (Kd.R_far (p := ⟨gb221, 4, none⟩) (Kd.R_far (p := ⟨gb221, 3, none⟩) (Kd.R_far (p := ⟨gb221, 2, none⟩) (Kd.R_far (p := ⟨gb221, 1, none⟩) (Kd.R_far (p := ⟨gb221, 0, none⟩) (Kd.R_types HO219.out BK221.out (by decide)) (fun _ hk => hk.2) (.int .i64 t210)) (fun _ hk => hk.2) (.int .i64 t211)) (fun _ hk => hk.2) (.int .i64 t212)) (fun _ hk => hk.2) (.int .i64 t213)) (fun _ hk => hk.2) (.slice Ao29 t214.length co29)) (fun _ hk => hk.2) (.slice Ao30 t217.length co30)) (fun _ h_ => h_.1))) (Kd.R_base ho1) hb); have n2_ := Aside0.mk (Kd.R_lower (Kd.R_new' ho0 (Kd.R_lt (by (with_reducible repeat (first | apply Kd.R_alloc | apply Kd.R_drewN | apply Kd.R_drew)); exact (Kd.R_mono (Kd.R_far (p := ⟨gb221, 5, none⟩) (Kd.R_far (p := ⟨gb221, 4, none⟩) (Kd.R_far (p := ⟨gb221, 3, none⟩) (Kd.R_far (p := ⟨gb221, 2, none⟩) (Kd.R_far (p := ⟨gb221, 1, none⟩) (Kd.R_far (p := ⟨gb221, 0, none⟩) (Kd.R_types HO216.out BK221.out (by decide)) (fun _ hk => hk.2) (.int .i64 t210)) (fun _ hk => hk.2) (.int .i64 t211)) (fun _ hk => hk.2) (.int .i64 t212)) (fun _ hk => hk.2) (.int .i64 t213)) (fun _ hk => hk.2) (.slice Ao29 t214.length co29)) (fun _ hk => hk.2) (.slice Ao30 t217.length co30)) (fun _ h_ => h_.1))))) (below_size (b_ HB))); have n3_ := Aside0.mk (Kd.R_lower (Kd.R_new' ho1 (Kd.R_lt (by (with_reducible repeat (first | apply Kd.R_alloc | apply Kd.R_drewN | apply Kd.R_drew)); exact (Kd.R_mono (Kd.R_far (p := ⟨gb221, 5, none⟩) (Kd.R_far (p := ⟨gb221, 4, none⟩) (Kd.R_far (p := ⟨gb221, 3, none⟩) (Kd.R_far (p := ⟨gb221, 2, none⟩) (Kd.R_far (p := ⟨gb221, 1, none⟩) (Kd.R_far (p := ⟨gb221, 0, none⟩) (Kd.R_types HO219.out BK221.out (by decide)) (fun _ hk => hk.2) (.int .i64 t210)) (fun _ hk => hk.2) (.int .i64 t211)) (fun _ hk => hk.2) (.int .i64 t212)) (fun _ hk => hk.2) (.int .i64 t213)) (fun _ hk => hk.2) (.slice Ao29 t214.length co29)) (fun _ hk => hk.2) (.slice Ao30 t217.length co30)) (fun _ h_ => h_.1))))) (below_size (b_ HB))); have n4_ := Aside0.mk (blk_below (g := gb207) (o := .cells #[.int .i64 a1_0, .slice A1_1 l1_1.length c1_1] 27 (0, 0)) (by (with_reducible repeat (first | refine blk_drewN ?_ _ | refine blk_drew ?_ | refine blk_alloc ?_ _)); refine blk_far ?_ NB207_221.out _; (with_reducible repeat (first | refine blk_drewN ?_ _ | refine blk_drew ?_ | refine blk_alloc ?_ _)); refine blk_far ?_ NB207_221.out _; (with_reducible repeat (first | refine blk_drewN ?_ _ | refine blk_drew ?_ | refine blk_alloc ?_ _)); refine blk_far ?_ NB207_221.out _; (with_reducible repeat (first | refine blk_drewN ?_ _ | refine blk_drew ?_ | refine blk_alloc ?_ _)); refine blk_far ?_ NB207_221.out _; (with_reducible repeat (first | refine blk_drewN ?_ _ | refine blk_drew ?_ | refine blk_alloc ?_ _)); refine blk_far ?_ NB207_221.out _; (with_reducible repeat (first | refine blk_drewN ?_ _ | refine blk_drew ?_ | refine blk_alloc ?_ _)); refine blk_far ?_ NB207_221.out _; (with_reducible repeat (first | refine blk_drewN ?_ _ | refine blk_drew ?_ | refine blk_alloc ?_ _)); exact BK207.out) hb); have n5_ := Aside0.mk (blk_below (g := gb221) (o := .cells #[.int .i64 t210, .int .i64 t211, .int .i64 t212, .int .i64 t213, .slice Ao29 t214.length co29, .slice Ao30 t217.length co30] 32 (0, 0)) (by (with_reducible repeat (first | refine blk_drewN ?_ _ | refine blk_drew ?_ | refine blk_alloc ?_ _)); refine blk_put (cs := #[.int .i64 t210, .int .i64 t211, .int .i64 t212, .int .i64 t213, .slice Ao29 t214.length co29, .slice none 0 0]) ?_ 5 _ rfl; (with_reducible repeat (first | refine blk_drewN ?_ _ | refine blk_drew ?_ | refine blk_alloc ?_ _)); refine blk_put (cs := #[.int .i64 t210, .int .i64 t211, .int .i64 t212, .int .i64 t213, .slice none 0 0, .slice none 0 0]) ?_ 4 _ rfl; (with_reducible repeat (first | refine blk_drewN ?_ _ | refine blk_drew ?_ | refine blk_alloc ?_ _)); refine blk_put (cs := #[.int .i64 t210, .int .i64 t211, .int .i64 t212, .int .i64 0, .slice none 0 0, .slice none 0 0]) ?_ 3 _ rfl; (with_reducible repeat (first | refine blk_drewN ?_ _ | refine blk_drew ?_ | refine blk_alloc ?_ _)); refine blk_put (cs := #[.int .i64 t210, .int .i64 t211, .int .i64 0, .int .i64 0, .slice none 0 0, .slice none 0 0]) ?_ 2 _ rfl; (with_reducible repeat (first | refine blk_drewN ?_ _ | refine blk_drew ?_ | refine blk_alloc ?_ _)); refine blk_put (cs := #[.int .i64 t210, .int .i64 0, .int .i64 0, .int .i64 0, .slice none 0 0, .slice none 0 0]) ?_ 1 _ rfl; (with_reducible repeat (first | refine blk_drewN ?_ _ | refine blk_drew ?_ | refine blk_alloc ?_ _)); refine blk_put (cs := #[.int .i64 0, .int .i64 0, .int .i64 0, .int .i64 0, .slice none 0 0, .slice none 0 0]) ?_ 0 _ rfl; (with_reducible repeat (first | refine blk_drewN ?_ _ | refine blk_drew ?_ | refine blk_alloc ?_ _)); exact BK221.out) hb); have n6_ := Aside0.mk (below_step (b_ HB) hb); clear HO216; clear HO219; clear BK207; clear BK221; clear HB; have HO216 := n0_; have HO219 := n1_; have HO228 := n2_; have HO231 := n3_; have BK207 := n4_; have BK221 := n5_; have HB := n6_; clear n0_ n1_ n2_ n3_ n4_ n5_ n6_; (try clear hb); (try clear hb2); (try clear hk); (try clear hi); (try clear ho0); (try clear ho1)) | ((with_reducible refine gate_dst (N := 11) rfl ?_); (try (refine gate_guard (by rfl) ?_; dsimp only)); refine box_event ?hg (N := 11) ?hd (cs := #[.int .i64 0, .int .i64 0, .int .i64 0, .int .i64 0, .slice none 0 0, .slice none 0 0]) (t := 32) ?hr ?_; (case hd => rfl); (case hg => rfl); (case hr => first | (go_simp; done) | (go_simp; rfl)); intro gb233 hg w32 hbox hb; have n0_ := Aside0.mk (Kd.R_below (by (with_reducible repeat (first | apply Kd.R_alloc | apply Kd.R_drewN | apply Kd.R_drew)); exact HO216.out) hb); have n1_ := Aside0.mk (Kd.R_below (by (with_reducible repeat (first | apply Kd.R_alloc | apply Kd.R_drewN | apply Kd.R_drew)); exact HO219.out) hb); have n2_ := Aside0.mk (Kd.R_below (by (with_reducible repeat (first | apply Kd.R_alloc | apply Kd.R_drewN | apply Kd.R_drew)); exact HO228.out) hb); have n3_ := Aside0.mk (Kd.R_below (by (with_reducible repeat (first | apply Kd.R_alloc | apply Kd.R_drewN | apply Kd.R_drew)); exact HO231.out) hb); have n4_ := Aside0.mk (blk_below (k_ BK207) hb); have n5_ := Aside0.mk (blk_below (k_ BK221) hb); have n6_ := Aside0.mk (below_step (b_ HB) hb); have n7_ := Aside0.mk (hbox); have n8_ := Aside0.mk ((by rw [hg]; exact (below_size (b_ HB)) : w.heap.size ≤ gb233)); have n9_ := n8_; have n10_ := Aside0.mk ((by rw [hg]; exact Nat.ne_of_lt (blk_lt (k_ BK207)) : gb207 ≠ gb233)); have n11_ := Aside0.mk ((by rw [hg]; exact Nat.ne_of_gt (blk_lt (k_ BK207)) : gb233 ≠ gb207)); have n12_ := Aside0.mk ((by rw [hg]; exact Nat.ne_of_lt (blk_lt (k_ BK221)) : gb221 ≠ gb233)); have n13_ := Aside0.mk ((by rw [hg]; exact Nat.ne_of_gt (blk_lt (k_ BK221)) : gb233 ≠ gb221)); clear HO216; clear HO219; clear HO228; clear HO231; clear BK207; clear BK221; clear HB; have HO216 := n0_; have HO219 := n1_; have HO228 := n2_; have HO231 := n3_; have BK207 := n4_; have BK221 := n5_; have HB := n6_; have BK233 := n7_; have GW233 := n8_; have GE233 := n9_; have NB207_233 := n10_; have NB233_207 := n11_; have NB221_233 := n12_; have NB233_221 := n13_; clear n0_ n1_ n2_ n3_ n4_ n5_ n6_ n7_ n8_ n9_ n10_ n11_ n12_ n13_; clear hb hbox hg; have hnb33 := NB233_207.out; have hnc33 := NB207_233.out; have hnb34 := NB233_221.out; have hnc34 := NB221_233.out; have hcz35_0 : w32.cell? ⟨gb233, 0, none⟩ = some (.int .i64 0) := (blk_cell BK233.out 0).trans rfl; have hcz35_1 : w32.cell? ⟨gb233, 1, none⟩ = some (.int .i64 0) := (blk_cell BK233.out 1).trans rfl; have hcz35_2 : w32.cell? ⟨gb233, 2, none⟩ = some (.int .i64 0) := (blk_cell BK233.out 2).trans rfl; have hcz35_3 : w32.cell? ⟨gb233, 3, none⟩ = some (.int .i64 0) := (blk_cell BK233.out 3).trans rfl; have hcz35_4 : w32.cell? ⟨gb233, 4, none⟩ = some (.slice none 0 0) := (blk_cell BK233.out 4).trans rfl; have hcz35_5 : w32.cell? ⟨gb233, 5, none⟩ = some (.slice none 0 0) := (blk_cell BK233.out 5).trans rfl; have hfz35_0 := blk_frozen BK233.out 0; have hfz35_1 := blk_frozen BK233.out 1; have hfz35_2 := blk_frozen BK233.out 2; have hfz35_3 := blk_frozen BK233.out 3; have hfz35_4 := blk_frozen BK233.out 4; have hfz35_5 := blk_frozen BK233.out 5; obtain ⟨Ao36, co36, eo36⟩ := Kd.R_slice HO228.out; subst eo36; obtain ⟨Ao37, co37, eo37⟩ := Kd.R_slice HO231.out; subst eo37))
                have n0_ : Aside0 (Kd.R k60 60 ((((((w32.setCell ⟨gb233, 0, none⟩ (.int .i64 t222)).setCell ⟨gb233, 1, none⟩ (.int .i64 t223)).setCell ⟨gb233, 2, none⟩ (.int .i64 t224)).setCell ⟨gb233, 3, none⟩ (.int .i64 t225)).setCell ⟨gb233, 4, none⟩ (.slice Ao36 t226.length co36)).setCell ⟨gb233, 5, none⟩ (.slice Ao37 t229.length co37)) w.heap.size (fun k_ => some k_ ≠ (.slice Ao36 t226.length co36 : Value).ownBlock) (.slice Ao29 t214.length co29) t214) := ⟨by (with_reducible repeat (first | apply Kd.R_alloc | apply Kd.R_drewN | apply Kd.R_drew)); exact Kd.R_mono (Kd.R_far (p := ⟨gb233, 5, none⟩) (Kd.R_far (p := ⟨gb233, 4, none⟩) (Kd.R_far (p := ⟨gb233, 3, none⟩) (Kd.R_far (p := ⟨gb233, 2, none⟩) (Kd.R_far (p := ⟨gb233, 1, none⟩) (Kd.R_far (p := ⟨gb233, 0, none⟩) (Kd.R_types HO216.out BK233.out (by decide)) (fun _ hk => hk.2) (.int .i64 t222)) (fun _ hk => hk.2) (.int .i64 t223)) (fun _ hk => hk.2) (.int .i64 t224)) (fun _ hk => hk.2) (.int .i64 t225)) (fun _ hk => hk.2) (.slice Ao36 t226.length co36)) (fun _ hk => hk.2) (.slice Ao37 t229.length co37)) (fun _ hk => hk.1.2)⟩
                have n1_ : Aside0 (Kd.R k64 64 ((((((w32.setCell ⟨gb233, 0, none⟩ (.int .i64 t222)).setCell ⟨gb233, 1, none⟩ (.int .i64 t223)).setCell ⟨gb233, 2, none⟩ (.int .i64 t224)).setCell ⟨gb233, 3, none⟩ (.int .i64 t225)).setCell ⟨gb233, 4, none⟩ (.slice Ao36 t226.length co36)).setCell ⟨gb233, 5, none⟩ (.slice Ao37 t229.length co37)) w.heap.size (fun k_ => some k_ ≠ (.slice Ao37 t229.length co37 : Value).ownBlock) (.slice Ao30 t217.length co30) t217) := ⟨by (with_reducible repeat (first | apply Kd.R_alloc | apply Kd.R_drewN | apply Kd.R_drew)); exact Kd.R_mono (Kd.R_far (p := ⟨gb233, 5, none⟩) (Kd.R_far (p := ⟨gb233, 4, none⟩) (Kd.R_far (p := ⟨gb233, 3, none⟩) (Kd.R_far (p := ⟨gb233, 2, none⟩) (Kd.R_far (p := ⟨gb233, 1, none⟩) (Kd.R_far (p := ⟨gb233, 0, none⟩) (Kd.R_types HO219.out BK233.out (by decide)) (fun _ hk => hk.2) (.int .i64 t222)) (fun _ hk => hk.2) (.int .i64 t223)) (fun _ hk => hk.2) (.int .i64 t224)) (fun _ hk => hk.2) (.int .i64 t225)) (fun _ hk => hk.2) (.slice Ao36 t226.length co36)) (fun _ hk => hk.2) (.slice Ao37 t229.length co37)) (fun _ hk => hk.1.2)⟩
                have n2_ : Aside0 (Kd.R k60 60 ((((((w32.setCell ⟨gb233, 0, none⟩ (.int .i64 t222)).setCell ⟨gb233, 1, none⟩ (.int .i64 t223)).setCell ⟨gb233, 2, none⟩ (.int .i64 t224)).setCell ⟨gb233, 3, none⟩ (.int .i64 t225)).setCell ⟨gb233, 4, none⟩ (.slice Ao36 t226.length co36)).setCell ⟨gb233, 5, none⟩ (.slice Ao37 t229.length co37)) w.heap.size (fun k_ => some k_ ≠ (.slice Ao29 t214.length co29 : Value).ownBlock) (.slice Ao36 t226.length co36) t226) := ⟨by (with_reducible repeat (first | apply Kd.R_alloc | apply Kd.R_drewN | apply Kd.R_drew)); exact Kd.R_mono (Kd.R_far (p := ⟨gb233, 5, none⟩) (Kd.R_far (p := ⟨gb233, 4, none⟩) (Kd.R_far (p := ⟨gb233, 3, none⟩) (Kd.R_far (p := ⟨gb233, 2, none⟩) (Kd.R_far (p := ⟨gb233, 1, none⟩) (Kd.R_far (p := ⟨gb233, 0, none⟩) (Kd.R_types HO228.out BK233.out (by decide)) (fun _ hk => hk.2) (.int .i64 t222)) (fun _ hk => hk.2) (.int .i64 t223)) (fun _ hk => hk.2) (.int .i64 t224)) (fun _ hk => hk.2) (.int .i64 t225)) (fun _ hk => hk.2) (.slice Ao36 t226.length co36)) (fun _ hk => hk.2) (.slice Ao37 t229.length co37)) (fun _ hk => hk.1.2)⟩
                have n3_ : Aside0 (Kd.R k64 64 ((((((w32.setCell ⟨gb233, 0, none⟩ (.int .i64 t222)).setCell ⟨gb233, 1, none⟩ (.int .i64 t223)).setCell ⟨gb233, 2, none⟩ (.int .i64 t224)).setCell ⟨gb233, 3, none⟩ (.int .i64 t225)).setCell ⟨gb233, 4, none⟩ (.slice Ao36 t226.length co36)).setCell ⟨gb233, 5, none⟩ (.slice Ao37 t229.length co37)) w.heap.size (fun k_ => some k_ ≠ (.slice Ao30 t217.length co30 : Value).ownBlock) (.slice Ao37 t229.length co37) t229) := ⟨by (with_reducible repeat (first | apply Kd.R_alloc | apply Kd.R_drewN | apply Kd.R_drew)); exact Kd.R_mono (Kd.R_far (p := ⟨gb233, 5, none⟩) (Kd.R_far (p := ⟨gb233, 4, none⟩) (Kd.R_far (p := ⟨gb233, 3, none⟩) (Kd.R_far (p := ⟨gb233, 2, none⟩) (Kd.R_far (p := ⟨gb233, 1, none⟩) (Kd.R_far (p := ⟨gb233, 0, none⟩) (Kd.R_types HO231.out BK233.out (by decide)) (fun _ hk => hk.2) (.int .i64 t222)) (fun _ hk => hk.2) (.int .i64 t223)) (fun _ hk => hk.2) (.int .i64 t224)) (fun _ hk => hk.2) (.int .i64 t225)) (fun _ hk => hk.2) (.slice Ao36 t226.length co36)) (fun _ hk => hk.2) (.slice Ao37 t229.length co37)) (fun _ hk => hk.1.2)⟩
                have n4_ : Aside0 (((((((w32.setCell ⟨gb233, 0, none⟩ (.int .i64 t222)).setCell ⟨gb233, 1, none⟩ (.int .i64 t223)).setCell ⟨gb233, 2, none⟩ (.int .i64 t224)).setCell ⟨gb233, 3, none⟩ (.int .i64 t225)).setCell ⟨gb233, 4, none⟩ (.slice Ao36 t226.length co36)).setCell ⟨gb233, 5, none⟩ (.slice Ao37 t229.length co37)).heap[gb207]? = some (.cells #[.int .i64 a1_0, .slice A1_1 l1_1.length c1_1] 27 (0, 0))) := ⟨by (with_reducible repeat (first | refine blk_drewN ?_ _ | refine blk_drew ?_ | refine blk_alloc ?_ _)); refine blk_far ?_ NB207_233.out _; (with_reducible repeat (first | refine blk_drewN ?_ _ | refine blk_drew ?_ | refine blk_alloc ?_ _)); refine blk_far ?_ NB207_233.out _; (with_reducible repeat (first | refine blk_drewN ?_ _ | refine blk_drew ?_ | refine blk_alloc ?_ _)); refine blk_far ?_ NB207_233.out _; (with_reducible repeat (first | refine blk_drewN ?_ _ | refine blk_drew ?_ | refine blk_alloc ?_ _)); refine blk_far ?_ NB207_233.out _; (with_reducible repeat (first | refine blk_drewN ?_ _ | refine blk_drew ?_ | refine blk_alloc ?_ _)); refine blk_far ?_ NB207_233.out _; (with_reducible repeat (first | refine blk_drewN ?_ _ | refine blk_drew ?_ | refine blk_alloc ?_ _)); refine blk_far ?_ NB207_233.out _; (with_reducible repeat (first | refine blk_drewN ?_ _ | refine blk_drew ?_ | refine blk_alloc ?_ _)); exact BK207.out⟩
                have n5_ : Aside0 (((((((w32.setCell ⟨gb233, 0, none⟩ (.int .i64 t222)).setCell ⟨gb233, 1, none⟩ (.int .i64 t223)).setCell ⟨gb233, 2, none⟩ (.int .i64 t224)).setCell ⟨gb233, 3, none⟩ (.int .i64 t225)).setCell ⟨gb233, 4, none⟩ (.slice Ao36 t226.length co36)).setCell ⟨gb233, 5, none⟩ (.slice Ao37 t229.length co37)).heap[gb221]? = some (.cells #[.int .i64 t210, .int .i64 t211, .int .i64 t212, .int .i64 t213, .slice Ao29 t214.length co29, .slice Ao30 t217.length co30] 32 (0, 0))) := ⟨by (with_reducible repeat (first | refine blk_drewN ?_ _ | refine blk_drew ?_ | refine blk_alloc ?_ _)); refine blk_far ?_ NB221_233.out _; (with_reducible repeat (first | refine blk_drewN ?_ _ | refine blk_drew ?_ | refine blk_alloc ?_ _)); refine blk_far ?_ NB221_233.out _; (with_reducible repeat (first | refine blk_drewN ?_ _ | refine blk_drew ?_ | refine blk_alloc ?_ _)); refine blk_far ?_ NB221_233.out _; (with_reducible repeat (first | refine blk_drewN ?_ _ | refine blk_drew ?_ | refine blk_alloc ?_ _)); refine blk_far ?_ NB221_233.out _; (with_reducible repeat (first | refine blk_drewN ?_ _ | refine blk_drew ?_ | refine blk_alloc ?_ _)); refine blk_far ?_ NB221_233.out _; (with_reducible repeat (first | refine blk_drewN ?_ _ | refine blk_drew ?_ | refine blk_alloc ?_ _)); refine blk_far ?_ NB221_233.out _; (with_reducible repeat (first | refine blk_drewN ?_ _ | refine blk_drew ?_ | refine blk_alloc ?_ _)); exact BK221.out⟩
                have n6_ : Aside0 (((((((w32.setCell ⟨gb233, 0, none⟩ (.int .i64 t222)).setCell ⟨gb233, 1, none⟩ (.int .i64 t223)).setCell ⟨gb233, 2, none⟩ (.int .i64 t224)).setCell ⟨gb233, 3, none⟩ (.int .i64 t225)).setCell ⟨gb233, 4, none⟩ (.slice Ao36 t226.length co36)).setCell ⟨gb233, 5, none⟩ (.slice Ao37 t229.length co37)).heap[gb233]? = some (.cells #[.int .i64 t222, .int .i64 t223, .int .i64 t224, .int .i64 t225, .slice Ao36 t226.length co36, .slice Ao37 t229.length co37] 32 (0, 0))) := ⟨by (with_reducible repeat (first | refine blk_drewN ?_ _ | refine blk_drew ?_ | refine blk_alloc ?_ _)); refine blk_put (cs := #[.int .i64 t222, .int .i64 t223, .int .i64 t224, .int .i64 t225, .slice Ao36 t226.length co36, .slice none 0 0]) ?_ 5 _ rfl; (with_reducible repeat (first | refine blk_drewN ?_ _ | refine blk_drew ?_ | refine blk_alloc ?_ _)); refine blk_put (cs := #[.int .i64 t222, .int .i64 t223, .int .i64 t224, .int .i64 t225, .slice none 0 0, .slice none 0 0]) ?_ 4 _ rfl; (with_reducible repeat (first | refine blk_drewN ?_ _ | refine blk_drew ?_ | refine blk_alloc ?_ _)); refine blk_put (cs := #[.int .i64 t222, .int .i64 t223, .int .i64 t224, .int .i64 0, .slice none 0 0, .slice none 0 0]) ?_ 3 _ rfl; (with_reducible repeat (first | refine blk_drewN ?_ _ | refine blk_drew ?_ | refine blk_alloc ?_ _)); refine blk_put (cs := #[.int .i64 t222, .int .i64 t223, .int .i64 0, .int .i64 0, .slice none 0 0, .slice none 0 0]) ?_ 2 _ rfl; (with_reducible repeat (first | refine blk_drewN ?_ _ | refine blk_drew ?_ | refine blk_alloc ?_ _)); refine blk_put (cs := #[.int .i64 t222, .int .i64 0, .int .i64 0, .int .i64 0, .slice none 0 0, .slice none 0 0]) ?_ 1 _ rfl; (with_reducible repeat (first | refine blk_drewN ?_ _ | refine blk_drew ?_ | refine blk_alloc ?_ _)); refine blk_put (cs := #[.int .i64 0, .int .i64 0, .int .i64 0, .int .i64 0, .slice none 0 0, .slice none 0 0]) ?_ 0 _ rfl; (with_reducible repeat (first | refine blk_drewN ?_ _ | refine blk_drew ?_ | refine blk_alloc ?_ _)); exact BK233.out⟩
                have n7_ : Aside0 (Below w.heap.size w ((((((w32.setCell ⟨gb233, 0, none⟩ (.int .i64 t222)).setCell ⟨gb233, 1, none⟩ (.int .i64 t223)).setCell ⟨gb233, 2, none⟩ (.int .i64 t224)).setCell ⟨gb233, 3, none⟩ (.int .i64 t225)).setCell ⟨gb233, 4, none⟩ (.slice Ao36 t226.length co36)).setCell ⟨gb233, 5, none⟩ (.slice Ao37 t229.length co37))) := ⟨b_ HB⟩
                (try clear HO216)
                (try clear HO219)
                (try clear HO228)
                (try clear HO231)
                (try clear BK207)
                (try clear BK221)
                (try clear BK233)
                (try clear HB)
                generalize ((((((w32.setCell ⟨gb233, 0, none⟩ (.int .i64 t222)).setCell ⟨gb233, 1, none⟩ (.int .i64 t223)).setCell ⟨gb233, 2, none⟩ (.int .i64 t224)).setCell ⟨gb233, 3, none⟩ (.int .i64 t225)).setCell ⟨gb233, 4, none⟩ (.slice Ao36 t226.length co36)).setCell ⟨gb233, 5, none⟩ (.slice Ao37 t229.length co37)) = w38 at n0_ n1_ n2_ n3_ n4_ n5_ n6_ n7_ ⊢
                have HO216 := n0_
                have HO219 := n1_
                have HO228 := n2_
                have HO231 := n3_
                have BK207 := n4_
                have BK221 := n5_
                have BK233 := n6_
                have HB := n7_
                clear n0_ n1_ n2_ n3_ n4_ n5_ n6_ n7_
                have n0_ := Aside0.mk (Kd.R_drew HO216.out)
                have n1_ := Aside0.mk (Kd.R_drew HO219.out)
                have n2_ := Aside0.mk (Kd.R_drew HO228.out)
                have n3_ := Aside0.mk (Kd.R_drew HO231.out)
                have n4_ := Aside0.mk (blk_drew BK207.out)
                have n5_ := Aside0.mk (blk_drew BK221.out)
                have n6_ := Aside0.mk (blk_drew BK233.out)
                have n7_ := Aside0.mk (below_drew1 HB.out)
                clear HO216
                clear HO219
                clear HO228
                clear HO231
                clear BK207
                clear BK221
                clear BK233
                clear HB
                have HO216 := n0_
                have HO219 := n1_
                have HO228 := n2_
                have HO231 := n3_
                have BK207 := n4_
                have BK221 := n5_
                have BK233 := n6_
                have HB := n7_
                clear n0_ n1_ n2_ n3_ n4_ n5_ n6_ n7_
                refine start_ (n := 25) (S := fun w' => w'.cell? ⟨gb221, 0, none⟩ = some (.int .i64 t210) ∧ w'.cell? ⟨gb221, 1, none⟩ = some (.int .i64 t211) ∧ w'.cell? ⟨gb221, 2, none⟩ = some (.int .i64 t212) ∧ w'.cell? ⟨gb221, 3, none⟩ = some (.int .i64 t213) ∧ w'.cell? ⟨gb221, 4, none⟩ = some (.slice Ao29 t214.length co29) ∧ w'.cell? ⟨gb221, 5, none⟩ = some (.slice Ao30 t217.length co30) ∧ w'.cell? ⟨gb233, 0, none⟩ = some (.int .i64 t222) ∧ w'.cell? ⟨gb233, 1, none⟩ = some (.int .i64 t223) ∧ w'.cell? ⟨gb233, 2, none⟩ = some (.int .i64 t224) ∧ w'.cell? ⟨gb233, 3, none⟩ = some (.int .i64 t225) ∧ w'.cell? ⟨gb233, 4, none⟩ = some (.slice Ao36 t226.length co36) ∧ w'.cell? ⟨gb233, 5, none⟩ = some (.slice Ao37 t229.length co37) ∧ w'.cell? ⟨gb207, 0, none⟩ = some (.int .i64 a1_0) ∧ w'.cell? ⟨gb207, 1, none⟩ = some (.slice A1_1 l1_1.length c1_1)) (ds := []) #[false, false, false, false, false, false, false, false, false, false, false, false, false, false, false, false, false, false, false, false, false, false, false, false, false] (by kernel_rfl) rfl rfl ⟨(blk_cell BK221.out 0).trans rfl, (blk_cell BK221.out 1).trans rfl, (blk_cell BK221.out 2).trans rfl, (blk_cell BK221.out 3).trans rfl, (blk_cell BK221.out 4).trans rfl, (blk_cell BK221.out 5).trans rfl, (blk_cell BK233.out 0).trans rfl, (blk_cell BK233.out 1).trans rfl, (blk_cell BK233.out 2).trans rfl, (blk_cell BK233.out 3).trans rfl, (blk_cell BK233.out 4).trans rfl, (blk_cell BK233.out 5).trans rfl, (blk_cell BK207.out 0).trans rfl, (blk_cell BK207.out 1).trans rfl⟩ (fun hHeld => ?_); refine with_tabW chalklinelaw35_FeedReplies.tab7 chalklinelaw35_FeedReplies.bits7 (fun HT_ HW_ => ?_)
                generalize w38.drew = w39 at HO216 HO219 HO228 HO231 BK207 BK221 BK233 HB hHeld ⊢
                refine take_ (i := 0) (N := some 39) (v := ?_) (a' := ?_) #[true, false, false, false, false, false, false, false, false, false, false, false, false, false, false, false, false, false, false, false, false, false, false, false, false] rfl rfl (take_ofW HT_.out HW_.out (by kernel_rfl)) (fun _ _ _ h => h) (Or.inl ⟨by rfl, ?_⟩) hHeld ?_ ?_
                rotate_left
                · rintro w' ⟨s0, s1, s2, s3, s4, s5, s6, s7, s8, s9, s10, s11, s12, s13⟩
                  go_simp
                  with_reducible rfl
                rotate_left
                · simp only [Act.put, List.setIfInBounds_toArray, List.set_cons_zero, List.set_cons_succ, i64_w, i32_w]
                  rfl
                refine take_ (i := 1) (N := some 40) (v := ?_) (a' := ?_) #[true, true, false, false, false, false, false, false, false, false, false, false, false, false, false, false, false, false, false, false, false, false, false, false, false] rfl rfl (take_ofW HT_.out HW_.out (by kernel_rfl)) (fun _ _ _ h => h) (Or.inl ⟨by rfl, ?_⟩) hHeld ?_ ?_
                rotate_left
                · rintro w' ⟨s0, s1, s2, s3, s4, s5, s6, s7, s8, s9, s10, s11, s12, s13⟩
                  go_simp
                  with_reducible rfl
                rotate_left
                · simp only [Act.put, List.setIfInBounds_toArray, List.set_cons_zero, List.set_cons_succ, i64_w, i32_w]
                  rfl
                refine one_ (i := 2) (N := some 41) #[true, true, true, false, false, false, false, false, false, false, false, false, false, false, false, false, false, false, false, false, false, false, false, false, false] rfl rfl (one_of HT_.out (by kernel_rfl)) (by decide) (fun K hK => ?_)
                refine goes_ Try.func15 (by kernel_rfl) rfl #[.agg #[.int .i64 t210, .int .i64 t211, .int .i64 t212, .int .i64 t213, .slice Ao29 t214.length co29, .slice Ao30 t217.length co30], .agg #[.int .i64 t222, .int .i64 t223, .int .i64 t224, .int .i64 t225, .slice Ao36 t226.length co36, .slice Ao37 t229.length co37]] (by rfl) rfl rfl (by (try simp only [List.map_toArray, List.map_cons, List.map_nil]); first | done | rfl | (simp only [List.length_drop, List.length_take]; rfl)) ?_
                with_reducible refine (chalklineref35_Msgs.calls kj6 t210 t211 t212 t213 _ _ t214 _ _ t217 t222 t223 t224 t225 _ _ t226 _ _ t229 true _ ?side1 ?side2 ?side3 ?side4 ?side5 ?side6 ?side7 ?side8 A16.out).mono ?_
                (case side1 => repeat (first | exact (Kd.R_reads' HO216.out).2.2 | (with_reducible refine Kd.C_alloc ?_ _) | (with_reducible refine Kd.C_drewN ?_ _) | (with_reducible refine Kd.C_drew ?_)))
                (case side2 => exact (Kd.R_reads' HO216.out).2.1)
                (case side3 => repeat (first | exact (Kd.R_reads' HO219.out).2.2 | (with_reducible refine Kd.C_alloc ?_ _) | (with_reducible refine Kd.C_drewN ?_ _) | (with_reducible refine Kd.C_drew ?_)))
                (case side4 => exact (Kd.R_reads' HO219.out).2.1)
                (case side5 => repeat (first | exact (Kd.R_reads' HO228.out).2.2 | (with_reducible refine Kd.C_alloc ?_ _) | (with_reducible refine Kd.C_drewN ?_ _) | (with_reducible refine Kd.C_drew ?_)))
                (case side6 => exact (Kd.R_reads' HO228.out).2.1)
                (case side7 => repeat (first | exact (Kd.R_reads' HO231.out).2.2 | (with_reducible refine Kd.C_alloc ?_ _) | (with_reducible refine Kd.C_drewN ?_ _) | (with_reducible refine Kd.C_drew ?_)))
                (case side8 => exact (Kd.R_reads' HO231.out).2.1)
                rintro e w40 ⟨rfl, hb⟩
                refine ⟨_, rfl, ?_⟩
                have n0_ := Aside0.mk (Kd.R_below (by (with_reducible repeat (first | apply Kd.R_alloc | apply Kd.R_drewN | apply Kd.R_drew)); exact HO216.out) hb)
                have n1_ := Aside0.mk (Kd.R_below (by (with_reducible repeat (first | apply Kd.R_alloc | apply Kd.R_drewN | apply Kd.R_drew)); exact HO219.out) hb)
                have n2_ := Aside0.mk (Kd.R_below (by (with_reducible repeat (first | apply Kd.R_alloc | apply Kd.R_drewN | apply Kd.R_drew)); exact HO228.out) hb)
                have n3_ := Aside0.mk (Kd.R_below (by (with_reducible repeat (first | apply Kd.R_alloc | apply Kd.R_drewN | apply Kd.R_drew)); exact HO231.out) hb)
                have n4_ := Aside0.mk (blk_below (k_ BK207) hb)
                have n5_ := Aside0.mk (blk_below (k_ BK221) hb)
                have n6_ := Aside0.mk (blk_below (k_ BK233) hb)
                have n7_ := Aside0.mk (below_step (b_ HB) hb)
                clear HO216
                clear HO219
                clear HO228
                clear HO231
                clear BK207
                clear BK221
                clear BK233
                clear HB
                have HO216 := n0_
                have HO219 := n1_
                have HO228 := n2_
                have HO231 := n3_
                have BK207 := n4_
                have BK221 := n5_
                have BK233 := n6_
                have HB := n7_
                clear n0_ n1_ n2_ n3_ n4_ n5_ n6_ n7_
                (try clear hb)
                (try clear hb2)
                (try clear hk)
                (try clear hi)
                refine hK.out _ _ ⟨(blk_cell BK221.out 0).trans rfl, (blk_cell BK221.out 1).trans rfl, (blk_cell BK221.out 2).trans rfl, (blk_cell BK221.out 3).trans rfl, (blk_cell BK221.out 4).trans rfl, (blk_cell BK221.out 5).trans rfl, (blk_cell BK233.out 0).trans rfl, (blk_cell BK233.out 1).trans rfl, (blk_cell BK233.out 2).trans rfl, (blk_cell BK233.out 3).trans rfl, (blk_cell BK233.out 4).trans rfl, (blk_cell BK233.out 5).trans rfl, (blk_cell BK207.out 0).trans rfl, (blk_cell BK207.out 1).trans rfl⟩ (fun hHeld => ?_)
                clear hK K
                refine norm_ (a' := ?_) ?_ ?_
                rotate_left
                · show Act.put _ (some 41) _ = _
                  simp only [Act.put, List.setIfInBounds_toArray, List.set_cons_zero, List.set_cons_succ, i64_w, i32_w]
                  rfl
                refine pure_ (i := 3) (N := some 42) (v := ?_) (a' := ?_) #[true, true, true, true, false, false, false, false, false, false, false, false, false, false, false, false, false, false, false, false, false, false, false, false, false] rfl rfl (any_of HT_.out (by kernel_rfl)) (fun _ _ _ h => h) (Or.inl ⟨by rfl, ?_⟩) ?_ ?_
                rotate_left
                · intro w'
                  go_simp
                  with_reducible rfl
                rotate_left
                · simp only [Act.put, List.setIfInBounds_toArray, List.set_cons_zero, List.set_cons_succ, i64_w, i32_w]
                  rfl
                refine pure_ (i := 4) (N := some 43) (v := ?_) (a' := ?_) #[true, true, true, true, true, false, false, false, false, false, false, false, false, false, false, false, false, false, false, false, false, false, false, false, false] rfl rfl (any_of HT_.out (by kernel_rfl)) (fun _ _ _ h => h) (Or.inl ⟨by rfl, ?_⟩) ?_ ?_
                rotate_left
                · intro w'
                  go_simp
                  with_reducible rfl
                rotate_left
                · simp only [Act.put, List.setIfInBounds_toArray, List.set_cons_zero, List.set_cons_succ, i64_w, i32_w]
                  rfl
                refine pure_ (i := 5) (N := some 44) (v := ?_) (a' := ?_) #[true, true, true, true, true, true, false, false, false, false, false, false, false, false, false, false, false, false, false, false, false, false, false, false, false] rfl rfl (any_of HT_.out (by kernel_rfl)) (fun _ _ _ h => h) (Or.inl ⟨by rfl, ?_⟩) ?_ ?_
                rotate_left
                · intro w'
                  go_simp
                  with_reducible rfl
                rotate_left
                · simp only [Act.put, List.setIfInBounds_toArray, List.set_cons_zero, List.set_cons_succ, i64_w, i32_w]
                  rfl
                refine pure_ (i := 6) (N := some 45) (v := ?_) (a' := ?_) #[true, true, true, true, true, true, true, false, false, false, false, false, false, false, false, false, false, false, false, false, false, false, false, false, false] rfl rfl (any_of HT_.out (by kernel_rfl)) (fun _ _ _ h => h) (Or.inl ⟨by rfl, ?_⟩) ?_ ?_
                rotate_left
                · intro w'
                  go_simp
                  with_reducible rfl
                rotate_left
                · simp only [Act.put, List.setIfInBounds_toArray, List.set_cons_zero, List.set_cons_succ, i64_w, i32_w]
                  rfl
                refine pure_ (i := 7) (N := some 46) (v := ?_) (a' := ?_) #[true, true, true, true, true, true, true, true, false, false, false, false, false, false, false, false, false, false, false, false, false, false, false, false, false] rfl rfl (any_of HT_.out (by kernel_rfl)) (fun _ _ _ h => h) (Or.inl ⟨by rfl, ?_⟩) ?_ ?_
                rotate_left
                · intro w'
                  go_simp
                  with_reducible rfl
                rotate_left
                · simp only [Act.put, List.setIfInBounds_toArray, List.set_cons_zero, List.set_cons_succ, i64_w, i32_w]
                  rfl
                refine pure_ (i := 8) (N := some 47) (v := ?_) (a' := ?_) #[true, true, true, true, true, true, true, true, true, false, false, false, false, false, false, false, false, false, false, false, false, false, false, false, false] rfl rfl (any_of HT_.out (by kernel_rfl)) (fun _ _ _ h => h) (Or.inl ⟨by rfl, ?_⟩) ?_ ?_
                rotate_left
                · intro w'
                  go_simp
                  with_reducible rfl
                rotate_left
                · simp only [Act.put, List.setIfInBounds_toArray, List.set_cons_zero, List.set_cons_succ, i64_w, i32_w]
                  rfl
                refine pure_ (i := 9) (N := some 48) (v := ?_) (a' := ?_) #[true, true, true, true, true, true, true, true, true, true, false, false, false, false, false, false, false, false, false, false, false, false, false, false, false] rfl rfl (any_of HT_.out (by kernel_rfl)) (fun _ _ _ h => h) (Or.inl ⟨by rfl, ?_⟩) ?_ ?_
                rotate_left
                · intro w'
                  go_simp
                  with_reducible rfl
                rotate_left
                · simp only [Act.put, List.setIfInBounds_toArray, List.set_cons_zero, List.set_cons_succ, i64_w, i32_w]
                  rfl
                refine pure_ (i := 11) (N := some 50) (v := ?_) (a' := ?_) #[true, true, true, true, true, true, true, true, true, true, false, true, false, false, false, false, false, false, false, false, false, false, false, false, false] rfl rfl (any_of HT_.out (by kernel_rfl)) (fun _ _ _ h => h) (Or.inl ⟨by rfl, ?_⟩) ?_ ?_
                rotate_left
                · intro w'
                  go_simp
                  with_reducible rfl
                rotate_left
                · simp only [Act.put, List.setIfInBounds_toArray, List.set_cons_zero, List.set_cons_succ, i64_w, i32_w]
                  rfl
                refine one_ (i := 10) (N := some 49) #[true, true, true, true, true, true, true, true, true, true, true, true, false, false, false, false, false, false, false, false, false, false, false, false, false] rfl rfl (one_of HT_.out (by kernel_rfl)) (by decide) (fun K hK => ?_)
                refine goes_ Try.func16 (by kernel_rfl) rfl #[.slice A0 l0.length c0] (by rfl) rfl rfl (by (try simp only [List.map_toArray, List.map_cons, List.map_nil]); first | done | rfl | (simp only [List.length_drop, List.length_take]; rfl)) ?_
                with_reducible refine (feed_Check.calls kj6 _ _ l0 t235 _ ?side1 ?side2 A19.out).mono ?_
                (case side1 => repeat (first | exact (Kd.C_below HR0.out HB.out) | (with_reducible refine Kd.C_alloc ?_ _) | (with_reducible refine Kd.C_drewN ?_ _) | (with_reducible refine Kd.C_drew ?_)))
                (case side2 => exact HC0.out)
                rintro e w41 ⟨rfl, hb⟩
                refine ⟨_, rfl, ?_⟩
                have n0_ := Aside0.mk (Kd.R_below (by (with_reducible repeat (first | apply Kd.R_alloc | apply Kd.R_drewN | apply Kd.R_drew)); exact HO216.out) hb)
                have n1_ := Aside0.mk (Kd.R_below (by (with_reducible repeat (first | apply Kd.R_alloc | apply Kd.R_drewN | apply Kd.R_drew)); exact HO219.out) hb)
                have n2_ := Aside0.mk (Kd.R_below (by (with_reducible repeat (first | apply Kd.R_alloc | apply Kd.R_drewN | apply Kd.R_drew)); exact HO228.out) hb)
                have n3_ := Aside0.mk (Kd.R_below (by (with_reducible repeat (first | apply Kd.R_alloc | apply Kd.R_drewN | apply Kd.R_drew)); exact HO231.out) hb)
                have n4_ := Aside0.mk (blk_below (k_ BK207) hb)
                have n5_ := Aside0.mk (blk_below (k_ BK221) hb)
                have n6_ := Aside0.mk (blk_below (k_ BK233) hb)
                have n7_ := Aside0.mk (below_step (b_ HB) hb)
                clear HO216
                clear HO219
                clear HO228
                clear HO231
                clear BK207
                clear BK221
                clear BK233
                clear HB
                have HO216 := n0_
                have HO219 := n1_
                have HO228 := n2_
                have HO231 := n3_
                have BK207 := n4_
                have BK221 := n5_
                have BK233 := n6_
                have HB := n7_
                clear n0_ n1_ n2_ n3_ n4_ n5_ n6_ n7_
                (try clear hb)
                (try clear hb2)
                (try clear hk)
                (try clear hi)
                refine hK.out _ _ ⟨(blk_cell BK221.out 0).trans rfl, (blk_cell BK221.out 1).trans rfl, (blk_cell BK221.out 2).trans rfl, (blk_cell BK221.out 3).trans rfl, (blk_cell BK221.out 4).trans rfl, (blk_cell BK221.out 5).trans rfl, (blk_cell BK233.out 0).trans rfl, (blk_cell BK233.out 1).trans rfl, (blk_cell BK233.out 2).trans rfl, (blk_cell BK233.out 3).trans rfl, (blk_cell BK233.out 4).trans rfl, (blk_cell BK233.out 5).trans rfl, (blk_cell BK207.out 0).trans rfl, (blk_cell BK207.out 1).trans rfl⟩ (fun hHeld => ?_)
                clear hK K
                refine norm_ (a' := ?_) ?_ ?_
                rotate_left
                · show Act.put _ (some 49) _ = _
                  simp only [Act.put, List.setIfInBounds_toArray, List.set_cons_zero, List.set_cons_succ, i64_w, i32_w]
                  rfl
                refine one_ (i := 12) (N := some 51) #[true, true, true, true, true, true, true, true, true, true, true, true, true, false, false, false, false, false, false, false, false, false, false, false, false] rfl rfl (one_of HT_.out (by kernel_rfl)) (by decide) (fun K hK => ?_)
                refine goes_ Try.func17 (by kernel_rfl) rfl #[.slice A0 l0.length c0] (by rfl) rfl rfl (by (try simp only [List.map_toArray, List.map_cons, List.map_nil]); first | done | rfl | (simp only [List.length_drop, List.length_take]; rfl)) ?_
                with_reducible refine (chalklineref35_Check.calls kj6 _ _ l0 t236 _ ?side1 ?side2 A20.out).mono ?_
                (case side1 => repeat (first | exact (Kd.C_below HR0.out HB.out) | (with_reducible refine Kd.C_alloc ?_ _) | (with_reducible refine Kd.C_drewN ?_ _) | (with_reducible refine Kd.C_drew ?_)))
                (case side2 => exact HC0.out)
                rintro e w42 ⟨rfl, hb⟩
                refine ⟨_, rfl, ?_⟩
                have n0_ := Aside0.mk (Kd.R_below (by (with_reducible repeat (first | apply Kd.R_alloc | apply Kd.R_drewN | apply Kd.R_drew)); exact HO216.out) hb)
                have n1_ := Aside0.mk (Kd.R_below (by (with_reducible repeat (first | apply Kd.R_alloc | apply Kd.R_drewN | apply Kd.R_drew)); exact HO219.out) hb)
                have n2_ := Aside0.mk (Kd.R_below (by (with_reducible repeat (first | apply Kd.R_alloc | apply Kd.R_drewN | apply Kd.R_drew)); exact HO228.out) hb)
                have n3_ := Aside0.mk (Kd.R_below (by (with_reducible repeat (first | apply Kd.R_alloc | apply Kd.R_drewN | apply Kd.R_drew)); exact HO231.out) hb)
                have n4_ := Aside0.mk (blk_below (k_ BK207) hb)
                have n5_ := Aside0.mk (blk_below (k_ BK221) hb)
                have n6_ := Aside0.mk (blk_below (k_ BK233) hb)
                have n7_ := Aside0.mk (below_step (b_ HB) hb)
                clear HO216
                clear HO219
                clear HO228
                clear HO231
                clear BK207
                clear BK221
                clear BK233
                clear HB
                have HO216 := n0_
                have HO219 := n1_
                have HO228 := n2_
                have HO231 := n3_
                have BK207 := n4_
                have BK221 := n5_
                have BK233 := n6_
                have HB := n7_
                clear n0_ n1_ n2_ n3_ n4_ n5_ n6_ n7_
                (try clear hb)
                (try clear hb2)
                (try clear hk)
                (try clear hi)
                refine hK.out _ _ ⟨(blk_cell BK221.out 0).trans rfl, (blk_cell BK221.out 1).trans rfl, (blk_cell BK221.out 2).trans rfl, (blk_cell BK221.out 3).trans rfl, (blk_cell BK221.out 4).trans rfl, (blk_cell BK221.out 5).trans rfl, (blk_cell BK233.out 0).trans rfl, (blk_cell BK233.out 1).trans rfl, (blk_cell BK233.out 2).trans rfl, (blk_cell BK233.out 3).trans rfl, (blk_cell BK233.out 4).trans rfl, (blk_cell BK233.out 5).trans rfl, (blk_cell BK207.out 0).trans rfl, (blk_cell BK207.out 1).trans rfl⟩ (fun hHeld => ?_)
                clear hK K
                refine norm_ (a' := ?_) ?_ ?_
                rotate_left
                · show Act.put _ (some 51) _ = _
                  simp only [Act.put, List.setIfInBounds_toArray, List.set_cons_zero, List.set_cons_succ, i64_w, i32_w]
                  rfl
                refine pure_ (i := 13) (N := some 52) (v := ?_) (a' := ?_) #[true, true, true, true, true, true, true, true, true, true, true, true, true, true, false, false, false, false, false, false, false, false, false, false, false] rfl rfl (any_of HT_.out (by kernel_rfl)) (fun _ _ _ h => h) (Or.inl ⟨by rfl, ?_⟩) ?_ ?_
                rotate_left
                · intro w'
                  go_simp
                  with_reducible rfl
                rotate_left
                · simp only [Act.put, List.setIfInBounds_toArray, List.set_cons_zero, List.set_cons_succ, i64_w, i32_w]
                  rfl
                refine pure_ (i := 14) (N := some 53) (v := ?_) (a' := ?_) #[true, true, true, true, true, true, true, true, true, true, true, true, true, true, true, false, false, false, false, false, false, false, false, false, false] rfl rfl (any_of HT_.out (by kernel_rfl)) (fun _ _ _ h => h) (Or.inl ⟨by rfl, ?_⟩) ?_ ?_
                rotate_left
                · intro w'
                  go_simp
                  with_reducible rfl
                rotate_left
                · simp only [Act.put, List.setIfInBounds_toArray, List.set_cons_zero, List.set_cons_succ, i64_w, i32_w]
                  rfl
                refine pure_ (i := 15) (N := some 54) (v := ?_) (a' := ?_) #[true, true, true, true, true, true, true, true, true, true, true, true, true, true, true, true, false, false, false, false, false, false, false, false, false] rfl rfl (any_of HT_.out (by kernel_rfl)) (fun _ _ _ h => h) (Or.inl ⟨by rfl, ?_⟩) ?_ ?_
                rotate_left
                · intro w'
                  go_simp
                  with_reducible rfl
                rotate_left
                · simp only [Act.put, List.setIfInBounds_toArray, List.set_cons_zero, List.set_cons_succ, i64_w, i32_w]
                  rfl
                refine pure_ (i := 17) (N := some 56) (v := ?_) (a' := ?_) #[true, true, true, true, true, true, true, true, true, true, true, true, true, true, true, true, false, true, false, false, false, false, false, false, false] rfl rfl (any_of HT_.out (by kernel_rfl)) (fun _ _ _ h => h) (Or.inl ⟨by rfl, ?_⟩) ?_ ?_
                rotate_left
                · intro w'
                  go_simp
                  with_reducible rfl
                rotate_left
                · simp only [Act.put, List.setIfInBounds_toArray, List.set_cons_zero, List.set_cons_succ, i64_w, i32_w]
                  rfl
                refine pure_ (i := 20) (N := some 59) (v := ?_) (a' := ?_) #[true, true, true, true, true, true, true, true, true, true, true, true, true, true, true, true, false, true, false, false, true, false, false, false, false] rfl rfl (any_of HT_.out (by kernel_rfl)) (fun _ _ _ h => h) (Or.inl ⟨by rfl, ?_⟩) ?_ ?_
                rotate_left
                · intro w'
                  go_simp
                  with_reducible rfl
                rotate_left
                · simp only [Act.put, List.setIfInBounds_toArray, List.set_cons_zero, List.set_cons_succ, i64_w, i32_w]
                  rfl
                refine take_ (i := 16) (N := some 55) (v := ?_) (a' := ?_) #[true, true, true, true, true, true, true, true, true, true, true, true, true, true, true, true, true, true, false, false, true, false, false, false, false] rfl rfl (take_ofW HT_.out HW_.out (by kernel_rfl)) (fun _ _ _ h => h) (Or.inl ⟨by rfl, ?_⟩) hHeld ?_ ?_
                rotate_left
                · rintro w' ⟨s0, s1, s2, s3, s4, s5, s6, s7, s8, s9, s10, s11, s12, s13⟩
                  go_simp
                  with_reducible rfl
                rotate_left
                · simp only [Act.put, List.setIfInBounds_toArray, List.set_cons_zero, List.set_cons_succ, i64_w, i32_w]
                  rfl
                refine take_ (i := 19) (N := some 58) (v := ?_) (a' := ?_) #[true, true, true, true, true, true, true, true, true, true, true, true, true, true, true, true, true, true, false, true, true, false, false, false, false] rfl rfl (take_ofW HT_.out HW_.out (by kernel_rfl)) (fun _ _ _ h => h) (Or.inl ⟨by rfl, ?_⟩) hHeld ?_ ?_
                rotate_left
                · rintro w' ⟨s0, s1, s2, s3, s4, s5, s6, s7, s8, s9, s10, s11, s12, s13⟩
                  go_simp
                  with_reducible rfl
                rotate_left
                · simp only [Act.put, List.setIfInBounds_toArray, List.set_cons_zero, List.set_cons_succ, i64_w, i32_w]
                  rfl
                refine one_ (i := 18) (N := some 57) #[true, true, true, true, true, true, true, true, true, true, true, true, true, true, true, true, true, true, true, true, true, false, false, false, false] rfl rfl (one_of HT_.out (by kernel_rfl)) (by decide) (fun K hK => ?_)
                refine goes_ Try.func18 (by kernel_rfl) rfl #[.agg #[.int .i64 a1_0, .slice A1_1 l1_1.length c1_1], .int .i64 a3] (by rfl) rfl rfl (by (try simp only [List.map_toArray, List.map_cons, List.map_nil]); first | done | rfl | (simp only [List.length_drop, List.length_take]; rfl)) ?_
                with_reducible refine (feed_Wish.calls a1_0 _ _ l1_1 a3 t237 t238 t239 t240 t241 t244 _ ?side1 ?side2 A22.out).mono ?_
                (case side1 => repeat (first | exact (Kd.C_below HR1_1.out HB.out) | (with_reducible refine Kd.C_alloc ?_ _) | (with_reducible refine Kd.C_drewN ?_ _) | (with_reducible refine Kd.C_drew ?_)))
                (case side2 => exact HC1_1.out)
                rintro e w43 ⟨v242, v245, rfl, ho0, ho1, hb⟩
                refine ⟨_, rfl, ?_⟩
                have n0_ := Aside0.mk (Kd.R_elder' (by (with_reducible repeat (first | apply Kd.R_alloc | apply Kd.R_drewN | apply Kd.R_drew)); exact HO216.out) (Kd.R_base ho0) hb)
                have n1_ := Aside0.mk (Kd.R_elder' (by (with_reducible repeat (first | apply Kd.R_alloc | apply Kd.R_drewN | apply Kd.R_drew)); exact HO219.out) (Kd.R_base ho1) hb)
                have n2_ := Aside0.mk (Kd.R_elder' (by (with_reducible repeat (first | apply Kd.R_alloc | apply Kd.R_drewN | apply Kd.R_drew)); exact HO228.out) (Kd.R_base ho0) hb)
                have n3_ := Aside0.mk (Kd.R_elder' (by (with_reducible repeat (first | apply Kd.R_alloc | apply Kd.R_drewN | apply Kd.R_drew)); exact HO231.out) (Kd.R_base ho1) hb)
                have n4_ := Aside0.mk (Kd.R_lower (Kd.R_new' (Kd.R_new' ho0 (Kd.R_lt (by (with_reducible repeat (first | apply Kd.R_alloc | apply Kd.R_drewN | apply Kd.R_drew)); exact HO216.out))) (Kd.R_lt (by (with_reducible repeat (first | apply Kd.R_alloc | apply Kd.R_drewN | apply Kd.R_drew)); exact HO228.out))) (below_size (b_ HB)))
                have n5_ := Aside0.mk (Kd.R_lower (Kd.R_new' (Kd.R_new' ho1 (Kd.R_lt (by (with_reducible repeat (first | apply Kd.R_alloc | apply Kd.R_drewN | apply Kd.R_drew)); exact HO219.out))) (Kd.R_lt (by (with_reducible repeat (first | apply Kd.R_alloc | apply Kd.R_drewN | apply Kd.R_drew)); exact HO231.out))) (below_size (b_ HB)))
                have n6_ := Aside0.mk (blk_below (k_ BK207) hb)
                have n7_ := Aside0.mk (blk_below (k_ BK221) hb)
                have n8_ := Aside0.mk (blk_below (k_ BK233) hb)
                have n9_ := Aside0.mk (below_step (b_ HB) hb)
                clear HO216
                clear HO219
                clear HO228
                clear HO231
                clear BK207
                clear BK221
                clear BK233
                clear HB
                have HO216 := n0_
                have HO219 := n1_
                have HO228 := n2_
                have HO231 := n3_
                have HO243 := n4_
                have HO246 := n5_
                have BK207 := n6_
                have BK221 := n7_
                have BK233 := n8_
                have HB := n9_
                clear n0_ n1_ n2_ n3_ n4_ n5_ n6_ n7_ n8_ n9_
                (try clear hb)
                (try clear hb2)
                (try clear hk)
                (try clear hi)
                (try clear ho0)
                (try clear ho1)
                refine hK.out _ _ ⟨(blk_cell BK221.out 0).trans rfl, (blk_cell BK221.out 1).trans rfl, (blk_cell BK221.out 2).trans rfl, (blk_cell BK221.out 3).trans rfl, (blk_cell BK221.out 4).trans rfl, (blk_cell BK221.out 5).trans rfl, (blk_cell BK233.out 0).trans rfl, (blk_cell BK233.out 1).trans rfl, (blk_cell BK233.out 2).trans rfl, (blk_cell BK233.out 3).trans rfl, (blk_cell BK233.out 4).trans rfl, (blk_cell BK233.out 5).trans rfl, (blk_cell BK207.out 0).trans rfl, (blk_cell BK207.out 1).trans rfl⟩ (fun hHeld => ?_)
                clear hK K
                refine norm_ (a' := ?_) ?_ ?_
                rotate_left
                · show Act.put _ (some 57) _ = _
                  simp only [Act.put, List.setIfInBounds_toArray, List.set_cons_zero, List.set_cons_succ, i64_w, i32_w]
                  rfl
                refine one_ (i := 21) (N := some 60) #[true, true, true, true, true, true, true, true, true, true, true, true, true, true, true, true, true, true, true, true, true, true, false, false, false] rfl rfl (one_of HT_.out (by kernel_rfl)) (by decide) (fun K hK => ?_)
                refine goes_ Try.func19 (by kernel_rfl) rfl #[.agg #[.int .i64 a1_0, .slice A1_1 l1_1.length c1_1], .int .i64 a3] (by rfl) rfl rfl (by (try simp only [List.map_toArray, List.map_cons, List.map_nil]); first | done | rfl | (simp only [List.length_drop, List.length_take]; rfl)) ?_
                with_reducible refine (chalklineref35_Wish.calls a1_0 _ _ l1_1 a3 t247 t248 t249 t250 t251 t254 _ ?side1 ?side2 A23.out).mono ?_
                (case side1 => repeat (first | exact (Kd.C_below HR1_1.out HB.out) | (with_reducible refine Kd.C_alloc ?_ _) | (with_reducible refine Kd.C_drewN ?_ _) | (with_reducible refine Kd.C_drew ?_)))
                (case side2 => exact HC1_1.out)
                rintro e w44 ⟨v252, v255, rfl, ho0, ho1, hb⟩
                refine ⟨_, rfl, ?_⟩
                have n0_ := Aside0.mk (Kd.R_elder' (by (with_reducible repeat (first | apply Kd.R_alloc | apply Kd.R_drewN | apply Kd.R_drew)); exact HO216.out) (Kd.R_base ho0) hb)
                have n1_ := Aside0.mk (Kd.R_elder' (by (with_reducible repeat (first | apply Kd.R_alloc | apply Kd.R_drewN | apply Kd.R_drew)); exact HO219.out) (Kd.R_base ho1) hb)
                have n2_ := Aside0.mk (Kd.R_elder' (by (with_reducible repeat (first | apply Kd.R_alloc | apply Kd.R_drewN | apply Kd.R_drew)); exact HO228.out) (Kd.R_base ho0) hb)
                have n3_ := Aside0.mk (Kd.R_elder' (by (with_reducible repeat (first | apply Kd.R_alloc | apply Kd.R_drewN | apply Kd.R_drew)); exact HO231.out) (Kd.R_base ho1) hb)
                have n4_ := Aside0.mk (Kd.R_elder' (by (with_reducible repeat (first | apply Kd.R_alloc | apply Kd.R_drewN | apply Kd.R_drew)); exact HO243.out) (Kd.R_base ho0) hb)
                have n5_ := Aside0.mk (Kd.R_elder' (by (with_reducible repeat (first | apply Kd.R_alloc | apply Kd.R_drewN | apply Kd.R_drew)); exact HO246.out) (Kd.R_base ho1) hb)
                have n6_ := Aside0.mk (Kd.R_lower (Kd.R_new' (Kd.R_new' (Kd.R_new' ho0 (Kd.R_lt (by (with_reducible repeat (first | apply Kd.R_alloc | apply Kd.R_drewN | apply Kd.R_drew)); exact HO216.out))) (Kd.R_lt (by (with_reducible repeat (first | apply Kd.R_alloc | apply Kd.R_drewN | apply Kd.R_drew)); exact HO228.out))) (Kd.R_lt (by (with_reducible repeat (first | apply Kd.R_alloc | apply Kd.R_drewN | apply Kd.R_drew)); exact HO243.out))) (below_size (b_ HB)))
                have n7_ := Aside0.mk (Kd.R_lower (Kd.R_new' (Kd.R_new' (Kd.R_new' ho1 (Kd.R_lt (by (with_reducible repeat (first | apply Kd.R_alloc | apply Kd.R_drewN | apply Kd.R_drew)); exact HO219.out))) (Kd.R_lt (by (with_reducible repeat (first | apply Kd.R_alloc | apply Kd.R_drewN | apply Kd.R_drew)); exact HO231.out))) (Kd.R_lt (by (with_reducible repeat (first | apply Kd.R_alloc | apply Kd.R_drewN | apply Kd.R_drew)); exact HO246.out))) (below_size (b_ HB)))
                have n8_ := Aside0.mk (blk_below (k_ BK207) hb)
                have n9_ := Aside0.mk (blk_below (k_ BK221) hb)
                have n10_ := Aside0.mk (blk_below (k_ BK233) hb)
                have n11_ := Aside0.mk (below_step (b_ HB) hb)
                clear HO216
                clear HO219
                clear HO228
                clear HO231
                clear HO243
                clear HO246
                clear BK207
                clear BK221
                clear BK233
                clear HB
                have HO216 := n0_
                have HO219 := n1_
                have HO228 := n2_
                have HO231 := n3_
                have HO243 := n4_
                have HO246 := n5_
                have HO253 := n6_
                have HO256 := n7_
                have BK207 := n8_
                have BK221 := n9_
                have BK233 := n10_
                have HB := n11_
                clear n0_ n1_ n2_ n3_ n4_ n5_ n6_ n7_ n8_ n9_ n10_ n11_
                (try clear hb)
                (try clear hb2)
                (try clear hk)
                (try clear hi)
                (try clear ho0)
                (try clear ho1)
                obtain ⟨Ao45, co45, eo45⟩ := Kd.R_slice HO243.out
                (first | subst eo45 | (injection eo45 with f1_ f2_ f3_; have f4_ := f1_.symm; have f5_ := f3_.symm; clear f1_ f2_ f3_; subst f4_; subst f5_))
                obtain ⟨Ao46, co46, eo46⟩ := Kd.R_slice HO246.out
                (first | subst eo46 | (injection eo46 with f1_ f2_ f3_; have f4_ := f1_.symm; have f5_ := f3_.symm; clear f1_ f2_ f3_; subst f4_; subst f5_))
                obtain ⟨Ao47, co47, eo47⟩ := Kd.R_slice HO253.out
                (first | subst eo47 | (injection eo47 with f1_ f2_ f3_; have f4_ := f1_.symm; have f5_ := f3_.symm; clear f1_ f2_ f3_; subst f4_; subst f5_))
                obtain ⟨Ao48, co48, eo48⟩ := Kd.R_slice HO256.out
                (first | subst eo48 | (injection eo48 with f1_ f2_ f3_; have f4_ := f1_.symm; have f5_ := f3_.symm; clear f1_ f2_ f3_; subst f4_; subst f5_))
                refine hK.out _ _ ⟨(blk_cell BK221.out 0).trans rfl, (blk_cell BK221.out 1).trans rfl, (blk_cell BK221.out 2).trans rfl, (blk_cell BK221.out 3).trans rfl, (blk_cell BK221.out 4).trans rfl, (blk_cell BK221.out 5).trans rfl, (blk_cell BK233.out 0).trans rfl, (blk_cell BK233.out 1).trans rfl, (blk_cell BK233.out 2).trans rfl, (blk_cell BK233.out 3).trans rfl, (blk_cell BK233.out 4).trans rfl, (blk_cell BK233.out 5).trans rfl, (blk_cell BK207.out 0).trans rfl, (blk_cell BK207.out 1).trans rfl⟩ (fun hHeld => ?_)
                clear hK K
                refine norm_ (a' := ?_) ?_ ?_
                rotate_left
                · show Act.put _ (some 60) _ = _
                  simp only [Act.put, List.setIfInBounds_toArray, List.set_cons_zero, List.set_cons_succ, i64_w, i32_w]
                  rfl
                refine one_ (i := 22) (N := some 61) #[true, true, true, true, true, true, true, true, true, true, true, true, true, true, true, true, true, true, true, true, true, true, true, false, false] rfl rfl (one_of HT_.out (by kernel_rfl)) (by decide) (fun K hK => ?_)
                refine goes_ Try.func15 (by kernel_rfl) rfl #[.agg #[.int .i64 t237, .int .i64 t238, .int .i64 t239, .int .i64 t240, .slice Ao45 t241.length co45, .slice Ao46 t244.length co46], .agg #[.int .i64 t247, .int .i64 t248, .int .i64 t249, .int .i64 t250, .slice Ao47 t251.length co47, .slice Ao48 t254.length co48]] (by rfl) rfl rfl (by (try simp only [List.map_toArray, List.map_cons, List.map_nil]); first | done | rfl | (simp only [List.length_drop, List.length_take]; rfl)) ?_
                with_reducible refine (chalklineref35_Msgs.calls kj6 t237 t238 t239 t240 _ _ t241 _ _ t244 t247 t248 t249 t250 _ _ t251 _ _ t254 t257 _ ?side1 ?side2 ?side3 ?side4 ?side5 ?side6 ?side7 ?side8 A24.out).mono ?_
                (case side1 => repeat (first | exact (Kd.R_reads' HO243.out).2.2 | (with_reducible refine Kd.C_alloc ?_ _) | (with_reducible refine Kd.C_drewN ?_ _) | (with_reducible refine Kd.C_drew ?_)))
                (case side2 => exact (Kd.R_reads' HO243.out).2.1)
                (case side3 => repeat (first | exact (Kd.R_reads' HO246.out).2.2 | (with_reducible refine Kd.C_alloc ?_ _) | (with_reducible refine Kd.C_drewN ?_ _) | (with_reducible refine Kd.C_drew ?_)))
                (case side4 => exact (Kd.R_reads' HO246.out).2.1)
                (case side5 => repeat (first | exact (Kd.R_reads' HO253.out).2.2 | (with_reducible refine Kd.C_alloc ?_ _) | (with_reducible refine Kd.C_drewN ?_ _) | (with_reducible refine Kd.C_drew ?_)))
                (case side6 => exact (Kd.R_reads' HO253.out).2.1)
                (case side7 => repeat (first | exact (Kd.R_reads' HO256.out).2.2 | (with_reducible refine Kd.C_alloc ?_ _) | (with_reducible refine Kd.C_drewN ?_ _) | (with_reducible refine Kd.C_drew ?_)))
                (case side8 => exact (Kd.R_reads' HO256.out).2.1)
                rintro e w49 ⟨rfl, hb⟩
                refine ⟨_, rfl, ?_⟩
                have n0_ := Aside0.mk (Kd.R_below (by (with_reducible repeat (first | apply Kd.R_alloc | apply Kd.R_drewN | apply Kd.R_drew)); exact HO216.out) hb)
                have n1_ := Aside0.mk (Kd.R_below (by (with_reducible repeat (first | apply Kd.R_alloc | apply Kd.R_drewN | apply Kd.R_drew)); exact HO219.out) hb)
                have n2_ := Aside0.mk (Kd.R_below (by (with_reducible repeat (first | apply Kd.R_alloc | apply Kd.R_drewN | apply Kd.R_drew)); exact HO228.out) hb)
                have n3_ := Aside0.mk (Kd.R_below (by (with_reducible repeat (first | apply Kd.R_alloc | apply Kd.R_drewN | apply Kd.R_drew)); exact HO231.out) hb)
                have n4_ := Aside0.mk (Kd.R_below (by (with_reducible repeat (first | apply Kd.R_alloc | apply Kd.R_drewN | apply Kd.R_drew)); exact HO243.out) hb)
                have n5_ := Aside0.mk (Kd.R_below (by (with_reducible repeat (first | apply Kd.R_alloc | apply Kd.R_drewN | apply Kd.R_drew)); exact HO246.out) hb)
                have n6_ := Aside0.mk (Kd.R_below (by (with_reducible repeat (first | apply Kd.R_alloc | apply Kd.R_drewN | apply Kd.R_drew)); exact HO253.out) hb)
                have n7_ := Aside0.mk (Kd.R_below (by (with_reducible repeat (first | apply Kd.R_alloc | apply Kd.R_drewN | apply Kd.R_drew)); exact HO256.out) hb)
                have n8_ := Aside0.mk (blk_below (k_ BK207) hb)
                have n9_ := Aside0.mk (blk_below (k_ BK221) hb)
                have n10_ := Aside0.mk (blk_below (k_ BK233) hb)
                have n11_ := Aside0.mk (below_step (b_ HB) hb)
                clear HO216
                clear HO219
                clear HO228
                clear HO231
                clear HO243
                clear HO246
                clear HO253
                clear HO256
                clear BK207
                clear BK221
                clear BK233
                clear HB
                have HO216 := n0_
                have HO219 := n1_
                have HO228 := n2_
                have HO231 := n3_
                have HO243 := n4_
                have HO246 := n5_
                have HO253 := n6_
                have HO256 := n7_
                have BK207 := n8_
                have BK221 := n9_
                have BK233 := n10_
                have HB := n11_
                clear n0_ n1_ n2_ n3_ n4_ n5_ n6_ n7_ n8_ n9_ n10_ n11_
                (try clear hb)
                (try clear hb2)
                (try clear hk)
                (try clear hi)
                refine hK.out _ _ ⟨(blk_cell BK221.out 0).trans rfl, (blk_cell BK221.out 1).trans rfl, (blk_cell BK221.out 2).trans rfl, (blk_cell BK221.out 3).trans rfl, (blk_cell BK221.out 4).trans rfl, (blk_cell BK221.out 5).trans rfl, (blk_cell BK233.out 0).trans rfl, (blk_cell BK233.out 1).trans rfl, (blk_cell BK233.out 2).trans rfl, (blk_cell BK233.out 3).trans rfl, (blk_cell BK233.out 4).trans rfl, (blk_cell BK233.out 5).trans rfl, (blk_cell BK207.out 0).trans rfl, (blk_cell BK207.out 1).trans rfl⟩ (fun hHeld => ?_)
                clear hK K
                refine norm_ (a' := ?_) ?_ ?_
                rotate_left
                · show Act.put _ (some 61) _ = _
                  simp only [Act.put, List.setIfInBounds_toArray, List.set_cons_zero, List.set_cons_succ, i64_w, i32_w]
                  rfl
                refine pure_ (i := 23) (N := some 62) (v := ?_) (a' := ?_) #[true, true, true, true, true, true, true, true, true, true, true, true, true, true, true, true, true, true, true, true, true, true, true, true, false] rfl rfl (any_of HT_.out (by kernel_rfl)) (fun _ _ _ h => h) (Or.inl ⟨by rfl, ?_⟩) ?_ ?_
                rotate_left
                · intro w'
                  go_simp
                  with_reducible rfl
                rotate_left
                · simp only [Act.put, List.setIfInBounds_toArray, List.set_cons_zero, List.set_cons_succ, i64_w, i32_w]
                  rfl
                refine pure_ (i := 24) (N := some 8) (v := ?_) (a' := ?_) #[true, true, true, true, true, true, true, true, true, true, true, true, true, true, true, true, true, true, true, true, true, true, true, true, true] rfl rfl (any_of HT_.out (by kernel_rfl)) (fun _ _ _ h => h) (Or.inl ⟨by rfl, ?_⟩) ?_ ?_
                rotate_left
                · intro w'
                  go_simp
                  with_reducible rfl
                rotate_left
                · simp only [Act.put, List.setIfInBounds_toArray, List.set_cons_zero, List.set_cons_succ, i64_w, i32_w]
                  rfl
                refine done_ (done_of HT_.out (by kernel_rfl)) ?_
                try go_wp2
                go_ret
                exact ⟨by first | rfl | (simp [errW_none, errW_some] <;> rfl) | (simp [*, errW_none, errW_some] <;> rfl), b_ HB⟩
              · rw [if_neg c21] at H
                have c21b0 : (t235 == t236) = false := beq_eq_false_iff_ne.mpr c21
                have c21b1 : (t235 != t236) = true := bne_iff_ne.mpr c21
                obtain rfl := Option.some.inj H
                try go_wp2_with (first | ((with_reducible refine gate_callee (f := 13) rfl ?_); refine goesL_ (some 29) rfl rfl Try.func13 (by kernel_rfl) rfl #[.slice A0 l0.length c0, .int .i64 a2, .int .i64 a3] rfl (by (try simp only [List.map_toArray, List.map_cons, List.map_nil]); first | done | rfl | (simp only [List.length_drop, List.length_take]; rfl)) ?_; (with_reducible refine (feed_Reply.calls kj6 _ _ l0 a2 a3 t210 t211 t212 t213 t214 t217 t220 _ ?side1 ?side2 A14.out).mono ?_); (case side1 => repeat (first | exact (Kd.C_below HR0.out HB.out) | (with_reducible refine Kd.C_alloc ?_ _) | (with_reducible refine Kd.C_drewN ?_ _) | (with_reducible refine Kd.C_drew ?_))); (case side2 => exact HC0.out); rintro e w50 ⟨v215, v218, rfl, ho0, ho1, hb⟩; refine ⟨_, rfl, ?_⟩; have n0_ := Aside0.mk (Kd.R_lower ho0 (below_size (b_ HB))); have n1_ := Aside0.mk (Kd.R_lower ho1 (below_size (b_ HB))); have n2_ := Aside0.mk (blk_below (k_ BK207) hb); have n3_ := Aside0.mk (below_step (b_ HB) hb); clear BK207; clear HB; have HO216 := n0_; have HO219 := n1_; have BK207 := n2_; have HB := n3_; clear n0_ n1_ n2_ n3_; (try clear hb); (try clear hb2); (try clear hk); (try clear hi); (try clear ho0); (try clear ho1)) | ((with_reducible refine gate_dst (N := 9) rfl ?_); (try (refine gate_guard (by rfl) ?_; dsimp only)); refine box_event ?hg (N := 9) ?hd (cs := #[.int .i64 0, .int .i64 0, .int .i64 0, .int .i64 0, .slice none 0 0, .slice none 0 0]) (t := 32) ?hr ?_; (case hd => rfl); (case hg => rfl); (case hr => first | (go_simp; done) | (go_simp; rfl)); intro gb221 hg w51 hbox hb; have n0_ := Aside0.mk (Kd.R_below (by (with_reducible repeat (first | apply Kd.R_alloc | apply Kd.R_drewN | apply Kd.R_drew)); exact HO216.out) hb); have n1_ := Aside0.mk (Kd.R_below (by (with_reducible repeat (first | apply Kd.R_alloc | apply Kd.R_drewN | apply Kd.R_drew)); exact HO219.out) hb); have n2_ := Aside0.mk (blk_below (k_ BK207) hb); have n3_ := Aside0.mk (below_step (b_ HB) hb); have n4_ := Aside0.mk (hbox); have n5_ := Aside0.mk ((by rw [hg]; exact (below_size (b_ HB)) : w.heap.size ≤ gb221)); have n6_ := n5_; have n7_ := Aside0.mk ((by rw [hg]; exact Nat.ne_of_lt (blk_lt (k_ BK207)) : gb207 ≠ gb221)); have n8_ := Aside0.mk ((by rw [hg]; exact Nat.ne_of_gt (blk_lt (k_ BK207)) : gb221 ≠ gb207)); clear HO216; clear HO219; clear BK207; clear HB; have HO216 := n0_; have HO219 := n1_; have BK207 := n2_; have HB := n3_; have BK221 := n4_; have GW221 := n5_; have GE221 := n6_; have NB207_221 := n7_; have NB221_207 := n8_; clear n0_ n1_ n2_ n3_ n4_ n5_ n6_ n7_ n8_; clear hb hbox hg; have hnb52 := NB221_207.out; have hnc52 := NB207_221.out; have hcz53_0 : w51.cell? ⟨gb221, 0, none⟩ = some (.int .i64 0) := (blk_cell BK221.out 0).trans rfl; have hcz53_1 : w51.cell? ⟨gb221, 1, none⟩ = some (.int .i64 0) := (blk_cell BK221.out 1).trans rfl; have hcz53_2 : w51.cell? ⟨gb221, 2, none⟩ = some (.int .i64 0) := (blk_cell BK221.out 2).trans rfl; have hcz53_3 : w51.cell? ⟨gb221, 3, none⟩ = some (.int .i64 0) := (blk_cell BK221.out 3).trans rfl; have hcz53_4 : w51.cell? ⟨gb221, 4, none⟩ = some (.slice none 0 0) := (blk_cell BK221.out 4).trans rfl; have hcz53_5 : w51.cell? ⟨gb221, 5, none⟩ = some (.slice none 0 0) := (blk_cell BK221.out 5).trans rfl; have hfz53_0 := blk_frozen BK221.out 0; have hfz53_1 := blk_frozen BK221.out 1; have hfz53_2 := blk_frozen BK221.out 2; have hfz53_3 := blk_frozen BK221.out 3; have hfz53_4 := blk_frozen BK221.out 4; have hfz53_5 := blk_frozen BK221.out 5; obtain ⟨Ao54, co54, eo54⟩ := Kd.R_slice HO216.out; subst eo54; obtain ⟨Ao55, co55, eo55⟩ := Kd.R_slice HO219.out; subst eo55) | ((with_reducible refine gate_callee (f := 14) rfl ?_); refine goesL_ (some 36) rfl rfl Try.func14 (by kernel_rfl) rfl #[.slice A0 l0.length c0, .int .i64 a2, .int .i64 a3] rfl (by (try simp only [List.map_toArray, List.map_cons, List.map_nil]); first | done | rfl | (simp only [List.length_drop, List.length_take]; rfl)) ?_; (with_reducible refine (chalklineref35_Reply.calls kj6 _ _ l0 a2 a3 t222 t223 t224 t225 t226 t229 t232 _ ?side1 ?side2 A15.out).mono ?_); (case side1 => exact Kd.C_below HR0.out (b_ HB)); (case side2 => exact HC0.out); rintro e w56 ⟨v227, v230, rfl, ho0, ho1, hb⟩; refine ⟨_, rfl, ?_⟩; have n0_ := Aside0.mk (Kd.R_elder' (by (with_reducible repeat (first | apply Kd.R_alloc | apply Kd.R_drewN | apply Kd.R_drew)); exact (Kd.R_mono (Kd.R_far (p := ⟨gb221, 5, none⟩) (Kd.R_far (p := ⟨gb221, 4, none⟩) (Kd.R_far (p := ⟨gb221, 3, none⟩) (Kd.R_far (p := ⟨gb221, 2, none⟩) (Kd.R_far (p := ⟨gb221, 1, none⟩) (Kd.R_far (p := ⟨gb221, 0, none⟩) (Kd.R_types HO216.out BK221.out (by decide)) (fun _ hk => hk.2) (.int .i64 t210)) (fun _ hk => hk.2) (.int .i64 t211)) (fun _ hk => hk.2) (.int .i64 t212)) (fun _ hk => hk.2) (.int .i64 t213)) (fun _ hk => hk.2) (.slice Ao54 t214.length co54)) (fun _ hk => hk.2) (.slice Ao55 t217.length co55)) (fun _ h_ => h_.1))) (Kd.R_base ho0) hb); have n1_ := Aside0.mk (Kd.R_elder' (by (with_reducible repeat (first | apply Kd.R_alloc | apply Kd.R_drewN | apply Kd.R_drew)); exact (Kd.R_mono (Kd.R_far (p := ⟨gb221, 5, none⟩) (Kd.R_far (p := ⟨gb221, 4, none⟩) (Kd.R_far (p := ⟨gb221, 3, none⟩) (Kd.R_far (p := ⟨gb221, 2, none⟩) (Kd.R_far (p := ⟨gb221, 1, none⟩) (Kd.R_far (p := ⟨gb221, 0, none⟩) (Kd.R_types HO219.out BK221.out (by decide)) (fun _ hk => hk.2) (.int .i64 t210)) (fun _ hk => hk.2) (.int .i64 t211)) (fun _ hk => hk.2) (.int .i64 t212)) (fun _ hk => hk.2) (.int .i64 t213)) (fun _ hk => hk.2) (.slice Ao54 t214.length co54)) (fun _ hk => hk.2) (.slice Ao55 t217.length co55)) (fun _ h_ => h_.1))) (Kd.R_base ho1) hb); have n2_ := Aside0.mk (Kd.R_lower (Kd.R_new' ho0 (Kd.R_lt (by (with_reducible repeat (first | apply Kd.R_alloc | apply Kd.R_drewN | apply Kd.R_drew)); exact (Kd.R_mono (Kd.R_far (p := ⟨gb221, 5, none⟩) (Kd.R_far (p := ⟨gb221, 4, none⟩) (Kd.R_far (p := ⟨gb221, 3, none⟩) (Kd.R_far (p := ⟨gb221, 2, none⟩) (Kd.R_far (p := ⟨gb221, 1, none⟩) (Kd.R_far (p := ⟨gb221, 0, none⟩) (Kd.R_types HO216.out BK221.out (by decide)) (fun _ hk => hk.2) (.int .i64 t210)) (fun _ hk => hk.2) (.int .i64 t211)) (fun _ hk => hk.2) (.int .i64 t212)) (fun _ hk => hk.2) (.int .i64 t213)) (fun _ hk => hk.2) (.slice Ao54 t214.length co54)) (fun _ hk => hk.2) (.slice Ao55 t217.length co55)) (fun _ h_ => h_.1))))) (below_size (b_ HB))); have n3_ := Aside0.mk (Kd.R_lower (Kd.R_new' ho1 (Kd.R_lt (by (with_reducible repeat (first | apply Kd.R_alloc | apply Kd.R_drewN | apply Kd.R_drew)); exact (Kd.R_mono (Kd.R_far (p := ⟨gb221, 5, none⟩) (Kd.R_far (p := ⟨gb221, 4, none⟩) (Kd.R_far (p := ⟨gb221, 3, none⟩) (Kd.R_far (p := ⟨gb221, 2, none⟩) (Kd.R_far (p := ⟨gb221, 1, none⟩) (Kd.R_far (p := ⟨gb221, 0, none⟩) (Kd.R_types HO219.out BK221.out (by decide)) (fun _ hk => hk.2) (.int .i64 t210)) (fun _ hk => hk.2) (.int .i64 t211)) (fun _ hk => hk.2) (.int .i64 t212)) (fun _ hk => hk.2) (.int .i64 t213)) (fun _ hk => hk.2) (.slice Ao54 t214.length co54)) (fun _ hk => hk.2) (.slice Ao55 t217.length co55)) (fun _ h_ => h_.1))))) (below_size (b_ HB))); have n4_ := Aside0.mk (blk_below (g := gb207) (o := .cells #[.int .i64 a1_0, .slice A1_1 l1_1.length c1_1] 27 (0, 0)) (by (with_reducible repeat (first | refine blk_drewN ?_ _ | refine blk_drew ?_ | refine blk_alloc ?_ _)); refine blk_far ?_ NB207_221.out _; (with_reducible repeat (first | refine blk_drewN ?_ _ | refine blk_drew ?_ | refine blk_alloc ?_ _)); refine blk_far ?_ NB207_221.out _; (with_reducible repeat (first | refine blk_drewN ?_ _ | refine blk_drew ?_ | refine blk_alloc ?_ _)); refine blk_far ?_ NB207_221.out _; (with_reducible repeat (first | refine blk_drewN ?_ _ | refine blk_drew ?_ | refine blk_alloc ?_ _)); refine blk_far ?_ NB207_221.out _; (with_reducible repeat (first | refine blk_drewN ?_ _ | refine blk_drew ?_ | refine blk_alloc ?_ _)); refine blk_far ?_ NB207_221.out _; (with_reducible repeat (first | refine blk_drewN ?_ _ | refine blk_drew ?_ | refine blk_alloc ?_ _)); refine blk_far ?_ NB207_221.out _; (with_reducible repeat (first | refine blk_drewN ?_ _ | refine blk_drew ?_ | refine blk_alloc ?_ _)); exact BK207.out) hb); have n5_ := Aside0.mk (blk_below (g := gb221) (o := .cells #[.int .i64 t210, .int .i64 t211, .int .i64 t212, .int .i64 t213, .slice Ao54 t214.length co54, .slice Ao55 t217.length co55] 32 (0, 0)) (by (with_reducible repeat (first | refine blk_drewN ?_ _ | refine blk_drew ?_ | refine blk_alloc ?_ _)); refine blk_put (cs := #[.int .i64 t210, .int .i64 t211, .int .i64 t212, .int .i64 t213, .slice Ao54 t214.length co54, .slice none 0 0]) ?_ 5 _ rfl; (with_reducible repeat (first | refine blk_drewN ?_ _ | refine blk_drew ?_ | refine blk_alloc ?_ _)); refine blk_put (cs := #[.int .i64 t210, .int .i64 t211, .int .i64 t212, .int .i64 t213, .slice none 0 0, .slice none 0 0]) ?_ 4 _ rfl; (with_reducible repeat (first | refine blk_drewN ?_ _ | refine blk_drew ?_ | refine blk_alloc ?_ _)); refine blk_put (cs := #[.int .i64 t210, .int .i64 t211, .int .i64 t212, .int .i64 0, .slice none 0 0, .slice none 0 0]) ?_ 3 _ rfl; (with_reducible repeat (first | refine blk_drewN ?_ _ | refine blk_drew ?_ | refine blk_alloc ?_ _)); refine blk_put (cs := #[.int .i64 t210, .int .i64 t211, .int .i64 0, .int .i64 0, .slice none 0 0, .slice none 0 0]) ?_ 2 _ rfl; (with_reducible repeat (first | refine blk_drewN ?_ _ | refine blk_drew ?_ | refine blk_alloc ?_ _)); refine blk_put (cs := #[.int .i64 t210, .int .i64 0, .int .i64 0, .int .i64 0, .slice none 0 0, .slice none 0 0]) ?_ 1 _ rfl; (with_reducible repeat (first | refine blk_drewN ?_ _ | refine blk_drew ?_ | refine blk_alloc ?_ _)); refine blk_put (cs := #[.int .i64 0, .int .i64 0, .int .i64 0, .int .i64 0, .slice none 0 0, .slice none 0 0]) ?_ 0 _ rfl; (with_reducible repeat (first | refine blk_drewN ?_ _ | refine blk_drew ?_ | refine blk_alloc ?_ _)); exact BK221.out) hb); have n6_ := Aside0.mk (below_step (b_ HB) hb); clear HO216; clear HO219; clear BK207; clear BK221; clear HB; have HO216 := n0_; have HO219 := n1_; have HO228 := n2_; have HO231 := n3_; have BK207 := n4_; have BK221 := n5_; have HB := n6_; clear n0_ n1_ n2_ n3_ n4_ n5_ n6_; (try clear hb); (try clear hb2); (try clear hk); (try clear hi); (try clear ho0); (try clear ho1)) | ((with_reducible refine gate_dst (N := 11) rfl ?_); (try (refine gate_guard (by rfl) ?_; dsimp only)); refine box_event ?hg (N := 11) ?hd (cs := #[.int .i64 0, .int .i64 0, .int .i64 0, .int .i64 0, .slice none 0 0, .slice none 0 0]) (t := 32) ?hr ?_; (case hd => rfl); (case hg => rfl); (case hr => first | (go_simp; done) | (go_simp; rfl)); intro gb233 hg w57 hbox hb; have n0_ := Aside0.mk (Kd.R_below (by (with_reducible repeat (first | apply Kd.R_alloc | apply Kd.R_drewN | apply Kd.R_drew)); exact HO216.out) hb); have n1_ := Aside0.mk (Kd.R_below (by (with_reducible repeat (first | apply Kd.R_alloc | apply Kd.R_drewN | apply Kd.R_drew)); exact HO219.out) hb); have n2_ := Aside0.mk (Kd.R_below (by (with_reducible repeat (first | apply Kd.R_alloc | apply Kd.R_drewN | apply Kd.R_drew)); exact HO228.out) hb); have n3_ := Aside0.mk (Kd.R_below (by (with_reducible repeat (first | apply Kd.R_alloc | apply Kd.R_drewN | apply Kd.R_drew)); exact HO231.out) hb); have n4_ := Aside0.mk (blk_below (k_ BK207) hb); have n5_ := Aside0.mk (blk_below (k_ BK221) hb); have n6_ := Aside0.mk (below_step (b_ HB) hb); have n7_ := Aside0.mk (hbox); have n8_ := Aside0.mk ((by rw [hg]; exact (below_size (b_ HB)) : w.heap.size ≤ gb233)); have n9_ := n8_; have n10_ := Aside0.mk ((by rw [hg]; exact Nat.ne_of_lt (blk_lt (k_ BK207)) : gb207 ≠ gb233)); have n11_ := Aside0.mk ((by rw [hg]; exact Nat.ne_of_gt (blk_lt (k_ BK207)) : gb233 ≠ gb207)); have n12_ := Aside0.mk ((by rw [hg]; exact Nat.ne_of_lt (blk_lt (k_ BK221)) : gb221 ≠ gb233)); have n13_ := Aside0.mk ((by rw [hg]; exact Nat.ne_of_gt (blk_lt (k_ BK221)) : gb233 ≠ gb221)); clear HO216; clear HO219; clear HO228; clear HO231; clear BK207; clear BK221; clear HB; have HO216 := n0_; have HO219 := n1_; have HO228 := n2_; have HO231 := n3_; have BK207 := n4_; have BK221 := n5_; have HB := n6_; have BK233 := n7_; have GW233 := n8_; have GE233 := n9_; have NB207_233 := n10_; have NB233_207 := n11_; have NB221_233 := n12_; have NB233_221 := n13_; clear n0_ n1_ n2_ n3_ n4_ n5_ n6_ n7_ n8_ n9_ n10_ n11_ n12_ n13_; clear hb hbox hg; have hnb58 := NB233_207.out; have hnc58 := NB207_233.out; have hnb59 := NB233_221.out; have hnc59 := NB221_233.out; have hcz60_0 : w57.cell? ⟨gb233, 0, none⟩ = some (.int .i64 0) := (blk_cell BK233.out 0).trans rfl; have hcz60_1 : w57.cell? ⟨gb233, 1, none⟩ = some (.int .i64 0) := (blk_cell BK233.out 1).trans rfl; have hcz60_2 : w57.cell? ⟨gb233, 2, none⟩ = some (.int .i64 0) := (blk_cell BK233.out 2).trans rfl; have hcz60_3 : w57.cell? ⟨gb233, 3, none⟩ = some (.int .i64 0) := (blk_cell BK233.out 3).trans rfl; have hcz60_4 : w57.cell? ⟨gb233, 4, none⟩ = some (.slice none 0 0) := (blk_cell BK233.out 4).trans rfl; have hcz60_5 : w57.cell? ⟨gb233, 5, none⟩ = some (.slice none 0 0) := (blk_cell BK233.out 5).trans rfl; have hfz60_0 := blk_frozen BK233.out 0; have hfz60_1 := blk_frozen BK233.out 1; have hfz60_2 := blk_frozen BK233.out 2; have hfz60_3 := blk_frozen BK233.out 3; have hfz60_4 := blk_frozen BK233.out 4; have hfz60_5 := blk_frozen BK233.out 5; obtain ⟨Ao61, co61, eo61⟩ := Kd.R_slice HO228.out; subst eo61; obtain ⟨Ao62, co62, eo62⟩ := Kd.R_slice HO231.out; subst eo62))
                have n0_ : Aside0 (Kd.R k60 60 ((((((w57.setCell ⟨gb233, 0, none⟩ (.int .i64 t222)).setCell ⟨gb233, 1, none⟩ (.int .i64 t223)).setCell ⟨gb233, 2, none⟩ (.int .i64 t224)).setCell ⟨gb233, 3, none⟩ (.int .i64 t225)).setCell ⟨gb233, 4, none⟩ (.slice Ao61 t226.length co61)).setCell ⟨gb233, 5, none⟩ (.slice Ao62 t229.length co62)) w.heap.size (fun k_ => some k_ ≠ (.slice Ao61 t226.length co61 : Value).ownBlock) (.slice Ao54 t214.length co54) t214) := ⟨by (with_reducible repeat (first | apply Kd.R_alloc | apply Kd.R_drewN | apply Kd.R_drew)); exact Kd.R_mono (Kd.R_far (p := ⟨gb233, 5, none⟩) (Kd.R_far (p := ⟨gb233, 4, none⟩) (Kd.R_far (p := ⟨gb233, 3, none⟩) (Kd.R_far (p := ⟨gb233, 2, none⟩) (Kd.R_far (p := ⟨gb233, 1, none⟩) (Kd.R_far (p := ⟨gb233, 0, none⟩) (Kd.R_types HO216.out BK233.out (by decide)) (fun _ hk => hk.2) (.int .i64 t222)) (fun _ hk => hk.2) (.int .i64 t223)) (fun _ hk => hk.2) (.int .i64 t224)) (fun _ hk => hk.2) (.int .i64 t225)) (fun _ hk => hk.2) (.slice Ao61 t226.length co61)) (fun _ hk => hk.2) (.slice Ao62 t229.length co62)) (fun _ hk => hk.1.2)⟩
                have n1_ : Aside0 (Kd.R k64 64 ((((((w57.setCell ⟨gb233, 0, none⟩ (.int .i64 t222)).setCell ⟨gb233, 1, none⟩ (.int .i64 t223)).setCell ⟨gb233, 2, none⟩ (.int .i64 t224)).setCell ⟨gb233, 3, none⟩ (.int .i64 t225)).setCell ⟨gb233, 4, none⟩ (.slice Ao61 t226.length co61)).setCell ⟨gb233, 5, none⟩ (.slice Ao62 t229.length co62)) w.heap.size (fun k_ => some k_ ≠ (.slice Ao62 t229.length co62 : Value).ownBlock) (.slice Ao55 t217.length co55) t217) := ⟨by (with_reducible repeat (first | apply Kd.R_alloc | apply Kd.R_drewN | apply Kd.R_drew)); exact Kd.R_mono (Kd.R_far (p := ⟨gb233, 5, none⟩) (Kd.R_far (p := ⟨gb233, 4, none⟩) (Kd.R_far (p := ⟨gb233, 3, none⟩) (Kd.R_far (p := ⟨gb233, 2, none⟩) (Kd.R_far (p := ⟨gb233, 1, none⟩) (Kd.R_far (p := ⟨gb233, 0, none⟩) (Kd.R_types HO219.out BK233.out (by decide)) (fun _ hk => hk.2) (.int .i64 t222)) (fun _ hk => hk.2) (.int .i64 t223)) (fun _ hk => hk.2) (.int .i64 t224)) (fun _ hk => hk.2) (.int .i64 t225)) (fun _ hk => hk.2) (.slice Ao61 t226.length co61)) (fun _ hk => hk.2) (.slice Ao62 t229.length co62)) (fun _ hk => hk.1.2)⟩
                have n2_ : Aside0 (Kd.R k60 60 ((((((w57.setCell ⟨gb233, 0, none⟩ (.int .i64 t222)).setCell ⟨gb233, 1, none⟩ (.int .i64 t223)).setCell ⟨gb233, 2, none⟩ (.int .i64 t224)).setCell ⟨gb233, 3, none⟩ (.int .i64 t225)).setCell ⟨gb233, 4, none⟩ (.slice Ao61 t226.length co61)).setCell ⟨gb233, 5, none⟩ (.slice Ao62 t229.length co62)) w.heap.size (fun k_ => some k_ ≠ (.slice Ao54 t214.length co54 : Value).ownBlock) (.slice Ao61 t226.length co61) t226) := ⟨by (with_reducible repeat (first | apply Kd.R_alloc | apply Kd.R_drewN | apply Kd.R_drew)); exact Kd.R_mono (Kd.R_far (p := ⟨gb233, 5, none⟩) (Kd.R_far (p := ⟨gb233, 4, none⟩) (Kd.R_far (p := ⟨gb233, 3, none⟩) (Kd.R_far (p := ⟨gb233, 2, none⟩) (Kd.R_far (p := ⟨gb233, 1, none⟩) (Kd.R_far (p := ⟨gb233, 0, none⟩) (Kd.R_types HO228.out BK233.out (by decide)) (fun _ hk => hk.2) (.int .i64 t222)) (fun _ hk => hk.2) (.int .i64 t223)) (fun _ hk => hk.2) (.int .i64 t224)) (fun _ hk => hk.2) (.int .i64 t225)) (fun _ hk => hk.2) (.slice Ao61 t226.length co61)) (fun _ hk => hk.2) (.slice Ao62 t229.length co62)) (fun _ hk => hk.1.2)⟩
                have n3_ : Aside0 (Kd.R k64 64 ((((((w57.setCell ⟨gb233, 0, none⟩ (.int .i64 t222)).setCell ⟨gb233, 1, none⟩ (.int .i64 t223)).setCell ⟨gb233, 2, none⟩ (.int .i64 t224)).setCell ⟨gb233, 3, none⟩ (.int .i64 t225)).setCell ⟨gb233, 4, none⟩ (.slice Ao61 t226.length co61)).setCell ⟨gb233, 5, none⟩ (.slice Ao62 t229.length co62)) w.heap.size (fun k_ => some k_ ≠ (.slice Ao55 t217.length co55 : Value).ownBlock) (.slice Ao62 t229.length co62) t229) := ⟨by (with_reducible repeat (first | apply Kd.R_alloc | apply Kd.R_drewN | apply Kd.R_drew)); exact Kd.R_mono (Kd.R_far (p := ⟨gb233, 5, none⟩) (Kd.R_far (p := ⟨gb233, 4, none⟩) (Kd.R_far (p := ⟨gb233, 3, none⟩) (Kd.R_far (p := ⟨gb233, 2, none⟩) (Kd.R_far (p := ⟨gb233, 1, none⟩) (Kd.R_far (p := ⟨gb233, 0, none⟩) (Kd.R_types HO231.out BK233.out (by decide)) (fun _ hk => hk.2) (.int .i64 t222)) (fun _ hk => hk.2) (.int .i64 t223)) (fun _ hk => hk.2) (.int .i64 t224)) (fun _ hk => hk.2) (.int .i64 t225)) (fun _ hk => hk.2) (.slice Ao61 t226.length co61)) (fun _ hk => hk.2) (.slice Ao62 t229.length co62)) (fun _ hk => hk.1.2)⟩
                have n4_ : Aside0 (((((((w57.setCell ⟨gb233, 0, none⟩ (.int .i64 t222)).setCell ⟨gb233, 1, none⟩ (.int .i64 t223)).setCell ⟨gb233, 2, none⟩ (.int .i64 t224)).setCell ⟨gb233, 3, none⟩ (.int .i64 t225)).setCell ⟨gb233, 4, none⟩ (.slice Ao61 t226.length co61)).setCell ⟨gb233, 5, none⟩ (.slice Ao62 t229.length co62)).heap[gb207]? = some (.cells #[.int .i64 a1_0, .slice A1_1 l1_1.length c1_1] 27 (0, 0))) := ⟨by (with_reducible repeat (first | refine blk_drewN ?_ _ | refine blk_drew ?_ | refine blk_alloc ?_ _)); refine blk_far ?_ NB207_233.out _; (with_reducible repeat (first | refine blk_drewN ?_ _ | refine blk_drew ?_ | refine blk_alloc ?_ _)); refine blk_far ?_ NB207_233.out _; (with_reducible repeat (first | refine blk_drewN ?_ _ | refine blk_drew ?_ | refine blk_alloc ?_ _)); refine blk_far ?_ NB207_233.out _; (with_reducible repeat (first | refine blk_drewN ?_ _ | refine blk_drew ?_ | refine blk_alloc ?_ _)); refine blk_far ?_ NB207_233.out _; (with_reducible repeat (first | refine blk_drewN ?_ _ | refine blk_drew ?_ | refine blk_alloc ?_ _)); refine blk_far ?_ NB207_233.out _; (with_reducible repeat (first | refine blk_drewN ?_ _ | refine blk_drew ?_ | refine blk_alloc ?_ _)); refine blk_far ?_ NB207_233.out _; (with_reducible repeat (first | refine blk_drewN ?_ _ | refine blk_drew ?_ | refine blk_alloc ?_ _)); exact BK207.out⟩
                have n5_ : Aside0 (((((((w57.setCell ⟨gb233, 0, none⟩ (.int .i64 t222)).setCell ⟨gb233, 1, none⟩ (.int .i64 t223)).setCell ⟨gb233, 2, none⟩ (.int .i64 t224)).setCell ⟨gb233, 3, none⟩ (.int .i64 t225)).setCell ⟨gb233, 4, none⟩ (.slice Ao61 t226.length co61)).setCell ⟨gb233, 5, none⟩ (.slice Ao62 t229.length co62)).heap[gb221]? = some (.cells #[.int .i64 t210, .int .i64 t211, .int .i64 t212, .int .i64 t213, .slice Ao54 t214.length co54, .slice Ao55 t217.length co55] 32 (0, 0))) := ⟨by (with_reducible repeat (first | refine blk_drewN ?_ _ | refine blk_drew ?_ | refine blk_alloc ?_ _)); refine blk_far ?_ NB221_233.out _; (with_reducible repeat (first | refine blk_drewN ?_ _ | refine blk_drew ?_ | refine blk_alloc ?_ _)); refine blk_far ?_ NB221_233.out _; (with_reducible repeat (first | refine blk_drewN ?_ _ | refine blk_drew ?_ | refine blk_alloc ?_ _)); refine blk_far ?_ NB221_233.out _; (with_reducible repeat (first | refine blk_drewN ?_ _ | refine blk_drew ?_ | refine blk_alloc ?_ _)); refine blk_far ?_ NB221_233.out _; (with_reducible repeat (first | refine blk_drewN ?_ _ | refine blk_drew ?_ | refine blk_alloc ?_ _)); refine blk_far ?_ NB221_233.out _; (with_reducible repeat (first | refine blk_drewN ?_ _ | refine blk_drew ?_ | refine blk_alloc ?_ _)); refine blk_far ?_ NB221_233.out _; (with_reducible repeat (first | refine blk_drewN ?_ _ | refine blk_drew ?_ | refine blk_alloc ?_ _)); exact BK221.out⟩
                have n6_ : Aside0 (((((((w57.setCell ⟨gb233, 0, none⟩ (.int .i64 t222)).setCell ⟨gb233, 1, none⟩ (.int .i64 t223)).setCell ⟨gb233, 2, none⟩ (.int .i64 t224)).setCell ⟨gb233, 3, none⟩ (.int .i64 t225)).setCell ⟨gb233, 4, none⟩ (.slice Ao61 t226.length co61)).setCell ⟨gb233, 5, none⟩ (.slice Ao62 t229.length co62)).heap[gb233]? = some (.cells #[.int .i64 t222, .int .i64 t223, .int .i64 t224, .int .i64 t225, .slice Ao61 t226.length co61, .slice Ao62 t229.length co62] 32 (0, 0))) := ⟨by (with_reducible repeat (first | refine blk_drewN ?_ _ | refine blk_drew ?_ | refine blk_alloc ?_ _)); refine blk_put (cs := #[.int .i64 t222, .int .i64 t223, .int .i64 t224, .int .i64 t225, .slice Ao61 t226.length co61, .slice none 0 0]) ?_ 5 _ rfl; (with_reducible repeat (first | refine blk_drewN ?_ _ | refine blk_drew ?_ | refine blk_alloc ?_ _)); refine blk_put (cs := #[.int .i64 t222, .int .i64 t223, .int .i64 t224, .int .i64 t225, .slice none 0 0, .slice none 0 0]) ?_ 4 _ rfl; (with_reducible repeat (first | refine blk_drewN ?_ _ | refine blk_drew ?_ | refine blk_alloc ?_ _)); refine blk_put (cs := #[.int .i64 t222, .int .i64 t223, .int .i64 t224, .int .i64 0, .slice none 0 0, .slice none 0 0]) ?_ 3 _ rfl; (with_reducible repeat (first | refine blk_drewN ?_ _ | refine blk_drew ?_ | refine blk_alloc ?_ _)); refine blk_put (cs := #[.int .i64 t222, .int .i64 t223, .int .i64 0, .int .i64 0, .slice none 0 0, .slice none 0 0]) ?_ 2 _ rfl; (with_reducible repeat (first | refine blk_drewN ?_ _ | refine blk_drew ?_ | refine blk_alloc ?_ _)); refine blk_put (cs := #[.int .i64 t222, .int .i64 0, .int .i64 0, .int .i64 0, .slice none 0 0, .slice none 0 0]) ?_ 1 _ rfl; (with_reducible repeat (first | refine blk_drewN ?_ _ | refine blk_drew ?_ | refine blk_alloc ?_ _)); refine blk_put (cs := #[.int .i64 0, .int .i64 0, .int .i64 0, .int .i64 0, .slice none 0 0, .slice none 0 0]) ?_ 0 _ rfl; (with_reducible repeat (first | refine blk_drewN ?_ _ | refine blk_drew ?_ | refine blk_alloc ?_ _)); exact BK233.out⟩
                have n7_ : Aside0 (Below w.heap.size w ((((((w57.setCell ⟨gb233, 0, none⟩ (.int .i64 t222)).setCell ⟨gb233, 1, none⟩ (.int .i64 t223)).setCell ⟨gb233, 2, none⟩ (.int .i64 t224)).setCell ⟨gb233, 3, none⟩ (.int .i64 t225)).setCell ⟨gb233, 4, none⟩ (.slice Ao61 t226.length co61)).setCell ⟨gb233, 5, none⟩ (.slice Ao62 t229.length co62))) := ⟨b_ HB⟩
                (try clear HO216)
                (try clear HO219)
                (try clear HO228)
                (try clear HO231)
                (try clear BK207)
                (try clear BK221)
                (try clear BK233)
                (try clear HB)
                generalize ((((((w57.setCell ⟨gb233, 0, none⟩ (.int .i64 t222)).setCell ⟨gb233, 1, none⟩ (.int .i64 t223)).setCell ⟨gb233, 2, none⟩ (.int .i64 t224)).setCell ⟨gb233, 3, none⟩ (.int .i64 t225)).setCell ⟨gb233, 4, none⟩ (.slice Ao61 t226.length co61)).setCell ⟨gb233, 5, none⟩ (.slice Ao62 t229.length co62)) = w63 at n0_ n1_ n2_ n3_ n4_ n5_ n6_ n7_ ⊢
                have HO216 := n0_
                have HO219 := n1_
                have HO228 := n2_
                have HO231 := n3_
                have BK207 := n4_
                have BK221 := n5_
                have BK233 := n6_
                have HB := n7_
                clear n0_ n1_ n2_ n3_ n4_ n5_ n6_ n7_
                have n0_ := Aside0.mk (Kd.R_drew HO216.out)
                have n1_ := Aside0.mk (Kd.R_drew HO219.out)
                have n2_ := Aside0.mk (Kd.R_drew HO228.out)
                have n3_ := Aside0.mk (Kd.R_drew HO231.out)
                have n4_ := Aside0.mk (blk_drew BK207.out)
                have n5_ := Aside0.mk (blk_drew BK221.out)
                have n6_ := Aside0.mk (blk_drew BK233.out)
                have n7_ := Aside0.mk (below_drew1 HB.out)
                clear HO216
                clear HO219
                clear HO228
                clear HO231
                clear BK207
                clear BK221
                clear BK233
                clear HB
                have HO216 := n0_
                have HO219 := n1_
                have HO228 := n2_
                have HO231 := n3_
                have BK207 := n4_
                have BK221 := n5_
                have BK233 := n6_
                have HB := n7_
                clear n0_ n1_ n2_ n3_ n4_ n5_ n6_ n7_
                refine start_ (n := 25) (S := fun w' => w'.cell? ⟨gb221, 0, none⟩ = some (.int .i64 t210) ∧ w'.cell? ⟨gb221, 1, none⟩ = some (.int .i64 t211) ∧ w'.cell? ⟨gb221, 2, none⟩ = some (.int .i64 t212) ∧ w'.cell? ⟨gb221, 3, none⟩ = some (.int .i64 t213) ∧ w'.cell? ⟨gb221, 4, none⟩ = some (.slice Ao54 t214.length co54) ∧ w'.cell? ⟨gb221, 5, none⟩ = some (.slice Ao55 t217.length co55) ∧ w'.cell? ⟨gb233, 0, none⟩ = some (.int .i64 t222) ∧ w'.cell? ⟨gb233, 1, none⟩ = some (.int .i64 t223) ∧ w'.cell? ⟨gb233, 2, none⟩ = some (.int .i64 t224) ∧ w'.cell? ⟨gb233, 3, none⟩ = some (.int .i64 t225) ∧ w'.cell? ⟨gb233, 4, none⟩ = some (.slice Ao61 t226.length co61) ∧ w'.cell? ⟨gb233, 5, none⟩ = some (.slice Ao62 t229.length co62)) (ds := []) #[false, false, false, false, false, false, false, false, false, false, false, false, false, false, false, false, false, false, false, false, false, false, false, false, false] (by kernel_rfl) rfl rfl ⟨(blk_cell BK221.out 0).trans rfl, (blk_cell BK221.out 1).trans rfl, (blk_cell BK221.out 2).trans rfl, (blk_cell BK221.out 3).trans rfl, (blk_cell BK221.out 4).trans rfl, (blk_cell BK221.out 5).trans rfl, (blk_cell BK233.out 0).trans rfl, (blk_cell BK233.out 1).trans rfl, (blk_cell BK233.out 2).trans rfl, (blk_cell BK233.out 3).trans rfl, (blk_cell BK233.out 4).trans rfl, (blk_cell BK233.out 5).trans rfl⟩ (fun hHeld => ?_); refine with_tabW chalklinelaw35_FeedReplies.tab7 chalklinelaw35_FeedReplies.bits7 (fun HT_ HW_ => ?_)
                generalize w63.drew = w64 at HO216 HO219 HO228 HO231 BK207 BK221 BK233 HB hHeld ⊢
                refine take_ (i := 0) (N := some 39) (v := ?_) (a' := ?_) #[true, false, false, false, false, false, false, false, false, false, false, false, false, false, false, false, false, false, false, false, false, false, false, false, false] rfl rfl (take_ofW HT_.out HW_.out (by kernel_rfl)) (fun _ _ _ h => h) (Or.inl ⟨by rfl, ?_⟩) hHeld ?_ ?_
                rotate_left
                · rintro w' ⟨s0, s1, s2, s3, s4, s5, s6, s7, s8, s9, s10, s11⟩
                  go_simp
                  with_reducible rfl
                rotate_left
                · simp only [Act.put, List.setIfInBounds_toArray, List.set_cons_zero, List.set_cons_succ, i64_w, i32_w]
                  rfl
                refine take_ (i := 1) (N := some 40) (v := ?_) (a' := ?_) #[true, true, false, false, false, false, false, false, false, false, false, false, false, false, false, false, false, false, false, false, false, false, false, false, false] rfl rfl (take_ofW HT_.out HW_.out (by kernel_rfl)) (fun _ _ _ h => h) (Or.inl ⟨by rfl, ?_⟩) hHeld ?_ ?_
                rotate_left
                · rintro w' ⟨s0, s1, s2, s3, s4, s5, s6, s7, s8, s9, s10, s11⟩
                  go_simp
                  with_reducible rfl
                rotate_left
                · simp only [Act.put, List.setIfInBounds_toArray, List.set_cons_zero, List.set_cons_succ, i64_w, i32_w]
                  rfl
                refine one_ (i := 2) (N := some 41) #[true, true, true, false, false, false, false, false, false, false, false, false, false, false, false, false, false, false, false, false, false, false, false, false, false] rfl rfl (one_of HT_.out (by kernel_rfl)) (by decide) (fun K hK => ?_)
                refine goes_ Try.func15 (by kernel_rfl) rfl #[.agg #[.int .i64 t210, .int .i64 t211, .int .i64 t212, .int .i64 t213, .slice Ao54 t214.length co54, .slice Ao55 t217.length co55], .agg #[.int .i64 t222, .int .i64 t223, .int .i64 t224, .int .i64 t225, .slice Ao61 t226.length co61, .slice Ao62 t229.length co62]] (by rfl) rfl rfl (by (try simp only [List.map_toArray, List.map_cons, List.map_nil]); first | done | rfl | (simp only [List.length_drop, List.length_take]; rfl)) ?_
                with_reducible refine (chalklineref35_Msgs.calls kj6 t210 t211 t212 t213 _ _ t214 _ _ t217 t222 t223 t224 t225 _ _ t226 _ _ t229 true _ ?side1 ?side2 ?side3 ?side4 ?side5 ?side6 ?side7 ?side8 A16.out).mono ?_
                (case side1 => repeat (first | exact (Kd.R_reads' HO216.out).2.2 | (with_reducible refine Kd.C_alloc ?_ _) | (with_reducible refine Kd.C_drewN ?_ _) | (with_reducible refine Kd.C_drew ?_)))
                (case side2 => exact (Kd.R_reads' HO216.out).2.1)
                (case side3 => repeat (first | exact (Kd.R_reads' HO219.out).2.2 | (with_reducible refine Kd.C_alloc ?_ _) | (with_reducible refine Kd.C_drewN ?_ _) | (with_reducible refine Kd.C_drew ?_)))
                (case side4 => exact (Kd.R_reads' HO219.out).2.1)
                (case side5 => repeat (first | exact (Kd.R_reads' HO228.out).2.2 | (with_reducible refine Kd.C_alloc ?_ _) | (with_reducible refine Kd.C_drewN ?_ _) | (with_reducible refine Kd.C_drew ?_)))
                (case side6 => exact (Kd.R_reads' HO228.out).2.1)
                (case side7 => repeat (first | exact (Kd.R_reads' HO231.out).2.2 | (with_reducible refine Kd.C_alloc ?_ _) | (with_reducible refine Kd.C_drewN ?_ _) | (with_reducible refine Kd.C_drew ?_)))
                (case side8 => exact (Kd.R_reads' HO231.out).2.1)
                rintro e w65 ⟨rfl, hb⟩
                refine ⟨_, rfl, ?_⟩
                have n0_ := Aside0.mk (Kd.R_below (by (with_reducible repeat (first | apply Kd.R_alloc | apply Kd.R_drewN | apply Kd.R_drew)); exact HO216.out) hb)
                have n1_ := Aside0.mk (Kd.R_below (by (with_reducible repeat (first | apply Kd.R_alloc | apply Kd.R_drewN | apply Kd.R_drew)); exact HO219.out) hb)
                have n2_ := Aside0.mk (Kd.R_below (by (with_reducible repeat (first | apply Kd.R_alloc | apply Kd.R_drewN | apply Kd.R_drew)); exact HO228.out) hb)
                have n3_ := Aside0.mk (Kd.R_below (by (with_reducible repeat (first | apply Kd.R_alloc | apply Kd.R_drewN | apply Kd.R_drew)); exact HO231.out) hb)
                have n4_ := Aside0.mk (blk_below (k_ BK207) hb)
                have n5_ := Aside0.mk (blk_below (k_ BK221) hb)
                have n6_ := Aside0.mk (blk_below (k_ BK233) hb)
                have n7_ := Aside0.mk (below_step (b_ HB) hb)
                clear HO216
                clear HO219
                clear HO228
                clear HO231
                clear BK207
                clear BK221
                clear BK233
                clear HB
                have HO216 := n0_
                have HO219 := n1_
                have HO228 := n2_
                have HO231 := n3_
                have BK207 := n4_
                have BK221 := n5_
                have BK233 := n6_
                have HB := n7_
                clear n0_ n1_ n2_ n3_ n4_ n5_ n6_ n7_
                (try clear hb)
                (try clear hb2)
                (try clear hk)
                (try clear hi)
                refine hK.out _ _ ⟨(blk_cell BK221.out 0).trans rfl, (blk_cell BK221.out 1).trans rfl, (blk_cell BK221.out 2).trans rfl, (blk_cell BK221.out 3).trans rfl, (blk_cell BK221.out 4).trans rfl, (blk_cell BK221.out 5).trans rfl, (blk_cell BK233.out 0).trans rfl, (blk_cell BK233.out 1).trans rfl, (blk_cell BK233.out 2).trans rfl, (blk_cell BK233.out 3).trans rfl, (blk_cell BK233.out 4).trans rfl, (blk_cell BK233.out 5).trans rfl⟩ (fun hHeld => ?_)
                clear hK K
                refine norm_ (a' := ?_) ?_ ?_
                rotate_left
                · show Act.put _ (some 41) _ = _
                  simp only [Act.put, List.setIfInBounds_toArray, List.set_cons_zero, List.set_cons_succ, i64_w, i32_w]
                  rfl
                refine pure_ (i := 3) (N := some 42) (v := ?_) (a' := ?_) #[true, true, true, true, false, false, false, false, false, false, false, false, false, false, false, false, false, false, false, false, false, false, false, false, false] rfl rfl (any_of HT_.out (by kernel_rfl)) (fun _ _ _ h => h) (Or.inl ⟨by rfl, ?_⟩) ?_ ?_
                rotate_left
                · intro w'
                  go_simp
                  with_reducible rfl
                rotate_left
                · simp only [Act.put, List.setIfInBounds_toArray, List.set_cons_zero, List.set_cons_succ, i64_w, i32_w]
                  rfl
                refine pure_ (i := 4) (N := some 43) (v := ?_) (a' := ?_) #[true, true, true, true, true, false, false, false, false, false, false, false, false, false, false, false, false, false, false, false, false, false, false, false, false] rfl rfl (any_of HT_.out (by kernel_rfl)) (fun _ _ _ h => h) (Or.inl ⟨by rfl, ?_⟩) ?_ ?_
                rotate_left
                · intro w'
                  go_simp
                  with_reducible rfl
                rotate_left
                · simp only [Act.put, List.setIfInBounds_toArray, List.set_cons_zero, List.set_cons_succ, i64_w, i32_w]
                  rfl
                refine pure_ (i := 5) (N := some 44) (v := ?_) (a' := ?_) #[true, true, true, true, true, true, false, false, false, false, false, false, false, false, false, false, false, false, false, false, false, false, false, false, false] rfl rfl (any_of HT_.out (by kernel_rfl)) (fun _ _ _ h => h) (Or.inl ⟨by rfl, ?_⟩) ?_ ?_
                rotate_left
                · intro w'
                  go_simp
                  with_reducible rfl
                rotate_left
                · simp only [Act.put, List.setIfInBounds_toArray, List.set_cons_zero, List.set_cons_succ, i64_w, i32_w]
                  rfl
                refine pure_ (i := 6) (N := some 45) (v := ?_) (a' := ?_) #[true, true, true, true, true, true, true, false, false, false, false, false, false, false, false, false, false, false, false, false, false, false, false, false, false] rfl rfl (any_of HT_.out (by kernel_rfl)) (fun _ _ _ h => h) (Or.inl ⟨by rfl, ?_⟩) ?_ ?_
                rotate_left
                · intro w'
                  go_simp
                  with_reducible rfl
                rotate_left
                · simp only [Act.put, List.setIfInBounds_toArray, List.set_cons_zero, List.set_cons_succ, i64_w, i32_w]
                  rfl
                refine pure_ (i := 7) (N := some 46) (v := ?_) (a' := ?_) #[true, true, true, true, true, true, true, true, false, false, false, false, false, false, false, false, false, false, false, false, false, false, false, false, false] rfl rfl (any_of HT_.out (by kernel_rfl)) (fun _ _ _ h => h) (Or.inl ⟨by rfl, ?_⟩) ?_ ?_
                rotate_left
                · intro w'
                  go_simp
                  with_reducible rfl
                rotate_left
                · simp only [Act.put, List.setIfInBounds_toArray, List.set_cons_zero, List.set_cons_succ, i64_w, i32_w]
                  rfl
                refine pure_ (i := 8) (N := some 47) (v := ?_) (a' := ?_) #[true, true, true, true, true, true, true, true, true, false, false, false, false, false, false, false, false, false, false, false, false, false, false, false, false] rfl rfl (any_of HT_.out (by kernel_rfl)) (fun _ _ _ h => h) (Or.inl ⟨by rfl, ?_⟩) ?_ ?_
                rotate_left
                · intro w'
                  go_simp
                  with_reducible rfl
                rotate_left
                · simp only [Act.put, List.setIfInBounds_toArray, List.set_cons_zero, List.set_cons_succ, i64_w, i32_w]
                  rfl
                refine pure_ (i := 9) (N := some 48) (v := ?_) (a' := ?_) #[true, true, true, true, true, true, true, true, true, true, false, false, false, false, false, false, false, false, false, false, false, false, false, false, false] rfl rfl (any_of HT_.out (by kernel_rfl)) (fun _ _ _ h => h) (Or.inl ⟨by rfl, ?_⟩) ?_ ?_
                rotate_left
                · intro w'
                  go_simp
                  with_reducible rfl
                rotate_left
                · simp only [Act.put, List.setIfInBounds_toArray, List.set_cons_zero, List.set_cons_succ, i64_w, i32_w]
                  rfl
                refine pure_ (i := 11) (N := some 50) (v := ?_) (a' := ?_) #[true, true, true, true, true, true, true, true, true, true, false, true, false, false, false, false, false, false, false, false, false, false, false, false, false] rfl rfl (any_of HT_.out (by kernel_rfl)) (fun _ _ _ h => h) (Or.inl ⟨by rfl, ?_⟩) ?_ ?_
                rotate_left
                · intro w'
                  go_simp
                  with_reducible rfl
                rotate_left
                · simp only [Act.put, List.setIfInBounds_toArray, List.set_cons_zero, List.set_cons_succ, i64_w, i32_w]
                  rfl
                refine one_ (i := 10) (N := some 49) #[true, true, true, true, true, true, true, true, true, true, true, true, false, false, false, false, false, false, false, false, false, false, false, false, false] rfl rfl (one_of HT_.out (by kernel_rfl)) (by decide) (fun K hK => ?_)
                refine goes_ Try.func16 (by kernel_rfl) rfl #[.slice A0 l0.length c0] (by rfl) rfl rfl (by (try simp only [List.map_toArray, List.map_cons, List.map_nil]); first | done | rfl | (simp only [List.length_drop, List.length_take]; rfl)) ?_
                with_reducible refine (feed_Check.calls kj6 _ _ l0 t235 _ ?side1 ?side2 A19.out).mono ?_
                (case side1 => repeat (first | exact (Kd.C_below HR0.out HB.out) | (with_reducible refine Kd.C_alloc ?_ _) | (with_reducible refine Kd.C_drewN ?_ _) | (with_reducible refine Kd.C_drew ?_)))
                (case side2 => exact HC0.out)
                rintro e w66 ⟨rfl, hb⟩
                refine ⟨_, rfl, ?_⟩
                have n0_ := Aside0.mk (Kd.R_below (by (with_reducible repeat (first | apply Kd.R_alloc | apply Kd.R_drewN | apply Kd.R_drew)); exact HO216.out) hb)
                have n1_ := Aside0.mk (Kd.R_below (by (with_reducible repeat (first | apply Kd.R_alloc | apply Kd.R_drewN | apply Kd.R_drew)); exact HO219.out) hb)
                have n2_ := Aside0.mk (Kd.R_below (by (with_reducible repeat (first | apply Kd.R_alloc | apply Kd.R_drewN | apply Kd.R_drew)); exact HO228.out) hb)
                have n3_ := Aside0.mk (Kd.R_below (by (with_reducible repeat (first | apply Kd.R_alloc | apply Kd.R_drewN | apply Kd.R_drew)); exact HO231.out) hb)
                have n4_ := Aside0.mk (blk_below (k_ BK207) hb)
                have n5_ := Aside0.mk (blk_below (k_ BK221) hb)
                have n6_ := Aside0.mk (blk_below (k_ BK233) hb)
                have n7_ := Aside0.mk (below_step (b_ HB) hb)
                clear HO216
                clear HO219
                clear HO228
                clear HO231
                clear BK207
                clear BK221
                clear BK233
                clear HB
                have HO216 := n0_
                have HO219 := n1_
                have HO228 := n2_
                have HO231 := n3_
                have BK207 := n4_
                have BK221 := n5_
                have BK233 := n6_
                have HB := n7_
                clear n0_ n1_ n2_ n3_ n4_ n5_ n6_ n7_
                (try clear hb)
                (try clear hb2)
                (try clear hk)
                (try clear hi)
                refine hK.out _ _ ⟨(blk_cell BK221.out 0).trans rfl, (blk_cell BK221.out 1).trans rfl, (blk_cell BK221.out 2).trans rfl, (blk_cell BK221.out 3).trans rfl, (blk_cell BK221.out 4).trans rfl, (blk_cell BK221.out 5).trans rfl, (blk_cell BK233.out 0).trans rfl, (blk_cell BK233.out 1).trans rfl, (blk_cell BK233.out 2).trans rfl, (blk_cell BK233.out 3).trans rfl, (blk_cell BK233.out 4).trans rfl, (blk_cell BK233.out 5).trans rfl⟩ (fun hHeld => ?_)
                clear hK K
                refine norm_ (a' := ?_) ?_ ?_
                rotate_left
                · show Act.put _ (some 49) _ = _
                  simp only [Act.put, List.setIfInBounds_toArray, List.set_cons_zero, List.set_cons_succ, i64_w, i32_w]
                  rfl
                refine one_ (i := 12) (N := some 51) #[true, true, true, true, true, true, true, true, true, true, true, true, true, false, false, false, false, false, false, false, false, false, false, false, false] rfl rfl (one_of HT_.out (by kernel_rfl)) (by decide) (fun K hK => ?_)
                refine goes_ Try.func17 (by kernel_rfl) rfl #[.slice A0 l0.length c0] (by rfl) rfl rfl (by (try simp only [List.map_toArray, List.map_cons, List.map_nil]); first | done | rfl | (simp only [List.length_drop, List.length_take]; rfl)) ?_
                with_reducible refine (chalklineref35_Check.calls kj6 _ _ l0 t236 _ ?side1 ?side2 A20.out).mono ?_
                (case side1 => repeat (first | exact (Kd.C_below HR0.out HB.out) | (with_reducible refine Kd.C_alloc ?_ _) | (with_reducible refine Kd.C_drewN ?_ _) | (with_reducible refine Kd.C_drew ?_)))
                (case side2 => exact HC0.out)
                rintro e w67 ⟨rfl, hb⟩
                refine ⟨_, rfl, ?_⟩
                have n0_ := Aside0.mk (Kd.R_below (by (with_reducible repeat (first | apply Kd.R_alloc | apply Kd.R_drewN | apply Kd.R_drew)); exact HO216.out) hb)
                have n1_ := Aside0.mk (Kd.R_below (by (with_reducible repeat (first | apply Kd.R_alloc | apply Kd.R_drewN | apply Kd.R_drew)); exact HO219.out) hb)
                have n2_ := Aside0.mk (Kd.R_below (by (with_reducible repeat (first | apply Kd.R_alloc | apply Kd.R_drewN | apply Kd.R_drew)); exact HO228.out) hb)
                have n3_ := Aside0.mk (Kd.R_below (by (with_reducible repeat (first | apply Kd.R_alloc | apply Kd.R_drewN | apply Kd.R_drew)); exact HO231.out) hb)
                have n4_ := Aside0.mk (blk_below (k_ BK207) hb)
                have n5_ := Aside0.mk (blk_below (k_ BK221) hb)
                have n6_ := Aside0.mk (blk_below (k_ BK233) hb)
                have n7_ := Aside0.mk (below_step (b_ HB) hb)
                clear HO216
                clear HO219
                clear HO228
                clear HO231
                clear BK207
                clear BK221
                clear BK233
                clear HB
                have HO216 := n0_
                have HO219 := n1_
                have HO228 := n2_
                have HO231 := n3_
                have BK207 := n4_
                have BK221 := n5_
                have BK233 := n6_
                have HB := n7_
                clear n0_ n1_ n2_ n3_ n4_ n5_ n6_ n7_
                (try clear hb)
                (try clear hb2)
                (try clear hk)
                (try clear hi)
                refine hK.out _ _ ⟨(blk_cell BK221.out 0).trans rfl, (blk_cell BK221.out 1).trans rfl, (blk_cell BK221.out 2).trans rfl, (blk_cell BK221.out 3).trans rfl, (blk_cell BK221.out 4).trans rfl, (blk_cell BK221.out 5).trans rfl, (blk_cell BK233.out 0).trans rfl, (blk_cell BK233.out 1).trans rfl, (blk_cell BK233.out 2).trans rfl, (blk_cell BK233.out 3).trans rfl, (blk_cell BK233.out 4).trans rfl, (blk_cell BK233.out 5).trans rfl⟩ (fun hHeld => ?_)
                clear hK K
                refine norm_ (a' := ?_) ?_ ?_
                rotate_left
                · show Act.put _ (some 51) _ = _
                  simp only [Act.put, List.setIfInBounds_toArray, List.set_cons_zero, List.set_cons_succ, i64_w, i32_w]
                  rfl
                refine pure_ (i := 13) (N := some 52) (v := ?_) (a' := ?_) #[true, true, true, true, true, true, true, true, true, true, true, true, true, true, false, false, false, false, false, false, false, false, false, false, false] rfl rfl (any_of HT_.out (by kernel_rfl)) (fun _ _ _ h => h) (Or.inl ⟨by rfl, ?_⟩) ?_ ?_
                rotate_left
                · intro w'
                  go_simp
                  with_reducible rfl
                rotate_left
                · simp only [Act.put, List.setIfInBounds_toArray, List.set_cons_zero, List.set_cons_succ, i64_w, i32_w]
                  rfl
                refine pure_ (i := 14) (N := some 53) (v := ?_) (a' := ?_) #[true, true, true, true, true, true, true, true, true, true, true, true, true, true, true, false, false, false, false, false, false, false, false, false, false] rfl rfl (any_of HT_.out (by kernel_rfl)) (fun _ _ _ h => h) (Or.inl ⟨by rfl, ?_⟩) ?_ ?_
                rotate_left
                · intro w'
                  go_simp
                  with_reducible rfl
                rotate_left
                · simp only [Act.put, List.setIfInBounds_toArray, List.set_cons_zero, List.set_cons_succ, i64_w, i32_w]
                  rfl
                refine pure_ (i := 15) (N := some 54) (v := ?_) (a' := ?_) #[true, true, true, true, true, true, true, true, true, true, true, true, true, true, true, true, false, false, false, false, false, false, false, false, false] rfl rfl (any_of HT_.out (by kernel_rfl)) (fun _ _ _ h => h) (Or.inl ⟨by rfl, ?_⟩) ?_ ?_
                rotate_left
                · intro w'
                  go_simp
                  with_reducible rfl
                rotate_left
                · simp only [Act.put, List.setIfInBounds_toArray, List.set_cons_zero, List.set_cons_succ, i64_w, i32_w]
                  rfl
                refine pure_ (i := 16) (N := some 55) (v := undef) (a' := ?_) #[true, true, true, true, true, true, true, true, true, true, true, true, true, true, true, true, true, false, false, false, false, false, false, false, false] rfl rfl (any_of HT_.out (by kernel_rfl)) (fun _ _ _ h => h) (Or.inr ⟨by rfl, rfl⟩) ?_ ?_
                rotate_left
                · simp only [Act.put, List.setIfInBounds_toArray, List.set_cons_zero, List.set_cons_succ, i64_w, i32_w]
                  rfl
                refine pure_ (i := 17) (N := some 56) (v := undef) (a' := ?_) #[true, true, true, true, true, true, true, true, true, true, true, true, true, true, true, true, true, true, false, false, false, false, false, false, false] rfl rfl (any_of HT_.out (by kernel_rfl)) (fun _ _ _ h => h) (Or.inr ⟨by rfl, rfl⟩) ?_ ?_
                rotate_left
                · simp only [Act.put, List.setIfInBounds_toArray, List.set_cons_zero, List.set_cons_succ, i64_w, i32_w]
                  rfl
                refine pure_ (i := 18) (N := some 57) (v := undef) (a' := ?_) #[true, true, true, true, true, true, true, true, true, true, true, true, true, true, true, true, true, true, true, false, false, false, false, false, false] rfl rfl (any_of HT_.out (by kernel_rfl)) (fun _ _ _ h => h) (Or.inr ⟨by rfl, rfl⟩) ?_ ?_
                rotate_left
                · simp only [Act.put, List.setIfInBounds_toArray, List.set_cons_zero, List.set_cons_succ, i64_w, i32_w]
                  rfl
                refine pure_ (i := 19) (N := some 58) (v := undef) (a' := ?_) #[true, true, true, true, true, true, true, true, true, true, true, true, true, true, true, true, true, true, true, true, false, false, false, false, false] rfl rfl (any_of HT_.out (by kernel_rfl)) (fun _ _ _ h => h) (Or.inr ⟨by rfl, rfl⟩) ?_ ?_
                rotate_left
                · simp only [Act.put, List.setIfInBounds_toArray, List.set_cons_zero, List.set_cons_succ, i64_w, i32_w]
                  rfl
                refine pure_ (i := 20) (N := some 59) (v := undef) (a' := ?_) #[true, true, true, true, true, true, true, true, true, true, true, true, true, true, true, true, true, true, true, true, true, false, false, false, false] rfl rfl (any_of HT_.out (by kernel_rfl)) (fun _ _ _ h => h) (Or.inr ⟨by rfl, rfl⟩) ?_ ?_
                rotate_left
                · simp only [Act.put, List.setIfInBounds_toArray, List.set_cons_zero, List.set_cons_succ, i64_w, i32_w]
                  rfl
                refine pure_ (i := 21) (N := some 60) (v := undef) (a' := ?_) #[true, true, true, true, true, true, true, true, true, true, true, true, true, true, true, true, true, true, true, true, true, true, false, false, false] rfl rfl (any_of HT_.out (by kernel_rfl)) (fun _ _ _ h => h) (Or.inr ⟨by rfl, rfl⟩) ?_ ?_
                rotate_left
                · simp only [Act.put, List.setIfInBounds_toArray, List.set_cons_zero, List.set_cons_succ, i64_w, i32_w]
                  rfl
                refine pure_ (i := 22) (N := some 61) (v := undef) (a' := ?_) #[true, true, true, true, true, true, true, true, true, true, true, true, true, true, true, true, true, true, true, true, true, true, true, false, false] rfl rfl (any_of HT_.out (by kernel_rfl)) (fun _ _ _ h => h) (Or.inr ⟨by rfl, rfl⟩) ?_ ?_
                rotate_left
                · simp only [Act.put, List.setIfInBounds_toArray, List.set_cons_zero, List.set_cons_succ, i64_w, i32_w]
                  rfl
                refine pure_ (i := 23) (N := some 62) (v := ?_) (a' := ?_) #[true, true, true, true, true, true, true, true, true, true, true, true, true, true, true, true, true, true, true, true, true, true, true, true, false] rfl rfl (any_of HT_.out (by kernel_rfl)) (fun _ _ _ h => h) (Or.inl ⟨by rfl, ?_⟩) ?_ ?_
                rotate_left
                · intro w'
                  go_simp
                  with_reducible rfl
                rotate_left
                · simp only [Act.put, List.setIfInBounds_toArray, List.set_cons_zero, List.set_cons_succ, i64_w, i32_w]
                  rfl
                refine pure_ (i := 24) (N := some 8) (v := ?_) (a' := ?_) #[true, true, true, true, true, true, true, true, true, true, true, true, true, true, true, true, true, true, true, true, true, true, true, true, true] rfl rfl (any_of HT_.out (by kernel_rfl)) (fun _ _ _ h => h) (Or.inl ⟨by rfl, ?_⟩) ?_ ?_
                rotate_left
                · intro w'
                  go_simp
                  with_reducible rfl
                rotate_left
                · simp only [Act.put, List.setIfInBounds_toArray, List.set_cons_zero, List.set_cons_succ, i64_w, i32_w]
                  rfl
                refine done_ (done_of HT_.out (by kernel_rfl)) ?_
                try go_wp2
                go_ret
                exact ⟨by first | rfl | (simp [errW_none, errW_some] <;> rfl) | (simp [*, errW_none, errW_some] <;> rfl), b_ HB⟩
            · rw [if_neg c18] at H
              have c18b0 : (t220 == t232) = false := beq_eq_false_iff_ne.mpr c18
              have c18b1 : (t220 != t232) = true := bne_iff_ne.mpr c18
              obtain rfl := Option.some.inj H
              try go_wp2_with (first | ((with_reducible refine gate_callee (f := 13) rfl ?_); refine goesL_ (some 29) rfl rfl Try.func13 (by kernel_rfl) rfl #[.slice A0 l0.length c0, .int .i64 a2, .int .i64 a3] rfl (by (try simp only [List.map_toArray, List.map_cons, List.map_nil]); first | done | rfl | (simp only [List.length_drop, List.length_take]; rfl)) ?_; (with_reducible refine (feed_Reply.calls kj6 _ _ l0 a2 a3 t210 t211 t212 t213 t214 t217 t220 _ ?side1 ?side2 A14.out).mono ?_); (case side1 => repeat (first | exact (Kd.C_below HR0.out HB.out) | (with_reducible refine Kd.C_alloc ?_ _) | (with_reducible refine Kd.C_drewN ?_ _) | (with_reducible refine Kd.C_drew ?_))); (case side2 => exact HC0.out); rintro e w68 ⟨v215, v218, rfl, ho0, ho1, hb⟩; refine ⟨_, rfl, ?_⟩; have n0_ := Aside0.mk (Kd.R_lower ho0 (below_size (b_ HB))); have n1_ := Aside0.mk (Kd.R_lower ho1 (below_size (b_ HB))); have n2_ := Aside0.mk (blk_below (k_ BK207) hb); have n3_ := Aside0.mk (below_step (b_ HB) hb); clear BK207; clear HB; have HO216 := n0_; have HO219 := n1_; have BK207 := n2_; have HB := n3_; clear n0_ n1_ n2_ n3_; (try clear hb); (try clear hb2); (try clear hk); (try clear hi); (try clear ho0); (try clear ho1)) | ((with_reducible refine gate_dst (N := 9) rfl ?_); (try (refine gate_guard (by rfl) ?_; dsimp only)); refine box_event ?hg (N := 9) ?hd (cs := #[.int .i64 0, .int .i64 0, .int .i64 0, .int .i64 0, .slice none 0 0, .slice none 0 0]) (t := 32) ?hr ?_; (case hd => rfl); (case hg => rfl); (case hr => first | (go_simp; done) | (go_simp; rfl)); intro gb221 hg w69 hbox hb; have n0_ := Aside0.mk (Kd.R_below (by (with_reducible repeat (first | apply Kd.R_alloc | apply Kd.R_drewN | apply Kd.R_drew)); exact HO216.out) hb); have n1_ := Aside0.mk (Kd.R_below (by (with_reducible repeat (first | apply Kd.R_alloc | apply Kd.R_drewN | apply Kd.R_drew)); exact HO219.out) hb); have n2_ := Aside0.mk (blk_below (k_ BK207) hb); have n3_ := Aside0.mk (below_step (b_ HB) hb); have n4_ := Aside0.mk (hbox); have n5_ := Aside0.mk ((by rw [hg]; exact (below_size (b_ HB)) : w.heap.size ≤ gb221)); have n6_ := n5_; have n7_ := Aside0.mk ((by rw [hg]; exact Nat.ne_of_lt (blk_lt (k_ BK207)) : gb207 ≠ gb221)); have n8_ := Aside0.mk ((by rw [hg]; exact Nat.ne_of_gt (blk_lt (k_ BK207)) : gb221 ≠ gb207)); clear HO216; clear HO219; clear BK207; clear HB; have HO216 := n0_; have HO219 := n1_; have BK207 := n2_; have HB := n3_; have BK221 := n4_; have GW221 := n5_; have GE221 := n6_; have NB207_221 := n7_; have NB221_207 := n8_; clear n0_ n1_ n2_ n3_ n4_ n5_ n6_ n7_ n8_; clear hb hbox hg; have hnb70 := NB221_207.out; have hnc70 := NB207_221.out; have hcz71_0 : w69.cell? ⟨gb221, 0, none⟩ = some (.int .i64 0) := (blk_cell BK221.out 0).trans rfl; have hcz71_1 : w69.cell? ⟨gb221, 1, none⟩ = some (.int .i64 0) := (blk_cell BK221.out 1).trans rfl; have hcz71_2 : w69.cell? ⟨gb221, 2, none⟩ = some (.int .i64 0) := (blk_cell BK221.out 2).trans rfl; have hcz71_3 : w69.cell? ⟨gb221, 3, none⟩ = some (.int .i64 0) := (blk_cell BK221.out 3).trans rfl; have hcz71_4 : w69.cell? ⟨gb221, 4, none⟩ = some (.slice none 0 0) := (blk_cell BK221.out 4).trans rfl; have hcz71_5 : w69.cell? ⟨gb221, 5, none⟩ = some (.slice none 0 0) := (blk_cell BK221.out 5).trans rfl; have hfz71_0 := blk_frozen BK221.out 0; have hfz71_1 := blk_frozen BK221.out 1; have hfz71_2 := blk_frozen BK221.out 2; have hfz71_3 := blk_frozen BK221.out 3; have hfz71_4 := blk_frozen BK221.out 4; have hfz71_5 := blk_frozen BK221.out 5; obtain ⟨Ao72, co72, eo72⟩ := Kd.R_slice HO216.out; subst eo72; obtain ⟨Ao73, co73, eo73⟩ := Kd.R_slice HO219.out; subst eo73) | ((with_reducible refine gate_callee (f := 14) rfl ?_); refine goesL_ (some 36) rfl rfl Try.func14 (by kernel_rfl) rfl #[.slice A0 l0.length c0, .int .i64 a2, .int .i64 a3] rfl (by (try simp only [List.map_toArray, List.map_cons, List.map_nil]); first | done | rfl | (simp only [List.length_drop, List.length_take]; rfl)) ?_; (with_reducible refine (chalklineref35_Reply.calls kj6 _ _ l0 a2 a3 t222 t223 t224 t225 t226 t229 t232 _ ?side1 ?side2 A15.out).mono ?_); (case side1 => exact Kd.C_below HR0.out (b_ HB)); (case side2 => exact HC0.out); rintro e w74 ⟨v227, v230, rfl, ho0, ho1, hb⟩; refine ⟨_, rfl, ?_⟩; have n0_ := Aside0.mk (Kd.R_elder' (by (with_reducible repeat (first | apply Kd.R_alloc | apply Kd.R_drewN | apply Kd.R_drew)); exact (Kd.R_mono (Kd.R_far (p := ⟨gb221, 5, none⟩) (Kd.R_far (p := ⟨gb221, 4, none⟩) (Kd.R_far (p := ⟨gb221, 3, none⟩) (Kd.R_far (p := ⟨gb221, 2, none⟩) (Kd.R_far (p := ⟨gb221, 1, none⟩) (Kd.R_far (p := ⟨gb221, 0, none⟩) (Kd.R_types HO216.out BK221.out (by decide)) (fun _ hk => hk.2) (.int .i64 t210)) (fun _ hk => hk.2) (.int .i64 t211)) (fun _ hk => hk.2) (.int .i64 t212)) (fun _ hk => hk.2) (.int .i64 t213)) (fun _ hk => hk.2) (.slice Ao72 t214.length co72)) (fun _ hk => hk.2) (.slice Ao73 t217.length co73)) (fun _ h_ => h_.1))) (Kd.R_base ho0) hb); have n1_ := Aside0.mk (Kd.R_elder' (by (with_reducible repeat (first | apply Kd.R_alloc | apply Kd.R_drewN | apply Kd.R_drew)); exact (Kd.R_mono (Kd.R_far (p := ⟨gb221, 5, none⟩) (Kd.R_far (p := ⟨gb221, 4, none⟩) (Kd.R_far (p := ⟨gb221, 3, none⟩) (Kd.R_far (p := ⟨gb221, 2, none⟩) (Kd.R_far (p := ⟨gb221, 1, none⟩) (Kd.R_far (p := ⟨gb221, 0, none⟩) (Kd.R_types HO219.out BK221.out (by decide)) (fun _ hk => hk.2) (.int .i64 t210)) (fun _ hk => hk.2) (.int .i64 t211)) (fun _ hk => hk.2) (.int .i64 t212)) (fun _ hk => hk.2) (.int .i64 t213)) (fun _ hk => hk.2) (.slice Ao72 t214.length co72)) (fun _ hk => hk.2) (.slice Ao73 t217.length co73)) (fun _ h_ => h_.1))) (Kd.R_base ho1) hb); have n2_ := Aside0.mk (Kd.R_lower (Kd.R_new' ho0 (Kd.R_lt (by (with_reducible repeat (first | apply Kd.R_alloc | apply Kd.R_drewN | apply Kd.R_drew)); exact (Kd.R_mono (Kd.R_far (p := ⟨gb221, 5, none⟩) (Kd.R_far (p := ⟨gb221, 4, none⟩) (Kd.R_far (p := ⟨gb221, 3, none⟩) (Kd.R_far (p := ⟨gb221, 2, none⟩) (Kd.R_far (p := ⟨gb221, 1, none⟩) (Kd.R_far (p := ⟨gb221, 0, none⟩) (Kd.R_types HO216.out BK221.out (by decide)) (fun _ hk => hk.2) (.int .i64 t210)) (fun _ hk => hk.2) (.int .i64 t211)) (fun _ hk => hk.2) (.int .i64 t212)) (fun _ hk => hk.2) (.int .i64 t213)) (fun _ hk => hk.2) (.slice Ao72 t214.length co72)) (fun _ hk => hk.2) (.slice Ao73 t217.length co73)) (fun _ h_ => h_.1))))) (below_size (b_ HB))); have n3_ := Aside0.mk (Kd.R_lower (Kd.R_new' ho1 (Kd.R_lt (by (with_reducible repeat (first | apply Kd.R_alloc | apply Kd.R_drewN | apply Kd.R_drew)); exact (Kd.R_mono (Kd.R_far (p := ⟨gb221, 5, none⟩) (Kd.R_far (p := ⟨gb221, 4, none⟩) (Kd.R_far (p := ⟨gb221, 3, none⟩) (Kd.R_far (p := ⟨gb221, 2, none⟩) (Kd.R_far (p := ⟨gb221, 1, none⟩) (Kd.R_far (p := ⟨gb221, 0, none⟩) (Kd.R_types HO219.out BK221.out (by decide)) (fun _ hk => hk.2) (.int .i64 t210)) (fun _ hk => hk.2) (.int .i64 t211)) (fun _ hk => hk.2) (.int .i64 t212)) (fun _ hk => hk.2) (.int .i64 t213)) (fun _ hk => hk.2) (.slice Ao72 t214.length co72)) (fun _ hk => hk.2) (.slice Ao73 t217.length co73)) (fun _ h_ => h_.1))))) (below_size (b_ HB))); have n4_ := Aside0.mk (blk_below (g := gb207) (o := .cells #[.int .i64 a1_0, .slice A1_1 l1_1.length c1_1] 27 (0, 0)) (by (with_reducible repeat (first | refine blk_drewN ?_ _ | refine blk_drew ?_ | refine blk_alloc ?_ _)); refine blk_far ?_ NB207_221.out _; (with_reducible repeat (first | refine blk_drewN ?_ _ | refine blk_drew ?_ | refine blk_alloc ?_ _)); refine blk_far ?_ NB207_221.out _; (with_reducible repeat (first | refine blk_drewN ?_ _ | refine blk_drew ?_ | refine blk_alloc ?_ _)); refine blk_far ?_ NB207_221.out _; (with_reducible repeat (first | refine blk_drewN ?_ _ | refine blk_drew ?_ | refine blk_alloc ?_ _)); refine blk_far ?_ NB207_221.out _; (with_reducible repeat (first | refine blk_drewN ?_ _ | refine blk_drew ?_ | refine blk_alloc ?_ _)); refine blk_far ?_ NB207_221.out _; (with_reducible repeat (first | refine blk_drewN ?_ _ | refine blk_drew ?_ | refine blk_alloc ?_ _)); refine blk_far ?_ NB207_221.out _; (with_reducible repeat (first | refine blk_drewN ?_ _ | refine blk_drew ?_ | refine blk_alloc ?_ _)); exact BK207.out) hb); have n5_ := Aside0.mk (blk_below (g := gb221) (o := .cells #[.int .i64 t210, .int .i64 t211, .int .i64 t212, .int .i64 t213, .slice Ao72 t214.length co72, .slice Ao73 t217.length co73] 32 (0, 0)) (by (with_reducible repeat (first | refine blk_drewN ?_ _ | refine blk_drew ?_ | refine blk_alloc ?_ _)); refine blk_put (cs := #[.int .i64 t210, .int .i64 t211, .int .i64 t212, .int .i64 t213, .slice Ao72 t214.length co72, .slice none 0 0]) ?_ 5 _ rfl; (with_reducible repeat (first | refine blk_drewN ?_ _ | refine blk_drew ?_ | refine blk_alloc ?_ _)); refine blk_put (cs := #[.int .i64 t210, .int .i64 t211, .int .i64 t212, .int .i64 t213, .slice none 0 0, .slice none 0 0]) ?_ 4 _ rfl; (with_reducible repeat (first | refine blk_drewN ?_ _ | refine blk_drew ?_ | refine blk_alloc ?_ _)); refine blk_put (cs := #[.int .i64 t210, .int .i64 t211, .int .i64 t212, .int .i64 0, .slice none 0 0, .slice none 0 0]) ?_ 3 _ rfl; (with_reducible repeat (first | refine blk_drewN ?_ _ | refine blk_drew ?_ | refine blk_alloc ?_ _)); refine blk_put (cs := #[.int .i64 t210, .int .i64 t211, .int .i64 0, .int .i64 0, .slice none 0 0, .slice none 0 0]) ?_ 2 _ rfl; (with_reducible repeat (first | refine blk_drewN ?_ _ | refine blk_drew ?_ | refine blk_alloc ?_ _)); refine blk_put (cs := #[.int .i64 t210, .int .i64 0, .int .i64 0, .int .i64 0, .slice none 0 0, .slice none 0 0]) ?_ 1 _ rfl; (with_reducible repeat (first | refine blk_drewN ?_ _ | refine blk_drew ?_ | refine blk_alloc ?_ _)); refine blk_put (cs := #[.int .i64 0, .int .i64 0, .int .i64 0, .int .i64 0, .slice none 0 0, .slice none 0 0]) ?_ 0 _ rfl; (with_reducible repeat (first | refine blk_drewN ?_ _ | refine blk_drew ?_ | refine blk_alloc ?_ _)); exact BK221.out) hb); have n6_ := Aside0.mk (below_step (b_ HB) hb); clear HO216; clear HO219; clear BK207; clear BK221; clear HB; have HO216 := n0_; have HO219 := n1_; have HO228 := n2_; have HO231 := n3_; have BK207 := n4_; have BK221 := n5_; have HB := n6_; clear n0_ n1_ n2_ n3_ n4_ n5_ n6_; (try clear hb); (try clear hb2); (try clear hk); (try clear hi); (try clear ho0); (try clear ho1)) | ((with_reducible refine gate_dst (N := 11) rfl ?_); (try (refine gate_guard (by rfl) ?_; dsimp only)); refine box_event ?hg (N := 11) ?hd (cs := #[.int .i64 0, .int .i64 0, .int .i64 0, .int .i64 0, .slice none 0 0, .slice none 0 0]) (t := 32) ?hr ?_; (case hd => rfl); (case hg => rfl); (case hr => first | (go_simp; done) | (go_simp; rfl)); intro gb233 hg w75 hbox hb; have n0_ := Aside0.mk (Kd.R_below (by (with_reducible repeat (first | apply Kd.R_alloc | apply Kd.R_drewN | apply Kd.R_drew)); exact HO216.out) hb); have n1_ := Aside0.mk (Kd.R_below (by (with_reducible repeat (first | apply Kd.R_alloc | apply Kd.R_drewN | apply Kd.R_drew)); exact HO219.out) hb); have n2_ := Aside0.mk (Kd.R_below (by (with_reducible repeat (first | apply Kd.R_alloc | apply Kd.R_drewN | apply Kd.R_drew)); exact HO228.out) hb); have n3_ := Aside0.mk (Kd.R_below (by (with_reducible repeat (first | apply Kd.R_alloc | apply Kd.R_drewN | apply Kd.R_drew)); exact HO231.out) hb); have n4_ := Aside0.mk (blk_below (k_ BK207) hb); have n5_ := Aside0.mk (blk_below (k_ BK221) hb); have n6_ := Aside0.mk (below_step (b_ HB) hb); have n7_ := Aside0.mk (hbox); have n8_ := Aside0.mk ((by rw [hg]; exact (below_size (b_ HB)) : w.heap.size ≤ gb233)); have n9_ := n8_; have n10_ := Aside0.mk ((by rw [hg]; exact Nat.ne_of_lt (blk_lt (k_ BK207)) : gb207 ≠ gb233)); have n11_ := Aside0.mk ((by rw [hg]; exact Nat.ne_of_gt (blk_lt (k_ BK207)) : gb233 ≠ gb207)); have n12_ := Aside0.mk ((by rw [hg]; exact Nat.ne_of_lt (blk_lt (k_ BK221)) : gb221 ≠ gb233)); have n13_ := Aside0.mk ((by rw [hg]; exact Nat.ne_of_gt (blk_lt (k_ BK221)) : gb233 ≠ gb221)); clear HO216; clear HO219; clear HO228; clear HO231; clear BK207; clear BK221; clear HB; have HO216 := n0_; have HO219 := n1_; have HO228 := n2_; have HO231 := n3_; have BK207 := n4_; have BK221 := n5_; have HB := n6_; have BK233 := n7_; have GW233 := n8_; have GE233 := n9_; have NB207_233 := n10_; have NB233_207 := n11_; have NB221_233 := n12_; have NB233_221 := n13_; clear n0_ n1_ n2_ n3_ n4_ n5_ n6_ n7_ n8_ n9_ n10_ n11_ n12_ n13_; clear hb hbox hg; have hnb76 := NB233_207.out; have hnc76 := NB207_233.out; have hnb77 := NB233_221.out; have hnc77 := NB221_233.out; have hcz78_0 : w75.cell? ⟨gb233, 0, none⟩ = some (.int .i64 0) := (blk_cell BK233.out 0).trans rfl; have hcz78_1 : w75.cell? ⟨gb233, 1, none⟩ = some (.int .i64 0) := (blk_cell BK233.out 1).trans rfl; have hcz78_2 : w75.cell? ⟨gb233, 2, none⟩ = some (.int .i64 0) := (blk_cell BK233.out 2).trans rfl; have hcz78_3 : w75.cell? ⟨gb233, 3, none⟩ = some (.int .i64 0) := (blk_cell BK233.out 3).trans rfl; have hcz78_4 : w75.cell? ⟨gb233, 4, none⟩ = some (.slice none 0 0) := (blk_cell BK233.out 4).trans rfl; have hcz78_5 : w75.cell? ⟨gb233, 5, none⟩ = some (.slice none 0 0) := (blk_cell BK233.out 5).trans rfl; have hfz78_0 := blk_frozen BK233.out 0; have hfz78_1 := blk_frozen BK233.out 1; have hfz78_2 := blk_frozen BK233.out 2; have hfz78_3 := blk_frozen BK233.out 3; have hfz78_4 := blk_frozen BK233.out 4; have hfz78_5 := blk_frozen BK233.out 5; obtain ⟨Ao79, co79, eo79⟩ := Kd.R_slice HO228.out; subst eo79; obtain ⟨Ao80, co80, eo80⟩ := Kd.R_slice HO231.out; subst eo80))
              have n0_ : Aside0 (Kd.R k60 60 ((((((w75.setCell ⟨gb233, 0, none⟩ (.int .i64 t222)).setCell ⟨gb233, 1, none⟩ (.int .i64 t223)).setCell ⟨gb233, 2, none⟩ (.int .i64 t224)).setCell ⟨gb233, 3, none⟩ (.int .i64 t225)).setCell ⟨gb233, 4, none⟩ (.slice Ao79 t226.length co79)).setCell ⟨gb233, 5, none⟩ (.slice Ao80 t229.length co80)) w.heap.size (fun k_ => some k_ ≠ (.slice Ao79 t226.length co79 : Value).ownBlock) (.slice Ao72 t214.length co72) t214) := ⟨by (with_reducible repeat (first | apply Kd.R_alloc | apply Kd.R_drewN | apply Kd.R_drew)); exact Kd.R_mono (Kd.R_far (p := ⟨gb233, 5, none⟩) (Kd.R_far (p := ⟨gb233, 4, none⟩) (Kd.R_far (p := ⟨gb233, 3, none⟩) (Kd.R_far (p := ⟨gb233, 2, none⟩) (Kd.R_far (p := ⟨gb233, 1, none⟩) (Kd.R_far (p := ⟨gb233, 0, none⟩) (Kd.R_types HO216.out BK233.out (by decide)) (fun _ hk => hk.2) (.int .i64 t222)) (fun _ hk => hk.2) (.int .i64 t223)) (fun _ hk => hk.2) (.int .i64 t224)) (fun _ hk => hk.2) (.int .i64 t225)) (fun _ hk => hk.2) (.slice Ao79 t226.length co79)) (fun _ hk => hk.2) (.slice Ao80 t229.length co80)) (fun _ hk => hk.1.2)⟩
              have n1_ : Aside0 (Kd.R k64 64 ((((((w75.setCell ⟨gb233, 0, none⟩ (.int .i64 t222)).setCell ⟨gb233, 1, none⟩ (.int .i64 t223)).setCell ⟨gb233, 2, none⟩ (.int .i64 t224)).setCell ⟨gb233, 3, none⟩ (.int .i64 t225)).setCell ⟨gb233, 4, none⟩ (.slice Ao79 t226.length co79)).setCell ⟨gb233, 5, none⟩ (.slice Ao80 t229.length co80)) w.heap.size (fun k_ => some k_ ≠ (.slice Ao80 t229.length co80 : Value).ownBlock) (.slice Ao73 t217.length co73) t217) := ⟨by (with_reducible repeat (first | apply Kd.R_alloc | apply Kd.R_drewN | apply Kd.R_drew)); exact Kd.R_mono (Kd.R_far (p := ⟨gb233, 5, none⟩) (Kd.R_far (p := ⟨gb233, 4, none⟩) (Kd.R_far (p := ⟨gb233, 3, none⟩) (Kd.R_far (p := ⟨gb233, 2, none⟩) (Kd.R_far (p := ⟨gb233, 1, none⟩) (Kd.R_far (p := ⟨gb233, 0, none⟩) (Kd.R_types HO219.out BK233.out (by decide)) (fun _ hk => hk.2) (.int .i64 t222)) (fun _ hk => hk.2) (.int .i64 t223)) (fun _ hk => hk.2) (.int .i64 t224)) (fun _ hk => hk.2) (.int .i64 t225)) (fun _ hk => hk.2) (.slice Ao79 t226.length co79)) (fun _ hk => hk.2) (.slice Ao80 t229.length co80)) (fun _ hk => hk.1.2)⟩
              have n2_ : Aside0 (Kd.R k60 60 ((((((w75.setCell ⟨gb233, 0, none⟩ (.int .i64 t222)).setCell ⟨gb233, 1, none⟩ (.int .i64 t223)).setCell ⟨gb233, 2, none⟩ (.int .i64 t224)).setCell ⟨gb233, 3, none⟩ (.int .i64 t225)).setCell ⟨gb233, 4, none⟩ (.slice Ao79 t226.length co79)).setCell ⟨gb233, 5, none⟩ (.slice Ao80 t229.length co80)) w.heap.size (fun k_ => some k_ ≠ (.slice Ao72 t214.length co72 : Value).ownBlock) (.slice Ao79 t226.length co79) t226) := ⟨by (with_reducible repeat (first | apply Kd.R_alloc | apply Kd.R_drewN | apply Kd.R_drew)); exact Kd.R_mono (Kd.R_far (p := ⟨gb233, 5, none⟩) (Kd.R_far (p := ⟨gb233, 4, none⟩) (Kd.R_far (p := ⟨gb233, 3, none⟩) (Kd.R_far (p := ⟨gb233, 2, none⟩) (Kd.R_far (p := ⟨gb233, 1, none⟩) (Kd.R_far (p := ⟨gb233, 0, none⟩) (Kd.R_types HO228.out BK233.out (by decide)) (fun _ hk => hk.2) (.int .i64 t222)) (fun _ hk => hk.2) (.int .i64 t223)) (fun _ hk => hk.2) (.int .i64 t224)) (fun _ hk => hk.2) (.int .i64 t225)) (fun _ hk => hk.2) (.slice Ao79 t226.length co79)) (fun _ hk => hk.2) (.slice Ao80 t229.length co80)) (fun _ hk => hk.1.2)⟩
              have n3_ : Aside0 (Kd.R k64 64 ((((((w75.setCell ⟨gb233, 0, none⟩ (.int .i64 t222)).setCell ⟨gb233, 1, none⟩ (.int .i64 t223)).setCell ⟨gb233, 2, none⟩ (.int .i64 t224)).setCell ⟨gb233, 3, none⟩ (.int .i64 t225)).setCell ⟨gb233, 4, none⟩ (.slice Ao79 t226.length co79)).setCell ⟨gb233, 5, none⟩ (.slice Ao80 t229.length co80)) w.heap.size (fun k_ => some k_ ≠ (.slice Ao73 t217.length co73 : Value).ownBlock) (.slice Ao80 t229.length co80) t229) := ⟨by (with_reducible repeat (first | apply Kd.R_alloc | apply Kd.R_drewN | apply Kd.R_drew)); exact Kd.R_mono (Kd.R_far (p := ⟨gb233, 5, none⟩) (Kd.R_far (p := ⟨gb233, 4, none⟩) (Kd.R_far (p := ⟨gb233, 3, none⟩) (Kd.R_far (p := ⟨gb233, 2, none⟩) (Kd.R_far (p := ⟨gb233, 1, none⟩) (Kd.R_far (p := ⟨gb233, 0, none⟩) (Kd.R_types HO231.out BK233.out (by decide)) (fun _ hk => hk.2) (.int .i64 t222)) (fun _ hk => hk.2) (.int .i64 t223)) (fun _ hk => hk.2) (.int .i64 t224)) (fun _ hk => hk.2) (.int .i64 t225)) (fun _ hk => hk.2) (.slice Ao79 t226.length co79)) (fun _ hk => hk.2) (.slice Ao80 t229.length co80)) (fun _ hk => hk.1.2)⟩
              have n4_ : Aside0 (((((((w75.setCell ⟨gb233, 0, none⟩ (.int .i64 t222)).setCell ⟨gb233, 1, none⟩ (.int .i64 t223)).setCell ⟨gb233, 2, none⟩ (.int .i64 t224)).setCell ⟨gb233, 3, none⟩ (.int .i64 t225)).setCell ⟨gb233, 4, none⟩ (.slice Ao79 t226.length co79)).setCell ⟨gb233, 5, none⟩ (.slice Ao80 t229.length co80)).heap[gb207]? = some (.cells #[.int .i64 a1_0, .slice A1_1 l1_1.length c1_1] 27 (0, 0))) := ⟨by (with_reducible repeat (first | refine blk_drewN ?_ _ | refine blk_drew ?_ | refine blk_alloc ?_ _)); refine blk_far ?_ NB207_233.out _; (with_reducible repeat (first | refine blk_drewN ?_ _ | refine blk_drew ?_ | refine blk_alloc ?_ _)); refine blk_far ?_ NB207_233.out _; (with_reducible repeat (first | refine blk_drewN ?_ _ | refine blk_drew ?_ | refine blk_alloc ?_ _)); refine blk_far ?_ NB207_233.out _; (with_reducible repeat (first | refine blk_drewN ?_ _ | refine blk_drew ?_ | refine blk_alloc ?_ _)); refine blk_far ?_ NB207_233.out _; (with_reducible repeat (first | refine blk_drewN ?_ _ | refine blk_drew ?_ | refine blk_alloc ?_ _)); refine blk_far ?_ NB207_233.out _; (with_reducible repeat (first | refine blk_drewN ?_ _ | refine blk_drew ?_ | refine blk_alloc ?_ _)); refine blk_far ?_ NB207_233.out _; (with_reducible repeat (first | refine blk_drewN ?_ _ | refine blk_drew ?_ | refine blk_alloc ?_ _)); exact BK207.out⟩
              have n5_ : Aside0 (((((((w75.setCell ⟨gb233, 0, none⟩ (.int .i64 t222)).setCell ⟨gb233, 1, none⟩ (.int .i64 t223)).setCell ⟨gb233, 2, none⟩ (.int .i64 t224)).setCell ⟨gb233, 3, none⟩ (.int .i64 t225)).setCell ⟨gb233, 4, none⟩ (.slice Ao79 t226.length co79)).setCell ⟨gb233, 5, none⟩ (.slice Ao80 t229.length co80)).heap[gb221]? = some (.cells #[.int .i64 t210, .int .i64 t211, .int .i64 t212, .int .i64 t213, .slice Ao72 t214.length co72, .slice Ao73 t217.length co73] 32 (0, 0))) := ⟨by (with_reducible repeat (first | refine blk_drewN ?_ _ | refine blk_drew ?_ | refine blk_alloc ?_ _)); refine blk_far ?_ NB221_233.out _; (with_reducible repeat (first | refine blk_drewN ?_ _ | refine blk_drew ?_ | refine blk_alloc ?_ _)); refine blk_far ?_ NB221_233.out _; (with_reducible repeat (first | refine blk_drewN ?_ _ | refine blk_drew ?_ | refine blk_alloc ?_ _)); refine blk_far ?_ NB221_233.out _; (with_reducible repeat (first | refine blk_drewN ?_ _ | refine blk_drew ?_ | refine blk_alloc ?_ _)); refine blk_far ?_ NB221_233.out _; (with_reducible repeat (first | refine blk_drewN ?_ _ | refine blk_drew ?_ | refine blk_alloc ?_ _)); refine blk_far ?_ NB221_233.out _; (with_reducible repeat (first | refine blk_drewN ?_ _ | refine blk_drew ?_ | refine blk_alloc ?_ _)); refine blk_far ?_ NB221_233.out _; (with_reducible repeat (first | refine blk_drewN ?_ _ | refine blk_drew ?_ | refine blk_alloc ?_ _)); exact BK221.out⟩
              have n6_ : Aside0 (((((((w75.setCell ⟨gb233, 0, none⟩ (.int .i64 t222)).setCell ⟨gb233, 1, none⟩ (.int .i64 t223)).setCell ⟨gb233, 2, none⟩ (.int .i64 t224)).setCell ⟨gb233, 3, none⟩ (.int .i64 t225)).setCell ⟨gb233, 4, none⟩ (.slice Ao79 t226.length co79)).setCell ⟨gb233, 5, none⟩ (.slice Ao80 t229.length co80)).heap[gb233]? = some (.cells #[.int .i64 t222, .int .i64 t223, .int .i64 t224, .int .i64 t225, .slice Ao79 t226.length co79, .slice Ao80 t229.length co80] 32 (0, 0))) := ⟨by (with_reducible repeat (first | refine blk_drewN ?_ _ | refine blk_drew ?_ | refine blk_alloc ?_ _)); refine blk_put (cs := #[.int .i64 t222, .int .i64 t223, .int .i64 t224, .int .i64 t225, .slice Ao79 t226.length co79, .slice none 0 0]) ?_ 5 _ rfl; (with_reducible repeat (first | refine blk_drewN ?_ _ | refine blk_drew ?_ | refine blk_alloc ?_ _)); refine blk_put (cs := #[.int .i64 t222, .int .i64 t223, .int .i64 t224, .int .i64 t225, .slice none 0 0, .slice none 0 0]) ?_ 4 _ rfl; (with_reducible repeat (first | refine blk_drewN ?_ _ | refine blk_drew ?_ | refine blk_alloc ?_ _)); refine blk_put (cs := #[.int .i64 t222, .int .i64 t223, .int .i64 t224, .int .i64 0, .slice none 0 0, .slice none 0 0]) ?_ 3 _ rfl; (with_reducible repeat (first | refine blk_drewN ?_ _ | refine blk_drew ?_ | refine blk_alloc ?_ _)); refine blk_put (cs := #[.int .i64 t222, .int .i64 t223, .int .i64 0, .int .i64 0, .slice none 0 0, .slice none 0 0]) ?_ 2 _ rfl; (with_reducible repeat (first | refine blk_drewN ?_ _ | refine blk_drew ?_ | refine blk_alloc ?_ _)); refine blk_put (cs := #[.int .i64 t222, .int .i64 0, .int .i64 0, .int .i64 0, .slice none 0 0, .slice none 0 0]) ?_ 1 _ rfl; (with_reducible repeat (first | refine blk_drewN ?_ _ | refine blk_drew ?_ | refine blk_alloc ?_ _)); refine blk_put (cs := #[.int .i64 0, .int .i64 0, .int .i64 0, .int .i64 0, .slice none 0 0, .slice none 0 0]) ?_ 0 _ rfl; (with_reducible repeat (first | refine blk_drewN ?_ _ | refine blk_drew ?_ | refine blk_alloc ?_ _)); exact BK233.out⟩
              have n7_ : Aside0 (Below w.heap.size w ((((((w75.setCell ⟨gb233, 0, none⟩ (.int .i64 t222)).setCell ⟨gb233, 1, none⟩ (.int .i64 t223)).setCell ⟨gb233, 2, none⟩ (.int .i64 t224)).setCell ⟨gb233, 3, none⟩ (.int .i64 t225)).setCell ⟨gb233, 4, none⟩ (.slice Ao79 t226.length co79)).setCell ⟨gb233, 5, none⟩ (.slice Ao80 t229.length co80))) := ⟨b_ HB⟩
              (try clear HO216)
              (try clear HO219)
              (try clear HO228)
              (try clear HO231)
              (try clear BK207)
              (try clear BK221)
              (try clear BK233)
              (try clear HB)
              generalize ((((((w75.setCell ⟨gb233, 0, none⟩ (.int .i64 t222)).setCell ⟨gb233, 1, none⟩ (.int .i64 t223)).setCell ⟨gb233, 2, none⟩ (.int .i64 t224)).setCell ⟨gb233, 3, none⟩ (.int .i64 t225)).setCell ⟨gb233, 4, none⟩ (.slice Ao79 t226.length co79)).setCell ⟨gb233, 5, none⟩ (.slice Ao80 t229.length co80)) = w81 at n0_ n1_ n2_ n3_ n4_ n5_ n6_ n7_ ⊢
              have HO216 := n0_
              have HO219 := n1_
              have HO228 := n2_
              have HO231 := n3_
              have BK207 := n4_
              have BK221 := n5_
              have BK233 := n6_
              have HB := n7_
              clear n0_ n1_ n2_ n3_ n4_ n5_ n6_ n7_
              have n0_ := Aside0.mk (Kd.R_drew HO216.out)
              have n1_ := Aside0.mk (Kd.R_drew HO219.out)
              have n2_ := Aside0.mk (Kd.R_drew HO228.out)
              have n3_ := Aside0.mk (Kd.R_drew HO231.out)
              have n4_ := Aside0.mk (blk_drew BK207.out)
              have n5_ := Aside0.mk (blk_drew BK221.out)
              have n6_ := Aside0.mk (blk_drew BK233.out)
              have n7_ := Aside0.mk (below_drew1 HB.out)
              clear HO216
              clear HO219
              clear HO228
              clear HO231
              clear BK207
              clear BK221
              clear BK233
              clear HB
              have HO216 := n0_
              have HO219 := n1_
              have HO228 := n2_
              have HO231 := n3_
              have BK207 := n4_
              have BK221 := n5_
              have BK233 := n6_
              have HB := n7_
              clear n0_ n1_ n2_ n3_ n4_ n5_ n6_ n7_
              refine start_ (n := 25) (S := fun w' => w'.cell? ⟨gb221, 0, none⟩ = some (.int .i64 t210) ∧ w'.cell? ⟨gb221, 1, none⟩ = some (.int .i64 t211) ∧ w'.cell? ⟨gb221, 2, none⟩ = some (.int .i64 t212) ∧ w'.cell? ⟨gb221, 3, none⟩ = some (.int .i64 t213) ∧ w'.cell? ⟨gb221, 4, none⟩ = some (.slice Ao72 t214.length co72) ∧ w'.cell? ⟨gb221, 5, none⟩ = some (.slice Ao73 t217.length co73) ∧ w'.cell? ⟨gb233, 0, none⟩ = some (.int .i64 t222) ∧ w'.cell? ⟨gb233, 1, none⟩ = some (.int .i64 t223) ∧ w'.cell? ⟨gb233, 2, none⟩ = some (.int .i64 t224) ∧ w'.cell? ⟨gb233, 3, none⟩ = some (.int .i64 t225) ∧ w'.cell? ⟨gb233, 4, none⟩ = some (.slice Ao79 t226.length co79) ∧ w'.cell? ⟨gb233, 5, none⟩ = some (.slice Ao80 t229.length co80)) (ds := []) #[false, false, false, false, false, false, false, false, false, false, false, false, false, false, false, false, false, false, false, false, false, false, false, false, false] (by kernel_rfl) rfl rfl ⟨(blk_cell BK221.out 0).trans rfl, (blk_cell BK221.out 1).trans rfl, (blk_cell BK221.out 2).trans rfl, (blk_cell BK221.out 3).trans rfl, (blk_cell BK221.out 4).trans rfl, (blk_cell BK221.out 5).trans rfl, (blk_cell BK233.out 0).trans rfl, (blk_cell BK233.out 1).trans rfl, (blk_cell BK233.out 2).trans rfl, (blk_cell BK233.out 3).trans rfl, (blk_cell BK233.out 4).trans rfl, (blk_cell BK233.out 5).trans rfl⟩ (fun hHeld => ?_); refine with_tabW chalklinelaw35_FeedReplies.tab7 chalklinelaw35_FeedReplies.bits7 (fun HT_ HW_ => ?_)
              generalize w81.drew = w82 at HO216 HO219 HO228 HO231 BK207 BK221 BK233 HB hHeld ⊢
              refine take_ (i := 0) (N := some 39) (v := ?_) (a' := ?_) #[true, false, false, false, false, false, false, false, false, false, false, false, false, false, false, false, false, false, false, false, false, false, false, false, false] rfl rfl (take_ofW HT_.out HW_.out (by kernel_rfl)) (fun _ _ _ h => h) (Or.inl ⟨by rfl, ?_⟩) hHeld ?_ ?_
              rotate_left
              · rintro w' ⟨s0, s1, s2, s3, s4, s5, s6, s7, s8, s9, s10, s11⟩
                go_simp
                with_reducible rfl
              rotate_left
              · simp only [Act.put, List.setIfInBounds_toArray, List.set_cons_zero, List.set_cons_succ, i64_w, i32_w]
                rfl
              refine take_ (i := 1) (N := some 40) (v := ?_) (a' := ?_) #[true, true, false, false, false, false, false, false, false, false, false, false, false, false, false, false, false, false, false, false, false, false, false, false, false] rfl rfl (take_ofW HT_.out HW_.out (by kernel_rfl)) (fun _ _ _ h => h) (Or.inl ⟨by rfl, ?_⟩) hHeld ?_ ?_
              rotate_left
              · rintro w' ⟨s0, s1, s2, s3, s4, s5, s6, s7, s8, s9, s10, s11⟩
                go_simp
                with_reducible rfl
              rotate_left
              · simp only [Act.put, List.setIfInBounds_toArray, List.set_cons_zero, List.set_cons_succ, i64_w, i32_w]
                rfl
              refine one_ (i := 2) (N := some 41) #[true, true, true, false, false, false, false, false, false, false, false, false, false, false, false, false, false, false, false, false, false, false, false, false, false] rfl rfl (one_of HT_.out (by kernel_rfl)) (by decide) (fun K hK => ?_)
              refine goes_ Try.func15 (by kernel_rfl) rfl #[.agg #[.int .i64 t210, .int .i64 t211, .int .i64 t212, .int .i64 t213, .slice Ao72 t214.length co72, .slice Ao73 t217.length co73], .agg #[.int .i64 t222, .int .i64 t223, .int .i64 t224, .int .i64 t225, .slice Ao79 t226.length co79, .slice Ao80 t229.length co80]] (by rfl) rfl rfl (by (try simp only [List.map_toArray, List.map_cons, List.map_nil]); first | done | rfl | (simp only [List.length_drop, List.length_take]; rfl)) ?_
              with_reducible refine (chalklineref35_Msgs.calls kj6 t210 t211 t212 t213 _ _ t214 _ _ t217 t222 t223 t224 t225 _ _ t226 _ _ t229 true _ ?side1 ?side2 ?side3 ?side4 ?side5 ?side6 ?side7 ?side8 A16.out).mono ?_
              (case side1 => repeat (first | exact (Kd.R_reads' HO216.out).2.2 | (with_reducible refine Kd.C_alloc ?_ _) | (with_reducible refine Kd.C_drewN ?_ _) | (with_reducible refine Kd.C_drew ?_)))
              (case side2 => exact (Kd.R_reads' HO216.out).2.1)
              (case side3 => repeat (first | exact (Kd.R_reads' HO219.out).2.2 | (with_reducible refine Kd.C_alloc ?_ _) | (with_reducible refine Kd.C_drewN ?_ _) | (with_reducible refine Kd.C_drew ?_)))
              (case side4 => exact (Kd.R_reads' HO219.out).2.1)
              (case side5 => repeat (first | exact (Kd.R_reads' HO228.out).2.2 | (with_reducible refine Kd.C_alloc ?_ _) | (with_reducible refine Kd.C_drewN ?_ _) | (with_reducible refine Kd.C_drew ?_)))
              (case side6 => exact (Kd.R_reads' HO228.out).2.1)
              (case side7 => repeat (first | exact (Kd.R_reads' HO231.out).2.2 | (with_reducible refine Kd.C_alloc ?_ _) | (with_reducible refine Kd.C_drewN ?_ _) | (with_reducible refine Kd.C_drew ?_)))
              (case side8 => exact (Kd.R_reads' HO231.out).2.1)
              rintro e w83 ⟨rfl, hb⟩
              refine ⟨_, rfl, ?_⟩
              have n0_ := Aside0.mk (Kd.R_below (by (with_reducible repeat (first | apply Kd.R_alloc | apply Kd.R_drewN | apply Kd.R_drew)); exact HO216.out) hb)
              have n1_ := Aside0.mk (Kd.R_below (by (with_reducible repeat (first | apply Kd.R_alloc | apply Kd.R_drewN | apply Kd.R_drew)); exact HO219.out) hb)
              have n2_ := Aside0.mk (Kd.R_below (by (with_reducible repeat (first | apply Kd.R_alloc | apply Kd.R_drewN | apply Kd.R_drew)); exact HO228.out) hb)
              have n3_ := Aside0.mk (Kd.R_below (by (with_reducible repeat (first | apply Kd.R_alloc | apply Kd.R_drewN | apply Kd.R_drew)); exact HO231.out) hb)
              have n4_ := Aside0.mk (blk_below (k_ BK207) hb)
              have n5_ := Aside0.mk (blk_below (k_ BK221) hb)
              have n6_ := Aside0.mk (blk_below (k_ BK233) hb)
              have n7_ := Aside0.mk (below_step (b_ HB) hb)
              clear HO216
              clear HO219
              clear HO228
              clear HO231
              clear BK207
              clear BK221
              clear BK233
              clear HB
              have HO216 := n0_
              have HO219 := n1_
              have HO228 := n2_
              have HO231 := n3_
              have BK207 := n4_
              have BK221 := n5_
              have BK233 := n6_
              have HB := n7_
              clear n0_ n1_ n2_ n3_ n4_ n5_ n6_ n7_
              (try clear hb)
              (try clear hb2)
              (try clear hk)
              (try clear hi)
              refine hK.out _ _ ⟨(blk_cell BK221.out 0).trans rfl, (blk_cell BK221.out 1).trans rfl, (blk_cell BK221.out 2).trans rfl, (blk_cell BK221.out 3).trans rfl, (blk_cell BK221.out 4).trans rfl, (blk_cell BK221.out 5).trans rfl, (blk_cell BK233.out 0).trans rfl, (blk_cell BK233.out 1).trans rfl, (blk_cell BK233.out 2).trans rfl, (blk_cell BK233.out 3).trans rfl, (blk_cell BK233.out 4).trans rfl, (blk_cell BK233.out 5).trans rfl⟩ (fun hHeld => ?_)
              clear hK K
              refine norm_ (a' := ?_) ?_ ?_
              rotate_left
              · show Act.put _ (some 41) _ = _
                simp only [Act.put, List.setIfInBounds_toArray, List.set_cons_zero, List.set_cons_succ, i64_w, i32_w]
                rfl
              refine pure_ (i := 3) (N := some 42) (v := ?_) (a' := ?_) #[true, true, true, true, false, false, false, false, false, false, false, false, false, false, false, false, false, false, false, false, false, false, false, false, false] rfl rfl (any_of HT_.out (by kernel_rfl)) (fun _ _ _ h => h) (Or.inl ⟨by rfl, ?_⟩) ?_ ?_
              rotate_left
              · intro w'
                go_simp
                with_reducible rfl
              rotate_left
              · simp only [Act.put, List.setIfInBounds_toArray, List.set_cons_zero, List.set_cons_succ, i64_w, i32_w]
                rfl
              refine pure_ (i := 4) (N := some 43) (v := ?_) (a' := ?_) #[true, true, true, true, true, false, false, false, false, false, false, false, false, false, false, false, false, false, false, false, false, false, false, false, false] rfl rfl (any_of HT_.out (by kernel_rfl)) (fun _ _ _ h => h) (Or.inl ⟨by rfl, ?_⟩) ?_ ?_
              rotate_left
              · intro w'
                go_simp
                with_reducible rfl
              rotate_left
              · simp only [Act.put, List.setIfInBounds_toArray, List.set_cons_zero, List.set_cons_succ, i64_w, i32_w]
                rfl
              refine pure_ (i := 5) (N := some 44) (v := ?_) (a' := ?_) #[true, true, true, true, true, true, false, false, false, false, false, false, false, false, false, false, false, false, false, false, false, false, false, false, false] rfl rfl (any_of HT_.out (by kernel_rfl)) (fun _ _ _ h => h) (Or.inl ⟨by rfl, ?_⟩) ?_ ?_
              rotate_left
              · intro w'
                go_simp
                with_reducible rfl
              rotate_left
              · simp only [Act.put, List.setIfInBounds_toArray, List.set_cons_zero, List.set_cons_succ, i64_w, i32_w]
                rfl
              refine pure_ (i := 6) (N := some 45) (v := ?_) (a' := ?_) #[true, true, true, true, true, true, true, false, false, false, false, false, false, false, false, false, false, false, false, false, false, false, false, false, false] rfl rfl (any_of HT_.out (by kernel_rfl)) (fun _ _ _ h => h) (Or.inl ⟨by rfl, ?_⟩) ?_ ?_
              rotate_left
              · intro w'
                go_simp
                with_reducible rfl
              rotate_left
              · simp only [Act.put, List.setIfInBounds_toArray, List.set_cons_zero, List.set_cons_succ, i64_w, i32_w]
                rfl
              refine pure_ (i := 7) (N := some 46) (v := ?_) (a' := ?_) #[true, true, true, true, true, true, true, true, false, false, false, false, false, false, false, false, false, false, false, false, false, false, false, false, false] rfl rfl (any_of HT_.out (by kernel_rfl)) (fun _ _ _ h => h) (Or.inl ⟨by rfl, ?_⟩) ?_ ?_
              rotate_left
              · intro w'
                go_simp
                with_reducible rfl
              rotate_left
              · simp only [Act.put, List.setIfInBounds_toArray, List.set_cons_zero, List.set_cons_succ, i64_w, i32_w]
                rfl
              refine pure_ (i := 8) (N := some 47) (v := ?_) (a' := ?_) #[true, true, true, true, true, true, true, true, true, false, false, false, false, false, false, false, false, false, false, false, false, false, false, false, false] rfl rfl (any_of HT_.out (by kernel_rfl)) (fun _ _ _ h => h) (Or.inl ⟨by rfl, ?_⟩) ?_ ?_
              rotate_left
              · intro w'
                go_simp
                with_reducible rfl
              rotate_left
              · simp only [Act.put, List.setIfInBounds_toArray, List.set_cons_zero, List.set_cons_succ, i64_w, i32_w]
                rfl
              refine pure_ (i := 9) (N := some 48) (v := undef) (a' := ?_) #[true, true, true, true, true, true, true, true, true, true, false, false, false, false, false, false, false, false, false, false, false, false, false, false, false] rfl rfl (any_of HT_.out (by kernel_rfl)) (fun _ _ _ h => h) (Or.inr ⟨by rfl, rfl⟩) ?_ ?_
              rotate_left
              · simp only [Act.put, List.setIfInBounds_toArray, List.set_cons_zero, List.set_cons_succ, i64_w, i32_w]
                rfl
              refine pure_ (i := 10) (N := some 49) (v := undef) (a' := ?_) #[true, true, true, true, true, true, true, true, true, true, true, false, false, false, false, false, false, false, false, false, false, false, false, false, false] rfl rfl (any_of HT_.out (by kernel_rfl)) (fun _ _ _ h => h) (Or.inr ⟨by rfl, rfl⟩) ?_ ?_
              rotate_left
              · simp only [Act.put, List.setIfInBounds_toArray, List.set_cons_zero, List.set_cons_succ, i64_w, i32_w]
                rfl
              refine pure_ (i := 11) (N := some 50) (v := undef) (a' := ?_) #[true, true, true, true, true, true, true, true, true, true, true, true, false, false, false, false, false, false, false, false, false, false, false, false, false] rfl rfl (any_of HT_.out (by kernel_rfl)) (fun _ _ _ h => h) (Or.inr ⟨by rfl, rfl⟩) ?_ ?_
              rotate_left
              · simp only [Act.put, List.setIfInBounds_toArray, List.set_cons_zero, List.set_cons_succ, i64_w, i32_w]
                rfl
              refine pure_ (i := 12) (N := some 51) (v := undef) (a' := ?_) #[true, true, true, true, true, true, true, true, true, true, true, true, true, false, false, false, false, false, false, false, false, false, false, false, false] rfl rfl (any_of HT_.out (by kernel_rfl)) (fun _ _ _ h => h) (Or.inr ⟨by rfl, rfl⟩) ?_ ?_
              rotate_left
              · simp only [Act.put, List.setIfInBounds_toArray, List.set_cons_zero, List.set_cons_succ, i64_w, i32_w]
                rfl
              refine pure_ (i := 13) (N := some 52) (v := undef) (a' := ?_) #[true, true, true, true, true, true, true, true, true, true, true, true, true, true, false, false, false, false, false, false, false, false, false, false, false] rfl rfl (any_of HT_.out (by kernel_rfl)) (fun _ _ _ h => h) (Or.inr ⟨by rfl, rfl⟩) ?_ ?_
              rotate_left
              · simp only [Act.put, List.setIfInBounds_toArray, List.set_cons_zero, List.set_cons_succ, i64_w, i32_w]
                rfl
              refine pure_ (i := 14) (N := some 53) (v := ?_) (a' := ?_) #[true, true, true, true, true, true, true, true, true, true, true, true, true, true, true, false, false, false, false, false, false, false, false, false, false] rfl rfl (any_of HT_.out (by kernel_rfl)) (fun _ _ _ h => h) (Or.inl ⟨by rfl, ?_⟩) ?_ ?_
              rotate_left
              · intro w'
                go_simp
                with_reducible rfl
              rotate_left
              · simp only [Act.put, List.setIfInBounds_toArray, List.set_cons_zero, List.set_cons_succ, i64_w, i32_w]
                rfl
              refine pure_ (i := 15) (N := some 54) (v := ?_) (a' := ?_) #[true, true, true, true, true, true, true, true, true, true, true, true, true, true, true, true, false, false, false, false, false, false, false, false, false] rfl rfl (any_of HT_.out (by kernel_rfl)) (fun _ _ _ h => h) (Or.inl ⟨by rfl, ?_⟩) ?_ ?_
              rotate_left
              · intro w'
                go_simp
                with_reducible rfl
              rotate_left
              · simp only [Act.put, List.setIfInBounds_toArray, List.set_cons_zero, List.set_cons_succ, i64_w, i32_w]
                rfl
              refine pure_ (i := 16) (N := some 55) (v := undef) (a' := ?_) #[true, true, true, true, true, true, true, true, true, true, true, true, true, true, true, true, true, false, false, false, false, false, false, false, false] rfl rfl (any_of HT_.out (by kernel_rfl)) (fun _ _ _ h => h) (Or.inr ⟨by rfl, rfl⟩) ?_ ?_
              rotate_left
              · simp only [Act.put, List.setIfInBounds_toArray, List.set_cons_zero, List.set_cons_succ, i64_w, i32_w]
                rfl
              refine pure_ (i := 17) (N := some 56) (v := undef) (a' := ?_) #[true, true, true, true, true, true, true, true, true, true, true, true, true, true, true, true, true, true, false, false, false, false, false, false, false] rfl rfl (any_of HT_.out (by kernel_rfl)) (fun _ _ _ h => h) (Or.inr ⟨by rfl, rfl⟩) ?_ ?_
              rotate_left
              · simp only [Act.put, List.setIfInBounds_toArray, List.set_cons_zero, List.set_cons_succ, i64_w, i32_w]
                rfl
              refine pure_ (i := 18) (N := some 57) (v := undef) (a' := ?_) #[true, true, true, true, true, true, true, true, true, true, true, true, true, true, true, true, true, true, true, false, false, false, false, false, false] rfl rfl (any_of HT_.out (by kernel_rfl)) (fun _ _ _ h => h) (Or.inr ⟨by rfl, rfl⟩) ?_ ?_
              rotate_left
              · simp only [Act.put, List.setIfInBounds_toArray, List.set_cons_zero, List.set_cons_succ, i64_w, i32_w]
                rfl
              refine pure_ (i := 19) (N := some 58) (v := undef) (a' := ?_) #[true, true, true, true, true, true, true, true, true, true, true, true, true, true, true, true, true, true, true, true, false, false, false, false, false] rfl rfl (any_of HT_.out (by kernel_rfl)) (fun _ _ _ h => h) (Or.inr ⟨by rfl, rfl⟩) ?_ ?_
              rotate_left
              · simp only [Act.put, List.setIfInBounds_toArray, List.set_cons_zero, List.set_cons_succ, i64_w, i32_w]
                rfl
              refine pure_ (i := 20) (N := some 59) (v := undef) (a' := ?_) #[true, true, true, true, true, true, true, true, true, true, true, true, true, true, true, true, true, true, true, true, true, false, false, false, false] rfl rfl (any_of HT_.out (by kernel_rfl)) (fun _ _ _ h => h) (Or.inr ⟨by rfl, rfl⟩) ?_ ?_
              rotate_left
              · simp only [Act.put, List.setIfInBounds_toArray, List.set_cons_zero, List.set_cons_succ, i64_w, i32_w]
                rfl
              refine pure_ (i := 21) (N := some 60) (v := undef) (a' := ?_) #[true, true, true, true, true, true, true, true, true, true, true, true, true, true, true, true, true, true, true, true, true, true, false, false, false] rfl rfl (any_of HT_.out (by kernel_rfl)) (fun _ _ _ h => h) (Or.inr ⟨by rfl, rfl⟩) ?_ ?_
              rotate_left
              · simp only [Act.put, List.setIfInBounds_toArray, List.set_cons_zero, List.set_cons_succ, i64_w, i32_w]
                rfl
              refine pure_ (i := 22) (N := some 61) (v := undef) (a' := ?_) #[true, true, true, true, true, true, true, true, true, true, true, true, true, true, true, true, true, true, true, true, true, true, true, false, false] rfl rfl (any_of HT_.out (by kernel_rfl)) (fun _ _ _ h => h) (Or.inr ⟨by rfl, rfl⟩) ?_ ?_
              rotate_left
              · simp only [Act.put, List.setIfInBounds_toArray, List.set_cons_zero, List.set_cons_succ, i64_w, i32_w]
                rfl
              refine pure_ (i := 23) (N := some 62) (v := ?_) (a' := ?_) #[true, true, true, true, true, true, true, true, true, true, true, true, true, true, true, true, true, true, true, true, true, true, true, true, false] rfl rfl (any_of HT_.out (by kernel_rfl)) (fun _ _ _ h => h) (Or.inl ⟨by rfl, ?_⟩) ?_ ?_
              rotate_left
              · intro w'
                go_simp
                with_reducible rfl
              rotate_left
              · simp only [Act.put, List.setIfInBounds_toArray, List.set_cons_zero, List.set_cons_succ, i64_w, i32_w]
                rfl
              refine pure_ (i := 24) (N := some 8) (v := ?_) (a' := ?_) #[true, true, true, true, true, true, true, true, true, true, true, true, true, true, true, true, true, true, true, true, true, true, true, true, true] rfl rfl (any_of HT_.out (by kernel_rfl)) (fun _ _ _ h => h) (Or.inl ⟨by rfl, ?_⟩) ?_ ?_
              rotate_left
              · intro w'
                go_simp
                with_reducible rfl
              rotate_left
              · simp only [Act.put, List.setIfInBounds_toArray, List.set_cons_zero, List.set_cons_succ, i64_w, i32_w]
                rfl
              refine done_ (done_of HT_.out (by kernel_rfl)) ?_
              try go_wp2
              go_ret
              exact ⟨by first | rfl | (simp [errW_none, errW_some] <;> rfl) | (simp [*, errW_none, errW_some] <;> rfl), b_ HB⟩
          · replace c17 := Bool.eq_false_iff.mpr c17
            subst c17
            have H1 : (some false) = some r := by rw [if_neg (show ¬ (false = true) by decide)] at H; exact H
            clear H
            have H := H1
            clear H1
            obtain rfl := Option.some.inj H
            try go_wp2_with (first | ((with_reducible refine gate_callee (f := 13) rfl ?_); refine goesL_ (some 29) rfl rfl Try.func13 (by kernel_rfl) rfl #[.slice A0 l0.length c0, .int .i64 a2, .int .i64 a3] rfl (by (try simp only [List.map_toArray, List.map_cons, List.map_nil]); first | done | rfl | (simp only [List.length_drop, List.length_take]; rfl)) ?_; (with_reducible refine (feed_Reply.calls kj6 _ _ l0 a2 a3 t210 t211 t212 t213 t214 t217 t220 _ ?side1 ?side2 A14.out).mono ?_); (case side1 => repeat (first | exact (Kd.C_below HR0.out HB.out) | (with_reducible refine Kd.C_alloc ?_ _) | (with_reducible refine Kd.C_drewN ?_ _) | (with_reducible refine Kd.C_drew ?_))); (case side2 => exact HC0.out); rintro e w84 ⟨v215, v218, rfl, ho0, ho1, hb⟩; refine ⟨_, rfl, ?_⟩; have n0_ := Aside0.mk (Kd.R_lower ho0 (below_size (b_ HB))); have n1_ := Aside0.mk (Kd.R_lower ho1 (below_size (b_ HB))); have n2_ := Aside0.mk (blk_below (k_ BK207) hb); have n3_ := Aside0.mk (below_step (b_ HB) hb); clear BK207; clear HB; have HO216 := n0_; have HO219 := n1_; have BK207 := n2_; have HB := n3_; clear n0_ n1_ n2_ n3_; (try clear hb); (try clear hb2); (try clear hk); (try clear hi); (try clear ho0); (try clear ho1)) | ((with_reducible refine gate_dst (N := 9) rfl ?_); (try (refine gate_guard (by rfl) ?_; dsimp only)); refine box_event ?hg (N := 9) ?hd (cs := #[.int .i64 0, .int .i64 0, .int .i64 0, .int .i64 0, .slice none 0 0, .slice none 0 0]) (t := 32) ?hr ?_; (case hd => rfl); (case hg => rfl); (case hr => first | (go_simp; done) | (go_simp; rfl)); intro gb221 hg w85 hbox hb; have n0_ := Aside0.mk (Kd.R_below (by (with_reducible repeat (first | apply Kd.R_alloc | apply Kd.R_drewN | apply Kd.R_drew)); exact HO216.out) hb); have n1_ := Aside0.mk (Kd.R_below (by (with_reducible repeat (first | apply Kd.R_alloc | apply Kd.R_drewN | apply Kd.R_drew)); exact HO219.out) hb); have n2_ := Aside0.mk (blk_below (k_ BK207) hb); have n3_ := Aside0.mk (below_step (b_ HB) hb); have n4_ := Aside0.mk (hbox); have n5_ := Aside0.mk ((by rw [hg]; exact (below_size (b_ HB)) : w.heap.size ≤ gb221)); have n6_ := n5_; have n7_ := Aside0.mk ((by rw [hg]; exact Nat.ne_of_lt (blk_lt (k_ BK207)) : gb207 ≠ gb221)); have n8_ := Aside0.mk ((by rw [hg]; exact Nat.ne_of_gt (blk_lt (k_ BK207)) : gb221 ≠ gb207)); clear HO216; clear HO219; clear BK207; clear HB; have HO216 := n0_; have HO219 := n1_; have BK207 := n2_; have HB := n3_; have BK221 := n4_; have GW221 := n5_; have GE221 := n6_; have NB207_221 := n7_; have NB221_207 := n8_; clear n0_ n1_ n2_ n3_ n4_ n5_ n6_ n7_ n8_; clear hb hbox hg; have hnb86 := NB221_207.out; have hnc86 := NB207_221.out; have hcz87_0 : w85.cell? ⟨gb221, 0, none⟩ = some (.int .i64 0) := (blk_cell BK221.out 0).trans rfl; have hcz87_1 : w85.cell? ⟨gb221, 1, none⟩ = some (.int .i64 0) := (blk_cell BK221.out 1).trans rfl; have hcz87_2 : w85.cell? ⟨gb221, 2, none⟩ = some (.int .i64 0) := (blk_cell BK221.out 2).trans rfl; have hcz87_3 : w85.cell? ⟨gb221, 3, none⟩ = some (.int .i64 0) := (blk_cell BK221.out 3).trans rfl; have hcz87_4 : w85.cell? ⟨gb221, 4, none⟩ = some (.slice none 0 0) := (blk_cell BK221.out 4).trans rfl; have hcz87_5 : w85.cell? ⟨gb221, 5, none⟩ = some (.slice none 0 0) := (blk_cell BK221.out 5).trans rfl; have hfz87_0 := blk_frozen BK221.out 0; have hfz87_1 := blk_frozen BK221.out 1; have hfz87_2 := blk_frozen BK221.out 2; have hfz87_3 := blk_frozen BK221.out 3; have hfz87_4 := blk_frozen BK221.out 4; have hfz87_5 := blk_frozen BK221.out 5; obtain ⟨Ao88, co88, eo88⟩ := Kd.R_slice HO216.out; subst eo88; obtain ⟨Ao89, co89, eo89⟩ := Kd.R_slice HO219.out; subst eo89) | ((with_reducible refine gate_callee (f := 14) rfl ?_); refine goesL_ (some 36) rfl rfl Try.func14 (by kernel_rfl) rfl #[.slice A0 l0.length c0, .int .i64 a2, .int .i64 a3] rfl (by (try simp only [List.map_toArray, List.map_cons, List.map_nil]); first | done | rfl | (simp only [List.length_drop, List.length_take]; rfl)) ?_; (with_reducible refine (chalklineref35_Reply.calls kj6 _ _ l0 a2 a3 t222 t223 t224 t225 t226 t229 t232 _ ?side1 ?side2 A15.out).mono ?_); (case side1 => exact Kd.C_below HR0.out (b_ HB)); (case side2 => exact HC0.out); rintro e w90 ⟨v227, v230, rfl, ho0, ho1, hb⟩; refine ⟨_, rfl, ?_⟩; have n0_ := Aside0.mk (Kd.R_elder' (by (with_reducible repeat (first | apply Kd.R_alloc | apply Kd.R_drewN | apply Kd.R_drew)); exact (Kd.R_mono (Kd.R_far (p := ⟨gb221, 5, none⟩) (Kd.R_far (p := ⟨gb221, 4, none⟩) (Kd.R_far (p := ⟨gb221, 3, none⟩) (Kd.R_far (p := ⟨gb221, 2, none⟩) (Kd.R_far (p := ⟨gb221, 1, none⟩) (Kd.R_far (p := ⟨gb221, 0, none⟩) (Kd.R_types HO216.out BK221.out (by decide)) (fun _ hk => hk.2) (.int .i64 t210)) (fun _ hk => hk.2) (.int .i64 t211)) (fun _ hk => hk.2) (.int .i64 t212)) (fun _ hk => hk.2) (.int .i64 t213)) (fun _ hk => hk.2) (.slice Ao88 t214.length co88)) (fun _ hk => hk.2) (.slice Ao89 t217.length co89)) (fun _ h_ => h_.1))) (Kd.R_base ho0) hb); have n1_ := Aside0.mk (Kd.R_elder' (by (with_reducible repeat (first | apply Kd.R_alloc | apply Kd.R_drewN | apply Kd.R_drew)); exact (Kd.R_mono (Kd.R_far (p := ⟨gb221, 5, none⟩) (Kd.R_far (p := ⟨gb221, 4, none⟩) (Kd.R_far (p := ⟨gb221, 3, none⟩) (Kd.R_far (p := ⟨gb221, 2, none⟩) (Kd.R_far (p := ⟨gb221, 1, none⟩) (Kd.R_far (p := ⟨gb221, 0, none⟩) (Kd.R_types HO219.out BK221.out (by decide)) (fun _ hk => hk.2) (.int .i64 t210)) (fun _ hk => hk.2) (.int .i64 t211)) (fun _ hk => hk.2) (.int .i64 t212)) (fun _ hk => hk.2) (.int .i64 t213)) (fun _ hk => hk.2) (.slice Ao88 t214.length co88)) (fun _ hk => hk.2) (.slice Ao89 t217.length co89)) (fun _ h_ => h_.1))) (Kd.R_base ho1) hb); have n2_ := Aside0.mk (Kd.R_lower (Kd.R_new' ho0 (Kd.R_lt (by (with_reducible repeat (first | apply Kd.R_alloc | apply Kd.R_drewN | apply Kd.R_drew)); exact (Kd.R_mono (Kd.R_far (p := ⟨gb221, 5, none⟩) (Kd.R_far (p := ⟨gb221, 4, none⟩) (Kd.R_far (p := ⟨gb221, 3, none⟩) (Kd.R_far (p := ⟨gb221, 2, none⟩) (Kd.R_far (p := ⟨gb221, 1, none⟩) (Kd.R_far (p := ⟨gb221, 0, none⟩) (Kd.R_types HO216.out BK221.out (by decide)) (fun _ hk => hk.2) (.int .i64 t210)) (fun _ hk => hk.2) (.int .i64 t211)) (fun _ hk => hk.2) (.int .i64 t212)) (fun _ hk => hk.2) (.int .i64 t213)) (fun _ hk => hk.2) (.slice Ao88 t214.length co88)) (fun _ hk => hk.2) (.slice Ao89 t217.length co89)) (fun _ h_ => h_.1))))) (below_size (b_ HB))); have n3_ := Aside0.mk (Kd.R_lower (Kd.R_new' ho1 (Kd.R_lt (by (with_reducible repeat (first | apply Kd.R_alloc | apply Kd.R_drewN | apply Kd.R_drew)); exact (Kd.R_mono (Kd.R_far (p := ⟨gb221, 5, none⟩) (Kd.R_far (p := ⟨gb221, 4, none⟩) (Kd.R_far (p := ⟨gb221, 3, none⟩) (Kd.R_far (p := ⟨gb221, 2, none⟩) (Kd.R_far (p := ⟨gb221, 1, none⟩) (Kd.R_far (p := ⟨gb221, 0, none⟩) (Kd.R_types HO219.out BK221.out (by decide)) (fun _ hk => hk.2) (.int .i64 t210)) (fun _ hk => hk.2) (.int .i64 t211)) (fun _ hk => hk.2) (.int .i64 t212)) (fun _ hk => hk.2) (.int .i64 t213)) (fun _ hk => hk.2) (.slice Ao88 t214.length co88)) (fun _ hk => hk.2) (.slice Ao89 t217.length co89)) (fun _ h_ => h_.1))))) (below_size (b_ HB))); have n4_ := Aside0.mk (blk_below (g := gb207) (o := .cells #[.int .i64 a1_0, .slice A1_1 l1_1.length c1_1] 27 (0, 0)) (by (with_reducible repeat (first | refine blk_drewN ?_ _ | refine blk_drew ?_ | refine blk_alloc ?_ _)); refine blk_far ?_ NB207_221.out _; (with_reducible repeat (first | refine blk_drewN ?_ _ | refine blk_drew ?_ | refine blk_alloc ?_ _)); refine blk_far ?_ NB207_221.out _; (with_reducible repeat (first | refine blk_drewN ?_ _ | refine blk_drew ?_ | refine blk_alloc ?_ _)); refine blk_far ?_ NB207_221.out _; (with_reducible repeat (first | refine blk_drewN ?_ _ | refine blk_drew ?_ | refine blk_alloc ?_ _)); refine blk_far ?_ NB207_221.out _; (with_reducible repeat (first | refine blk_drewN ?_ _ | refine blk_drew ?_ | refine blk_alloc ?_ _)); refine blk_far ?_ NB207_221.out _; (with_reducible repeat (first | refine blk_drewN ?_ _ | refine blk_drew ?_ | refine blk_alloc ?_ _)); refine blk_far ?_ NB207_221.out _; (with_reducible repeat (first | refine blk_drewN ?_ _ | refine blk_drew ?_ | refine blk_alloc ?_ _)); exact BK207.out) hb); have n5_ := Aside0.mk (blk_below (g := gb221) (o := .cells #[.int .i64 t210, .int .i64 t211, .int .i64 t212, .int .i64 t213, .slice Ao88 t214.length co88, .slice Ao89 t217.length co89] 32 (0, 0)) (by (with_reducible repeat (first | refine blk_drewN ?_ _ | refine blk_drew ?_ | refine blk_alloc ?_ _)); refine blk_put (cs := #[.int .i64 t210, .int .i64 t211, .int .i64 t212, .int .i64 t213, .slice Ao88 t214.length co88, .slice none 0 0]) ?_ 5 _ rfl; (with_reducible repeat (first | refine blk_drewN ?_ _ | refine blk_drew ?_ | refine blk_alloc ?_ _)); refine blk_put (cs := #[.int .i64 t210, .int .i64 t211, .int .i64 t212, .int .i64 t213, .slice none 0 0, .slice none 0 0]) ?_ 4 _ rfl; (with_reducible repeat (first | refine blk_drewN ?_ _ | refine blk_drew ?_ | refine blk_alloc ?_ _)); refine blk_put (cs := #[.int .i64 t210, .int .i64 t211, .int .i64 t212, .int .i64 0, .slice none 0 0, .slice none 0 0]) ?_ 3 _ rfl; (with_reducible repeat (first | refine blk_drewN ?_ _ | refine blk_drew ?_ | refine blk_alloc ?_ _)); refine blk_put (cs := #[.int .i64 t210, .int .i64 t211, .int .i64 0, .int .i64 0, .slice none 0 0, .slice none 0 0]) ?_ 2 _ rfl; (with_reducible repeat (first | refine blk_drewN ?_ _ | refine blk_drew ?_ | refine blk_alloc ?_ _)); refine blk_put (cs := #[.int .i64 t210, .int .i64 0, .int .i64 0, .int .i64 0, .slice none 0 0, .slice none 0 0]) ?_ 1 _ rfl; (with_reducible repeat (first | refine blk_drewN ?_ _ | refine blk_drew ?_ | refine blk_alloc ?_ _)); refine blk_put (cs := #[.int .i64 0, .int .i64 0, .int .i64 0, .int .i64 0, .slice none 0 0, .slice none 0 0]) ?_ 0 _ rfl; (with_reducible repeat (first | refine blk_drewN ?_ _ | refine blk_drew ?_ | refine blk_alloc ?_ _)); exact BK221.out) hb); have n6_ := Aside0.mk (below_step (b_ HB) hb); clear HO216; clear HO219; clear BK207; clear BK221; clear HB; have HO216 := n0_; have HO219 := n1_; have HO228 := n2_; have HO231 := n3_; have BK207 := n4_; have BK221 := n5_; have HB := n6_; clear n0_ n1_ n2_ n3_ n4_ n5_ n6_; (try clear hb); (try clear hb2); (try clear hk); (try clear hi); (try clear ho0); (try clear ho1)) | ((with_reducible refine gate_dst (N := 11) rfl ?_); (try (refine gate_guard (by rfl) ?_; dsimp only)); refine box_event ?hg (N := 11) ?hd (cs := #[.int .i64 0, .int .i64 0, .int .i64 0, .int .i64 0, .slice none 0 0, .slice none 0 0]) (t := 32) ?hr ?_; (case hd => rfl); (case hg => rfl); (case hr => first | (go_simp; done) | (go_simp; rfl)); intro gb233 hg w91 hbox hb; have n0_ := Aside0.mk (Kd.R_below (by (with_reducible repeat (first | apply Kd.R_alloc | apply Kd.R_drewN | apply Kd.R_drew)); exact HO216.out) hb); have n1_ := Aside0.mk (Kd.R_below (by (with_reducible repeat (first | apply Kd.R_alloc | apply Kd.R_drewN | apply Kd.R_drew)); exact HO219.out) hb); have n2_ := Aside0.mk (Kd.R_below (by (with_reducible repeat (first | apply Kd.R_alloc | apply Kd.R_drewN | apply Kd.R_drew)); exact HO228.out) hb); have n3_ := Aside0.mk (Kd.R_below (by (with_reducible repeat (first | apply Kd.R_alloc | apply Kd.R_drewN | apply Kd.R_drew)); exact HO231.out) hb); have n4_ := Aside0.mk (blk_below (k_ BK207) hb); have n5_ := Aside0.mk (blk_below (k_ BK221) hb); have n6_ := Aside0.mk (below_step (b_ HB) hb); have n7_ := Aside0.mk (hbox); have n8_ := Aside0.mk ((by rw [hg]; exact (below_size (b_ HB)) : w.heap.size ≤ gb233)); have n9_ := n8_; have n10_ := Aside0.mk ((by rw [hg]; exact Nat.ne_of_lt (blk_lt (k_ BK207)) : gb207 ≠ gb233)); have n11_ := Aside0.mk ((by rw [hg]; exact Nat.ne_of_gt (blk_lt (k_ BK207)) : gb233 ≠ gb207)); have n12_ := Aside0.mk ((by rw [hg]; exact Nat.ne_of_lt (blk_lt (k_ BK221)) : gb221 ≠ gb233)); have n13_ := Aside0.mk ((by rw [hg]; exact Nat.ne_of_gt (blk_lt (k_ BK221)) : gb233 ≠ gb221)); clear HO216; clear HO219; clear HO228; clear HO231; clear BK207; clear BK221; clear HB; have HO216 := n0_; have HO219 := n1_; have HO228 := n2_; have HO231 := n3_; have BK207 := n4_; have BK221 := n5_; have HB := n6_; have BK233 := n7_; have GW233 := n8_; have GE233 := n9_; have NB207_233 := n10_; have NB233_207 := n11_; have NB221_233 := n12_; have NB233_221 := n13_; clear n0_ n1_ n2_ n3_ n4_ n5_ n6_ n7_ n8_ n9_ n10_ n11_ n12_ n13_; clear hb hbox hg; have hnb92 := NB233_207.out; have hnc92 := NB207_233.out; have hnb93 := NB233_221.out; have hnc93 := NB221_233.out; have hcz94_0 : w91.cell? ⟨gb233, 0, none⟩ = some (.int .i64 0) := (blk_cell BK233.out 0).trans rfl; have hcz94_1 : w91.cell? ⟨gb233, 1, none⟩ = some (.int .i64 0) := (blk_cell BK233.out 1).trans rfl; have hcz94_2 : w91.cell? ⟨gb233, 2, none⟩ = some (.int .i64 0) := (blk_cell BK233.out 2).trans rfl; have hcz94_3 : w91.cell? ⟨gb233, 3, none⟩ = some (.int .i64 0) := (blk_cell BK233.out 3).trans rfl; have hcz94_4 : w91.cell? ⟨gb233, 4, none⟩ = some (.slice none 0 0) := (blk_cell BK233.out 4).trans rfl; have hcz94_5 : w91.cell? ⟨gb233, 5, none⟩ = some (.slice none 0 0) := (blk_cell BK233.out 5).trans rfl; have hfz94_0 := blk_frozen BK233.out 0; have hfz94_1 := blk_frozen BK233.out 1; have hfz94_2 := blk_frozen BK233.out 2; have hfz94_3 := blk_frozen BK233.out 3; have hfz94_4 := blk_frozen BK233.out 4; have hfz94_5 := blk_frozen BK233.out 5; obtain ⟨Ao95, co95, eo95⟩ := Kd.R_slice HO228.out; subst eo95; obtain ⟨Ao96, co96, eo96⟩ := Kd.R_slice HO231.out; subst eo96))
            have n0_ : Aside0 (Kd.R k60 60 ((((((w91.setCell ⟨gb233, 0, none⟩ (.int .i64 t222)).setCell ⟨gb233, 1, none⟩ (.int .i64 t223)).setCell ⟨gb233, 2, none⟩ (.int .i64 t224)).setCell ⟨gb233, 3, none⟩ (.int .i64 t225)).setCell ⟨gb233, 4, none⟩ (.slice Ao95 t226.length co95)).setCell ⟨gb233, 5, none⟩ (.slice Ao96 t229.length co96)) w.heap.size (fun k_ => some k_ ≠ (.slice Ao95 t226.length co95 : Value).ownBlock) (.slice Ao88 t214.length co88) t214) := ⟨by (with_reducible repeat (first | apply Kd.R_alloc | apply Kd.R_drewN | apply Kd.R_drew)); exact Kd.R_mono (Kd.R_far (p := ⟨gb233, 5, none⟩) (Kd.R_far (p := ⟨gb233, 4, none⟩) (Kd.R_far (p := ⟨gb233, 3, none⟩) (Kd.R_far (p := ⟨gb233, 2, none⟩) (Kd.R_far (p := ⟨gb233, 1, none⟩) (Kd.R_far (p := ⟨gb233, 0, none⟩) (Kd.R_types HO216.out BK233.out (by decide)) (fun _ hk => hk.2) (.int .i64 t222)) (fun _ hk => hk.2) (.int .i64 t223)) (fun _ hk => hk.2) (.int .i64 t224)) (fun _ hk => hk.2) (.int .i64 t225)) (fun _ hk => hk.2) (.slice Ao95 t226.length co95)) (fun _ hk => hk.2) (.slice Ao96 t229.length co96)) (fun _ hk => hk.1.2)⟩
            have n1_ : Aside0 (Kd.R k64 64 ((((((w91.setCell ⟨gb233, 0, none⟩ (.int .i64 t222)).setCell ⟨gb233, 1, none⟩ (.int .i64 t223)).setCell ⟨gb233, 2, none⟩ (.int .i64 t224)).setCell ⟨gb233, 3, none⟩ (.int .i64 t225)).setCell ⟨gb233, 4, none⟩ (.slice Ao95 t226.length co95)).setCell ⟨gb233, 5, none⟩ (.slice Ao96 t229.length co96)) w.heap.size (fun k_ => some k_ ≠ (.slice Ao96 t229.length co96 : Value).ownBlock) (.slice Ao89 t217.length co89) t217) := ⟨by (with_reducible repeat (first | apply Kd.R_alloc | apply Kd.R_drewN | apply Kd.R_drew)); exact Kd.R_mono (Kd.R_far (p := ⟨gb233, 5, none⟩) (Kd.R_far (p := ⟨gb233, 4, none⟩) (Kd.R_far (p := ⟨gb233, 3, none⟩) (Kd.R_far (p := ⟨gb233, 2, none⟩) (Kd.R_far (p := ⟨gb233, 1, none⟩) (Kd.R_far (p := ⟨gb233, 0, none⟩) (Kd.R_types HO219.out BK233.out (by decide)) (fun _ hk => hk.2) (.int .i64 t222)) (fun _ hk => hk.2) (.int .i64 t223)) (fun _ hk => hk.2) (.int .i64 t224)) (fun _ hk => hk.2) (.int .i64 t225)) (fun _ hk => hk.2) (.slice Ao95 t226.length co95)) (fun _ hk => hk.2) (.slice Ao96 t229.length co96)) (fun _ hk => hk.1.2)⟩
            have n2_ : Aside0 (Kd.R k60 60 ((((((w91.setCell ⟨gb233, 0, none⟩ (.int .i64 t222)).setCell ⟨gb233, 1, none⟩ (.int .i64 t223)).setCell ⟨gb233, 2, none⟩ (.int .i64 t224)).setCell ⟨gb233, 3, none⟩ (.int .i64 t225)).setCell ⟨gb233, 4, none⟩ (.slice Ao95 t226.length co95)).setCell ⟨gb233, 5, none⟩ (.slice Ao96 t229.length co96)) w.heap.size (fun k_ => some k_ ≠ (.slice Ao88 t214.length co88 : Value).ownBlock) (.slice Ao95 t226.length co95) t226) := ⟨by (with_reducible repeat (first | apply Kd.R_alloc | apply Kd.R_drewN | apply Kd.R_drew)); exact Kd.R_mono (Kd.R_far (p := ⟨gb233, 5, none⟩) (Kd.R_far (p := ⟨gb233, 4, none⟩) (Kd.R_far (p := ⟨gb233, 3, none⟩) (Kd.R_far (p := ⟨gb233, 2, none⟩) (Kd.R_far (p := ⟨gb233, 1, none⟩) (Kd.R_far (p := ⟨gb233, 0, none⟩) (Kd.R_types HO228.out BK233.out (by decide)) (fun _ hk => hk.2) (.int .i64 t222)) (fun _ hk => hk.2) (.int .i64 t223)) (fun _ hk => hk.2) (.int .i64 t224)) (fun _ hk => hk.2) (.int .i64 t225)) (fun _ hk => hk.2) (.slice Ao95 t226.length co95)) (fun _ hk => hk.2) (.slice Ao96 t229.length co96)) (fun _ hk => hk.1.2)⟩
            have n3_ : Aside0 (Kd.R k64 64 ((((((w91.setCell ⟨gb233, 0, none⟩ (.int .i64 t222)).setCell ⟨gb233, 1, none⟩ (.int .i64 t223)).setCell ⟨gb233, 2, none⟩ (.int .i64 t224)).setCell ⟨gb233, 3, none⟩ (.int .i64 t225)).setCell ⟨gb233, 4, none⟩ (.slice Ao95 t226.length co95)).setCell ⟨gb233, 5, none⟩ (.slice Ao96 t229.length co96)) w.heap.size (fun k_ => some k_ ≠ (.slice Ao89 t217.length co89 : Value).ownBlock) (.slice Ao96 t229.length co96) t229) := ⟨by (with_reducible repeat (first | apply Kd.R_alloc | apply Kd.R_drewN | apply Kd.R_drew)); exact Kd.R_mono (Kd.R_far (p := ⟨gb233, 5, none⟩) (Kd.R_far (p := ⟨gb233, 4, none⟩) (Kd.R_far (p := ⟨gb233, 3, none⟩) (Kd.R_far (p := ⟨gb233, 2, none⟩) (Kd.R_far (p := ⟨gb233, 1, none⟩) (Kd.R_far (p := ⟨gb233, 0, none⟩) (Kd.R_types HO231.out BK233.out (by decide)) (fun _ hk => hk.2) (.int .i64 t222)) (fun _ hk => hk.2) (.int .i64 t223)) (fun _ hk => hk.2) (.int .i64 t224)) (fun _ hk => hk.2) (.int .i64 t225)) (fun _ hk => hk.2) (.slice Ao95 t226.length co95)) (fun _ hk => hk.2) (.slice Ao96 t229.length co96)) (fun _ hk => hk.1.2)⟩
            have n4_ : Aside0 (((((((w91.setCell ⟨gb233, 0, none⟩ (.int .i64 t222)).setCell ⟨gb233, 1, none⟩ (.int .i64 t223)).setCell ⟨gb233, 2, none⟩ (.int .i64 t224)).setCell ⟨gb233, 3, none⟩ (.int .i64 t225)).setCell ⟨gb233, 4, none⟩ (.slice Ao95 t226.length co95)).setCell ⟨gb233, 5, none⟩ (.slice Ao96 t229.length co96)).heap[gb207]? = some (.cells #[.int .i64 a1_0, .slice A1_1 l1_1.length c1_1] 27 (0, 0))) := ⟨by (with_reducible repeat (first | refine blk_drewN ?_ _ | refine blk_drew ?_ | refine blk_alloc ?_ _)); refine blk_far ?_ NB207_233.out _; (with_reducible repeat (first | refine blk_drewN ?_ _ | refine blk_drew ?_ | refine blk_alloc ?_ _)); refine blk_far ?_ NB207_233.out _; (with_reducible repeat (first | refine blk_drewN ?_ _ | refine blk_drew ?_ | refine blk_alloc ?_ _)); refine blk_far ?_ NB207_233.out _; (with_reducible repeat (first | refine blk_drewN ?_ _ | refine blk_drew ?_ | refine blk_alloc ?_ _)); refine blk_far ?_ NB207_233.out _; (with_reducible repeat (first | refine blk_drewN ?_ _ | refine blk_drew ?_ | refine blk_alloc ?_ _)); refine blk_far ?_ NB207_233.out _; (with_reducible repeat (first | refine blk_drewN ?_ _ | refine blk_drew ?_ | refine blk_alloc ?_ _)); refine blk_far ?_ NB207_233.out _; (with_reducible repeat (first | refine blk_drewN ?_ _ | refine blk_drew ?_ | refine blk_alloc ?_ _)); exact BK207.out⟩
            have n5_ : Aside0 (((((((w91.setCell ⟨gb233, 0, none⟩ (.int .i64 t222)).setCell ⟨gb233, 1, none⟩ (.int .i64 t223)).setCell ⟨gb233, 2, none⟩ (.int .i64 t224)).setCell ⟨gb233, 3, none⟩ (.int .i64 t225)).setCell ⟨gb233, 4, none⟩ (.slice Ao95 t226.length co95)).setCell ⟨gb233, 5, none⟩ (.slice Ao96 t229.length co96)).heap[gb221]? = some (.cells #[.int .i64 t210, .int .i64 t211, .int .i64 t212, .int .i64 t213, .slice Ao88 t214.length co88, .slice Ao89 t217.length co89] 32 (0, 0))) := ⟨by (with_reducible repeat (first | refine blk_drewN ?_ _ | refine blk_drew ?_ | refine blk_alloc ?_ _)); refine blk_far ?_ NB221_233.out _; (with_reducible repeat (first | refine blk_drewN ?_ _ | refine blk_drew ?_ | refine blk_alloc ?_ _)); refine blk_far ?_ NB221_233.out _; (with_reducible repeat (first | refine blk_drewN ?_ _ | refine blk_drew ?_ | refine blk_alloc ?_ _)); refine blk_far ?_ NB221_233.out _; (with_reducible repeat (first | refine blk_drewN ?_ _ | refine blk_drew ?_ | refine blk_alloc ?_ _)); refine blk_far ?_ NB221_233.out _; (with_reducible repeat (first | refine blk_drewN ?_ _ | refine blk_drew ?_ | refine blk_alloc ?_ _)); refine blk_far ?_ NB221_233.out _; (with_reducible repeat (first | refine blk_drewN ?_ _ | refine blk_drew ?_ | refine blk_alloc ?_ _)); refine blk_far ?_ NB221_233.out _; (with_reducible repeat (first | refine blk_drewN ?_ _ | refine blk_drew ?_ | refine blk_alloc ?_ _)); exact BK221.out⟩
            have n6_ : Aside0 (((((((w91.setCell ⟨gb233, 0, none⟩ (.int .i64 t222)).setCell ⟨gb233, 1, none⟩ (.int .i64 t223)).setCell ⟨gb233, 2, none⟩ (.int .i64 t224)).setCell ⟨gb233, 3, none⟩ (.int .i64 t225)).setCell ⟨gb233, 4, none⟩ (.slice Ao95 t226.length co95)).setCell ⟨gb233, 5, none⟩ (.slice Ao96 t229.length co96)).heap[gb233]? = some (.cells #[.int .i64 t222, .int .i64 t223, .int .i64 t224, .int .i64 t225, .slice Ao95 t226.length co95, .slice Ao96 t229.length co96] 32 (0, 0))) := ⟨by (with_reducible repeat (first | refine blk_drewN ?_ _ | refine blk_drew ?_ | refine blk_alloc ?_ _)); refine blk_put (cs := #[.int .i64 t222, .int .i64 t223, .int .i64 t224, .int .i64 t225, .slice Ao95 t226.length co95, .slice none 0 0]) ?_ 5 _ rfl; (with_reducible repeat (first | refine blk_drewN ?_ _ | refine blk_drew ?_ | refine blk_alloc ?_ _)); refine blk_put (cs := #[.int .i64 t222, .int .i64 t223, .int .i64 t224, .int .i64 t225, .slice none 0 0, .slice none 0 0]) ?_ 4 _ rfl; (with_reducible repeat (first | refine blk_drewN ?_ _ | refine blk_drew ?_ | refine blk_alloc ?_ _)); refine blk_put (cs := #[.int .i64 t222, .int .i64 t223, .int .i64 t224, .int .i64 0, .slice none 0 0, .slice none 0 0]) ?_ 3 _ rfl; (with_reducible repeat (first | refine blk_drewN ?_ _ | refine blk_drew ?_ | refine blk_alloc ?_ _)); refine blk_put (cs := #[.int .i64 t222, .int .i64 t223, .int .i64 0, .int .i64 0, .slice none 0 0, .slice none 0 0]) ?_ 2 _ rfl; (with_reducible repeat (first | refine blk_drewN ?_ _ | refine blk_drew ?_ | refine blk_alloc ?_ _)); refine blk_put (cs := #[.int .i64 t222, .int .i64 0, .int .i64 0, .int .i64 0, .slice none 0 0, .slice none 0 0]) ?_ 1 _ rfl; (with_reducible repeat (first | refine blk_drewN ?_ _ | refine blk_drew ?_ | refine blk_alloc ?_ _)); refine blk_put (cs := #[.int .i64 0, .int .i64 0, .int .i64 0, .int .i64 0, .slice none 0 0, .slice none 0 0]) ?_ 0 _ rfl; (with_reducible repeat (first | refine blk_drewN ?_ _ | refine blk_drew ?_ | refine blk_alloc ?_ _)); exact BK233.out⟩
            have n7_ : Aside0 (Below w.heap.size w ((((((w91.setCell ⟨gb233, 0, none⟩ (.int .i64 t222)).setCell ⟨gb233, 1, none⟩ (.int .i64 t223)).setCell ⟨gb233, 2, none⟩ (.int .i64 t224)).setCell ⟨gb233, 3, none⟩ (.int .i64 t225)).setCell ⟨gb233, 4, none⟩ (.slice Ao95 t226.length co95)).setCell ⟨gb233, 5, none⟩ (.slice Ao96 t229.length co96))) := ⟨b_ HB⟩
            (try clear HO216)
            (try clear HO219)
            (try clear HO228)
            (try clear HO231)
            (try clear BK207)
            (try clear BK221)
            (try clear BK233)
            (try clear HB)
            generalize ((((((w91.setCell ⟨gb233, 0, none⟩ (.int .i64 t222)).setCell ⟨gb233, 1, none⟩ (.int .i64 t223)).setCell ⟨gb233, 2, none⟩ (.int .i64 t224)).setCell ⟨gb233, 3, none⟩ (.int .i64 t225)).setCell ⟨gb233, 4, none⟩ (.slice Ao95 t226.length co95)).setCell ⟨gb233, 5, none⟩ (.slice Ao96 t229.length co96)) = w97 at n0_ n1_ n2_ n3_ n4_ n5_ n6_ n7_ ⊢
            have HO216 := n0_
            have HO219 := n1_
            have HO228 := n2_
            have HO231 := n3_
            have BK207 := n4_
            have BK221 := n5_
            have BK233 := n6_
            have HB := n7_
            clear n0_ n1_ n2_ n3_ n4_ n5_ n6_ n7_
            have n0_ := Aside0.mk (Kd.R_drew HO216.out)
            have n1_ := Aside0.mk (Kd.R_drew HO219.out)
            have n2_ := Aside0.mk (Kd.R_drew HO228.out)
            have n3_ := Aside0.mk (Kd.R_drew HO231.out)
            have n4_ := Aside0.mk (blk_drew BK207.out)
            have n5_ := Aside0.mk (blk_drew BK221.out)
            have n6_ := Aside0.mk (blk_drew BK233.out)
            have n7_ := Aside0.mk (below_drew1 HB.out)
            clear HO216
            clear HO219
            clear HO228
            clear HO231
            clear BK207
            clear BK221
            clear BK233
            clear HB
            have HO216 := n0_
            have HO219 := n1_
            have HO228 := n2_
            have HO231 := n3_
            have BK207 := n4_
            have BK221 := n5_
            have BK233 := n6_
            have HB := n7_
            clear n0_ n1_ n2_ n3_ n4_ n5_ n6_ n7_
            refine start_ (n := 25) (S := fun w' => w'.cell? ⟨gb221, 0, none⟩ = some (.int .i64 t210) ∧ w'.cell? ⟨gb221, 1, none⟩ = some (.int .i64 t211) ∧ w'.cell? ⟨gb221, 2, none⟩ = some (.int .i64 t212) ∧ w'.cell? ⟨gb221, 3, none⟩ = some (.int .i64 t213) ∧ w'.cell? ⟨gb221, 4, none⟩ = some (.slice Ao88 t214.length co88) ∧ w'.cell? ⟨gb221, 5, none⟩ = some (.slice Ao89 t217.length co89) ∧ w'.cell? ⟨gb233, 0, none⟩ = some (.int .i64 t222) ∧ w'.cell? ⟨gb233, 1, none⟩ = some (.int .i64 t223) ∧ w'.cell? ⟨gb233, 2, none⟩ = some (.int .i64 t224) ∧ w'.cell? ⟨gb233, 3, none⟩ = some (.int .i64 t225) ∧ w'.cell? ⟨gb233, 4, none⟩ = some (.slice Ao95 t226.length co95) ∧ w'.cell? ⟨gb233, 5, none⟩ = some (.slice Ao96 t229.length co96)) (ds := []) #[false, false, false, false, false, false, false, false, false, false, false, false, false, false, false, false, false, false, false, false, false, false, false, false, false] (by kernel_rfl) rfl rfl ⟨(blk_cell BK221.out 0).trans rfl, (blk_cell BK221.out 1).trans rfl, (blk_cell BK221.out 2).trans rfl, (blk_cell BK221.out 3).trans rfl, (blk_cell BK221.out 4).trans rfl, (blk_cell BK221.out 5).trans rfl, (blk_cell BK233.out 0).trans rfl, (blk_cell BK233.out 1).trans rfl, (blk_cell BK233.out 2).trans rfl, (blk_cell BK233.out 3).trans rfl, (blk_cell BK233.out 4).trans rfl, (blk_cell BK233.out 5).trans rfl⟩ (fun hHeld => ?_); refine with_tabW chalklinelaw35_FeedReplies.tab7 chalklinelaw35_FeedReplies.bits7 (fun HT_ HW_ => ?_)
            generalize w97.drew = w98 at HO216 HO219 HO228 HO231 BK207 BK221 BK233 HB hHeld ⊢
            refine take_ (i := 0) (N := some 39) (v := ?_) (a' := ?_) #[true, false, false, false, false, false, false, false, false, false, false, false, false, false, false, false, false, false, false, false, false, false, false, false, false] rfl rfl (take_ofW HT_.out HW_.out (by kernel_rfl)) (fun _ _ _ h => h) (Or.inl ⟨by rfl, ?_⟩) hHeld ?_ ?_
            rotate_left
            · rintro w' ⟨s0, s1, s2, s3, s4, s5, s6, s7, s8, s9, s10, s11⟩
              go_simp
              with_reducible rfl
            rotate_left
            · simp only [Act.put, List.setIfInBounds_toArray, List.set_cons_zero, List.set_cons_succ, i64_w, i32_w]
              rfl
            refine take_ (i := 1) (N := some 40) (v := ?_) (a' := ?_) #[true, true, false, false, false, false, false, false, false, false, false, false, false, false, false, false, false, false, false, false, false, false, false, false, false] rfl rfl (take_ofW HT_.out HW_.out (by kernel_rfl)) (fun _ _ _ h => h) (Or.inl ⟨by rfl, ?_⟩) hHeld ?_ ?_
            rotate_left
            · rintro w' ⟨s0, s1, s2, s3, s4, s5, s6, s7, s8, s9, s10, s11⟩
              go_simp
              with_reducible rfl
            rotate_left
            · simp only [Act.put, List.setIfInBounds_toArray, List.set_cons_zero, List.set_cons_succ, i64_w, i32_w]
              rfl
            refine one_ (i := 2) (N := some 41) #[true, true, true, false, false, false, false, false, false, false, false, false, false, false, false, false, false, false, false, false, false, false, false, false, false] rfl rfl (one_of HT_.out (by kernel_rfl)) (by decide) (fun K hK => ?_)
            refine goes_ Try.func15 (by kernel_rfl) rfl #[.agg #[.int .i64 t210, .int .i64 t211, .int .i64 t212, .int .i64 t213, .slice Ao88 t214.length co88, .slice Ao89 t217.length co89], .agg #[.int .i64 t222, .int .i64 t223, .int .i64 t224, .int .i64 t225, .slice Ao95 t226.length co95, .slice Ao96 t229.length co96]] (by rfl) rfl rfl (by (try simp only [List.map_toArray, List.map_cons, List.map_nil]); first | done | rfl | (simp only [List.length_drop, List.length_take]; rfl)) ?_
            with_reducible refine (chalklineref35_Msgs.calls kj6 t210 t211 t212 t213 _ _ t214 _ _ t217 t222 t223 t224 t225 _ _ t226 _ _ t229 false _ ?side1 ?side2 ?side3 ?side4 ?side5 ?side6 ?side7 ?side8 A16.out).mono ?_
            (case side1 => repeat (first | exact (Kd.R_reads' HO216.out).2.2 | (with_reducible refine Kd.C_alloc ?_ _) | (with_reducible refine Kd.C_drewN ?_ _) | (with_reducible refine Kd.C_drew ?_)))
            (case side2 => exact (Kd.R_reads' HO216.out).2.1)
            (case side3 => repeat (first | exact (Kd.R_reads' HO219.out).2.2 | (with_reducible refine Kd.C_alloc ?_ _) | (with_reducible refine Kd.C_drewN ?_ _) | (with_reducible refine Kd.C_drew ?_)))
            (case side4 => exact (Kd.R_reads' HO219.out).2.1)
            (case side5 => repeat (first | exact (Kd.R_reads' HO228.out).2.2 | (with_reducible refine Kd.C_alloc ?_ _) | (with_reducible refine Kd.C_drewN ?_ _) | (with_reducible refine Kd.C_drew ?_)))
            (case side6 => exact (Kd.R_reads' HO228.out).2.1)
            (case side7 => repeat (first | exact (Kd.R_reads' HO231.out).2.2 | (with_reducible refine Kd.C_alloc ?_ _) | (with_reducible refine Kd.C_drewN ?_ _) | (with_reducible refine Kd.C_drew ?_)))
            (case side8 => exact (Kd.R_reads' HO231.out).2.1)
            rintro e w99 ⟨rfl, hb⟩
            refine ⟨_, rfl, ?_⟩
            have n0_ := Aside0.mk (Kd.R_below (by (with_reducible repeat (first | apply Kd.R_alloc | apply Kd.R_drewN | apply Kd.R_drew)); exact HO216.out) hb)
            have n1_ := Aside0.mk (Kd.R_below (by (with_reducible repeat (first | apply Kd.R_alloc | apply Kd.R_drewN | apply Kd.R_drew)); exact HO219.out) hb)
            have n2_ := Aside0.mk (Kd.R_below (by (with_reducible repeat (first | apply Kd.R_alloc | apply Kd.R_drewN | apply Kd.R_drew)); exact HO228.out) hb)
            have n3_ := Aside0.mk (Kd.R_below (by (with_reducible repeat (first | apply Kd.R_alloc | apply Kd.R_drewN | apply Kd.R_drew)); exact HO231.out) hb)
            have n4_ := Aside0.mk (blk_below (k_ BK207) hb)
            have n5_ := Aside0.mk (blk_below (k_ BK221) hb)
            have n6_ := Aside0.mk (blk_below (k_ BK233) hb)
            have n7_ := Aside0.mk (below_step (b_ HB) hb)
            clear HO216
            clear HO219
            clear HO228
            clear HO231
            clear BK207
            clear BK221
            clear BK233
            clear HB
            have HO216 := n0_
            have HO219 := n1_
            have HO228 := n2_
            have HO231 := n3_
            have BK207 := n4_
            have BK221 := n5_
            have BK233 := n6_
            have HB := n7_
            clear n0_ n1_ n2_ n3_ n4_ n5_ n6_ n7_
            (try clear hb)
            (try clear hb2)
            (try clear hk)
            (try clear hi)
            refine hK.out _ _ ⟨(blk_cell BK221.out 0).trans rfl, (blk_cell BK221.out 1).trans rfl, (blk_cell BK221.out 2).trans rfl, (blk_cell BK221.out 3).trans rfl, (blk_cell BK221.out 4).trans rfl, (blk_cell BK221.out 5).trans rfl, (blk_cell BK233.out 0).trans rfl, (blk_cell BK233.out 1).trans rfl, (blk_cell BK233.out 2).trans rfl, (blk_cell BK233.out 3).trans rfl, (blk_cell BK233.out 4).trans rfl, (blk_cell BK233.out 5).trans rfl⟩ (fun hHeld => ?_)
            clear hK K
            refine norm_ (a' := ?_) ?_ ?_
            rotate_left
            · show Act.put _ (some 41) _ = _
              simp only [Act.put, List.setIfInBounds_toArray, List.set_cons_zero, List.set_cons_succ, i64_w, i32_w]
              rfl
            refine pure_ (i := 3) (N := some 42) (v := ?_) (a' := ?_) #[true, true, true, true, false, false, false, false, false, false, false, false, false, false, false, false, false, false, false, false, false, false, false, false, false] rfl rfl (any_of HT_.out (by kernel_rfl)) (fun _ _ _ h => h) (Or.inl ⟨by rfl, ?_⟩) ?_ ?_
            rotate_left
            · intro w'
              go_simp
              with_reducible rfl
            rotate_left
            · simp only [Act.put, List.setIfInBounds_toArray, List.set_cons_zero, List.set_cons_succ, i64_w, i32_w]
              rfl
            refine pure_ (i := 4) (N := some 43) (v := undef) (a' := ?_) #[true, true, true, true, true, false, false, false, false, false, false, false, false, false, false, false, false, false, false, false, false, false, false, false, false] rfl rfl (any_of HT_.out (by kernel_rfl)) (fun _ _ _ h => h) (Or.inr ⟨by rfl, rfl⟩) ?_ ?_
            rotate_left
            · simp only [Act.put, List.setIfInBounds_toArray, List.set_cons_zero, List.set_cons_succ, i64_w, i32_w]
              rfl
            refine pure_ (i := 5) (N := some 44) (v := undef) (a' := ?_) #[true, true, true, true, true, true, false, false, false, false, false, false, false, false, false, false, false, false, false, false, false, false, false, false, false] rfl rfl (any_of HT_.out (by kernel_rfl)) (fun _ _ _ h => h) (Or.inr ⟨by rfl, rfl⟩) ?_ ?_
            rotate_left
            · simp only [Act.put, List.setIfInBounds_toArray, List.set_cons_zero, List.set_cons_succ, i64_w, i32_w]
              rfl
            refine pure_ (i := 6) (N := some 45) (v := undef) (a' := ?_) #[true, true, true, true, true, true, true, false, false, false, false, false, false, false, false, false, false, false, false, false, false, false, false, false, false] rfl rfl (any_of HT_.out (by kernel_rfl)) (fun _ _ _ h => h) (Or.inr ⟨by rfl, rfl⟩) ?_ ?_
            rotate_left
            · simp only [Act.put, List.setIfInBounds_toArray, List.set_cons_zero, List.set_cons_succ, i64_w, i32_w]
              rfl
            refine pure_ (i := 7) (N := some 46) (v := ?_) (a' := ?_) #[true, true, true, true, true, true, true, true, false, false, false, false, false, false, false, false, false, false, false, false, false, false, false, false, false] rfl rfl (any_of HT_.out (by kernel_rfl)) (fun _ _ _ h => h) (Or.inl ⟨by rfl, ?_⟩) ?_ ?_
            rotate_left
            · intro w'
              go_simp
              with_reducible rfl
            rotate_left
            · simp only [Act.put, List.setIfInBounds_toArray, List.set_cons_zero, List.set_cons_succ, i64_w, i32_w]
              rfl
            refine pure_ (i := 8) (N := some 47) (v := ?_) (a' := ?_) #[true, true, true, true, true, true, true, true, true, false, false, false, false, false, false, false, false, false, false, false, false, false, false, false, false] rfl rfl (any_of HT_.out (by kernel_rfl)) (fun _ _ _ h => h) (Or.inl ⟨by rfl, ?_⟩) ?_ ?_
            rotate_left
            · intro w'
              go_simp
              with_reducible rfl
            rotate_left
            · simp only [Act.put, List.setIfInBounds_toArray, List.set_cons_zero, List.set_cons_succ, i64_w, i32_w]
              rfl
            refine pure_ (i := 9) (N := some 48) (v := undef) (a' := ?_) #[true, true, true, true, true, true, true, true, true, true, false, false, false, false, false, false, false, false, false, false, false, false, false, false, false] rfl rfl (any_of HT_.out (by kernel_rfl)) (fun _ _ _ h => h) (Or.inr ⟨by rfl, rfl⟩) ?_ ?_
            rotate_left
            · simp only [Act.put, List.setIfInBounds_toArray, List.set_cons_zero, List.set_cons_succ, i64_w, i32_w]
              rfl
            refine pure_ (i := 10) (N := some 49) (v := undef) (a' := ?_) #[true, true, true, true, true, true, true, true, true, true, true, false, false, false, false, false, false, false, false, false, false, false, false, false, false] rfl rfl (any_of HT_.out (by kernel_rfl)) (fun _ _ _ h => h) (Or.inr ⟨by rfl, rfl⟩) ?_ ?_
            rotate_left
            · simp only [Act.put, List.setIfInBounds_toArray, List.set_cons_zero, List.set_cons_succ, i64_w, i32_w]
              rfl
            refine pure_ (i := 11) (N := some 50) (v := undef) (a' := ?_) #[true, true, true, true, true, true, true, true, true, true, true, true, false, false, false, false, false, false, false, false, false, false, false, false, false] rfl rfl (any_of HT_.out (by kernel_rfl)) (fun _ _ _ h => h) (Or.inr ⟨by rfl, rfl⟩) ?_ ?_
            rotate_left
            · simp only [Act.put, List.setIfInBounds_toArray, List.set_cons_zero, List.set_cons_succ, i64_w, i32_w]
              rfl
            refine pure_ (i := 12) (N := some 51) (v := undef) (a' := ?_) #[true, true, true, true, true, true, true, true, true, true, true, true, true, false, false, false, false, false, false, false, false, false, false, false, false] rfl rfl (any_of HT_.out (by kernel_rfl)) (fun _ _ _ h => h) (Or.inr ⟨by rfl, rfl⟩) ?_ ?_
            rotate_left
            · simp only [Act.put, List.setIfInBounds_toArray, List.set_cons_zero, List.set_cons_succ, i64_w, i32_w]
              rfl
            refine pure_ (i := 13) (N := some 52) (v := undef) (a' := ?_) #[true, true, true, true, true, true, true, true, true, true, true, true, true, true, false, false, false, false, false, false, false, false, false, false, false] rfl rfl (any_of HT_.out (by kernel_rfl)) (fun _ _ _ h => h) (Or.inr ⟨by rfl, rfl⟩) ?_ ?_
            rotate_left
            · simp only [Act.put, List.setIfInBounds_toArray, List.set_cons_zero, List.set_cons_succ, i64_w, i32_w]
              rfl
            refine pure_ (i := 14) (N := some 53) (v := ?_) (a' := ?_) #[true, true, true, true, true, true, true, true, true, true, true, true, true, true, true, false, false, false, false, false, false, false, false, false, false] rfl rfl (any_of HT_.out (by kernel_rfl)) (fun _ _ _ h => h) (Or.inl ⟨by rfl, ?_⟩) ?_ ?_
            rotate_left
            · intro w'
              go_simp
              with_reducible rfl
            rotate_left
            · simp only [Act.put, List.setIfInBounds_toArray, List.set_cons_zero, List.set_cons_succ, i64_w, i32_w]
              rfl
            refine pure_ (i := 15) (N := some 54) (v := ?_) (a' := ?_) #[true, true, true, true, true, true, true, true, true, true, true, true, true, true, true, true, false, false, false, false, false, false, false, false, false] rfl rfl (any_of HT_.out (by kernel_rfl)) (fun _ _ _ h => h) (Or.inl ⟨by rfl, ?_⟩) ?_ ?_
            rotate_left
            · intro w'
              go_simp
              with_reducible rfl
            rotate_left
            · simp only [Act.put, List.setIfInBounds_toArray, List.set_cons_zero, List.set_cons_succ, i64_w, i32_w]
              rfl
            refine pure_ (i := 16) (N := some 55) (v := undef) (a' := ?_) #[true, true, true, true, true, true, true, true, true, true, true, true, true, true, true, true, true, false, false, false, false, false, false, false, false] rfl rfl (any_of HT_.out (by kernel_rfl)) (fun _ _ _ h => h) (Or.inr ⟨by rfl, rfl⟩) ?_ ?_
            rotate_left
            · simp only [Act.put, List.setIfInBounds_toArray, List.set_cons_zero, List.set_cons_succ, i64_w, i32_w]
              rfl
            refine pure_ (i := 17) (N := some 56) (v := undef) (a' := ?_) #[true, true, true, true, true, true, true, true, true, true, true, true, true, true, true, true, true, true, false, false, false, false, false, false, false] rfl rfl (any_of HT_.out (by kernel_rfl)) (fun _ _ _ h => h) (Or.inr ⟨by rfl, rfl⟩) ?_ ?_
            rotate_left
            · simp only [Act.put, List.setIfInBounds_toArray, List.set_cons_zero, List.set_cons_succ, i64_w, i32_w]
              rfl
            refine pure_ (i := 18) (N := some 57) (v := undef) (a' := ?_) #[true, true, true, true, true, true, true, true, true, true, true, true, true, true, true, true, true, true, true, false, false, false, false, false, false] rfl rfl (any_of HT_.out (by kernel_rfl)) (fun _ _ _ h => h) (Or.inr ⟨by rfl, rfl⟩) ?_ ?_
            rotate_left
            · simp only [Act.put, List.setIfInBounds_toArray, List.set_cons_zero, List.set_cons_succ, i64_w, i32_w]
              rfl
            refine pure_ (i := 19) (N := some 58) (v := undef) (a' := ?_) #[true, true, true, true, true, true, true, true, true, true, true, true, true, true, true, true, true, true, true, true, false, false, false, false, false] rfl rfl (any_of HT_.out (by kernel_rfl)) (fun _ _ _ h => h) (Or.inr ⟨by rfl, rfl⟩) ?_ ?_
            rotate_left
            · simp only [Act.put, List.setIfInBounds_toArray, List.set_cons_zero, List.set_cons_succ, i64_w, i32_w]
              rfl
            refine pure_ (i := 20) (N := some 59) (v := undef) (a' := ?_) #[true, true, true, true, true, true, true, true, true, true, true, true, true, true, true, true, true, true, true, true, true, false, false, false, false] rfl rfl (any_of HT_.out (by kernel_rfl)) (fun _ _ _ h => h) (Or.inr ⟨by rfl, rfl⟩) ?_ ?_
            rotate_left
            · simp only [Act.put, List.setIfInBounds_toArray, List.set_cons_zero, List.set_cons_succ, i64_w, i32_w]
              rfl
            refine pure_ (i := 21) (N := some 60) (v := undef) (a' := ?_) #[true, true, true, true, true, true, true, true, true, true, true, true, true, true, true, true, true, true, true, true, true, true, false, false, false] rfl rfl (any_of HT_.out (by kernel_rfl)) (fun _ _ _ h => h) (Or.inr ⟨by rfl, rfl⟩) ?_ ?_
            rotate_left
            · simp only [Act.put, List.setIfInBounds_toArray, List.set_cons_zero, List.set_cons_succ, i64_w, i32_w]
              rfl
            refine pure_ (i := 22) (N := some 61) (v := undef) (a' := ?_) #[true, true, true, true, true, true, true, true, true, true, true, true, true, true, true, true, true, true, true, true, true, true, true, false, false] rfl rfl (any_of HT_.out (by kernel_rfl)) (fun _ _ _ h => h) (Or.inr ⟨by rfl, rfl⟩) ?_ ?_
            rotate_left
            · simp only [Act.put, List.setIfInBounds_toArray, List.set_cons_zero, List.set_cons_succ, i64_w, i32_w]
              rfl
            refine pure_ (i := 23) (N := some 62) (v := ?_) (a' := ?_) #[true, true, true, true, true, true, true, true, true, true, true, true, true, true, true, true, true, true, true, true, true, true, true, true, false] rfl rfl (any_of HT_.out (by kernel_rfl)) (fun _ _ _ h => h) (Or.inl ⟨by rfl, ?_⟩) ?_ ?_
            rotate_left
            · intro w'
              go_simp
              with_reducible rfl
            rotate_left
            · simp only [Act.put, List.setIfInBounds_toArray, List.set_cons_zero, List.set_cons_succ, i64_w, i32_w]
              rfl
            refine pure_ (i := 24) (N := some 8) (v := ?_) (a' := ?_) #[true, true, true, true, true, true, true, true, true, true, true, true, true, true, true, true, true, true, true, true, true, true, true, true, true] rfl rfl (any_of HT_.out (by kernel_rfl)) (fun _ _ _ h => h) (Or.inl ⟨by rfl, ?_⟩) ?_ ?_
            rotate_left
            · intro w'
              go_simp
              with_reducible rfl
            rotate_left
            · simp only [Act.put, List.setIfInBounds_toArray, List.set_cons_zero, List.set_cons_succ, i64_w, i32_w]
              rfl
            refine done_ (done_of HT_.out (by kernel_rfl)) ?_
            try go_wp2
            go_ret
            exact ⟨by first | rfl | (simp [errW_none, errW_some] <;> rfl) | (simp [*, errW_none, errW_some] <;> rfl), b_ HB⟩
  · replace c6 := Bool.eq_false_iff.mpr c6
    subst c6
    have H1 : (some false) = some r := by rw [if_neg (show ¬ (false = true) by decide)] at H; exact H
    clear H
    have H := H1
    clear H1
    obtain rfl := Option.some.inj H
    go_enter Try.func3, Try.ntmps3
    go_wp2_with (first | ((with_reducible refine gate_dst (N := 5) rfl ?_); (try (refine gate_guard (by rfl) ?_; dsimp only)); refine box_event ?hg (N := 5) ?hd (cs := #[.int .i64 a1_0, .slice A1_1 l1_1.length c1_1]) (t := 27) ?hr ?_; (case hd => rfl); (case hg => rfl); (case hr => first | (go_simp; done) | (go_simp; rfl)); intro gb207 hg w100 hbox hb; have n0_ := Aside0.mk (below_step (b_ HB) hb); have n1_ := Aside0.mk (hbox); have n2_ := Aside0.mk ((by rw [hg]; exact (below_size (b_ HB)) : w.heap.size ≤ gb207)); have n3_ := n2_; clear HB; have HB := n0_; have BK207 := n1_; have GW207 := n2_; have GE207 := n3_; clear n0_ n1_ n2_ n3_; clear hb hbox hg) | ((with_reducible refine gate_callee (f := 11) rfl ?_); refine goesL_ (some 13) rfl rfl Try.func11 (by kernel_rfl) rfl #[] rfl (by (try simp only [List.map_toArray, List.map_cons, List.map_nil]); first | done | rfl | (simp only [List.length_drop, List.length_take]; rfl)) ?_; (with_reducible refine (chalklinelaw35_live.calls  false _ A5.out).mono ?_); rintro e w101 ⟨rfl, hb⟩; refine ⟨_, rfl, ?_⟩; have n0_ := Aside0.mk (blk_below (k_ BK207) hb); have n1_ := Aside0.mk (below_step (b_ HB) hb); clear BK207; clear HB; have BK207 := n0_; have HB := n1_; clear n0_ n1_; (try clear hb); (try clear hb2); (try clear hk); (try clear hi)))
    go_ret
    exact ⟨by first | rfl | (simp [errW_none, errW_some] <;> rfl) | (simp [*, errW_none, errW_some] <;> rfl), b_ HB⟩
end Go.Proofs.Ytfdhnmijaobbdaa.S
end
section
namespace Go.Proofs.YtfdhnmijaobbdaaW.PrintMore
open Go.RowKit Go.Proofs.YtfdhnmijaobbdaaW.PrintWords Go.Proofs.YtfdhnmijaobbdaaW.PrintLast Go.ChangeShapes Go.WideShapes
def Opens {α : Type} (P : Program) (t : TypeId) (d : Kd α) (wf : α → Prop) : Prop :=
  ∀ (H : Type) (enc : TypeId × Value → H) (w : World) (base : Nat) (spare : Nat → Bool) (held : Bool) (fuel : Nat) (cs : List Value) (x : DataW H × List MemPlace), DataW.trod enc P w base spare held fuel t cs = some x → ∃ y, d.K w y cs ∧ wf y
section
variable {P : Program} {t : TypeId}
theorem opens_int {k : IntKind} (ht : P.underlying t = some (.int k)) : Opens P t (Kd.int k) (fun n => (Lit.int k n).wf = true) := by
  intro H enc w base spare held fuel cs x h
  obtain ⟨n, rfl, _, hw⟩ := DataW.trod_int ht h
  exact ⟨n, rfl, hw⟩
theorem opens_bool (ht : P.underlying t = some .bool) : Opens P t Kd.bool (fun _ => True) := by
  intro H enc w base spare held fuel cs x h
  cases fuel with
  | zero => simp [DataW.trod] at h
  | succ n =>
    unfold DataW.trod at h
    rw [ht] at h
    split at h
    case h_1 => exact ⟨_, rfl, trivial⟩
    all_goals simp_all
theorem cells_cell {w : World} {base n : Nat} {a : Addr} {cs : List Value} (h : w.cells? base a n = some cs) : cs.length = n ∧ ∀ i u, cs[i]? = some u → w.cell? (a.add i) = some u := by
  obtain ⟨_, hl, hc⟩ := World.cells?_some h
  refine ⟨hl, fun i u hu => ?_⟩
  have hi : i < n := by rw [← hl]; exact (List.getElem?_eq_some_iff.1 hu).1
  rw [hc i hi, hu]
theorem opens_slice {α : Type} {e : TypeId} {d : Kd α} {wf : α → Prop} (ht : P.underlying t = some (.slice e)) (hsz : P.cellsOf e = d.sz) (h : Opens P e d wf) :
    Opens P t (Kd.slice e d) (fun l => l.length ≤ maxLen ∧ ∀ x ∈ l, wf x) := by
  intro H enc w base spare held fuel cs x hx
  rcases Deep.open_slice ht hx with ⟨rfl, _⟩ | ⟨a, len, cap, m, n, D, Pl, rfl, _, hl, hm, hmm, _, hel⟩
  · exact ⟨[], ⟨none, 0, rfl, Nat.le_refl _, Kd.C_nil _ _⟩, Nat.zero_le _, fun x hx => by cases hx⟩
  · have hlm : len ≤ m := by rw [hmm]; split <;> omega
    have hone : ∀ i, i < len → ∃ y : α, wf y ∧ ∃ c, c.length = d.sz ∧ d.K w y c ∧ ∀ j u, c[j]? = some u → w.cell? ((a.add (i * d.sz)).add j) = some u := by
      intro i hi
      obtain ⟨cs', hc, ht'⟩ := hel i (by omega)
      obtain ⟨y, hK, hw⟩ := h H enc w base spare held n cs' _ ht'
      rw [hsz] at hc
      obtain ⟨hlen, hcell⟩ := cells_cell hc
      exact ⟨y, hw, cs', hlen, hK, hcell⟩
    let f : Nat → Option α := fun i => if hi : i < len then some (Classical.choose (hone i hi)) else none
    have hf : ∀ i (hi : i < len), f i = some (Classical.choose (hone i hi)) := fun i hi => dif_pos hi
    let l : List α := (List.range len).filterMap f
    have hln : ∀ m, m ≤ len → ((List.range m).filterMap f).length = m ∧ ∀ i (hi : i < len), i < m → ((List.range m).filterMap f)[i]? = some (Classical.choose (hone i hi)) := by
      intro m
      induction m with
      | zero => exact fun _ => ⟨rfl, fun i _ h0 => absurd h0 (Nat.not_lt_zero _)⟩
      | succ m ih =>
        intro hm'
        obtain ⟨h1, h2⟩ := ih (by omega)
        rw [List.range_succ, List.filterMap_append]
        have he : [m].filterMap f = [Classical.choose (hone m (by omega))] := by simp [hf m (by omega)]
        rw [he]
        refine ⟨by simp [h1], fun i hi him => ?_⟩
        rcases Nat.lt_succ_iff_lt_or_eq.1 him with hlt | rfl
        · rw [List.getElem?_append_left (by omega)]
          exact h2 i hi hlt
        · rw [List.getElem?_append_right (by omega), h1]
          simp
    obtain ⟨hlen, hget⟩ := hln len (Nat.le_refl _)
    have hmax : cap ≤ 9223372036854775807 := by unfold maxLen at hm; omega
    refine ⟨l, ⟨some a, cap, ?_, ?_, ?_⟩, ?_, ?_⟩
    · show [Value.slice (some a) len cap] = _
      rw [hlen]
    · rw [hlen]; exact hl
    · refine ⟨rfl, by rw [hlen]; omega, fun _ => ⟨a, rfl, fun j p hp => ?_⟩⟩
      have hj : j < len := by rw [← hlen]; exact (List.getElem?_eq_some_iff.1 hp).1
      rw [hget j hj hj] at hp
      obtain rfl := Option.some.inj hp
      obtain ⟨_, c, hc1, hc2, hc3⟩ := Classical.choose_spec (hone j hj)
      exact ⟨c, hc1, hc2, fun i u hu => by rw [← Deep.add_add]; exact hc3 i u hu⟩
    · rw [hlen]; omega
    · intro x hx
      obtain ⟨j, hj⟩ := List.getElem?_of_mem hx
      have hj' : j < len := by rw [← hlen]; exact (List.getElem?_eq_some_iff.1 hj).1
      rw [hget j hj' hj'] at hj
      obtain rfl := Option.some.inj hj
      exact (Classical.choose_spec (hone j hj')).1
def OpensF {α : Type} (P : Program) (fs : List Field) (off : Nat) (d : Kd α) (wf : α → Prop) : Prop :=
  ∀ (H : Type) (enc : TypeId × Value → H) (w : World) (base : Nat) (spare : Nat → Bool) (held : Bool) (n : Nat) (cs : List Value), cs.length = off + d.sz →
    (∀ f ∈ fs, ∃ y, DataW.trod enc P w base spare held n f.type ((cs.drop f.offset).take (P.cellsOf f.type)) = some y) → ∃ y, d.K w y (cs.drop off) ∧ wf y
theorem opensF_one {α : Type} {f : Field} {d : Kd α} {wf : α → Prop} (hsz : P.cellsOf f.type = d.sz) (h : Opens P f.type d wf) : OpensF P [f] f.offset d wf := by
  intro H enc w base spare held n cs hl hf
  obtain ⟨y, hy⟩ := hf f (List.mem_singleton.2 rfl)
  rw [List.take_of_length_le (by rw [List.length_drop, hl, hsz]; omega)] at hy
  exact h H enc w base spare held n _ _ hy
theorem opensF_cons {α β : Type} {f : Field} {fs : List Field} {d : Kd α} {d' : Kd β} {wf : α → Prop} {wf' : β → Prop} (hsz : P.cellsOf f.type = d.sz) (h : Opens P f.type d wf) (h' : OpensF P fs (f.offset + d.sz) d' wf') :
    OpensF P (f :: fs) f.offset (Kd.pair d d') (fun x => wf x.1 ∧ wf' x.2) := by
  intro H enc w base spare held n cs hl hf
  have hl' : cs.length = f.offset + (d.sz + d'.sz) := hl
  obtain ⟨y, hy⟩ := hf f (List.mem_cons_self)
  rw [hsz] at hy
  obtain ⟨a, hK, hw⟩ := h H enc w base spare held n _ _ hy
  obtain ⟨b, hK', hw'⟩ := h' H enc w base spare held n cs (by rw [hl']; omega) (fun g hg => hf g (List.mem_cons_of_mem _ hg))
  refine ⟨(a, b), ⟨(cs.drop f.offset).take d.sz, cs.drop (f.offset + d.sz), ?_, hK, hK'⟩, hw, hw'⟩
  rw [← List.drop_drop, List.take_append_drop]
theorem opens_struct {α : Type} {fs : Array Field} {d : Kd α} {wf : α → Prop} (ht : P.underlying t = some (.struct fs)) (hsz : P.cellsOf t = d.sz) (h : OpensF P fs.toList 0 d wf) : Opens P t d wf := by
  intro H enc w base spare held fuel cs x hx
  obtain ⟨xs, n, _, _, hl, hlen, hf⟩ := DataW.trod_struct ht hx
  obtain ⟨y, hK, hw⟩ := h H enc w base spare held n cs (by rw [hl, hsz]; omega) (fun f hm => by
    obtain ⟨i, hi⟩ := List.getElem?_of_mem hm
    have hi' : fs[i]? = some f := by simpa using hi
    have hlt : i < xs.length := by rw [hlen]; exact (Array.getElem?_eq_some_iff.1 hi').1
    exact ⟨xs[i], by rw [hf i f hi', List.getElem?_eq_getElem hlt]⟩)
  exact ⟨y, by simpa using hK, hw⟩
theorem opens_iso {α β : Type} {d : Kd α} {wf : α → Prop} (f : β → α) (g : α → β) (hfg : ∀ a, f (g a) = a) (h : Opens P t d wf) : Opens P t (Kd.iso d f) (fun b => wf (f b)) := by
  intro H enc w base spare held fuel cs x hx
  obtain ⟨y, hK, hw⟩ := h H enc w base spare held fuel cs x hx
  exact ⟨g y, by show d.K w (f (g y)) cs; rw [hfg]; exact hK, by show wf (f (g y)); rw [hfg]; exact hw⟩
theorem arg_slice {α : Type} {e : TypeId} {d : Kd α} {wf : List α → Prop} {r : Reach} {W : World} {b0 : Nat} {v : Value} (ht : P.underlying t = some (.slice e)) (ho : Opens P t (Kd.slice e d) wf) (hv : Value.okWide P W r b0 t v)
    {H : Type} {enc : TypeId × Value → H} {base : Nat} {spare : Nat → Bool} {held : Bool} {dd : DataW H} {ps : List MemPlace} (h : DataW.Trod enc P W base spare held t v dd ps) :
    ∃ (A : Option Addr) (c : Nat) (l : List α), v = .slice A l.length c ∧ l.length ≤ c ∧ d.C W A l.length l ∧ wf l := by
  obtain ⟨a, len, cap, rfl⟩ := okWide_slice ht hv
  obtain ⟨fuel, hf⟩ := h
  obtain ⟨l, ⟨A, c, he, hl, hC⟩, hw⟩ := ho H enc W base spare held fuel _ _ hf
  have he' : Value.slice a len cap = Value.slice A l.length c := by simpa [Value.cells] using he
  exact ⟨A, c, l, he', hl, hC, hw⟩
theorem arg_struct {α : Type} {fs : Array Field} {d : Kd α} {wf : α → Prop} {r : Reach} {W : World} {b0 : Nat} {v : Value} (ht : P.underlying t = some (.struct fs)) (ho : Opens P t d wf) (hv : Value.okWide P W r b0 t v)
    {H : Type} {enc : TypeId × Value → H} {base : Nat} {spare : Nat → Bool} {held : Bool} {dd : DataW H} {ps : List MemPlace} (h : DataW.Trod enc P W base spare held t v dd ps) :
    ∃ (x : α) (cs : List Value), v = .agg cs.toArray ∧ d.K W x cs ∧ wf x := by
  obtain ⟨cs, rfl, _⟩ := okWide_struct ht hv
  obtain ⟨fuel, hf⟩ := h
  obtain ⟨x, hK, hw⟩ := ho H enc W base spare held fuel _ _ hf
  exact ⟨x, cs.toList, by simp, by simpa [Value.cells] using hK, hw⟩
end
end Go.Proofs.YtfdhnmijaobbdaaW.PrintMore
namespace Go.Proofs.YtfdhnmijaobbdaaW.PrintMore
open Go.RowKit Go.ChangeShapes Go.WideShapes
theorem sized_any {H : Type} {enc : TypeId × Value → H} {P : Program} {W : World} {base : Nat} {spare : Nat → Bool} {held : Bool} {t e : TypeId} {a : Option Addr} {len cap : Nat} {d : DataW H} {ps : List MemPlace} {ts : List TypeId} {ds : List (DataW H)} {j : Nat}
    (hsz : (DataW.weightsEach P ts ds).all (· ≤ reachBytes) = true) (ht : ts[j]? = some t) (hd : ds[j]? = some d) (hu : P.underlying t = some (.slice e)) {B : Nat} (hB : P.bytesOf e = B)
    (h : DataW.Trod enc P W base spare held t (.slice a len cap) d ps) : len * B ≤ 140737488351232 := by
  obtain ⟨fuel, hf⟩ := h
  rcases Deep.open_slice hu hf with ⟨hcs, _⟩ | ⟨x, l, c, m, n, D, Pl, hcs, _, hl, _, hm, hx, _⟩
  · simp [Value.cells] at hcs
    obtain ⟨rfl, rfl, rfl⟩ := hcs
    simp
  · simp [Value.cells] at hcs
    obtain ⟨rfl, rfl, rfl⟩ := hcs
    obtain ⟨hx, _⟩ := Prod.mk.inj hx
    subst hx
    have z := sized_slice hsz ht hd hu
    rw [hB] at z
    refine Nat.le_trans (Nat.mul_le_mul_right _ ?_) z
    simp
end Go.Proofs.YtfdhnmijaobbdaaW.PrintMore
end
section
namespace Go.Proofs.Ytfdhnmijaobbdaa.S
open Go.RowKit Go.Proofs.YtfdhnmijaobbdaaW.PrintWords Go.Proofs.YtfdhnmijaobbdaaW.PrintLast Go.Proofs.YtfdhnmijaobbdaaW.PrintMore
set_option linter.unusedVariables false
def wf60 (x : S60) : Prop := (Lit.int .i64 x.f0).wf = true ∧ (Lit.int .i64 x.f1).wf = true
theorem opens60 : Opens Try.prog 60 k60 wf60 := opens_iso (fun x : S60 => (x.f0, x.f1)) (fun p => ⟨p.1, p.2⟩) (fun _ => rfl) (opens_struct Try.underlying60 (by kernel_rfl) (opensF_cons (by kernel_rfl) (opens_int Try.underlying3) (opensF_one (by kernel_rfl) (opens_int Try.underlying3))))
def wf25 (x : S25) : Prop := (x.f0.length ≤ maxLen ∧ ∀ z_ ∈ x.f0, wf60 z_)
theorem opens25 : Opens Try.prog 25 k25 wf25 := opens_iso (fun x : S25 => (x.f0)) (fun p => ⟨p⟩) (fun _ => rfl) (opens_struct Try.underlying25 (by kernel_rfl) (opensF_one (by kernel_rfl) (opens_slice Try.underlying23 (by kernel_rfl) opens60)))
def wf52 (x : S52) : Prop := (Lit.int .i64 x.f0).wf = true ∧ wf25 x.f1 ∧ (Lit.int .i64 x.f2).wf = true ∧ True
theorem opens52 : Opens Try.prog 52 k52 wf52 := opens_iso (fun x : S52 => (x.f0, x.f1, x.f2, x.f3)) (fun p => ⟨p.1, p.2.1, p.2.2.1, p.2.2.2⟩) (fun _ => rfl) (opens_struct Try.underlying52 (by kernel_rfl) (opensF_cons (by kernel_rfl) (opens_int Try.underlying3) (opensF_cons (by kernel_rfl) opens25 (opensF_cons (by kernel_rfl) (opens_int Try.underlying3) (opensF_one (by kernel_rfl) (opens_bool Try.underlying4))))))
def wf27 (x : S27) : Prop := (Lit.int .i64 x.f0).wf = true ∧ wf25 x.f1
theorem opens27 : Opens Try.prog 27 k27 wf27 := opens_iso (fun x : S27 => (x.f0, x.f1)) (fun p => ⟨p.1, p.2⟩) (fun _ => rfl) (opens_struct Try.underlying27 (by kernel_rfl) (opensF_cons (by kernel_rfl) (opens_int Try.underlying3) (opensF_one (by kernel_rfl) opens25)))
end Go.Proofs.Ytfdhnmijaobbdaa.S
end
section
namespace Go.Proofs.Ytfdhnmijaobbdaa.S
open Go.RowKit Go.Proofs.YtfdhnmijaobbdaaW.PrintWords Go.Proofs.YtfdhnmijaobbdaaW.PrintLast Go.Proofs.YtfdhnmijaobbdaaW.PrintMore
theorem wrap_succ {i : Nat} (h : i < 9223372036854775807) : wrap64 ((i : Int) + 1) = ((i + 1 : Nat) : Int) := by
  unfold wrap64; omega
theorem wrap_pred {i : Int} (h0 : -9223372036854775807 ≤ i) (h : i ≤ 9223372036854775807) : wrap64 (i - 1) = i - 1 := by
  unfold wrap64; omega
theorem wrap_inc {i : Int} (h0 : -9223372036854775808 ≤ i) (h : i < 9223372036854775807) : wrap64 (i + 1) = i + 1 := by
  unfold wrap64; omega
theorem drop_cons {α : Type} {l s : List α} {x : α} {i : Nat} (h : l.drop i = x :: s) : i < l.length ∧ l[i]? = some x ∧ l.drop (i + 1) = s := by
  have h1 : i < l.length := by
    rcases Nat.lt_or_ge i l.length with h1 | h1
    · exact h1
    · rw [List.drop_eq_nil_of_le h1] at h; cases h
  refine ⟨h1, ?_, ?_⟩
  · rw [List.drop_eq_getElem_cons h1] at h
    injection h with h _
    rw [List.getElem?_eq_getElem h1, h]
  · rw [List.drop_eq_getElem_cons h1] at h
    injection h
theorem drop_nil {α : Type} {l : List α} {i : Nat} (h : l.drop i = []) : l.length ≤ i := by
  rcases Nat.lt_or_ge i l.length with h1 | h1
  · rw [List.drop_eq_getElem_cons h1] at h; cases h
  · exact h1
theorem rd52 {l : List S52} {i : Nat} {x : S52} (h : l[i]? = some x) : rd_T52 l (i : Int) = x := by
  unfold rd_T52; rw [Int.toNat_natCast, List.getD_eq_getElem?_getD, h]; rfl
theorem rd60 {l : List S60} {i : Nat} {x : S60} (h : l[i]? = some x) : rd_T60 l (i : Int) = x := by
  unfold rd_T60; rw [Int.toNat_natCast, List.getD_eq_getElem?_getD, h]; rfl
theorem succ_of {k n : Nat} (h : n < k) : ∃ m, k = m + 1 ∧ n ≤ m := ⟨k - 1, by omega, by omega⟩
def okP (p : S60) : Bool := decide (0 ≤ p.f0 ∧ p.f0 ≤ 49 ∧ 0 ≤ p.f1 ∧ p.f1 ≤ 31)
def okW (w : List S60) : Bool := decide (w.length ≤ 64) && w.all okP
def okV (n : Int) (v : S52) : Bool := decide (v.f0 = n + 1) && (decide (0 ≤ v.f2 ∧ v.f2 ≤ 1099511627776) && okW v.f1.f0)
def okAll (n : Nat) : List S52 → Bool
  | [] => true
  | v :: l => okV n v && okAll (n + 1) l
def chk (l : List S52) : Int := cond (okAll 0 l) 0 1
theorem place_ok (a x y : Int) : feed_Check_1_1.f a x y = some (okP ⟨x, y⟩) := by
  unfold feed_Check_1_1.f
  rw [feed_Take.bounds, feed_Take.bounds]
  simp only [Option.bind_some, okP]
  by_cases h : 0 ≤ x ∧ x ≤ 49
  · simp [h]
  · rw [decide_eq_false h]
    simp
    omega
theorem places_ok (l : List S60) (hl : l.length ≤ 9223372036854775806) : ∀ (s : List S60) (i k : Nat), l.drop i = s → s.length < k → feed_all_api_Place.l0 k l (l.length : Int) (i : Int) = some (s.all okP) := by
  intro s
  induction s with
  | nil =>
    intro i k hs hk
    obtain ⟨k, rfl, _⟩ := succ_of hk
    have := drop_nil hs
    simp only [feed_all_api_Place.l0]
    rw [if_neg (by omega)]
    rfl
  | cons x s ih =>
    intro i k hs hk
    obtain ⟨k, rfl, hk'⟩ := succ_of hk
    obtain ⟨h1, h2, h3⟩ := drop_cons hs
    have hk2 : s.length < k := by simp at hk'; omega
    simp only [feed_all_api_Place.l0]
    rw [if_pos (by omega), if_pos (by omega), if_pos (by omega), rd60 h2, place_ok]
    simp only [Option.bind_some]
    rw [wrap_succ (by omega), ih (i + 1) k h3 hk2]
    cases h : okP x <;> simp [h]
theorem version_ok (i k : Nat) (v : S52) (hi : i < 9223372036854775806) (hw : v.f1.f0.length ≤ 9223372036854775806) (hk : v.f1.f0.length < k) :
    feed_Check_1.f k (i : Int) v.f0 v.f1.f0 v.f2 v.f3 = some (okV i v) := by
  unfold feed_Check_1.f
  rw [wrap_inc (by omega) (by omega), feed_Take.bounds]
  simp only [Option.bind_some, okV, okW]
  by_cases h : v.f0 = (i : Int) + 1
  · rw [if_pos h, decide_eq_true h]
    by_cases h2 : 0 ≤ v.f2 ∧ v.f2 ≤ 1099511627776
    · rw [decide_eq_true h2]
      simp only [if_true, Bool.true_and]
      by_cases h3 : v.f1.f0.length ≤ 64
      · rw [if_pos (by omega), decide_eq_true h3]
        unfold feed_all_api_Place.f
        have := places_ok v.f1.f0 hw v.f1.f0 0 k rfl hk
        rw [show ((0 : Nat) : Int) = 0 from rfl] at this
        rw [this]
        simp
      · rw [if_neg (by omega), decide_eq_false h3]
        simp
    · rw [decide_eq_false h2]
      simp
  · rw [if_neg h, decide_eq_false h]
    simp
def Short (n : Nat) (l : List S52) : Prop := ∀ v ∈ l, v.f1.f0.length ≤ n
theorem versions_ok (l : List S52) (hl : l.length ≤ 9223372036854775806) (N : Nat) (hN : N ≤ 9223372036854775806) (hS : Short N l) : ∀ (s : List S52) (i k : Nat), l.drop i = s → s.length + N < k → feed_all_api_Version.l0 k l (l.length : Int) (i : Int) = some (okAll i s) := by
  intro s
  induction s with
  | nil =>
    intro i k hs hk
    obtain ⟨k, rfl, _⟩ := succ_of hk
    have := drop_nil hs
    simp only [feed_all_api_Version.l0]
    rw [if_neg (by omega)]
    rfl
  | cons x s ih =>
    intro i k hs hk
    obtain ⟨k, rfl, hk'⟩ := succ_of hk
    obtain ⟨h1, h2, h3⟩ := drop_cons hs
    have hx := hS x (List.mem_of_getElem? h2)
    have hk2 : s.length + N < k := by simp at hk'; omega
    simp only [feed_all_api_Version.l0]
    rw [if_pos (by omega), if_pos (by omega), if_pos (by omega), rd52 h2, version_ok i k x (by omega) (by omega) (by omega)]
    simp only [Option.bind_some]
    rw [wrap_succ (by omega), ih (i + 1) k h3 hk2]
    simp only [okAll]
    cases h : okV i x <;> simp
theorem feedCheck_eq (l : List S52) (hl : l.length ≤ 9223372036854775806) (N : Nat) (hN : N ≤ 9223372036854775806) (hS : Short N l) (k : Nat) (hk : l.length + N < k) : feed_Check.f k l = some (chk l) := by
  unfold feed_Check.f feed_all_api_Version.f
  have := versions_ok l hl N hN hS l 0 k rfl hk
  rw [show ((0 : Nat) : Int) = 0 from rfl] at this
  rw [this]
  simp only [Option.bind_some, chk]
  cases okAll 0 l <;> rfl
theorem may_ok (l : List S60) (hl : l.length ≤ 9223372036854775806) : ∀ (s : List S60) (i k : Nat), l.drop i = s → i ≤ 65 → 2 * (65 - i) + 2 ≤ k → chalklineref35_may.l0 k (i : Int) l = some (decide (l.length ≤ 64) && s.all okP) := by
  intro s
  induction s with
  | nil =>
    intro i k hs hi hk
    obtain ⟨k, rfl, _⟩ := succ_of (show 1 < k by omega)
    obtain ⟨k, rfl, _⟩ := succ_of (show 0 < k by omega)
    have := drop_nil hs
    simp only [chalklineref35_may.l0]
    rw [if_neg (by omega)]
    simp only [chalklineref35_may.j1]
    simp
    omega
  | cons x s ih =>
    intro i k hs hi hk
    obtain ⟨k, rfl, _⟩ := succ_of (show 1 < k by omega)
    obtain ⟨k, rfl, _⟩ := succ_of (show 0 < k by omega)
    obtain ⟨h1, h2, h3⟩ := drop_cons hs
    simp only [chalklineref35_may.l0]
    rw [if_pos (by omega)]
    by_cases h65 : i < 65
    · rw [decide_eq_true (by omega : (i : Int) < 65)]
      simp only [chalklineref35_may.j1]
      rw [if_pos trivial, if_pos (by omega), if_pos (by omega), rd60 h2, wrap_succ (by omega), ih (i + 1) k h3 (by omega) (by omega)]
      simp only [List.all_cons, okP]
      by_cases a : x.f0 < 0
      · rw [if_pos a, decide_eq_false (show ¬ (0 ≤ x.f0 ∧ x.f0 ≤ 49 ∧ 0 ≤ x.f1 ∧ x.f1 ≤ 31) by omega)]; simp
      · rw [if_neg a]
        by_cases b : x.f0 ≥ 50
        · rw [if_pos b, decide_eq_false (show ¬ (0 ≤ x.f0 ∧ x.f0 ≤ 49 ∧ 0 ≤ x.f1 ∧ x.f1 ≤ 31) by omega)]; simp
        · rw [if_neg b]
          by_cases c : x.f1 < 0
          · rw [if_pos c, decide_eq_false (show ¬ (0 ≤ x.f0 ∧ x.f0 ≤ 49 ∧ 0 ≤ x.f1 ∧ x.f1 ≤ 31) by omega)]; simp
          · rw [if_neg c]
            by_cases d : x.f1 ≥ 32
            · rw [if_pos d, decide_eq_false (show ¬ (0 ≤ x.f0 ∧ x.f0 ≤ 49 ∧ 0 ≤ x.f1 ∧ x.f1 ≤ 31) by omega)]; simp
            · rw [if_neg d, decide_eq_true (by omega : 0 ≤ x.f0 ∧ x.f0 ≤ 49 ∧ 0 ≤ x.f1 ∧ x.f1 ≤ 31)]; simp
    · rw [decide_eq_false (by omega : ¬ (i : Int) < 65)]
      simp only [chalklineref35_may.j1]
      rw [if_neg (by decide), decide_eq_false (by omega : ¬ (l.length : Int) ≤ 64), decide_eq_false (by omega : ¬ l.length ≤ 64)]
      rfl
theorem mayW (l : List S60) (hl : l.length ≤ 9223372036854775806) (k : Nat) (hk : 132 ≤ k) : chalklineref35_may.f k l = some (okW l) := by
  have := may_ok l hl l 0 k rfl (by omega) (by omega)
  exact this
theorem refVersions_ok (l : List S52) (hl : l.length ≤ 9223372036854775806) (hS : Short 9223372036854775806 l) : ∀ (s : List S52) (i k : Nat), l.drop i = s → s.length + 132 < k → chalklineref35_Check.l0 k l (i : Int) = some (cond (okAll i s) 0 1) := by
  intro s
  induction s with
  | nil =>
    intro i k hs hk
    obtain ⟨k, rfl, _⟩ := succ_of hk
    have := drop_nil hs
    simp only [chalklineref35_Check.l0]
    rw [if_neg (by omega)]
    rfl
  | cons x s ih =>
    intro i k hs hk
    obtain ⟨k, rfl, hk'⟩ := succ_of hk
    obtain ⟨h1, h2, h3⟩ := drop_cons hs
    have hx := hS x (List.mem_of_getElem? h2)
    have hk2 : s.length + 132 < k := by simp at hk'; omega
    simp only [chalklineref35_Check.l0]
    rw [if_pos (by omega), if_pos (by omega), rd52 h2, wrap_succ (by omega), mayW x.f1.f0 hx k (by omega), ih (i + 1) k h3 hk2]
    simp only [Option.bind_some, okAll, okV]
    by_cases a : x.f0 = ((i + 1 : Nat) : Int)
    · rw [if_pos a, decide_eq_true (by omega : x.f0 = (i : Int) + 1)]
      by_cases b : x.f2 < 0
      · rw [if_pos b, decide_eq_false (show ¬ (0 ≤ x.f2 ∧ x.f2 ≤ 1099511627776) by omega)]; simp
      · rw [if_neg b]
        by_cases c : x.f2 > 1099511627776
        · rw [if_pos c, decide_eq_false (show ¬ (0 ≤ x.f2 ∧ x.f2 ≤ 1099511627776) by omega)]; simp
        · rw [if_neg c, decide_eq_true (by omega : 0 ≤ x.f2 ∧ x.f2 ≤ 1099511627776)]
          cases okW x.f1.f0 <;> simp
    · rw [if_neg a, decide_eq_false (show ¬ x.f0 = (i : Int) + 1 by omega)]; simp
theorem refCheck_eq (l : List S52) (hl : l.length ≤ 9223372036854775806) (hS : Short 9223372036854775806 l) (k : Nat) (hk : l.length + 132 < k) : chalklineref35_Check.f k l = some (chk l) :=
  refVersions_ok l hl hS l 0 k rfl hk
theorem few_ok (l : List S52) (hl : l.length ≤ 9223372036854775806) : ∀ (s : List S52) (i k : Nat), l.drop i = s → i ≤ 30 → 2 * (30 - i) + 2 ≤ k → ∃ b, chalklineref35_Few.l0 k l (i : Int) = some b ∧ (b = true → l.length ≤ 20 ∧ Short 70 s) := by
  intro s
  induction s with
  | nil =>
    intro i k hs hi hk
    obtain ⟨k, rfl, _⟩ := succ_of (show 1 < k by omega)
    obtain ⟨k, rfl, _⟩ := succ_of (show 0 < k by omega)
    have := drop_nil hs
    simp only [chalklineref35_Few.l0]
    rw [if_neg (by omega)]
    simp only [chalklineref35_Few.j1]
    exact ⟨_, by rw [if_neg (by decide)], fun h => ⟨by have := of_decide_eq_true h; omega, fun v hv => by cases hv⟩⟩
  | cons x s ih =>
    intro i k hs hi hk
    obtain ⟨k, rfl, _⟩ := succ_of (show 1 < k by omega)
    obtain ⟨k, rfl, _⟩ := succ_of (show 0 < k by omega)
    obtain ⟨h1, h2, h3⟩ := drop_cons hs
    simp only [chalklineref35_Few.l0]
    rw [if_pos (by omega)]
    by_cases h30 : i < 30
    · rw [decide_eq_true (by omega : (i : Int) < 30)]
      simp only [chalklineref35_Few.j1]
      rw [if_pos trivial, if_pos (by omega), if_pos (by omega), rd52 h2, wrap_succ (by omega)]
      by_cases a : (x.f1.f0.length : Int) > 70
      · rw [if_pos a]; exact ⟨false, rfl, fun h => by cases h⟩
      · rw [if_neg a]
        obtain ⟨b, hb, hb2⟩ := ih (i + 1) k h3 (by omega) (by omega)
        refine ⟨b, hb, fun h => ⟨(hb2 h).1, fun v hv => ?_⟩⟩
        rcases List.mem_cons.1 hv with rfl | hv
        · omega
        · exact (hb2 h).2 v hv
    · rw [decide_eq_false (by omega : ¬ (i : Int) < 30)]
      simp only [chalklineref35_Few.j1]
      rw [if_neg (by decide)]
      exact ⟨_, rfl, fun h => by have := of_decide_eq_true h; omega⟩
theorem few_eq (l : List S52) (hl : l.length ≤ 9223372036854775806) (k : Nat) (hk : 62 ≤ k) : ∃ b, chalklineref35_Few.f k l = some b ∧ (b = true → l.length ≤ 20 ∧ Short 70 l) :=
  few_ok l hl l 0 k rfl (by omega) (by omega)
theorem same_refl (l : List S60) (hl : l.length ≤ 9223372036854775806) : ∀ (s : List S60) (i k : Nat), l.drop i = s → s.length < k → chalklineref04_Same.l0 k (i : Int) l l = some true := by
  intro s
  induction s with
  | nil =>
    intro i k hs hk
    obtain ⟨k, rfl, _⟩ := succ_of hk
    have := drop_nil hs
    simp only [chalklineref04_Same.l0]
    rw [if_neg (by omega)]
  | cons x s ih =>
    intro i k hs hk
    obtain ⟨k, rfl, hk'⟩ := succ_of hk
    obtain ⟨h1, h2, h3⟩ := drop_cons hs
    simp only [chalklineref04_Same.l0]
    rw [if_pos (by omega), if_pos (by omega), if_pos (by omega), wrap_succ (by omega), ih (i + 1) k h3 (by simp at hk'; omega)]
    simp
theorem same_eq (l : List S60) (hl : l.length ≤ 9223372036854775806) (k : Nat) (hk : l.length < k) : chalklineref04_Same.f k l l = some true := by
  unfold chalklineref04_Same.f
  rw [if_pos rfl]
  exact same_refl l hl l 0 k rfl hk
theorem moves_refl (l : List S64) (hl : l.length ≤ 9223372036854775806) : ∀ (s : List S64) (i k : Nat), l.drop i = s → s.length < k → chalklineref04_Moves.l0 k l l (i : Int) = some true := by
  intro s
  induction s with
  | nil =>
    intro i k hs hk
    obtain ⟨k, rfl, _⟩ := succ_of hk
    have := drop_nil hs
    simp only [chalklineref04_Moves.l0]
    rw [if_neg (by omega)]
  | cons x s ih =>
    intro i k hs hk
    obtain ⟨k, rfl, hk'⟩ := succ_of hk
    obtain ⟨h1, h2, h3⟩ := drop_cons hs
    simp only [chalklineref04_Moves.l0]
    rw [if_pos (by omega), if_pos (by omega), if_pos (by omega), wrap_succ (by omega), ih (i + 1) k h3 (by simp at hk'; omega)]
    simp
theorem moves_eq (l : List S64) (hl : l.length ≤ 9223372036854775806) (k : Nat) (hk : l.length < k) : chalklineref04_Moves.f k l l = some true := by
  unfold chalklineref04_Moves.f
  rw [if_pos rfl]
  exact moves_refl l hl l 0 k rfl hk
theorem msgs_eq (a b c d : Int) (l : List S60) (m : List S64) (hl : l.length ≤ 9223372036854775806) (hm : m.length ≤ 9223372036854775806) (k : Nat) (hk : l.length < k) (hk2 : m.length < k) : chalklineref35_Msgs.f k a b c d l m a b c d l m = some true := by
  unfold chalklineref35_Msgs.f
  simp [same_eq l hl k hk, moves_eq m hm k hk2]
def diffGo (n : Nat) : List S60 → List S60 → List S64
  | a :: xs, b :: ys => if a.f0 = b.f0 ∧ a.f1 = b.f1 then diffGo (n + 1) xs ys else ⟨n, b⟩ :: diffGo (n + 1) xs ys
  | _, _ => []
theorem diffGo_len : ∀ (n : Nat) (a b : List S60), (diffGo n a b).length ≤ b.length
  | _, [], _ => by simp [diffGo]
  | _, _ :: _, [] => by simp [diffGo]
  | n, a :: xs, b :: ys => by
    simp only [diffGo]
    have := diffGo_len (n + 1) xs ys
    split <;> simp <;> omega
theorem diff_loop (a b : List S60) (hab : a.length = b.length) (hl : b.length ≤ 5864062014805) : ∀ (s t : List S60) (i k : Nat) (acc : List S64), a.drop i = s → b.drop i = t → acc.length + t.length ≤ b.length → t.length < k →
    week_Diff.l0 k acc 0 b (b.length : Int) (i : Int) a = some (acc ++ diffGo i s t, 0) := by
  intro s t
  induction t generalizing s with
  | nil =>
    intro i k acc hs ht hacc hk
    obtain ⟨k, rfl, _⟩ := succ_of hk
    have := drop_nil ht
    simp only [week_Diff.l0]
    rw [if_neg (by omega)]
    cases s <;> simp [diffGo]
  | cons y t ih =>
    intro i k acc hs ht hacc hk
    obtain ⟨k, rfl, hk'⟩ := succ_of hk
    obtain ⟨h1, h2, h3⟩ := drop_cons ht
    match s, hs with
    | [], hs => have := drop_nil hs; omega
    | x :: s, hs =>
      obtain ⟨g1, g2, g3⟩ := drop_cons hs
      simp only [List.length_cons] at hk' hacc
      simp only [week_Diff.l0]
      rw [if_pos (by omega), if_pos (by omega), if_pos (by omega), if_pos (by omega), rd60 h2, rd60 g2, wrap_succ (by omega)]
      by_cases e : x.f0 = y.f0 ∧ x.f1 = y.f1
      · rw [if_neg (by simp [e.1, e.2]), ih s (i + 1) k acc g3 h3 (by omega) (by omega)]
        simp only [diffGo]
        rw [if_pos e]
      · rw [if_pos (by simp; omega), if_pos (by omega), ih s (i + 1) k _ g3 h3 (by simp; omega) (by omega)]
        simp only [diffGo]
        rw [if_neg e]
        simp
theorem diff_eq (a b : List S60) (hl : b.length ≤ 5864062014805) (k : Nat) (hk : b.length < k) : week_Diff.f k a b = some (if a.length = b.length then (diffGo 0 a b, 0) else ([], 1)) := by
  unfold week_Diff.f
  by_cases h : a.length = b.length
  · rw [if_pos (by omega), if_pos h]
    exact diff_loop a b h hl a b 0 k [] rfl rfl (by simp) hk
  · rw [if_neg (by omega), if_neg h]
theorem refDiff_loop (a b : List S60) (hab : a.length = b.length) (hl : b.length ≤ 5864062014805) : ∀ (s t : List S60) (i k : Nat) (acc : List S64), a.drop i = s → b.drop i = t → acc.length + t.length ≤ b.length → t.length < k →
    chalklineref04_Diff.l0 k acc (i : Int) a b = some (acc ++ diffGo i s t, 0) := by
  intro s t
  induction t generalizing s with
  | nil =>
    intro i k acc hs ht hacc hk
    obtain ⟨k, rfl, _⟩ := succ_of hk
    have := drop_nil ht
    simp only [chalklineref04_Diff.l0]
    rw [if_neg (by omega)]
    cases s <;> simp [diffGo]
  | cons y t ih =>
    intro i k acc hs ht hacc hk
    obtain ⟨k, rfl, hk'⟩ := succ_of hk
    obtain ⟨h1, h2, h3⟩ := drop_cons ht
    match s, hs with
    | [], hs => have := drop_nil hs; omega
    | x :: s, hs =>
      obtain ⟨g1, g2, g3⟩ := drop_cons hs
      simp only [List.length_cons] at hk' hacc
      simp only [chalklineref04_Diff.l0]
      rw [if_pos (by omega), if_pos (by omega), if_pos (by omega), rd60 h2, rd60 g2, wrap_succ (by omega)]
      by_cases e : x.f0 = y.f0 ∧ x.f1 = y.f1
      · rw [if_neg (by simp [e.1, e.2]), ih s (i + 1) k acc g3 h3 (by omega) (by omega)]
        simp only [diffGo]
        rw [if_pos e]
      · rw [if_pos (by simp; omega), if_pos (by omega), ih s (i + 1) k _ g3 h3 (by simp; omega) (by omega)]
        simp only [diffGo]
        rw [if_neg e]
        simp
theorem refDiff_eq (a b : List S60) (hl : b.length ≤ 5864062014805) (k : Nat) (hk : b.length < k) : chalklineref04_Diff.f k a b = some (if a.length = b.length then (diffGo 0 a b, 0) else ([], 1)) := by
  unfold chalklineref04_Diff.f
  by_cases h : a.length = b.length
  · rw [if_pos (by omega), if_pos h]
    exact refDiff_loop a b h hl a b 0 k [] rfl rfl (by simp) hk
  · rw [if_neg (by omega), if_neg h]
abbrev RepT := Int × Int × Int × Int × (List (S60)) × (List (S64)) × Int
def lastOf (l : List S52) : S52 := rd_T52 l ((l.length : Int) - 1)
def replyS (l : List S52) (no dst : Int) : RepT :=
  if ¬ chk l = 0 ∨ ¬ (0 ≤ no ∧ no ≤ 1099511627776) ∨ ¬ (0 ≤ dst ∧ dst ≤ 7) then (0, 0, 0, 0, [], [], 1)
  else if no ≥ (l.length : Int) then (0, 0, 0, 0, [], [], 341)
  else if no > 0 ∧ (rd_T52 l (no - 1)).f1.f0.length = (lastOf l).f1.f0.length then (2, dst, no, (lastOf l).f0, [], diffGo 0 (rd_T52 l (no - 1)).f1.f0 (lastOf l).f1.f0, 0)
  else (1, dst, 0, (lastOf l).f0, (lastOf l).f1.f0, [], 0)
theorem chk_or (l : List S52) : chk l = 0 ∨ chk l = 1 := by unfold chk; cases okAll 0 l <;> simp
theorem short_rd {n : Nat} {l : List S52} (h : Short n l) (i : Int) : (rd_T52 l i).f1.f0.length ≤ n := by
  unfold rd_T52
  rw [List.getD_eq_getElem?_getD]
  cases e : l[i.toNat]? with
  | none => simp [z52, z25]
  | some v => exact h v (List.mem_of_getElem? e)
theorem short_mono {n m : Nat} {l : List S52} (h : Short n l) (hnm : n ≤ m) : Short m l := fun v hv => Nat.le_trans (h v hv) hnm
theorem reply_j (l : List S52) (hl : l.length ≤ 1000) (N : Nat) (hN : N ≤ 1000) (hS : Short N l) (no dst : Int) (h0 : 0 ≤ no) (k : Nat) (hk : N + 1 < k) (ht : ¬ no ≥ (l.length : Int)) :
    feed_Reply.j0 k l no dst 0 false 0 0 0 0 = some (if no > 0 ∧ (rd_T52 l (no - 1)).f1.f0.length = (lastOf l).f1.f0.length then (2, dst, no, (lastOf l).f0, [], diffGo 0 (rd_T52 l (no - 1)).f1.f0 (lastOf l).f1.f0, 0)
      else (1, dst, 0, (lastOf l).f0, (lastOf l).f1.f0, [], 0)) := by
  obtain ⟨k, rfl, hk'⟩ := succ_of hk
  have hlast : (lastOf l).f1.f0.length ≤ N := short_rd hS _
  simp only [feed_Reply.j0]
  rw [if_neg (by decide), if_neg ht, wrap_pred (by omega) (by omega), if_pos (by omega), if_pos (by omega)]
  rw [show rd_T52 l ((l.length : Int) - 1) = lastOf l from rfl]
  by_cases a : no > 0
  · rw [if_pos a, wrap_pred (by omega) (by omega), if_pos (by omega), if_pos (by omega), diff_eq _ _ (by omega) k (by omega)]
    simp only [Option.bind_some]
    by_cases b : (rd_T52 l (no - 1)).f1.f0.length = (lastOf l).f1.f0.length
    · simp only [if_pos b, if_pos (And.intro a b), if_true]
    · simp only [if_neg b, if_neg (fun z : no > 0 ∧ (rd_T52 l (no - 1)).f1.f0.length = (lastOf l).f1.f0.length => b z.2)]
      unfold slices_Clone_api_Place_api_Place.f
      rw [if_neg (by decide), if_pos (by omega)]; rfl
  · rw [if_neg a, if_neg (fun z => a z.1)]
    unfold slices_Clone_api_Place_api_Place.f
    rw [if_pos (by omega)]; rfl
theorem reply_eq (l : List S52) (hl : l.length ≤ 1000) (N : Nat) (hN : N ≤ 1000) (hS : Short N l) (no dst : Int) (k : Nat) (hk : l.length + N + 1 < k) : feed_Reply.f k l no dst = some (replyS l no dst) := by
  unfold feed_Reply.f
  rw [feedCheck_eq l (by omega) N (by omega) hS k (by omega), feed_Take.bounds, feed_Take.bounds]
  simp only [Option.bind_some]
  have hbad : feed_Reply.j0 k l no dst 0 true 0 0 0 0 = some (0, 0, 0, 0, [], [], 1) := by
    obtain ⟨k, rfl, _⟩ := succ_of (show 0 < k by omega)
    simp [feed_Reply.j0]
  unfold replyS
  by_cases a : chk l = 0
  · rw [if_pos a]
    by_cases b : 0 ≤ no ∧ no ≤ 1099511627776
    · rw [decide_eq_true b, if_pos rfl]
      by_cases c : 0 ≤ dst ∧ dst ≤ 7
      · rw [decide_eq_true c, if_neg (by simp only [a, b, c]; simp)]
        by_cases d : no ≥ (l.length : Int)
        · rw [if_pos d]
          obtain ⟨k, rfl, _⟩ := succ_of (show 0 < k by omega)
          simp only [feed_Reply.j0, Bool.not_true]
          rw [if_neg (by decide), if_pos d]
        · rw [if_neg d]
          exact reply_j l hl N hN hS no dst b.1 k (by omega) d
      · rw [decide_eq_false c, if_pos (.inr (.inr c))]; exact hbad
    · rw [decide_eq_false b, if_neg (by decide), if_pos (.inr (.inl b))]; exact hbad
  · rw [if_neg a, if_pos (.inl a)]
    rcases chk_or l with e | e
    · exact absurd e a
    · rw [e]; exact hbad
theorem refReply_eq (l : List S52) (hl : l.length ≤ 1000) (N : Nat) (hN : N ≤ 1000) (hS : Short N l) (no dst : Int) (k : Nat) (hk : l.length + N + 133 < k) : chalklineref35_Reply.f k l no dst = some (replyS l no dst) := by
  unfold chalklineref35_Reply.f
  rw [refCheck_eq l (by omega) (short_mono hS (by omega)) k (by omega)]
  simp only [Option.bind_some]
  have hbad : chalklineref35_Reply.j0 k l no dst true = some (0, 0, 0, 0, [], [], 1) := by
    obtain ⟨k, rfl, _⟩ := succ_of (show 0 < k by omega)
    simp [chalklineref35_Reply.j0]
  unfold replyS
  by_cases a : chk l = 0
  · rw [if_pos a]
    by_cases b : 0 ≤ no ∧ no ≤ 1099511627776
    · rw [if_neg (show ¬ no < 0 by omega), if_neg (show ¬ no > 1099511627776 by omega)]
      by_cases c : 0 ≤ dst ∧ dst ≤ 7
      · rw [if_neg (show ¬ dst < 0 by omega), decide_eq_false (show ¬ dst ≥ 8 by omega), if_neg (by simp only [a, b, c]; simp)]
        obtain ⟨k, rfl, _⟩ := succ_of (show 0 < k by omega)
        have hlast : (lastOf l).f1.f0.length ≤ N := short_rd hS _
        simp only [chalklineref35_Reply.j0]
        rw [if_neg (by decide)]
        by_cases d : no ≥ (l.length : Int)
        · rw [if_pos d, if_pos d]
        · rw [if_neg d, if_neg d, wrap_pred (by omega) (by omega), if_pos (by omega), if_pos (by omega)]
          rw [show rd_T52 l ((l.length : Int) - 1) = lastOf l from rfl]
          simp only [Option.bind_some, List.length_nil, Nat.zero_add, List.nil_append]
          rw [if_pos (show (lastOf l).f1.f0.length < 8796093022208 by omega)]
          by_cases f : no > 0
          · rw [if_pos f, wrap_pred (by omega) (by omega), if_pos (by omega), if_pos (by omega), refDiff_eq _ _ (by omega) k (by omega)]
            by_cases g : (rd_T52 l (no - 1)).f1.f0.length = (lastOf l).f1.f0.length
            · rw [if_pos (by omega), if_pos g, if_pos ⟨f, g⟩]; rfl
            · rw [if_neg (by omega), if_neg (fun z => g z.2)]
          · rw [if_neg f, if_neg (fun z => f z.1)]
      · by_cases e : dst < 0
        · rw [if_pos e, if_pos (.inr (.inr c))]; exact hbad
        · rw [if_neg e, decide_eq_true (show dst ≥ 8 by omega), if_pos (.inr (.inr c))]; exact hbad
    · by_cases e : no < 0
      · rw [if_pos e, if_pos (.inr (.inl b))]; exact hbad
      · rw [if_neg e, if_pos (show no > 1099511627776 by omega), if_pos (.inr (.inl b))]; exact hbad
  · rw [if_neg a, if_pos (.inl a)]
    rcases chk_or l with e | e
    · exact absurd e a
    · rw [e]
theorem replyS_len {l : List S52} {N : Nat} (hS : Short N l) (no dst : Int) : (replyS l no dst).2.2.2.2.1.length ≤ N ∧ (replyS l no dst).2.2.2.2.2.1.length ≤ N := by
  unfold replyS
  have h1 : (lastOf l).f1.f0.length ≤ N := short_rd hS _
  have h2 := diffGo_len 0 (rd_T52 l (no - 1)).f1.f0 (lastOf l).f1.f0
  split
  · simp
  · split
    · simp
    · split
      · simp; omega
      · simp; omega
end Go.Proofs.Ytfdhnmijaobbdaa.S
end
section
namespace Go.Proofs.Ytfdhnmijaobbdaa.Pure
open Go.RowKit Go.Proofs.YtfdhnmijaobbdaaW.PrintWords Go.Proofs.YtfdhnmijaobbdaaW.PrintLast Go.Proofs.YtfdhnmijaobbdaaW.PrintMore Go.Proofs.Ytfdhnmijaobbdaa.S
theorem FeedReplies : ∀ (l0 : List (S52)) (x1 : S27) (a2 : Int) (a3 : Int), (l0.length ≤ maxLen ∧ ∀ z_ ∈ l0, wf52 z_) → wf27 x1 → (Lit.int .i64 a2).wf = true → (Lit.int .i64 a3).wf = true → l0.length * 48 ≤ 140737488351232 → ∃ k, chalklinelaw35_FeedReplies.f k l0 x1.f0 x1.f1.f0 a2 a3 = some true := by
  intro l0 x1 a2 a3 hl _ _ _ hz
  refine ⟨1000, ?_⟩
  unfold chalklinelaw35_FeedReplies.f
  simp only [chalklinelaw35_live.f, Option.bind_some, if_true]
  obtain ⟨b, hb, hb2⟩ := few_eq l0 (by omega) 1000 (by omega)
  rw [hb]
  simp only [Option.bind_some]
  cases b with
  | false => rfl
  | true =>
    obtain ⟨hlen, hS⟩ := hb2 rfl
    rw [if_pos rfl]
    by_cases h : (x1.f1.f0.length : Int) > 70
    · rw [decide_eq_true h]; rfl
    · rw [decide_eq_false h, show (1000 : Nat) = 999 + 1 from rfl]
      simp only [chalklinelaw35_FeedReplies.j0]
      obtain ⟨g1, g2⟩ := replyS_len hS a2 a3
      rw [if_neg (by decide), reply_eq l0 (by omega) 70 (by omega) hS a2 a3 999 (by omega), refReply_eq l0 (by omega) 70 (by omega) hS a2 a3 999 (by omega)]
      simp only [Option.bind_some]
      rw [msgs_eq _ _ _ _ _ _ (by omega) (by omega) 999 (by omega) (by omega)]
      simp only [Option.bind_some, if_true]
      rw [feedCheck_eq l0 (by omega) 70 (by omega) hS 999 (by omega), refCheck_eq l0 (by omega) (short_mono hS (by omega)) 999 (by omega)]
      simp only [Option.bind_some, if_true, feed_Wish.f, chalklineref35_Wish.f]
      rw [msgs_eq _ _ _ _ _ _ (by simp) (by simp) 999 (by simp) (by simp)]
      rfl
end Go.Proofs.Ytfdhnmijaobbdaa.Pure
end
section
namespace Go.Proofs.Ytfdhnmijaobbdaa.feedReplies
open Go.ChangeShapes Go.WideShapes Go.ChangeAt Go.RowKit Go.Proofs.YtfdhnmijaobbdaaW.PrintWords Go.Proofs.YtfdhnmijaobbdaaW.PrintLast Go.Proofs.YtfdhnmijaobbdaaW.PrintMore Go.Proofs.Ytfdhnmijaobbdaa.S
open Go.ChangeMaps (open_string shut_string)
set_option linter.unusedVariables false
theorem own : ownKnob Try.prog.godebug = none := by kernel_rfl
theorem laidOut : laidOutB Try.prog = true := by kernel_rfl
set_option maxRecDepth 100000 in
theorem lifted (os : Os) (started : os.Started) (H : Type) (enc : TypeId × Value → H) :
    ReturnsInHanded {} Try.checked os 3 .any (Rows.feedRepliesSpec.pre6 enc Try.prog Try.f3 Rows.feedRepliesRow.domain false) (Rows.feedRepliesSpec.post enc Try.prog Try.f3 false true false false) := by
  refine returnsInHanded_of_change_sized (C := Try.checked) own started (by kernel_rfl) Try.func3
    (ChangeSpec.witness6 (enc := enc) (C := Try.checked) false ⟨#[], #[.slice none 0 0, .agg #[.int .i64 0, .slice none 0 0], .int .i64 0, .int .i64 0], []⟩ 8 (by kernel_rfl) (by kernel_rfl) (by kernel_rfl) (by kernel_rfl)) ?_
  intro W base args ds gs before hval0 hW hcnd hsz0 _
  have hsz : (DataW.weightsEach Try.prog (Try.f3.params.toList ++ Rows.feedRepliesSpec.plain.varTypes Try.prog) (ds ++ gs)).all (· ≤ reachBytes) = true := hsz0
  have hval : ∀ (j : Nat) t v, Try.f3.params[j]? = some t → args[j]? = some v → Value.okWide Try.prog W .any base t v := hval0
  have hW' := hW
  obtain ⟨p, q, hA0, hV, rfl, hfz, hnd⟩ := hW
  have hA : DataW.TrodAll enc Try.prog W 0 (fun _ => true) true Try.f3.params.toList args.toList ds p := hA0
  rw [Try.params3] at hA hval hsz
  obtain ⟨v0, vs0, d0, ds0, p0, q0, hargs, rfl, rfl, h0, r0⟩ := trodAll_cons hA
  obtain ⟨v1, vs1, d1, ds1, p1, q1, rfl, rfl, rfl, h1, r1⟩ := trodAll_cons r0
  obtain ⟨v2, vs2, d2, ds2, p2, q2, rfl, rfl, rfl, h2, r2⟩ := trodAll_cons r1
  obtain ⟨v3, vs3, d3, ds3, p3, q3, rfl, rfl, rfl, h3, r3⟩ := trodAll_cons r2
  obtain ⟨rfl, rfl, rfl⟩ := trodAll_nil r3
  obtain rfl : args = #[v0, v1, v2, v3] := by cases args; simp_all
  obtain ⟨rfl, rfl⟩ := trodVars_none hV
  have k0 := h0
  have lt0 : ∀ x ∈ p0, x.block < W.heap.size := by obtain ⟨m, hm⟩ := k0; exact DataW.trod_lt m _ _ _ hm
  obtain ⟨A0, c0, l0, rfl, hc0, hr0, w0⟩ := arg_slice Try.underlying22 (opens_slice Try.underlying22 (by kernel_rfl) opens52) (hval 0 22 v0 rfl rfl) h0
  have y0 : l0.length * 48 ≤ 140737488351232 := sized_any hsz (j := 0) (t := 22) rfl rfl Try.underlying22 (by kernel_rfl) k0
  have k1 := h1
  have lt1 : ∀ x ∈ p1, x.block < W.heap.size := by obtain ⟨m, hm⟩ := k1; exact DataW.trod_lt m _ _ _ hm
  obtain ⟨x1, cs1, rfl, hK1, w1⟩ := arg_struct Try.underlying27 opens27 (hval 1 27 v1 rfl rfl) h1
  obtain ⟨A1_1, c1_1, rfl, hc1_1, hr1_1⟩ := k27_open hK1
  obtain ⟨a2, rfl, rfl, rfl, w2⟩ := open_int Try.underlying3 (hval 2 3 v2 rfl rfl) h2
  obtain ⟨a3, rfl, rfl, rfl, w3⟩ := open_int Try.underlying3 (hval 3 3 v3 rfl rfl) h3
  clear hA0 hval0 hsz0 hsz
  obtain ⟨k, hp⟩ := Pure.FeedReplies l0 x1 a2 a3 w0 w1 w2 w3 y0
  refine (chalklinelaw35_FeedReplies.calls k _ _ l0 x1.f0 _ _ x1.f1.f0 a2 a3 true W hr0 hc0 hr1_1 hc1_1 hp).mono fun e W' ⟨he, bel⟩ => ?_
  subst he
  exact ⟨_, rfl, _, _, _, [], _, [], hW', trodAll_mk1 (shut_bool Try.underlying4 _), (trodAll_cons_mk (Below.trod laidOut (by kernel_rfl) (of_decide_eq_true (by kernel_rfl)) k0 bel lt0) (trodAll_cons_mk (Below.trod laidOut (by kernel_rfl) (of_decide_eq_true (by kernel_rfl)) k1 bel lt1) (trodAll_cons_mk (shut_int Try.underlying3 w2) (trodAll_cons_mk (shut_int Try.underlying3 w3) trodAll_mk0)))), rfl, bel.frame _, fun h => by cases h⟩
theorem over : Rows.feedRepliesRow.holds Try.pinned (OpenSpec.ofChange Rows.feedRepliesSpec) :=
  OpenClaim.holds_of_wide 3 Try.f3 rfl rfl rfl rfl rfl rfl rfl ⟨rfl, rfl, rfl, rfl, rfl⟩ rfl rfl rfl rfl rfl (by kernel_rfl) Try.func3 (by kernel_rfl)
    (of_decide_eq_true (by kernel_rfl)) (by unfold Func.isWrapper; first | (rw [if_pos (by decide +kernel)]; kernel_rfl) | (rw [if_neg (by decide +kernel)]; exact ⟨rfl, rfl⟩))
    (fun os started H enc _ => lifted os started H enc)
theorem proved : Rows.FeedRepliesSaid := over
#print axioms proved
end Go.Proofs.Ytfdhnmijaobbdaa.feedReplies
namespace Go.Proofs.Ytfdhnmijaobbdaa
theorem feedReplies_holds : Rows.FeedRepliesSaid := feedReplies.proved
end Go.Proofs.Ytfdhnmijaobbdaa
end
