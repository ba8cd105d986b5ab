/- feedMonotone_holds: part 5 of the proof: the plain functions, the walks of the program's functions and the laws about them. Conditions: those that each theorem states. -/
import Derived.Deep.Slices
import Derived.ChangeSame
import Derived.WideShapes
import Derived.OpenShut
import Derived.SizedLaws
import Derived.ProofKit
import Derived.WalkKit
import Derived.ShutString
import Derived.ChangeOld
import Derived.Below
import Derived.Test.YtfdhnmijaobbdaaMonotone1
import Derived.Test.YtfdhnmijaobbdaaMonotone2
import Derived.Test.YtfdhnmijaobbdaaMonotone3
import Derived.Test.YtfdhnmijaobbdaaMonotone4
section
namespace Go.Proofs.Ytfdhnmijaobbdaa.S
open Go.RowKit Go.Proofs.YtfdhnmijaobbdaaW.PrintWords Go.Proofs.YtfdhnmijaobbdaaW.PrintLast Go.Proofs.YtfdhnmijaobbdaaW.PrintMore
def MInv (w : World) (gc : Nat) (n : Int) (A : Option Addr) (cc : Nat) (W : List S60) (v6 : Value) (ms : List S32) (w' : World) : Prop :=
  Below w.heap.size w w' ∧ w'.heap[gc]? = some (.cells #[.int .i64 n, .slice A W.length cc] 27 (0, 0)) ∧ Kd.R k60 60 w' w.heap.size (fun _ => True) (.slice A W.length cc) W ∧ Kd.R k32 32 w' w.heap.size (fun _ => True) v6 ms
section
variable {w w0 w1 : World} {gc : Nat} {n n' : Int} {A A' : Option Addr} {cc cc' : Nat} {W W' : List S60} {v6 v1 : Value} {ms : List S32} {m : S32}
theorem MInv.step (h : MInv w gc n A cc W v6 ms w0) (hb : Below w0.heap.size w0 w1) : MInv w gc n A cc W v6 ms w1 :=
  ⟨below_step h.1 hb, blk_below h.2.1 hb, Kd.R_below h.2.2.1 hb, Kd.R_below h.2.2.2 hb⟩
theorem MInv.append (h : MInv w gc n A cc W v6 ms w0) (hb : Below w.heap.size w w1) (hg : w0.grownBy w1 v6.ownBlock) (ho : Kd.R k32 32 w1 w.heap.size (fun _ => True) v1 (ms ++ [m])) : MInv w gc n A cc W v1 (ms ++ [m]) w1 :=
  ⟨hb, blk_grown h.2.1 hg (Kd.R_ne h.2.2.2 h.2.1 (by decide)), Kd.R_over' h.2.2.1 (Kd.R_typed h.2.2.2) (by decide) hg, ho⟩
theorem MInv.store (h : MInv w gc n A cc W v6 ms w0) (hgc : w.heap.size ≤ gc) (hx : Kd.R k60 60 w0 w.heap.size (fun _ => True) (.slice A' W'.length cc') W') : MInv w gc n' A' cc' W' v6 ms ((w0.setCell ⟨gc, 0, none⟩ (.int .i64 n')).setCell ⟨gc, 1, none⟩ (.slice A' W'.length cc')) := by
  have b1 := blk_put h.2.1 0 (.int .i64 n') rfl
  exact ⟨below_set (below_set h.1 hgc) hgc, blk_put b1 1 (.slice A' W'.length cc') rfl, Kd.R_set (Kd.R_set hx h.2.1 (by decide) 0 _) b1 (by decide) 1 _, Kd.R_set (Kd.R_set h.2.2.2 h.2.1 (by decide) 0 _) b1 (by decide) 1 _⟩
theorem MInv.reads (h : MInv w gc n A cc W v6 ms w0) : W.length ≤ cc ∧ Kd.C k60 w0 A W.length W := ⟨(Kd.R_reads' h.2.2.1).2.1, (Kd.R_reads' h.2.2.1).2.2⟩
theorem MInv.sent (h : MInv w gc n A cc W v6 ms w0) : ∃ A6 c6, v6 = .slice A6 ms.length c6 ∧ ms.length ≤ c6 ∧ Kd.C k32 w0 A6 ms.length ms := Kd.R_reads h.2.2.2
theorem MInv.elem (h : MInv w gc n A cc W v6 ms w0) {m0 m1 m2 m3 : Int} {l4 : List S60} {l5 : List S64} {v4 v5 : Value} (h4 : Kd.R k60 60 w0 w.heap.size (fun _ => True) v4 l4) (h5 : Kd.R k64 64 w0 w.heap.size (fun _ => True) v5 l5) :
    k32.M w0 w.heap.size (fun k => some k ≠ v6.ownBlock) ⟨m0, m1, m2, m3, ⟨l4⟩, l5⟩ [.int .i64 m0, .int .i64 m1, .int .i64 m2, .int .i64 m3, v4, v5] :=
  k32_mkM _ _ _ ⟨m0, m1, m2, m3, ⟨l4⟩, l5⟩ (Kd.R_mono (Kd.R_apart' h4 (Kd.R_typed h.2.2.2) (by decide)) (fun _ hk => hk.2)) (Kd.R_mono (Kd.R_apart' h5 (Kd.R_typed h.2.2.2) (by decide)) (fun _ hk => hk.2))
end
theorem cell_step {w w1 : World} {p : Addr} {v : Value} (h : w.cell? p = some v) (hb : Below w.heap.size w w1) : w1.cell? p = some v := (hb.cell (World.block_lt_of_cell? w _ h)).trans h
def U8s (l1 : List S48) : Prop := ∀ z ∈ l1, (0 ≤ z.f0 ∧ z.f0 ≤ 255) ∧ (0 ≤ z.f2 ∧ z.f2 ≤ 255) ∧ (0 ≤ z.f3 ∧ z.f3 ≤ 255)
theorem u8_at {l1 : List S48} (h : U8s l1) (j : Int) : (0 ≤ (rd_T48 l1 j).f0 ∧ (rd_T48 l1 j).f0 ≤ 255) ∧ (0 ≤ (rd_T48 l1 j).f2 ∧ (rd_T48 l1 j).f2 ≤ 255) ∧ (0 ≤ (rd_T48 l1 j).f3 ∧ (rd_T48 l1 j).f3 ≤ 255) := by
  unfold rd_T48
  rw [List.getD_eq_getElem?_getD]
  cases e : l1[j.toNat]? with
  | none => simp [z48]
  | some z => exact h z (List.mem_of_getElem? e)
theorem mono_max {b x y : Int} {L : Nat} (hb : 0 ≤ b ∧ b ≤ 255) (hx : 0 ≤ x ∧ x ≤ L) (hL : L ≤ 20) (h : (y = Int.tmod (wrap64 b) (wrap64 ((L : Int) + 1)) ∧ x < Int.tmod (wrap64 b) (wrap64 ((L : Int) + 1))) ∨ (y = x ∧ Int.tmod (wrap64 b) (wrap64 ((L : Int) + 1)) ≤ x)) : x ≤ y ∧ y ≤ L := by
  have e1 : wrap64 b = b := by unfold wrap64; omega
  have e2 : wrap64 ((L : Int) + 1) = (L : Int) + 1 := by unfold wrap64; omega
  rw [e1, e2, Int.tmod_eq_emod_of_nonneg hb.1] at h
  have n2 := Int.emod_lt_of_pos b (show 0 < (L : Int) + 1 by omega)
  omega
theorem mono_idx {b : Int} {L : Nat} (hb : 0 ≤ b ∧ b ≤ 255) (h0 : 0 < L) (hL : L ≤ 31) : 0 ≤ Int.tmod (wrap64 b) (wrap64 (L : Int)) ∧ Int.tmod (wrap64 b) (wrap64 (L : Int)) < L := by
  have e1 : wrap64 b = b := by unfold wrap64; omega
  have e2 : wrap64 (L : Int) = (L : Int) := by unfold wrap64; omega
  rw [e1, e2, Int.tmod_eq_emod_of_nonneg hb.1]
  exact ⟨Int.emod_nonneg b (by omega), Int.emod_lt_of_pos b (by omega)⟩
theorem okm_at {l : List S52} {t : Int} {ms : List S32} (h : ∀ m ∈ ms, Okm l t m) {J : Int} (h0 : 0 ≤ J) (h1 : J < ms.length) : Okm l t (rd_T32 ms J) := by
  have hj : J.toNat < ms.length := by omega
  unfold rd_T32
  rw [List.getD_eq_getElem?_getD, List.getElem?_eq_getElem hj]
  exact h _ (List.getElem_mem hj)
theorem Okm.moves_len {l : List S52} (hS : Short 70 l) {t : Int} {m : S32} (h : Okm l t m) : m.f5.length ≤ 70 := by
  rcases h.2.2 with ⟨_, _, e⟩ | ⟨_, _, _, e, e5⟩
  · rw [e]; simp
  · have := diffGo_len 0 (mW l m.f2) (mW l m.f3)
    have := mW_len hS m.f3
    rw [e5]; omega
theorem Okc.num {l : List S52} {t n : Int} {W : List S60} (h : Okc l t n W) : 0 ≤ n ∧ (n = 0 ∨ n ≤ t) := by
  rcases h with ⟨a, _⟩ | ⟨a, b, _⟩ <;> omega
end Go.Proofs.Ytfdhnmijaobbdaa.S
end
section
namespace Go.Proofs.Ytfdhnmijaobbdaa.S
open Go.RowKit Go.Proofs.YtfdhnmijaobbdaaW.PrintWords Go.Proofs.YtfdhnmijaobbdaaW.PrintLast Go.Proofs.YtfdhnmijaobbdaaW.PrintMore
attribute [local go_sem] max2_int min2_int max_two min_two
set_option linter.unusedVariables false
set_option linter.unusedSimpArgs false
set_option maxHeartbeats 16000000 in
set_option maxRecDepth 100000 in
theorem mono_few (A0 A1 : Option Addr) (c0 c1 : Nat) (l0 : List S52) (l1 : List S48) (w : World) (hr0 : Kd.C k52 w A0 l0.length l0) (hc0 : l0.length ≤ c0) (hr1 : Kd.C k48 w A1 l1.length l1) (hc1 : l1.length ≤ c1) (PF : Aside0 (chalklineref35_Few.f 1000 l0 = some false)) :
    Calls Try.prog 5 #[.slice A0 l0.length c0, .slice A1 l1.length c1] w fun e w' => e = .returned (.bool true) ∧ Below w.heap.size w w' := by
  have HR0 := Aside0.mk hr0
  have HC0 := Aside0.mk hc0
  have HR1 := Aside0.mk hr1
  have HC1 := Aside0.mk hc1
  clear hr0 hc0 hr1 hc1
  have PL := Aside0.mk (show chalklinelaw35_live.f = some true from rfl)
  have S := Aside0.mk (Below.refl w.heap.size w)
  go_enter Try.func5, Try.ntmps5
  go_wp2_with (first | ((with_reducible refine gate_dst (N := 14) rfl ?_); refine goesL_ (some 14) rfl rfl Try.func11 (by kernel_rfl) rfl #[] rfl (by (try simp only [List.map_toArray, List.map_cons, List.map_nil]); first | done | rfl) ?_; refine (chalklinelaw35_live.calls true _ PL.out).mono ?_; rintro e w1 ⟨rfl, hb⟩; refine ⟨_, rfl, ?_⟩; replace S := Aside0.mk (stab_step (P := (fun x_ => Below w.heap.size w x_)) (w := w) S.out (by repeat (first | exact Below.refl _ _ | apply pw_below_drewN | apply below_drew1 | apply below_alloc)) hb (by repeat' (with_reducible first | exact stab_blk _ _ | exact stab_C _ _ _ _ | exact stab_base _ | exact stab_R _ _ _ _ _ _ | refine stab_and ?_ ?_))); clear hb) | ((with_reducible refine gate_callee (f := 12) rfl ?_); refine goesL_ (some 17) rfl rfl Try.func12 (by kernel_rfl) rfl #[.slice A0 l0.length c0] rfl (by (try simp only [List.map_toArray, List.map_cons, List.map_nil]); first | done | rfl) ?_; refine (chalklineref35_Few.calls 1000 _ _ l0 false _ ?side1 ?side2 PF.out).mono ?_; (case side1 => exact Kd.C_below HR0.out (stab_now (P := (fun x_ => Below w.heap.size w x_)) (w := w1) S.out (by repeat (first | exact Below.refl _ _ | apply pw_below_drewN | apply below_drew1 | apply below_alloc)) (stab_base _))); (case side2 => exact HC0.out); rintro e w' ⟨rfl, ⟨nd, rfl⟩⟩; refine ⟨_, rfl, ?_⟩))
  go_ret
  exact ⟨rfl, stab_now (P := (fun x_ => Below w.heap.size w x_)) (w := w1) S.out (by repeat (first | exact Below.refl _ _ | apply pw_below_drewN | apply below_drew1 | apply below_alloc)) (stab_base _)⟩
set_option maxHeartbeats 16000000 in
set_option maxRecDepth 100000 in
theorem mono_many (A0 A1 : Option Addr) (c0 c1 : Nat) (l0 : List S52) (l1 : List S48) (w : World) (hr0 : Kd.C k52 w A0 l0.length l0) (hc0 : l0.length ≤ c0) (hr1 : Kd.C k48 w A1 l1.length l1) (hc1 : l1.length ≤ c1) (PF : Aside0 (chalklineref35_Few.f 1000 l0 = some true)) (g1 : decide ((30 : Int) < (l1.length : Int)) = true) (g2 : decide (30 < l1.length) = true) :
    Calls Try.prog 5 #[.slice A0 l0.length c0, .slice A1 l1.length c1] w fun e w' => e = .returned (.bool true) ∧ Below w.heap.size w w' := by
  have HR0 := Aside0.mk hr0
  have HC0 := Aside0.mk hc0
  have HR1 := Aside0.mk hr1
  have HC1 := Aside0.mk hc1
  clear hr0 hc0 hr1 hc1
  have PL := Aside0.mk (show chalklinelaw35_live.f = some true from rfl)
  have S := Aside0.mk (Below.refl w.heap.size w)
  go_enter Try.func5, Try.ntmps5
  go_wp2_with (first | ((with_reducible refine gate_dst (N := 14) rfl ?_); refine goesL_ (some 14) rfl rfl Try.func11 (by kernel_rfl) rfl #[] rfl (by (try simp only [List.map_toArray, List.map_cons, List.map_nil]); first | done | rfl) ?_; refine (chalklinelaw35_live.calls true _ PL.out).mono ?_; rintro e w1 ⟨rfl, hb⟩; refine ⟨_, rfl, ?_⟩; replace S := Aside0.mk (stab_step (P := (fun x_ => Below w.heap.size w x_)) (w := w) S.out (by repeat (first | exact Below.refl _ _ | apply pw_below_drewN | apply below_drew1 | apply below_alloc)) hb (by repeat' (with_reducible first | exact stab_blk _ _ | exact stab_C _ _ _ _ | exact stab_base _ | exact stab_R _ _ _ _ _ _ | refine stab_and ?_ ?_))); clear hb) | ((with_reducible refine gate_callee (f := 12) rfl ?_); refine goesL_ (some 17) rfl rfl Try.func12 (by kernel_rfl) rfl #[.slice A0 l0.length c0] rfl (by (try simp only [List.map_toArray, List.map_cons, List.map_nil]); first | done | rfl) ?_; refine (chalklineref35_Few.calls 1000 _ _ l0 true _ ?side1 ?side2 PF.out).mono ?_; (case side1 => exact Kd.C_below HR0.out (stab_now (P := (fun x_ => Below w.heap.size w x_)) (w := w1) S.out (by repeat (first | exact Below.refl _ _ | apply pw_below_drewN | apply below_drew1 | apply below_alloc)) (stab_base _))); (case side2 => exact HC0.out); rintro e w' ⟨rfl, ⟨nd, rfl⟩⟩; refine ⟨_, rfl, ?_⟩))
  go_ret
  exact ⟨rfl, stab_now (P := (fun x_ => Below w.heap.size w x_)) (w := w1) S.out (by repeat (first | exact Below.refl _ _ | apply pw_below_drewN | apply below_drew1 | apply below_alloc)) (stab_base _)⟩
set_option maxHeartbeats 16000000 in
set_option maxRecDepth 100000 in
theorem mono_check (A0 A1 : Option Addr) (c0 c1 : Nat) (l0 : List S52) (l1 : List S48) (w : World) (hr0 : Kd.C k52 w A0 l0.length l0) (hc0 : l0.length ≤ c0) (hr1 : Kd.C k48 w A1 l1.length l1) (hc1 : l1.length ≤ c1) (PF : Aside0 (chalklineref35_Few.f 1000 l0 = some true)) (PC : Aside0 (feed_Check.f 1000 l0 = some 1)) (g1 : decide ((30 : Int) < (l1.length : Int)) = false) (g2 : decide (30 < l1.length) = false) :
    Calls Try.prog 5 #[.slice A0 l0.length c0, .slice A1 l1.length c1] w fun e w' => e = .returned (.bool true) ∧ Below w.heap.size w w' := by
  have HR0 := Aside0.mk hr0
  have HC0 := Aside0.mk hc0
  have HR1 := Aside0.mk hr1
  have HC1 := Aside0.mk hc1
  clear hr0 hc0 hr1 hc1
  have PL := Aside0.mk (show chalklinelaw35_live.f = some true from rfl)
  have S := Aside0.mk (Below.refl w.heap.size w)
  go_enter Try.func5, Try.ntmps5
  go_wp2_with (first | ((with_reducible refine gate_dst (N := 14) rfl ?_); refine goesL_ (some 14) rfl rfl Try.func11 (by kernel_rfl) rfl #[] rfl (by (try simp only [List.map_toArray, List.map_cons, List.map_nil]); first | done | rfl) ?_; refine (chalklinelaw35_live.calls true _ PL.out).mono ?_; rintro e w1 ⟨rfl, hb⟩; refine ⟨_, rfl, ?_⟩; replace S := Aside0.mk (stab_step (P := (fun x_ => Below w.heap.size w x_)) (w := w) S.out (by repeat (first | exact Below.refl _ _ | apply pw_below_drewN | apply below_drew1 | apply below_alloc)) hb (by repeat' (with_reducible first | exact stab_blk _ _ | exact stab_C _ _ _ _ | exact stab_base _ | exact stab_R _ _ _ _ _ _ | refine stab_and ?_ ?_))); clear hb) | ((with_reducible refine gate_callee (f := 12) rfl ?_); refine goesL_ (some 17) rfl rfl Try.func12 (by kernel_rfl) rfl #[.slice A0 l0.length c0] rfl (by (try simp only [List.map_toArray, List.map_cons, List.map_nil]); first | done | rfl) ?_; refine (chalklineref35_Few.calls 1000 _ _ l0 true _ ?side1 ?side2 PF.out).mono ?_; (case side1 => exact Kd.C_below HR0.out (stab_now (P := (fun x_ => Below w.heap.size w x_)) (w := w1) S.out (by repeat (first | exact Below.refl _ _ | apply pw_below_drewN | apply below_drew1 | apply below_alloc)) (stab_base _))); (case side2 => exact HC0.out); rintro e w' ⟨rfl, ⟨nd, rfl⟩⟩; refine ⟨_, rfl, ?_⟩) | (go_at_call 16; refine (feed_Check.calls 1000 _ _ l0 1 _ ?side1 ?side2 PC.out).mono ?_; (case side1 => exact Kd.C_below HR0.out (stab_now (P := (fun x_ => Below w.heap.size w x_)) (w := w1) S.out (by repeat (first | exact Below.refl _ _ | apply pw_below_drewN | apply below_drew1 | apply below_alloc)) (stab_base _))); (case side2 => exact HC0.out); rintro e w2 ⟨rfl, hb⟩; replace S := Aside0.mk (stab_step (P := (fun x_ => Below w.heap.size w x_)) (w := w1) S.out (by repeat (first | exact Below.refl _ _ | apply pw_below_drewN | apply below_drew1 | apply below_alloc)) hb (by repeat' (with_reducible first | exact stab_blk _ _ | exact stab_C _ _ _ _ | exact stab_base _ | exact stab_R _ _ _ _ _ _ | refine stab_and ?_ ?_))); clear hb))
  go_ret
  exact ⟨rfl, stab_now (P := (fun x_ => Below w.heap.size w x_)) (w := w2) S.out (by repeat (first | exact Below.refl _ _ | apply pw_below_drewN | apply below_drew1 | apply below_alloc)) (stab_base _)⟩
set_option maxHeartbeats 16000000 in
set_option maxRecDepth 100000 in
theorem mono_main (A0 A1 : Option Addr) (c0 c1 : Nat) (l0 : List S52) (l1 : List S48) (w : World) (hr0 : Kd.C k52 w A0 l0.length l0) (hc0 : l0.length ≤ c0) (hr1 : Kd.C k48 w A1 l1.length l1) (hc1 : l1.length ≤ c1) (PF : Aside0 (chalklineref35_Few.f 1000 l0 = some true)) (PC : Aside0 (feed_Check.f 1000 l0 = some 0)) (g1 : decide ((30 : Int) < (l1.length : Int)) = false) (g2 : decide (30 < l1.length) = false) (HL : Aside0 (l0.length ≤ 20 ∧ l1.length ≤ 30 ∧ Short 70 l0 ∧ chk l0 = 0)) (HU : Aside0 (U8s l1)) :
    Calls Try.prog 5 #[.slice A0 l0.length c0, .slice A1 l1.length c1] w fun e w' => e = .returned (.bool true) ∧ Below w.heap.size w w' := by
  have HR0 := Aside0.mk hr0
  have HC0 := Aside0.mk hc0
  have HR1 := Aside0.mk hr1
  have HC1 := Aside0.mk hc1
  clear hr0 hc0 hr1 hc1
  have PL := Aside0.mk (show chalklinelaw35_live.f = some true from rfl)
  have S := Aside0.mk (Below.refl w.heap.size w)
  go_enter Try.func5, Try.ntmps5
  go_wp2_with (first | ((with_reducible refine gate_dst (N := 14) rfl ?_); refine goesL_ (some 14) rfl rfl Try.func11 (by kernel_rfl) rfl #[] rfl (by (try simp only [List.map_toArray, List.map_cons, List.map_nil]); first | done | rfl) ?_; refine (chalklinelaw35_live.calls true _ PL.out).mono ?_; rintro e w1 ⟨rfl, hb⟩; refine ⟨_, rfl, ?_⟩; replace S := Aside0.mk (stab_step (P := (fun x_ => Below w.heap.size w x_)) (w := w) S.out (by repeat (first | exact Below.refl _ _ | apply pw_below_drewN | apply below_drew1 | apply below_alloc)) hb (by repeat' (with_reducible first | exact stab_blk _ _ | exact stab_C _ _ _ _ | exact stab_base _ | exact stab_R _ _ _ _ _ _ | refine stab_and ?_ ?_))); clear hb) | ((with_reducible refine gate_callee (f := 12) rfl ?_); refine goesL_ (some 17) rfl rfl Try.func12 (by kernel_rfl) rfl #[.slice A0 l0.length c0] rfl (by (try simp only [List.map_toArray, List.map_cons, List.map_nil]); first | done | rfl) ?_; refine (chalklineref35_Few.calls 1000 _ _ l0 true _ ?side1 ?side2 PF.out).mono ?_; (case side1 => exact Kd.C_below HR0.out (stab_now (P := (fun x_ => Below w.heap.size w x_)) (w := w1) S.out (by repeat (first | exact Below.refl _ _ | apply pw_below_drewN | apply below_drew1 | apply below_alloc)) (stab_base _))); (case side2 => exact HC0.out); rintro e w' ⟨rfl, ⟨nd, rfl⟩⟩; refine ⟨_, rfl, ?_⟩) | (go_at_call 16; refine (feed_Check.calls 1000 _ _ l0 0 _ ?side1 ?side2 PC.out).mono ?_; (case side1 => exact Kd.C_below HR0.out (stab_now (P := (fun x_ => Below w.heap.size w x_)) (w := w1) S.out (by repeat (first | exact Below.refl _ _ | apply pw_below_drewN | apply below_drew1 | apply below_alloc)) (stab_base _))); (case side2 => exact HC0.out); rintro e w2 ⟨rfl, hb⟩; replace S := Aside0.mk (stab_step (P := (fun x_ => Below w.heap.size w x_)) (w := w1) S.out (by repeat (first | exact Below.refl _ _ | apply pw_below_drewN | apply below_drew1 | apply below_alloc)) hb (by repeat' (with_reducible first | exact stab_blk _ _ | exact stab_C _ _ _ _ | exact stab_base _ | exact stab_R _ _ _ _ _ _ | refine stab_and ?_ ?_))); clear hb) | ((with_reducible refine gate_dst (N := 5) rfl ?_); refine var_event ?hg (N := 5) ?hd ?hg2 ?hn2 (z := #[.int .i64 0, .slice none 0 0]) (cs := #[.int .i64 0, .slice none 0 0]) (T := 27) ?hr ?hs ?_; (case hg => rfl); (case hd => rfl); (case hg2 => rfl); (case hn2 => rfl); (case hr => first | (go_simp; done) | (go_simp; rfl)); (case hs => first | (go_simp; done) | (go_simp; rfl)); intro gc hg w3 hbox hb; have GE := Aside0.mk ((by rw [hg]; exact below_size (stab_now (P := (fun x_ => Below w.heap.size w x_)) (w := w2) S.out (by repeat (first | exact Below.refl _ _ | apply pw_below_drewN | apply below_drew1 | apply below_alloc)) (stab_base _))) : w.heap.size ≤ gc); clear hg; replace S := Aside0.mk (stab_step (P := (fun x_ => Below w.heap.size w x_)) (w := w2) S.out (by repeat (first | exact Below.refl _ _ | apply pw_below_drewN | apply below_drew1 | apply below_alloc)) hb (by repeat' (with_reducible first | exact stab_blk _ _ | exact stab_C _ _ _ _ | exact stab_base _ | exact stab_R _ _ _ _ _ _ | refine stab_and ?_ ?_))); clear hb; replace S := Aside0.mk (And.intro S.out (show w3.heap[gc]? = some (Obj.cells #[.int .i64 0, .slice none 0 0] 27 (0, 0)) from hbox)); clear hbox) | ((with_reducible refine gate_dst (N := 30) rfl ?_); refine Kd.R_lit k32 (w0 := w) w.heap.size 32 ?hg (N := 30) ?hd (xs := ([] : List (S32))) (inner := []) (ok := fun _ => True) (okp := fun _ => True) ?hr ?hp (fun _ hk => hk) trivial (stab_now (P := (fun x_ => Below w.heap.size w x_)) (w := w3) S.out.1 (by repeat (first | exact Below.refl _ _ | apply pw_below_drewN | apply below_drew1 | apply below_alloc)) (stab_base _)) (below_size (stab_now (P := (fun x_ => Below w.heap.size w x_)) (w := w3) S.out.1 (by repeat (first | exact Below.refl _ _ | apply pw_below_drewN | apply below_drew1 | apply below_alloc)) (stab_base _))) (by simp) ?_; (case hd => rfl); (case hg => rfl); (case hr => first | (go_simp; done) | (go_simp; rfl)); (case hp => exact (Reps.none _ _)); intro v6 w4 ho6 hb hg_ hnew_; have HM := Aside0.mk (show MInv w gc 0 none 0 [] v6 [] w4 from ⟨hb, blk_grown (stab_now (P := (fun x_ => x_.heap[gc]? = some (Obj.cells #[.int .i64 0, .slice none 0 0] 27 (0, 0)))) (w := w3) S.out.2 (by repeat (first | exact Below.refl _ _ | apply pw_below_drewN | apply below_drew1 | apply below_alloc)) (stab_blk _ _)) hg_ (by simp), Kd.R_nil _ _ _ _ _, ho6⟩); clear hg_ hnew_ hb ho6; clear S))
  go_loopg [6, 7, 8] l1.length (fun kq v6 v7 v8 w' => ∃ (x7 x8 n : Int) (A : Option Addr) (cc : Nat) (W : List S60) (ms : List S32), v7 = .int .i64 x7 ∧ v8 = .int .i64 x8 ∧ Aside0 ((0 ≤ x7 ∧ x7 ≤ l0.length) ∧ (0 ≤ x8 ∧ x8 + kq = l1.length) ∧ ms.length ≤ x8 ∧ Okc l0 x7 n W ∧ ∀ m ∈ ms, Okm l0 x7 m) ∧ Aside0 (MInv w gc n A cc W v6 ms w'))
  case atStart => exact ⟨0, 0, 0, none, 0, [], [], rfl, rfl, ⟨⟨by omega, by omega⟩, ⟨by omega, by omega⟩, by simp, Or.inl ⟨rfl, rfl⟩, by simp⟩, HM⟩
  case round =>
    clear HM
    obtain ⟨x7, x8, n, A, cc, W, ms, rfl, rfl, HX, HM⟩ := hrel
    cases gk with
    | zero =>
      have d1 : decide (x8 < (l1.length : Int)) = false := decide_eq_false (by have := HX.out.2.1; omega)
      go_wp2
      go_ret
      exact ⟨rfl, HM.out.1⟩
    | succ k1 =>
      have d1 : decide (x8 < (l1.length : Int)) = true := decide_eq_true (by have := HX.out.2.1; omega)
      have p1 : (0 ≤ x8) = True := eq_true HX.out.2.1.1
      have q1 : (x8 < (l1.length : Int)) = True := eq_true (by have := HX.out.2.1; omega)
      obtain ⟨ad1, rfl, k0, k1', k2, k3, k4⟩ := at_T48 (Kd.C_below HR1.out HM.out.1) x8 HX.out.2.1.1 (by have := HX.out.2.1; omega)
      go_upto_region 11 with (fail)
      go_cut [7] (fun v7 wc => ∃ y7 : Int, v7 = .int .i64 y7 ∧ Aside0 (x7 ≤ y7 ∧ y7 ≤ l0.length) ∧ Aside0 (MInv w gc n A cc W u6 ms wc))
      case first =>
        have d2' : ¬ (wrap64 ((l0.length : Int) + 1)) = 0 := by have := HL.out.1; unfold wrap64; omega
        have d2 : ((wrap64 ((l0.length : Int) + 1)) == 0) = false := beq_eq_false_iff_ne.mpr d2'
        have HD := Aside0.mk d2'
        go_wp2
        all_goals
          go_meet
          case rel => exact ⟨_, rfl, ⟨by have h_ := HU.out; have hx_ := HX.out.1; have hl_ := HL.out.1; exact mono_max (u8_at h_ x8).1 hx_ hl_ (by first | (have g_ := ‹x7 < _›; exact Or.inl ⟨rfl, g_⟩) | (have g_ := ‹_ ≤ x7›; exact Or.inr ⟨rfl, g_⟩))⟩, HM⟩
      case rest =>
        clear k0 k1' k2 k3 k4 HM
        obtain ⟨y7, rfl, HY, HM⟩ := hcut
        obtain ⟨_, e_, k0, k1', k2, k3, k4⟩ := at_T48 (Kd.C_below HR1.out HM.out.1) x8 HX.out.2.1.1 (by have := HX.out.2.1; omega)
        cases e_
        go_upto_if 59 with (fail)
        go_cut [9] (fun v9 wc => ∃ y9 : Int, v9 = .int .i64 y9 ∧ Aside0 (0 ≤ y9 ∧ y9 ≤ 1099511627776) ∧ Aside0 (MInv w gc n A cc W u6 ms wc))
        case first =>
          have hcz0 : wc.cell? ⟨gc, 0, none⟩ = some (.int .i64 n) := (blk_cell HM.out.2.1 0).trans rfl
          have HU' := Aside0.mk (u8_at HU.out x8)
          have HO := Aside0.mk (Okc.num HX.out.2.2.2.1)
          go_wp2
          all_goals
            go_meet
            case rel => exact ⟨_, rfl, ⟨by have := HO.out; have := HX.out; have := HL.out; have := HU'.out; first | omega | (unfold wrap64; omega)⟩, HM⟩
        case rest =>
          clear k0 k1' k2 k3 k4 HM
          obtain ⟨y9, rfl, HN, HM⟩ := hcut
          have hy : y7.toNat ≤ l0.length := by have := HY.out; omega
          have hy0 : 0 ≤ y7 := by have := HY.out; have := HX.out; omega
          obtain ⟨m0, m1, m2, m3, l4, l5, er, hrep⟩ : ∃ m0 m1 m2 m3 l4 l5 er, replyS (l0.take y7.toNat) y9 3 = (m0, m1, m2, m3, l4, l5, er) := ⟨_, _, _, _, _, _, _, rfl⟩
          have PR := Aside0.mk (show feed_Reply.f 1000 (l0.take y7.toNat) y9 3 = some (m0, m1, m2, m3, l4, l5, er) by rw [reply_eq _ (by rw [List.length_take]; have := HL.out; omega) 70 (by omega) (short_take HL.out.2.2.1 _) _ _ 1000 (by rw [List.length_take]; have := HL.out; omega), hrep])
          have HT := Aside0.mk (replyS_ok HL.out.2.2.2 hy HN.out.1 HN.out.2 hrep)
          clear hrep
          have HRT := Aside0.mk (Kd.C_take (m := y7.toNat) (Kd.C_below HR0.out HM.out.1) hy)
          have HCT := Aside0.mk (show (l0.take y7.toNat).length ≤ c0 by rw [List.length_take]; have := HC0.out; omega)
          obtain ⟨i0, hi0, _, _, _⟩ := info_parts info52
          have hcs : ∀ W : World, (Instr.slice 22 (.slice A0 l0.length c0) none (some (.int .i64 y7)) none).run Try.prog W = .ok (.slice A0 (l0.take y7.toNat).length c0) W := by
            intro W_
            rw [cut_to 22 52 .i64 Try.underlying22 hi0 A0 l0.length c0 y7 hy0 (by omega) HC0.out W_, List.length_take, Nat.min_eq_left hy]
          clear hi0 hy hy0
          generalize l0.take y7.toNat = lt at PR HRT HCT hcs
          go_upto_if 71 with (first | ((with_reducible refine gate_dst (N := 67) rfl ?_); refine goesL_ (some 67) rfl rfl Try.func13 (by kernel_rfl) rfl #[.slice A0 lt.length c0, .int .i64 y9, .int .i64 3] rfl (by (try simp only [List.map_toArray, List.map_cons, List.map_nil]); first | done | rfl) ?_; refine (feed_Reply.calls 1000 _ _ lt y9 3 m0 m1 m2 m3 l4 l5 er _ ?side1 ?side2 PR.out).mono ?_; (case side1 => exact HRT.out); (case side2 => exact HCT.out); rintro e w5 ⟨v4, v5, rfl, ho0, ho1, hb⟩; refine ⟨_, rfl, ?_⟩; have H4 := Aside0.mk (Kd.R_lower ho0 (below_size HM.out.1)); have H5 := Aside0.mk (Kd.R_lower ho1 (below_size HM.out.1)); replace HM := Aside0.mk (HM.out.step hb); clear ho0 ho1 hb; obtain ⟨A4, c4, e4⟩ := Kd.R_slice H4.out; subst e4; obtain ⟨A5, c5, e5⟩ := Kd.R_slice H5.out; subst e5) | ((with_reducible refine gate_dst (N := 10) rfl ?_); refine var_event ?hg (N := 10) ?hd ?hg2 ?hn2 (z := #[.int .i64 0, .int .i64 0, .int .i64 0, .int .i64 0, .slice none 0 0, .slice none 0 0]) (cs := #[.int .i64 m0, .int .i64 m1, .int .i64 m2, .int .i64 m3, .slice A4 l4.length c4, .slice A5 l5.length c5]) (T := 32) ?hr ?hs ?_; (case hg => rfl); (case hd => rfl); (case hg2 => rfl); (case hn2 => rfl); (case hr => first | (go_simp; done) | (go_simp; rfl)); (case hs => first | (go_simp; done) | (go_simp; rfl)); intro gm hg w6 hbox hb; clear hg; replace HM := Aside0.mk (HM.out.step hb); replace H4 := Aside0.mk (Kd.R_below H4.out hb); replace H5 := Aside0.mk (Kd.R_below H5.out hb); have BM := Aside0.mk hbox; clear hbox hb))
          go_cut [6] (fun v6 wc => ∃ ms' : List S32, Aside0 (ms'.length ≤ x8 + 1 ∧ ∀ m ∈ ms', Okm l0 y7 m) ∧ Aside0 (MInv w gc n A cc W v6 ms' wc))
          case first =>
            clear hcs
            rcases HT.out with ⟨e0, hok⟩ | e0
            · subst e0
              have HOK := Aside0.mk hok
              clear hok HT
              have hm0 : w6.cell? ⟨gm, 0, none⟩ = some (.int .i64 m0) := (blk_cell BM.out 0).trans rfl
              have hm1 : w6.cell? ⟨gm, 1, none⟩ = some (.int .i64 m1) := (blk_cell BM.out 1).trans rfl
              have hm2 : w6.cell? ⟨gm, 2, none⟩ = some (.int .i64 m2) := (blk_cell BM.out 2).trans rfl
              have hm3 : w6.cell? ⟨gm, 3, none⟩ = some (.int .i64 m3) := (blk_cell BM.out 3).trans rfl
              have hm4 : w6.cell? ⟨gm, 4, none⟩ = some (.slice A4 l4.length c4) := (blk_cell BM.out 4).trans rfl
              have hm5 : w6.cell? ⟨gm, 5, none⟩ = some (.slice A5 l5.length c5) := (blk_cell BM.out 5).trans rfl
              have HLen := Aside0.mk (show (ms.length + 1) * 80 ≤ 140737488355328 by have := HX.out; have := HL.out; omega)
              go_wp2_with (first | ((with_reducible refine gate_builtin (b := .append) (xs := #[.tmp 72, .tmp 74]) rfl ?_); at_builtin; refine Kd.R_append k32 (w0 := w) w.heap.size rfl (.tmp 72) (.tmp 74) 46 32 (.agg #[.int .i64 0, .int .i64 0, .int .i64 0, .int .i64 0, .slice none 0 0, .slice none 0 0]) 80 rfl Try.underlying46 info32 rfl (by decide) (by omega) u6 ms ⟨m0, m1, m2, m3, ⟨l4⟩, l5⟩ [.int .i64 m0, .int .i64 m1, .int .i64 m2, .int .i64 m3, .slice A4 l4.length c4, .slice A5 l5.length c5] (fun _ => True) (fun k => some k ≠ u6.ownBlock) rfl (by first | (go_simp; done) | (go_simp; rfl)) ?aP (fun _ hk => ⟨trivial, hk⟩) (fun _ _ => trivial) ?aO ?aB ?aS ?aL ?_; (case aP => exact MInv.elem HM.out H4.out H5.out); (case aO => exact HM.out.2.2.2); (case aB => exact HM.out.1); (case aS => exact below_size HM.out.1); (case aL => exact HLen.out); intro v1 w7 ho hb hg hat; replace HM := Aside0.mk (HM.out.append hb hg ho); clear hb hg ho hat))
              go_meet
              case rel => exact ⟨ms ++ [⟨m0, m1, m2, m3, ⟨l4⟩, l5⟩], ⟨by rw [List.length_append, List.length_singleton]; have := HX.out; omega, fun m hm => by
                  rcases List.mem_append.mp hm with h | h
                  · exact (HX.out.2.2.2.2 m h).mono HY.out.1
                  · obtain rfl := List.mem_singleton.mp h
                    exact HOK.out.mono (by have := HY.out; have := HX.out; omega)⟩, HM⟩
            · subst e0
              clear HT
              go_wp2
              go_meet
              case rel => exact ⟨ms, ⟨by have := HX.out; omega, fun m hm => (HX.out.2.2.2.2 m hm).mono HY.out.1⟩, HM⟩
          case rest =>
            clear hcs HM HT PR HRT HCT H4 H5 BM
            obtain ⟨ms', HX', HM⟩ := hcut
            obtain ⟨_, e_, k0, k1', k2, k3, k4⟩ := at_T48 (Kd.C_below HR1.out HM.out.1) x8 HX.out.2.1.1 (by have := HX.out.2.1; omega)
            cases e_
            obtain ⟨A6, c6, e6, l6, C6⟩ := HM.out.sent
            subst e6
            have HC6 := Aside0.mk C6
            have HW := Aside0.mk (show wrap64 (x8 + 1) = x8 + 1 by have := HX.out; have := HL.out; unfold wrap64; omega)
            clear l6 C6
            by_cases hgo : (rd_T48 l1 x8).f4 = true ∧ ms' ≠ []
            · obtain ⟨b4, hne⟩ := hgo
              rw [b4] at k4
              have hn1 : ¬ (ms'.length : Int) = 0 := by have := List.length_pos_iff.mpr hne; omega
              have hn2 : ((ms'.length : Int) == 0) = false := beq_eq_false_iff_ne.mpr hn1
              have hn4 : ¬ ms'.length = 0 := by omega
              have HJ := Aside0.mk (mono_idx (L := ms'.length) (u8_at HU.out x8).2.2 (by omega) (by have := HX'.out; have := HX.out; have := HL.out; omega))
              clear b4
              go_upto_region 21 with (fail)
              have HF := Aside0.mk (show wrap64 (rd_T48 l1 x8).f3 = (rd_T48 l1 x8).f3 by have := u8_at HU.out x8; unfold wrap64; omega)
              have HG := Aside0.mk (show wrap64 (ms'.length : Int) = ms'.length by have := HX'.out; have := HX.out; have := HL.out; unfold wrap64; omega)
              rw [HF.out, HG.out] at HJ
              obtain ⟨J, hJ⟩ : ∃ J, Int.tmod (rd_T48 l1 x8).f3 (ms'.length : Int) = J := ⟨_, rfl⟩
              rw [hJ] at HJ
              have HK := Aside0.mk (show wrap64 J = J by have := HJ.out; have := HX'.out; have := HX.out; have := HL.out; unfold wrap64; omega)
              obtain ⟨ad6, A4, c4, A5, c5, rfl, s0, s1, s2, s3, s4, s5, l4_, C4, l5_, C5⟩ := at_T32 HC6.out J HJ.out.1 HJ.out.2
              obtain ⟨xn, XW, et, htk⟩ : ∃ xn XW et, takeS n W (rd_T32 ms' J).f0 (rd_T32 ms' J).f2 (rd_T32 ms' J).f3 (rd_T32 ms' J).f4.f0 (rd_T32 ms' J).f5 = (xn, XW, et) := ⟨_, _, _, rfl⟩
              have HO' := Aside0.mk (show Okm l0 (y7.toNat : Int) (rd_T32 ms' J) from (okm_at HX'.out.2 HJ.out.1 HJ.out.2).mono (by have := HY.out; have := HX.out; omega))
              have HC' := Aside0.mk (show Okc l0 (y7.toNat : Int) n W from HX.out.2.2.2.1.mono (by have := HY.out; have := HX.out; omega))
              have PT := Aside0.mk (show feed_Take.f 1000 n W (rd_T32 ms' J).f0 (rd_T32 ms' J).f1 (rd_T32 ms' J).f2 (rd_T32 ms' J).f3 (rd_T32 ms' J).f4.f0 (rd_T32 ms' J).f5 = some (xn, XW, et) by rw [take_eq _ _ _ _ _ _ _ _ _ (by have := HC'.out.len HL.out.2.2.1; omega) (by have := HO'.out.len HL.out.2.2.1; omega) (by have := HO'.out.moves_len HL.out.2.2.1; omega) (by have := HO'.out.moves_len HL.out.2.2.1; omega), htk])
              have HTK := Aside0.mk (takeS_ok (by have := HY.out; have := HL.out; omega) HC'.out HO'.out htk)
              clear htk
              go_cut [12, 13] (fun v12 v13 wc => ∃ gx AX cX, v12 = .pointer (some ⟨gx, 0, none⟩) ∧ v13 = .int .i64 et ∧ Aside0 (wc.heap[gx]? = some (Obj.cells #[.int .i64 xn, .slice AX XW.length cX] 27 (0, 0))) ∧ Aside0 (Kd.R k60 60 wc w.heap.size (fun _ => True) (.slice AX XW.length cX) XW) ∧ Aside0 (MInv w gc n A cc W (.slice (some ad6) ms'.length c6) ms' wc))
              case first =>
                have e1 := HF.out
                have e2 := HG.out
                have e3 := HK.out
                have e4 := (i64_w _).trans e1
                have e5 := (i64_w _).trans e2
                have e6 := (i64_w _).trans e3
                have hJ0 : (0 ≤ J) = True := eq_true HJ.out.1
                have hJ1 : (J < (ms'.length : Int)) = True := eq_true HJ.out.2
                have hc0 : wc.cell? ⟨gc, 0, none⟩ = some (.int .i64 n) := (blk_cell HM.out.2.1 0).trans rfl
                have hc1 : wc.cell? ⟨gc, 1, none⟩ = some (.slice A W.length cc) := (blk_cell HM.out.2.1 1).trans rfl
                have HKeep := Aside0.mk (fun (W' : World) (hb : Below wc.heap.size wc W') => (⟨hb, cell_step hc0 hb, cell_step hc1 hb, cell_step k3 hb, cell_step s0 hb, cell_step s1 hb, cell_step s2 hb, cell_step s3 hb, cell_step s4 hb, cell_step s5 hb⟩ : (Below wc.heap.size wc W' ∧ W'.cell? ⟨gc, 0, none⟩ = some (.int .i64 n) ∧ W'.cell? ⟨gc, 1, none⟩ = some (.slice A W.length cc) ∧ W'.cell? ⟨(ad1.add (x8.toNat * 5)).block, (ad1.add (x8.toNat * 5)).off + 3, none⟩ = some (.int .u8 (rd_T48 l1 x8).f3) ∧ W'.cell? (ad6.add (J.toNat * 6)) = some (.int .i64 (rd_T32 ms' J).f0) ∧ W'.cell? ⟨(ad6.add (J.toNat * 6)).block, (ad6.add (J.toNat * 6)).off + 1, none⟩ = some (.int .i64 (rd_T32 ms' J).f1) ∧ W'.cell? ⟨(ad6.add (J.toNat * 6)).block, (ad6.add (J.toNat * 6)).off + 2, none⟩ = some (.int .i64 (rd_T32 ms' J).f2) ∧ W'.cell? ⟨(ad6.add (J.toNat * 6)).block, (ad6.add (J.toNat * 6)).off + 3, none⟩ = some (.int .i64 (rd_T32 ms' J).f3) ∧ W'.cell? ⟨(ad6.add (J.toNat * 6)).block, (ad6.add (J.toNat * 6)).off + 4, none⟩ = some (.slice A4 (rd_T32 ms' J).f4.f0.length c4) ∧ W'.cell? ⟨(ad6.add (J.toNat * 6)).block, (ad6.add (J.toNat * 6)).off + 5, none⟩ = some (.slice A5 (rd_T32 ms' J).f5.length c5))))
                have HR := Aside0.mk HM.out.reads
                have HRow := Aside0.mk (And.intro l4_ (And.intro C4 (And.intro l5_ C5)))
                clear l4_ C4 l5_ C5
                go_region_held3 (fun W' => (Below wc.heap.size wc W' ∧ W'.cell? ⟨gc, 0, none⟩ = some (.int .i64 n) ∧ W'.cell? ⟨gc, 1, none⟩ = some (.slice A W.length cc) ∧ W'.cell? ⟨(ad1.add (x8.toNat * 5)).block, (ad1.add (x8.toNat * 5)).off + 3, none⟩ = some (.int .u8 (rd_T48 l1 x8).f3) ∧ W'.cell? (ad6.add (J.toNat * 6)) = some (.int .i64 (rd_T32 ms' J).f0) ∧ W'.cell? ⟨(ad6.add (J.toNat * 6)).block, (ad6.add (J.toNat * 6)).off + 1, none⟩ = some (.int .i64 (rd_T32 ms' J).f1) ∧ W'.cell? ⟨(ad6.add (J.toNat * 6)).block, (ad6.add (J.toNat * 6)).off + 2, none⟩ = some (.int .i64 (rd_T32 ms' J).f2) ∧ W'.cell? ⟨(ad6.add (J.toNat * 6)).block, (ad6.add (J.toNat * 6)).off + 3, none⟩ = some (.int .i64 (rd_T32 ms' J).f3) ∧ W'.cell? ⟨(ad6.add (J.toNat * 6)).block, (ad6.add (J.toNat * 6)).off + 4, none⟩ = some (.slice A4 (rd_T32 ms' J).f4.f0.length c4) ∧ W'.cell? ⟨(ad6.add (J.toNat * 6)).block, (ad6.add (J.toNat * 6)).off + 5, none⟩ = some (.slice A5 (rd_T32 ms' J).f5.length c5))) ((refine HKeep.out _ ?_; go_split_ands; (repeat (first | assumption | exact Below.refl _ _ | apply below_drew | apply below_alloc | apply pw_below_drewN | apply below_drew1 | (refine below_set ?_ (by first | exact Nat.le_refl _ | exact below_size (by assumption)))))))
                  ((go_at_call 21; refine (feed_Take.calls 1000 n A cc W (rd_T32 ms' J).f0 (rd_T32 ms' J).f1 (rd_T32 ms' J).f2 (rd_T32 ms' J).f3 A4 c4 (rd_T32 ms' J).f4.f0 A5 c5 (rd_T32 ms' J).f5 xn XW et _ ?s1 ?s2 ?s3 ?s4 ?s5 ?s6 PT.out).mono ?_; (case s1 => exact Kd.C_below HR.out.2 (by go_split_ands; assumption)); (case s2 => exact HR.out.1); (case s3 => exact Kd.C_below HRow.out.2.1 (by go_split_ands; assumption)); (case s4 => exact HRow.out.1); (case s5 => exact Kd.C_below HRow.out.2.2.2 (by go_split_ands; assumption)); (case s6 => exact HRow.out.2.2.1); rintro e w8 ⟨vx, rfl, hox, hbx⟩; (have hbw : Below wc.heap.size wc w8 := below_step (by go_split_ands; assumption) hbx); (have HX8 := Aside0.mk (Kd.R_lower hox (below_size (below_step HM.out.1 (by go_split_ands; assumption))))); clear hox; obtain ⟨AX, cX, eX⟩ := Kd.R_slice HX8.out; subst eX; (try (have hbk : w8.heap[wc.heap.size]? = some (Obj.cells #[.int .i64 0, .slice none 0 0] 27 (0, 0)) := blk_below (blk_drew (blk_new _ _)) hbx; have hz0 : w8.cell? ⟨wc.heap.size, 0, none⟩ = some (.int .i64 0) := (blk_cell hbk 0).trans rfl; have hz1 : w8.cell? ⟨wc.heap.size, 1, none⟩ = some (.slice none 0 0) := (blk_cell hbk 1).trans rfl; have hf0 := blk_frozen hbk 0; have hf1 := blk_frozen hbk 1; have HBX := Aside0.mk hbk; clear hbk))))
                all_goals
                  go_wp2
                  go_meet
                  case rel =>
                    first
                    | exact ⟨_, AX, cX, rfl, rfl, ⟨blk_new _ _⟩, ⟨Kd.R_below HX8.out (below_alloc (Below.refl _ _) _)⟩, ⟨HM.out.step (below_alloc hbw _)⟩⟩
                    | exact ⟨_, AX, cX, rfl, rfl, ⟨blk_put (blk_put HBX.out 0 _ rfl) 1 _ rfl⟩, ⟨Kd.R_set (Kd.R_set HX8.out HBX.out (by decide) 0 _) (blk_put HBX.out 0 _ rfl) (by decide) 1 _⟩, ⟨HM.out.step (below_set (below_set hbw (Nat.le_refl _)) (Nat.le_refl _))⟩⟩
              case rest =>
                clear HM k0 k1' k2 k3 k4 s0 s1 s2 s3 s4 s5 l4_ C4 l5_ C5 HC6
                obtain ⟨gx, AX, cX, rfl, rfl, BX, HXW, HM⟩ := hcut
                go_upto_if 107 with (fail)
                go_cut [] (fun wc => ∃ (n' : Int) (A' : Option Addr) (cc' : Nat) (W' : List S60), Aside0 (Okc l0 (y7.toNat : Int) n' W') ∧ Aside0 (MInv w gc n' A' cc' W' (.slice (some ad6) ms'.length c6) ms' wc))
                case first =>
                  rcases HTK.out with ⟨e0, hlt, hok⟩ | e0 | e0
                  · subst e0
                    have hg0 : wc.cell? ⟨gx, 0, none⟩ = some (.int .i64 xn) := (blk_cell BX.out 0).trans rfl
                    have hg1 : wc.cell? ⟨gx, 1, none⟩ = some (.slice AX XW.length cX) := (blk_cell BX.out 1).trans rfl
                    have hc0 : wc.cell? ⟨gc, 0, none⟩ = some (.int .i64 n) := (blk_cell HM.out.2.1 0).trans rfl
                    have hc1 : wc.cell? ⟨gc, 1, none⟩ = some (.slice A W.length cc) := (blk_cell HM.out.2.1 1).trans rfl
                    have hf0 := blk_frozen HM.out.2.1 0
                    have hf1 := blk_frozen HM.out.2.1 1
                    have hd : decide (xn ≤ n) = false := decide_eq_false (by omega)
                    have HOK := Aside0.mk hok
                    clear hok hlt
                    go_wp2
                    go_meet
                    case rel => exact ⟨xn, AX, cX, XW, HOK, ⟨HM.out.store GE.out HXW.out⟩⟩
                  · subst e0
                    go_wp2
                    go_meet
                    case rel => exact ⟨n, A, cc, W, HC', HM⟩
                  · subst e0
                    go_wp2
                    go_meet
                    case rel => exact ⟨n, A, cc, W, HC', HM⟩
                case rest =>
                  clear HM HC' HO' PT HTK BX HXW
                  obtain ⟨n', A', cc', W', HOK', HM⟩ := hcut
                  have hy : y7.toNat ≤ l0.length := by have := HY.out; omega
                  have hy0 : 0 ≤ y7 := by have := HY.out; have := HX.out; omega
                  have PE := Aside0.mk (shows_ok HL.out.1 HL.out.2.2.1 hy HOK'.out 1000 (by omega))
                  have HRT := Aside0.mk (Kd.C_take (m := y7.toNat) (Kd.C_below HR0.out HM.out.1) hy)
                  have HCT := Aside0.mk (show (l0.take y7.toNat).length ≤ c0 by rw [List.length_take]; have := HC0.out; omega)
                  have HRd := Aside0.mk HM.out.reads
                  obtain ⟨i0, hi0, _, _, _⟩ := info_parts info52
                  have hcs : ∀ W : World, (Instr.slice 22 (.slice A0 l0.length c0) none (some (.int .i64 y7)) none).run Try.prog W = .ok (.slice A0 (l0.take y7.toNat).length c0) W := by
                    intro W_
                    rw [cut_to 22 52 .i64 Try.underlying22 hi0 A0 l0.length c0 y7 hy0 (by omega) HC0.out W_, List.length_take, Nat.min_eq_left hy]
                  clear hi0 hy hy0
                  generalize l0.take y7.toNat = lt at PE HRT HCT hcs
                  have hc0 : wc.cell? ⟨gc, 0, none⟩ = some (.int .i64 n') := (blk_cell HM.out.2.1 0).trans rfl
                  have hc1 : wc.cell? ⟨gc, 1, none⟩ = some (.slice A' W'.length cc') := (blk_cell HM.out.2.1 1).trans rfl
                  have HKeep := Aside0.mk (fun (V' : World) (hb : Below wc.heap.size wc V') => (⟨hb, cell_step hc0 hb, cell_step hc1 hb⟩ : (Below wc.heap.size wc V' ∧ V'.cell? ⟨gc, 0, none⟩ = some (.int .i64 n') ∧ V'.cell? ⟨gc, 1, none⟩ = some (.slice A' W'.length cc'))))
                  go_upto_region 28 with (fail)
                  go_cut [124, 125] (fun v124 v125 wd => v125 = .bool false ∧ Aside0 (MInv w gc n' A' cc' W' (.slice (some ad6) ms'.length c6) ms' wd))
                  case first =>
                    go_region_held3 (fun V' => (Below wc.heap.size wc V' ∧ V'.cell? ⟨gc, 0, none⟩ = some (.int .i64 n') ∧ V'.cell? ⟨gc, 1, none⟩ = some (.slice A' W'.length cc'))) ((refine HKeep.out _ ?_; go_split_ands; (repeat (first | assumption | exact Below.refl _ _ | apply below_drew | apply below_alloc | apply pw_below_drewN | apply below_drew1))))
                      ((go_at_call 24; refine (chalklinelaw35_shows.calls 1000 A0 c0 lt n' A' cc' W' true _ ?s1 ?s2 ?s3 ?s4 PE.out).mono ?_; (case s1 => exact Kd.C_below HRT.out (by go_split_ands; assumption)); (case s2 => exact HCT.out); (case s3 => exact Kd.C_below HRd.out.2 (by go_split_ands; assumption)); (case s4 => exact HRd.out.1); rintro e w8 ⟨rfl, hbx⟩; (have hbw : Below wc.heap.size wc w8 := below_step (by go_split_ands; assumption) hbx)))
                    all_goals
                      go_wp2
                      go_meet
                      case rel => exact ⟨rfl, ⟨HM.out.step hbw⟩⟩
                  case rest =>
                    clear HM hc0 hc1 hcs HKeep PE
                    obtain ⟨rfl, HM⟩ := hcut
                    go_wp2
                    go_roundg k1
                    case measure => omega
                    case rel => exact ⟨y7, wrap64 (x8 + 1), n', A', cc', W', ms', rfl, rfl, ⟨⟨by have := HY.out; have := HX.out; omega, HY.out.2⟩, by rw [HW.out]; have := HX.out; exact ⟨by omega, by omega⟩, by rw [HW.out]; exact HX'.out.1, HOK'.out.mono (by have := HY.out; have := HX.out; omega), HX'.out.2⟩, ⟨HM.out.step (by repeat (first | exact Below.refl _ _ | apply pw_below_drewN | apply below_drew1 | apply below_alloc))⟩⟩
            · cases b4 : (rd_T48 l1 x8).f4 with
              | false =>
                rw [b4] at k4
                clear b4 hgo
                go_wp2
                go_roundg k1
                case measure => omega
                case rel => exact ⟨y7, wrap64 (x8 + 1), n, A, cc, W, ms', rfl, rfl, ⟨⟨by have := HY.out; have := HX.out; omega, HY.out.2⟩, by rw [HW.out]; have := HX.out; exact ⟨by omega, by omega⟩, by rw [HW.out]; exact HX'.out.1, HX.out.2.2.2.1.mono HY.out.1, HX'.out.2⟩, ⟨HM.out⟩⟩
              | true =>
                have e0 : ms' = [] := Classical.byContradiction fun h => hgo ⟨b4, h⟩
                rw [b4] at k4
                clear b4 hgo
                subst e0
                go_wp2
                go_roundg k1
                case measure => omega
                case rel => exact ⟨y7, wrap64 (x8 + 1), n, A, cc, W, [], rfl, rfl, ⟨⟨by have := HY.out; have := HX.out; omega, HY.out.2⟩, by rw [HW.out]; have := HX.out; exact ⟨by omega, by omega⟩, by rw [HW.out]; exact HX'.out.1, HX.out.2.2.2.1.mono HY.out.1, HX'.out.2⟩, ⟨HM.out⟩⟩
end Go.Proofs.Ytfdhnmijaobbdaa.S
end
section
namespace Go.Proofs.Ytfdhnmijaobbdaa.S
open Go.RowKit Go.Proofs.YtfdhnmijaobbdaaW.PrintWords Go.Proofs.YtfdhnmijaobbdaaW.PrintLast Go.Proofs.YtfdhnmijaobbdaaW.PrintMore
open Classical in
noncomputable def chalklinelaw35_FeedMonotone.f (_k : Nat) (l0 : List S52) (l1 : List S48) : Option Bool := if l0.length ≤ 9223372036854775806 ∧ U8s l1 then some true else none
theorem chalklinelaw35_FeedMonotone.calls (k : Nat) (A0 : Option Addr) (c0 : Nat) (l0 : List S52) (A1 : Option Addr) (c1 : Nat) (l1 : List S48) (r : Bool) (w : World) (hr0 : Kd.C k52 w A0 l0.length l0) (hc0 : l0.length ≤ c0) (hr1 : Kd.C k48 w A1 l1.length l1) (hc1 : l1.length ≤ c1) (h : chalklinelaw35_FeedMonotone.f k l0 l1 = some r) :
    Calls Try.prog 5 #[.slice A0 l0.length c0, .slice A1 l1.length c1] w fun e w' => e = .returned (.bool r) ∧ Below w.heap.size w w' := by
  unfold chalklinelaw35_FeedMonotone.f at h
  by_cases hh : l0.length ≤ 9223372036854775806 ∧ U8s l1
  · rw [if_pos hh] at h
    obtain rfl := Option.some.inj h
    obtain ⟨hl1, u1⟩ := hh
    obtain ⟨b, hb, hb2⟩ := few_eq l0 hl1 1000 (by omega)
    cases b with
    | false => exact mono_few A0 A1 c0 c1 l0 l1 w hr0 hc0 hr1 hc1 ⟨hb⟩
    | true =>
      obtain ⟨hl, hS⟩ := hb2 rfl
      by_cases hg : 30 < l1.length
      · exact mono_many A0 A1 c0 c1 l0 l1 w hr0 hc0 hr1 hc1 ⟨hb⟩ (decide_eq_true (by omega)) (decide_eq_true hg)
      · have hC := feedCheck_eq l0 hl1 70 (by omega) hS 1000 (by omega)
        rcases chk_or l0 with hc | hc
        · rw [hc] at hC
          exact mono_main A0 A1 c0 c1 l0 l1 w hr0 hc0 hr1 hc1 ⟨hb⟩ ⟨hC⟩ (decide_eq_false (by omega)) (decide_eq_false hg) ⟨hl, by omega, hS, hc⟩ ⟨u1⟩
        · rw [hc] at hC
          exact mono_check A0 A1 c0 c1 l0 l1 w hr0 hc0 hr1 hc1 ⟨hb⟩ ⟨hC⟩ (decide_eq_false (by omega)) (decide_eq_false hg)
  · rw [if_neg hh] at h; cases h
end Go.Proofs.Ytfdhnmijaobbdaa.S
end
section
namespace Go.Proofs.YtfdhnmijaobbdaaW.PrintMore
open Go.RowKit Go.Proofs.YtfdhnmijaobbdaaW.PrintWords Go.Proofs.YtfdhnmijaobbdaaW.PrintLast Go.ChangeShapes Go.WideShapes
def Opens {α : Type} (P : Program) (t : TypeId) (d : Kd α) (wf : α → Prop) : Prop :=
  ∀ (H : Type) (enc : TypeId × Value → H) (w : World) (base : Nat) (spare : Nat → Bool) (held : Bool) (fuel : Nat) (cs : List Value) (x : DataW H × List MemPlace), DataW.trod enc P w base spare held fuel t cs = some x → ∃ y, d.K w y cs ∧ wf y
section
variable {P : Program} {t : TypeId}
theorem opens_int {k : IntKind} (ht : P.underlying t = some (.int k)) : Opens P t (Kd.int k) (fun n => (Lit.int k n).wf = true) := by
  intro H enc w base spare held fuel cs x h
  obtain ⟨n, rfl, _, hw⟩ := DataW.trod_int ht h
  exact ⟨n, rfl, hw⟩
theorem opens_bool (ht : P.underlying t = some .bool) : Opens P t Kd.bool (fun _ => True) := by
  intro H enc w base spare held fuel cs x h
  cases fuel with
  | zero => simp [DataW.trod] at h
  | succ n =>
    unfold DataW.trod at h
    rw [ht] at h
    split at h
    case h_1 => exact ⟨_, rfl, trivial⟩
    all_goals simp_all
theorem cells_cell {w : World} {base n : Nat} {a : Addr} {cs : List Value} (h : w.cells? base a n = some cs) : cs.length = n ∧ ∀ i u, cs[i]? = some u → w.cell? (a.add i) = some u := by
  obtain ⟨_, hl, hc⟩ := World.cells?_some h
  refine ⟨hl, fun i u hu => ?_⟩
  have hi : i < n := by rw [← hl]; exact (List.getElem?_eq_some_iff.1 hu).1
  rw [hc i hi, hu]
theorem opens_slice {α : Type} {e : TypeId} {d : Kd α} {wf : α → Prop} (ht : P.underlying t = some (.slice e)) (hsz : P.cellsOf e = d.sz) (h : Opens P e d wf) :
    Opens P t (Kd.slice e d) (fun l => l.length ≤ maxLen ∧ ∀ x ∈ l, wf x) := by
  intro H enc w base spare held fuel cs x hx
  rcases Deep.open_slice ht hx with ⟨rfl, _⟩ | ⟨a, len, cap, m, n, D, Pl, rfl, _, hl, hm, hmm, _, hel⟩
  · exact ⟨[], ⟨none, 0, rfl, Nat.le_refl _, Kd.C_nil _ _⟩, Nat.zero_le _, fun x hx => by cases hx⟩
  · have hlm : len ≤ m := by rw [hmm]; split <;> omega
    have hone : ∀ i, i < len → ∃ y : α, wf y ∧ ∃ c, c.length = d.sz ∧ d.K w y c ∧ ∀ j u, c[j]? = some u → w.cell? ((a.add (i * d.sz)).add j) = some u := by
      intro i hi
      obtain ⟨cs', hc, ht'⟩ := hel i (by omega)
      obtain ⟨y, hK, hw⟩ := h H enc w base spare held n cs' _ ht'
      rw [hsz] at hc
      obtain ⟨hlen, hcell⟩ := cells_cell hc
      exact ⟨y, hw, cs', hlen, hK, hcell⟩
    let f : Nat → Option α := fun i => if hi : i < len then some (Classical.choose (hone i hi)) else none
    have hf : ∀ i (hi : i < len), f i = some (Classical.choose (hone i hi)) := fun i hi => dif_pos hi
    let l : List α := (List.range len).filterMap f
    have hln : ∀ m, m ≤ len → ((List.range m).filterMap f).length = m ∧ ∀ i (hi : i < len), i < m → ((List.range m).filterMap f)[i]? = some (Classical.choose (hone i hi)) := by
      intro m
      induction m with
      | zero => exact fun _ => ⟨rfl, fun i _ h0 => absurd h0 (Nat.not_lt_zero _)⟩
      | succ m ih =>
        intro hm'
        obtain ⟨h1, h2⟩ := ih (by omega)
        rw [List.range_succ, List.filterMap_append]
        have he : [m].filterMap f = [Classical.choose (hone m (by omega))] := by simp [hf m (by omega)]
        rw [he]
        refine ⟨by simp [h1], fun i hi him => ?_⟩
        rcases Nat.lt_succ_iff_lt_or_eq.1 him with hlt | rfl
        · rw [List.getElem?_append_left (by omega)]
          exact h2 i hi hlt
        · rw [List.getElem?_append_right (by omega), h1]
          simp
    obtain ⟨hlen, hget⟩ := hln len (Nat.le_refl _)
    have hmax : cap ≤ 9223372036854775807 := by unfold maxLen at hm; omega
    refine ⟨l, ⟨some a, cap, ?_, ?_, ?_⟩, ?_, ?_⟩
    · show [Value.slice (some a) len cap] = _
      rw [hlen]
    · rw [hlen]; exact hl
    · refine ⟨rfl, by rw [hlen]; omega, fun _ => ⟨a, rfl, fun j p hp => ?_⟩⟩
      have hj : j < len := by rw [← hlen]; exact (List.getElem?_eq_some_iff.1 hp).1
      rw [hget j hj hj] at hp
      obtain rfl := Option.some.inj hp
      obtain ⟨_, c, hc1, hc2, hc3⟩ := Classical.choose_spec (hone j hj)
      exact ⟨c, hc1, hc2, fun i u hu => by rw [← Deep.add_add]; exact hc3 i u hu⟩
    · rw [hlen]; omega
    · intro x hx
      obtain ⟨j, hj⟩ := List.getElem?_of_mem hx
      have hj' : j < len := by rw [← hlen]; exact (List.getElem?_eq_some_iff.1 hj).1
      rw [hget j hj' hj'] at hj
      obtain rfl := Option.some.inj hj
      exact (Classical.choose_spec (hone j hj')).1
def OpensF {α : Type} (P : Program) (fs : List Field) (off : Nat) (d : Kd α) (wf : α → Prop) : Prop :=
  ∀ (H : Type) (enc : TypeId × Value → H) (w : World) (base : Nat) (spare : Nat → Bool) (held : Bool) (n : Nat) (cs : List Value), cs.length = off + d.sz →
    (∀ f ∈ fs, ∃ y, DataW.trod enc P w base spare held n f.type ((cs.drop f.offset).take (P.cellsOf f.type)) = some y) → ∃ y, d.K w y (cs.drop off) ∧ wf y
theorem opensF_one {α : Type} {f : Field} {d : Kd α} {wf : α → Prop} (hsz : P.cellsOf f.type = d.sz) (h : Opens P f.type d wf) : OpensF P [f] f.offset d wf := by
  intro H enc w base spare held n cs hl hf
  obtain ⟨y, hy⟩ := hf f (List.mem_singleton.2 rfl)
  rw [List.take_of_length_le (by rw [List.length_drop, hl, hsz]; omega)] at hy
  exact h H enc w base spare held n _ _ hy
theorem opensF_cons {α β : Type} {f : Field} {fs : List Field} {d : Kd α} {d' : Kd β} {wf : α → Prop} {wf' : β → Prop} (hsz : P.cellsOf f.type = d.sz) (h : Opens P f.type d wf) (h' : OpensF P fs (f.offset + d.sz) d' wf') :
    OpensF P (f :: fs) f.offset (Kd.pair d d') (fun x => wf x.1 ∧ wf' x.2) := by
  intro H enc w base spare held n cs hl hf
  have hl' : cs.length = f.offset + (d.sz + d'.sz) := hl
  obtain ⟨y, hy⟩ := hf f (List.mem_cons_self)
  rw [hsz] at hy
  obtain ⟨a, hK, hw⟩ := h H enc w base spare held n _ _ hy
  obtain ⟨b, hK', hw'⟩ := h' H enc w base spare held n cs (by rw [hl']; omega) (fun g hg => hf g (List.mem_cons_of_mem _ hg))
  refine ⟨(a, b), ⟨(cs.drop f.offset).take d.sz, cs.drop (f.offset + d.sz), ?_, hK, hK'⟩, hw, hw'⟩
  rw [← List.drop_drop, List.take_append_drop]
theorem opens_struct {α : Type} {fs : Array Field} {d : Kd α} {wf : α → Prop} (ht : P.underlying t = some (.struct fs)) (hsz : P.cellsOf t = d.sz) (h : OpensF P fs.toList 0 d wf) : Opens P t d wf := by
  intro H enc w base spare held fuel cs x hx
  obtain ⟨xs, n, _, _, hl, hlen, hf⟩ := DataW.trod_struct ht hx
  obtain ⟨y, hK, hw⟩ := h H enc w base spare held n cs (by rw [hl, hsz]; omega) (fun f hm => by
    obtain ⟨i, hi⟩ := List.getElem?_of_mem hm
    have hi' : fs[i]? = some f := by simpa using hi
    have hlt : i < xs.length := by rw [hlen]; exact (Array.getElem?_eq_some_iff.1 hi').1
    exact ⟨xs[i], by rw [hf i f hi', List.getElem?_eq_getElem hlt]⟩)
  exact ⟨y, by simpa using hK, hw⟩
theorem opens_iso {α β : Type} {d : Kd α} {wf : α → Prop} (f : β → α) (g : α → β) (hfg : ∀ a, f (g a) = a) (h : Opens P t d wf) : Opens P t (Kd.iso d f) (fun b => wf (f b)) := by
  intro H enc w base spare held fuel cs x hx
  obtain ⟨y, hK, hw⟩ := h H enc w base spare held fuel cs x hx
  exact ⟨g y, by show d.K w (f (g y)) cs; rw [hfg]; exact hK, by show wf (f (g y)); rw [hfg]; exact hw⟩
theorem arg_slice {α : Type} {e : TypeId} {d : Kd α} {wf : List α → Prop} {r : Reach} {W : World} {b0 : Nat} {v : Value} (ht : P.underlying t = some (.slice e)) (ho : Opens P t (Kd.slice e d) wf) (hv : Value.okWide P W r b0 t v)
    {H : Type} {enc : TypeId × Value → H} {base : Nat} {spare : Nat → Bool} {held : Bool} {dd : DataW H} {ps : List MemPlace} (h : DataW.Trod enc P W base spare held t v dd ps) :
    ∃ (A : Option Addr) (c : Nat) (l : List α), v = .slice A l.length c ∧ l.length ≤ c ∧ d.C W A l.length l ∧ wf l := by
  obtain ⟨a, len, cap, rfl⟩ := okWide_slice ht hv
  obtain ⟨fuel, hf⟩ := h
  obtain ⟨l, ⟨A, c, he, hl, hC⟩, hw⟩ := ho H enc W base spare held fuel _ _ hf
  have he' : Value.slice a len cap = Value.slice A l.length c := by simpa [Value.cells] using he
  exact ⟨A, c, l, he', hl, hC, hw⟩
end
end Go.Proofs.YtfdhnmijaobbdaaW.PrintMore
namespace Go.Proofs.YtfdhnmijaobbdaaW.PrintMore
open Go.RowKit Go.ChangeShapes Go.WideShapes
theorem sized_any {H : Type} {enc : TypeId × Value → H} {P : Program} {W : World} {base : Nat} {spare : Nat → Bool} {held : Bool} {t e : TypeId} {a : Option Addr} {len cap : Nat} {d : DataW H} {ps : List MemPlace} {ts : List TypeId} {ds : List (DataW H)} {j : Nat}
    (hsz : (DataW.weightsEach P ts ds).all (· ≤ reachBytes) = true) (ht : ts[j]? = some t) (hd : ds[j]? = some d) (hu : P.underlying t = some (.slice e)) {B : Nat} (hB : P.bytesOf e = B)
    (h : DataW.Trod enc P W base spare held t (.slice a len cap) d ps) : len * B ≤ 140737488351232 := by
  obtain ⟨fuel, hf⟩ := h
  rcases Deep.open_slice hu hf with ⟨hcs, _⟩ | ⟨x, l, c, m, n, D, Pl, hcs, _, hl, _, hm, hx, _⟩
  · simp [Value.cells] at hcs
    obtain ⟨rfl, rfl, rfl⟩ := hcs
    simp
  · simp [Value.cells] at hcs
    obtain ⟨rfl, rfl, rfl⟩ := hcs
    obtain ⟨hx, _⟩ := Prod.mk.inj hx
    subst hx
    have z := sized_slice hsz ht hd hu
    rw [hB] at z
    refine Nat.le_trans (Nat.mul_le_mul_right _ ?_) z
    simp
end Go.Proofs.YtfdhnmijaobbdaaW.PrintMore
end
section
namespace Go.Proofs.Ytfdhnmijaobbdaa.S
open Go.RowKit Go.Proofs.YtfdhnmijaobbdaaW.PrintWords Go.Proofs.YtfdhnmijaobbdaaW.PrintLast Go.Proofs.YtfdhnmijaobbdaaW.PrintMore
set_option linter.unusedVariables false
def wf60 (x : S60) : Prop := (Lit.int .i64 x.f0).wf = true ∧ (Lit.int .i64 x.f1).wf = true
theorem opens60 : Opens Try.prog 60 k60 wf60 := opens_iso (fun x : S60 => (x.f0, x.f1)) (fun p => ⟨p.1, p.2⟩) (fun _ => rfl) (opens_struct Try.underlying60 (by kernel_rfl) (opensF_cons (by kernel_rfl) (opens_int Try.underlying3) (opensF_one (by kernel_rfl) (opens_int Try.underlying3))))
def wf25 (x : S25) : Prop := (x.f0.length ≤ maxLen ∧ ∀ z_ ∈ x.f0, wf60 z_)
theorem opens25 : Opens Try.prog 25 k25 wf25 := opens_iso (fun x : S25 => (x.f0)) (fun p => ⟨p⟩) (fun _ => rfl) (opens_struct Try.underlying25 (by kernel_rfl) (opensF_one (by kernel_rfl) (opens_slice Try.underlying23 (by kernel_rfl) opens60)))
def wf52 (x : S52) : Prop := (Lit.int .i64 x.f0).wf = true ∧ wf25 x.f1 ∧ (Lit.int .i64 x.f2).wf = true ∧ True
theorem opens52 : Opens Try.prog 52 k52 wf52 := opens_iso (fun x : S52 => (x.f0, x.f1, x.f2, x.f3)) (fun p => ⟨p.1, p.2.1, p.2.2.1, p.2.2.2⟩) (fun _ => rfl) (opens_struct Try.underlying52 (by kernel_rfl) (opensF_cons (by kernel_rfl) (opens_int Try.underlying3) (opensF_cons (by kernel_rfl) opens25 (opensF_cons (by kernel_rfl) (opens_int Try.underlying3) (opensF_one (by kernel_rfl) (opens_bool Try.underlying4))))))
def wf48 (x : S48) : Prop := (Lit.int .u8 x.f0).wf = true ∧ True ∧ (Lit.int .u8 x.f2).wf = true ∧ (Lit.int .u8 x.f3).wf = true ∧ True
theorem opens48 : Opens Try.prog 48 k48 wf48 := opens_iso (fun x : S48 => (x.f0, x.f1, x.f2, x.f3, x.f4)) (fun p => ⟨p.1, p.2.1, p.2.2.1, p.2.2.2.1, p.2.2.2.2⟩) (fun _ => rfl) (opens_struct Try.underlying48 (by kernel_rfl) (opensF_cons (by kernel_rfl) (opens_int Try.underlying5) (opensF_cons (by kernel_rfl) (opens_bool Try.underlying4) (opensF_cons (by kernel_rfl) (opens_int Try.underlying5) (opensF_cons (by kernel_rfl) (opens_int Try.underlying5) (opensF_one (by kernel_rfl) (opens_bool Try.underlying4)))))))
end Go.Proofs.Ytfdhnmijaobbdaa.S
end
section
namespace Go.Proofs.Ytfdhnmijaobbdaa.Pure
open Go.RowKit Go.Proofs.YtfdhnmijaobbdaaW.PrintWords Go.Proofs.YtfdhnmijaobbdaaW.PrintLast Go.Proofs.YtfdhnmijaobbdaaW.PrintMore Go.Proofs.Ytfdhnmijaobbdaa.S
theorem FeedMonotone : ∀ (l0 : List (S52)) (l1 : List (S48)), (l0.length ≤ maxLen ∧ ∀ z_ ∈ l0, wf52 z_) → (l1.length ≤ maxLen ∧ ∀ z_ ∈ l1, wf48 z_) → l0.length * 48 ≤ 140737488351232 → l1.length * 5 ≤ 140737488351232 → ∃ k, chalklinelaw35_FeedMonotone.f k l0 l1 = some true := by
  intro l0 l1 hl w1 _ _
  have u8 : ∀ a : Int, (Lit.int .u8 a).wf = true → 0 ≤ a ∧ a ≤ 255 := by
    intro a h
    simp [Lit.wf, IntKind.min, IntKind.max, IntKind.signed, IntKind.bits] at h
    omega
  have h1 := hl.1
  unfold maxLen at h1
  refine ⟨0, if_pos ⟨by omega, fun z hz => ?_⟩⟩
  have hw := w1.2 z hz
  unfold wf48 at hw
  exact ⟨u8 _ hw.1, u8 _ hw.2.2.1, u8 _ hw.2.2.2.1⟩
end Go.Proofs.Ytfdhnmijaobbdaa.Pure
end
section
namespace Go.Proofs.Ytfdhnmijaobbdaa.feedMonotone
open Go.ChangeShapes Go.WideShapes Go.ChangeAt Go.RowKit Go.Proofs.YtfdhnmijaobbdaaW.PrintWords Go.Proofs.YtfdhnmijaobbdaaW.PrintLast Go.Proofs.YtfdhnmijaobbdaaW.PrintMore Go.Proofs.Ytfdhnmijaobbdaa.S
open Go.ChangeMaps (open_string shut_string)
set_option linter.unusedVariables false
theorem own : ownKnob Try.prog.godebug = none := by kernel_rfl
theorem laidOut : laidOutB Try.prog = true := by kernel_rfl
set_option maxRecDepth 100000 in
theorem lifted (os : Os) (started : os.Started) (H : Type) (enc : TypeId × Value → H) :
    ReturnsInHanded {} Try.checked os 5 .any (Rows.feedMonotoneSpec.pre6 enc Try.prog Try.f5 Rows.feedMonotoneRow.domain false) (Rows.feedMonotoneSpec.post enc Try.prog Try.f5 false true false false) := by
  refine returnsInHanded_of_change_sized (C := Try.checked) own started (by kernel_rfl) Try.func5
    (ChangeSpec.witness6 (enc := enc) (C := Try.checked) false ⟨#[], #[.slice none 0 0, .slice none 0 0], []⟩ 8 (by kernel_rfl) (by kernel_rfl) (by kernel_rfl) (by kernel_rfl)) ?_
  intro W base args ds gs before hval0 hW hcnd hsz0 _
  have hsz : (DataW.weightsEach Try.prog (Try.f5.params.toList ++ Rows.feedMonotoneSpec.plain.varTypes Try.prog) (ds ++ gs)).all (· ≤ reachBytes) = true := hsz0
  have hval : ∀ (j : Nat) t v, Try.f5.params[j]? = some t → args[j]? = some v → Value.okWide Try.prog W .any base t v := hval0
  have hW' := hW
  obtain ⟨p, q, hA0, hV, rfl, hfz, hnd⟩ := hW
  have hA : DataW.TrodAll enc Try.prog W 0 (fun _ => true) true Try.f5.params.toList args.toList ds p := hA0
  rw [Try.params5] at hA hval hsz
  obtain ⟨v0, vs0, d0, ds0, p0, q0, hargs, rfl, rfl, h0, r0⟩ := trodAll_cons hA
  obtain ⟨v1, vs1, d1, ds1, p1, q1, rfl, rfl, rfl, h1, r1⟩ := trodAll_cons r0
  obtain ⟨rfl, rfl, rfl⟩ := trodAll_nil r1
  obtain rfl : args = #[v0, v1] := by cases args; simp_all
  obtain ⟨rfl, rfl⟩ := trodVars_none hV
  have k0 := h0
  have lt0 : ∀ x ∈ p0, x.block < W.heap.size := by obtain ⟨m, hm⟩ := k0; exact DataW.trod_lt m _ _ _ hm
  obtain ⟨A0, c0, l0, rfl, hc0, hr0, w0⟩ := arg_slice Try.underlying22 (opens_slice Try.underlying22 (by kernel_rfl) opens52) (hval 0 22 v0 rfl rfl) h0
  have y0 : l0.length * 48 ≤ 140737488351232 := sized_any hsz (j := 0) (t := 22) rfl rfl Try.underlying22 (by kernel_rfl) k0
  have k1 := h1
  have lt1 : ∀ x ∈ p1, x.block < W.heap.size := by obtain ⟨m, hm⟩ := k1; exact DataW.trod_lt m _ _ _ hm
  obtain ⟨A1, c1, l1, rfl, hc1, hr1, w1⟩ := arg_slice Try.underlying45 (opens_slice Try.underlying45 (by kernel_rfl) opens48) (hval 1 45 v1 rfl rfl) h1
  have y1 : l1.length * 5 ≤ 140737488351232 := sized_any hsz (j := 1) (t := 45) rfl rfl Try.underlying45 (by kernel_rfl) k1
  clear hA0 hval0 hsz0 hsz
  obtain ⟨k, hp⟩ := Pure.FeedMonotone l0 l1 w0 w1 y0 y1
  refine (chalklinelaw35_FeedMonotone.calls k _ _ l0 _ _ l1 true W hr0 hc0 hr1 hc1 hp).mono fun e W' ⟨he, bel⟩ => ?_
  subst he
  exact ⟨_, rfl, _, _, _, [], _, [], hW', trodAll_mk1 (shut_bool Try.underlying4 _), (trodAll_cons_mk (Below.trod laidOut (by kernel_rfl) (of_decide_eq_true (by kernel_rfl)) k0 bel lt0) (trodAll_cons_mk (Below.trod laidOut (by kernel_rfl) (of_decide_eq_true (by kernel_rfl)) k1 bel lt1) trodAll_mk0)), rfl, bel.frame _, fun h => by cases h⟩
theorem over : Rows.feedMonotoneRow.holds Try.pinned (OpenSpec.ofChange Rows.feedMonotoneSpec) :=
  OpenClaim.holds_of_wide 5 Try.f5 rfl rfl rfl rfl rfl rfl rfl ⟨rfl, rfl, rfl, rfl, rfl⟩ rfl rfl rfl rfl rfl (by kernel_rfl) Try.func5 (by kernel_rfl)
    (of_decide_eq_true (by kernel_rfl)) (by unfold Func.isWrapper; first | (rw [if_pos (by decide +kernel)]; kernel_rfl) | (rw [if_neg (by decide +kernel)]; exact ⟨rfl, rfl⟩))
    (fun os started H enc _ => lifted os started H enc)
theorem proved : Rows.FeedMonotoneSaid := over
#print axioms proved
end Go.Proofs.Ytfdhnmijaobbdaa.feedMonotone
namespace Go.Proofs.Ytfdhnmijaobbdaa
theorem feedMonotone_holds : Rows.FeedMonotoneSaid := feedMonotone.proved
end Go.Proofs.Ytfdhnmijaobbdaa
end
