/- weekBijection_holds: part 2 of the proof: the plain functions, the walks of the program's functions and the laws about them. Conditions: those that each theorem states. -/
import Derived.Shelf.Strings.Search3
import Derived.Shelf.GgClosure.StringsIndexFuncTop
import Derived.Test.YtjdajlnigiicaaaDoorBijection1
section
namespace Go.Proofs.YtjdajlnigiicaaaDoor.S
open Go.RowKit Go.Proofs.YtjdajlnigiicaaaDoorW.PrintWords Go.Proofs.YtjdajlnigiicaaaDoorW.PrintLast Go.Proofs.YtjdajlnigiicaaaDoorW.PrintMore
attribute [local go_sem] max2_int min2_int max_two min_two max_three min_three max_four min_four   -- for this text's walks alone
set_option linter.unusedVariables false
set_option linter.unusedSimpArgs false
mutual
def chalklineref03_Few.j1 : Nat → Int → List (S87) → List (S91) → List (S95) → List (S98) → List (S101) → Option (Bool)
  | 0, _, _, _, _, _, _ => none
  | k + 1, x3, x304000, x304001, x304002, x304003, x304004 => chalklineref03_Few.l1 k x3 0 x304000 x304001 x304002 x304003 x304004
def chalklineref03_Few.j3 : Nat → Int → List (S87) → List (S91) → List (S95) → List (S98) → List (S101) → Option (Bool)
  | 0, _, _, _, _, _, _ => none
  | k + 1, x3, x304000, x304001, x304002, x304003, x304004 => chalklineref03_Few.l2 k x3 0 x304000 x304001 x304002 x304003 x304004
def chalklineref03_Few.j5 : Nat → Int → List (S87) → List (S91) → List (S95) → List (S98) → List (S101) → Option (Bool)
  | 0, _, _, _, _, _, _ => none
  | k + 1, x3, x304000, x304001, x304002, x304003, x304004 => chalklineref03_Few.l3 k x3 1 x304000 x304001 x304002 x304003 x304004
def chalklineref03_Few.l3 : Nat → Int → Int → List (S87) → List (S91) → List (S95) → List (S98) → List (S101) → Option (Bool)
  | 0, _, _, _, _, _, _, _ => none
  | k + 1, x3, x7, x304000, x304001, x304002, x304003, x304004 => if x7 ≤ 5 then ((chalklineref03_Names.f k x304000 x304001 x304002 x304003 x304004 x7).bind fun t308 => (chalklineref03_Few.l4 k x3 x7 t308 0 x304000 x304001 x304002 x304003 x304004)) else (some (decide (x3 ≤ 20000)))
def chalklineref03_Few.l4 : Nat → Int → Int → List ByteArray → Int → List (S87) → List (S91) → List (S95) → List (S98) → List (S101) → Option (Bool)
  | 0, _, _, _, _, _, _, _, _, _ => none
  | k + 1, x3, x7, x8, x9, x304000, x304001, x304002, x304003, x304004 => if x9 < (x8.length : Int) then (if x9 < 80 then (if 0 ≤ x9 then (chalklineref03_Few.l4 k (wrap64 (x3 + ((rdOf ByteArray.empty x8 x9).size : Int))) x7 x8 (wrap64 (x9 + 1)) x304000 x304001 x304002 x304003 x304004) else (none)) else (if (x8.length : Int) > 80 then (some false) else (chalklineref03_Few.l3 k x3 (wrap64 (x7 + 1)) x304000 x304001 x304002 x304003 x304004))) else (if (x8.length : Int) > 80 then (some false) else (chalklineref03_Few.l3 k x3 (wrap64 (x7 + 1)) x304000 x304001 x304002 x304003 x304004))
def chalklineref03_Few.l2 : Nat → Int → Int → List (S87) → List (S91) → List (S95) → List (S98) → List (S101) → Option (Bool)
  | 0, _, _, _, _, _, _, _ => none
  | k + 1, x3, x6, x304000, x304001, x304002, x304003, x304004 => if x6 < (x304004.length : Int) then (if x6 < 80 then (if 0 ≤ x6 then (chalklineref03_Few.l2 k (wrap64 ((wrap64 (x3 + (((rd_T101 x304004 x6).f1).length : Int))) + (((rd_T101 x304004 x6).f2).length : Int))) (wrap64 (x6 + 1)) x304000 x304001 x304002 x304003 x304004) else (none)) else (chalklineref03_Few.j5 k x3 x304000 x304001 x304002 x304003 x304004)) else (chalklineref03_Few.j5 k x3 x304000 x304001 x304002 x304003 x304004)
def chalklineref03_Few.l1 : Nat → Int → Int → List (S87) → List (S91) → List (S95) → List (S98) → List (S101) → Option (Bool)
  | 0, _, _, _, _, _, _, _ => none
  | k + 1, x3, x5, x304000, x304001, x304002, x304003, x304004 => if x5 < (x304002.length : Int) then (if x5 < 80 then (if 0 ≤ x5 then (chalklineref03_Few.l1 k (wrap64 (x3 + (((rd_T95 x304002 x5).f1).length : Int))) (wrap64 (x5 + 1)) x304000 x304001 x304002 x304003 x304004) else (none)) else (chalklineref03_Few.j3 k x3 x304000 x304001 x304002 x304003 x304004)) else (chalklineref03_Few.j3 k x3 x304000 x304001 x304002 x304003 x304004)
def chalklineref03_Few.l0 : Nat → Int → Int → List (S87) → List (S91) → List (S95) → List (S98) → List (S101) → Option (Bool)
  | 0, _, _, _, _, _, _, _ => none
  | k + 1, x3, x4, x304000, x304001, x304002, x304003, x304004 => if x4 < (x304001.length : Int) then (if x4 < 80 then (if 0 ≤ x4 then (chalklineref03_Few.l0 k (wrap64 (x3 + (((rd_T91 x304001 x4).f3).length : Int))) (wrap64 (x4 + 1)) x304000 x304001 x304002 x304003 x304004) else (none)) else (chalklineref03_Few.j1 k x3 x304000 x304001 x304002 x304003 x304004)) else (chalklineref03_Few.j1 k x3 x304000 x304001 x304002 x304003 x304004)
end
def chalklineref03_Few.f (k : Nat) (l0_0 : List (S87)) (l0_1 : List (S91)) (l0_2 : List (S95)) (l0_3 : List (S98)) (l0_4 : List (S101)) : Option (Bool) := chalklineref03_Few.l0 k 0 0 l0_0 l0_1 l0_2 l0_3 l0_4
set_option maxHeartbeats 8000000 in
set_option maxRecDepth 100000 in
theorem chalklineref03_Few.calls (k : Nat) (A0_0 : Option Addr) (c0_0 : Nat) (l0_0 : List (S87)) (A0_1 : Option Addr) (c0_1 : Nat) (l0_1 : List (S91)) (A0_2 : Option Addr) (c0_2 : Nat) (l0_2 : List (S95)) (A0_3 : Option Addr) (c0_3 : Nat) (l0_3 : List (S98)) (A0_4 : Option Addr) (c0_4 : Nat) (l0_4 : List (S101)) (r : Bool) (w : World) (hr0_0 : Kd.C k87 w A0_0 l0_0.length l0_0) (hc0_0 : l0_0.length ≤ c0_0) (hr0_1 : Kd.C k91 w A0_1 l0_1.length l0_1) (hc0_1 : l0_1.length ≤ c0_1) (hr0_2 : Kd.C k95 w A0_2 l0_2.length l0_2) (hc0_2 : l0_2.length ≤ c0_2) (hr0_3 : Kd.C k98 w A0_3 l0_3.length l0_3) (hc0_3 : l0_3.length ≤ c0_3) (hr0_4 : Kd.C k101 w A0_4 l0_4.length l0_4) (hc0_4 : l0_4.length ≤ c0_4) (h : chalklineref03_Few.f k l0_0 l0_1 l0_2 l0_3 l0_4 = some r) :
    Calls Tryd.prog 37 #[.agg #[.slice A0_0 l0_0.length c0_0, .slice A0_1 l0_1.length c0_1, .slice A0_2 l0_2.length c0_2, .slice A0_3 l0_3.length c0_3, .slice A0_4 l0_4.length c0_4]] w fun e w' => e = .returned (.bool r) ∧ Below w.heap.size w w' := by
  have hu45 := Tryd.underlying45
  have HR0_0 := Aside0.mk hr0_0
  have HC0_0 := Aside0.mk hc0_0
  clear hr0_0 hc0_0
  have HR0_1 := Aside0.mk hr0_1
  have HC0_1 := Aside0.mk hc0_1
  clear hr0_1 hc0_1
  have HR0_2 := Aside0.mk hr0_2
  have HC0_2 := Aside0.mk hc0_2
  clear hr0_2 hc0_2
  have HR0_3 := Aside0.mk hr0_3
  have HC0_3 := Aside0.mk hc0_3
  clear hr0_3 hc0_3
  have HR0_4 := Aside0.mk hr0_4
  have HC0_4 := Aside0.mk hc0_4
  clear hr0_4 hc0_4
  have HB := Aside0.mk (Below.refl w.heap.size w)
  have H : (chalklineref03_Few.l0 k 0 0 l0_0 l0_1 l0_2 l0_3 l0_4) = some r := h
  clear h
  have HC2 := Aside0.mk H
  clear H
  go_enter Tryd.func37, Tryd.ntmps37
  go_upto_block 0 with (first | ((with_reducible refine gate_dst (N := 1) rfl ?_); refine box_event ?hg (N := 1) ?hd (cs := #[.slice A0_0 l0_0.length c0_0, .slice A0_1 l0_1.length c0_1, .slice A0_2 l0_2.length c0_2, .slice A0_3 l0_3.length c0_3, .slice A0_4 l0_4.length c0_4]) (t := 45) ?hr ?_; (case hd => rfl); (case hg => rfl); (case hr => first | (go_simp; done) | (go_simp; rfl)); intro gb303 hg w3 hbox hb; have n0_ := Aside0.mk (below_step (b_ HB) hb); have n1_ := Aside0.mk (hbox); have n2_ := Aside0.mk ((by rw [hg]; exact (below_size (b_ HB)) : w.heap.size ≤ gb303)); have n3_ := n2_; clear HB; have HB := n0_; have BK303 := n1_; have GW303 := n2_; have GE303 := n3_; clear n0_ n1_ n2_ n3_; clear hb hbox hg))
  repeat (go_quiet (first | ((with_reducible refine gate_dst (N := 1) rfl ?_); refine box_event ?hg (N := 1) ?hd (cs := #[.slice A0_0 l0_0.length c0_0, .slice A0_1 l0_1.length c0_1, .slice A0_2 l0_2.length c0_2, .slice A0_3 l0_3.length c0_3, .slice A0_4 l0_4.length c0_4]) (t := 45) ?hr ?_; (case hd => rfl); (case hg => rfl); (case hr => first | (go_simp; done) | (go_simp; rfl)); intro gb303 hg w3 hbox hb; have n0_ := Aside0.mk (below_step (b_ HB) hb); have n1_ := Aside0.mk (hbox); have n2_ := Aside0.mk ((by rw [hg]; exact (below_size (b_ HB)) : w.heap.size ≤ gb303)); have n3_ := n2_; clear HB; have HB := n0_; have BK303 := n1_; have GW303 := n2_; have GE303 := n3_; clear n0_ n1_ n2_ n3_; clear hb hbox hg)); go_upto_block 0 with (first | ((with_reducible refine gate_dst (N := 1) rfl ?_); refine box_event ?hg (N := 1) ?hd (cs := #[.slice A0_0 l0_0.length c0_0, .slice A0_1 l0_1.length c0_1, .slice A0_2 l0_2.length c0_2, .slice A0_3 l0_3.length c0_3, .slice A0_4 l0_4.length c0_4]) (t := 45) ?hr ?_; (case hd => rfl); (case hg => rfl); (case hr => first | (go_simp; done) | (go_simp; rfl)); intro gb303 hg w3 hbox hb; have n0_ := Aside0.mk (below_step (b_ HB) hb); have n1_ := Aside0.mk (hbox); have n2_ := Aside0.mk ((by rw [hg]; exact (below_size (b_ HB)) : w.heap.size ≤ gb303)); have n3_ := n2_; clear HB; have HB := n0_; have BK303 := n1_; have GW303 := n2_; have GE303 := n3_; clear n0_ n1_ n2_ n3_; clear hb hbox hg)))
  (try simp only [Act.put, List.setIfInBounds_toArray, List.set_cons_zero, List.set_cons_succ])
  go_cut [3] (fun v3 wc => ∃ (kq : Nat) (x3_1 : Int), v3 = .int .i64 x3_1 ∧ Aside0 (chalklineref03_Few.j1 kq x3_1 l0_0 l0_1 l0_2 l0_3 l0_4 = some r) ∧ Aside0 (kq ≤ k) ∧ Aside0 (wc.heap[gb303]? = some (.cells #[(.slice A0_0 l0_0.length c0_0), (.slice A0_1 l0_1.length c0_1), (.slice A0_2 l0_2.length c0_2), (.slice A0_3 l0_3.length c0_3), (.slice A0_4 l0_4.length c0_4)] 45 (0, 0))) ∧ Aside0 (Below w.heap.size w wc))
  case first =>
    have H := HC2.out
    clear HC2
    have H' := Aside0.mk H
    clear H
    go_wp2
    repeat (go_quiet (fail); try go_wp2)
    go_loopg [3, 4] k (fun kq v3 v4 w' => ∃ (x3_1 : Int) (x4_1 : Int), v3 = .int .i64 x3_1 ∧ v4 = .int .i64 x4_1 ∧ Aside0 (chalklineref03_Few.l0 kq x3_1 x4_1 l0_0 l0_1 l0_2 l0_3 l0_4 = some r) ∧ Aside0 (kq ≤ k) ∧ Aside0 (w'.heap[gb303]? = some (.cells #[(.slice A0_0 l0_0.length c0_0), (.slice A0_1 l0_1.length c0_1), (.slice A0_2 l0_2.length c0_2), (.slice A0_3 l0_3.length c0_3), (.slice A0_4 l0_4.length c0_4)] 45 (0, 0))) ∧ Aside0 (Below w.heap.size w w'))
    case atStart => exact ⟨(0), (0), (by first | rfl | (simp; done) | (simp [*]; done)), (by first | rfl | (simp; done) | (simp [*]; done)), H', ⟨Nat.le_refl _⟩, ⟨k_ BK303⟩, ⟨b_ HB⟩⟩
    case round =>
      clear H'
      obtain ⟨x3_1, x4_1, rfl, rfl, HA, HK1, BK303, HB⟩ := hrel
      cases gk with
      | zero => exact absurd HA.out (by simp [chalklineref03_Few.l0])
      | succ k1 =>
        have H := HA.out
        clear HA
        simp only [chalklineref03_Few.l0] at H
        by_cases c4 : x4_1 < (l0_1.length : Int)
        rotate_left
        · rw [if_neg c4] at H
          have c4b0 : decide (x4_1 < (l0_1.length : Int)) = false := decide_eq_false c4
          clear c4
          (first | rw [c4b0] | (simp only [i64_w, i32_w]; rw [c4b0]) | skip)
          have H' := Aside0.mk H
          clear H
          have hcz9_0 : wr.cell? ⟨gb303, 0, none⟩ = some (.slice A0_0 l0_0.length c0_0) := (blk_cell BK303.out 0).trans rfl
          have hcz9_1 : wr.cell? ⟨gb303, 1, none⟩ = some (.slice A0_1 l0_1.length c0_1) := (blk_cell BK303.out 1).trans rfl
          have hcz9_2 : wr.cell? ⟨gb303, 2, none⟩ = some (.slice A0_2 l0_2.length c0_2) := (blk_cell BK303.out 2).trans rfl
          have hcz9_3 : wr.cell? ⟨gb303, 3, none⟩ = some (.slice A0_3 l0_3.length c0_3) := (blk_cell BK303.out 3).trans rfl
          have hcz9_4 : wr.cell? ⟨gb303, 4, none⟩ = some (.slice A0_4 l0_4.length c0_4) := (blk_cell BK303.out 4).trans rfl
          have hfz9_0 := blk_frozen BK303.out 0
          have hfz9_1 := blk_frozen BK303.out 1
          have hfz9_2 := blk_frozen BK303.out 2
          have hfz9_3 := blk_frozen BK303.out 3
          have hfz9_4 := blk_frozen BK303.out 4
          go_wp2
          repeat (go_quiet (fail); try go_wp2)
          go_meet
          case rel => exact ⟨_, (x3_1), (by first | rfl | (simp; done) | (simp [*]; done)), H', ⟨by have := HK1.out; first | omega | exact Nat.le_refl _⟩, ⟨k_ BK303⟩, ⟨b_ HB⟩⟩
        rw [if_pos c4] at H
        have c4b0 : decide (x4_1 < (l0_1.length : Int)) = true := decide_eq_true c4
        clear c4
        (first | rw [c4b0] | (simp only [i64_w, i32_w]; rw [c4b0]) | skip)
        by_cases c5 : x4_1 < 80
        rotate_left
        · rw [if_neg c5] at H
          have c5b0 : decide (x4_1 < 80) = false := decide_eq_false c5
          clear c5
          have H' := Aside0.mk H
          clear H
          have hcz8_0 : wr.cell? ⟨gb303, 0, none⟩ = some (.slice A0_0 l0_0.length c0_0) := (blk_cell BK303.out 0).trans rfl
          have hcz8_1 : wr.cell? ⟨gb303, 1, none⟩ = some (.slice A0_1 l0_1.length c0_1) := (blk_cell BK303.out 1).trans rfl
          have hcz8_2 : wr.cell? ⟨gb303, 2, none⟩ = some (.slice A0_2 l0_2.length c0_2) := (blk_cell BK303.out 2).trans rfl
          have hcz8_3 : wr.cell? ⟨gb303, 3, none⟩ = some (.slice A0_3 l0_3.length c0_3) := (blk_cell BK303.out 3).trans rfl
          have hcz8_4 : wr.cell? ⟨gb303, 4, none⟩ = some (.slice A0_4 l0_4.length c0_4) := (blk_cell BK303.out 4).trans rfl
          have hfz8_0 := blk_frozen BK303.out 0
          have hfz8_1 := blk_frozen BK303.out 1
          have hfz8_2 := blk_frozen BK303.out 2
          have hfz8_3 := blk_frozen BK303.out 3
          have hfz8_4 := blk_frozen BK303.out 4
          go_wp2
          repeat (go_quiet (fail); try go_wp2)
          go_meet
          case rel => exact ⟨_, (x3_1), (by first | rfl | (simp; done) | (simp [*]; done)), H', ⟨by have := HK1.out; first | omega | exact Nat.le_refl _⟩, ⟨k_ BK303⟩, ⟨b_ HB⟩⟩
        rw [if_pos c5] at H
        have c5b0 : decide (x4_1 < 80) = true := decide_eq_true c5
        clear c5
        by_cases c6 : 0 ≤ x4_1
        rotate_left
        · rw [if_neg c6] at H
          exact absurd H (by simp)
        rw [if_pos c6] at H
        have c6b0 : decide (0 ≤ x4_1) = true := decide_eq_true c6
        clear c6
        have H' := Aside0.mk H
        clear H
        have hcz7_0 : wr.cell? ⟨gb303, 0, none⟩ = some (.slice A0_0 l0_0.length c0_0) := (blk_cell BK303.out 0).trans rfl
        have hcz7_1 : wr.cell? ⟨gb303, 1, none⟩ = some (.slice A0_1 l0_1.length c0_1) := (blk_cell BK303.out 1).trans rfl
        have hcz7_2 : wr.cell? ⟨gb303, 2, none⟩ = some (.slice A0_2 l0_2.length c0_2) := (blk_cell BK303.out 2).trans rfl
        have hcz7_3 : wr.cell? ⟨gb303, 3, none⟩ = some (.slice A0_3 l0_3.length c0_3) := (blk_cell BK303.out 3).trans rfl
        have hcz7_4 : wr.cell? ⟨gb303, 4, none⟩ = some (.slice A0_4 l0_4.length c0_4) := (blk_cell BK303.out 4).trans rfl
        have hfz7_0 := blk_frozen BK303.out 0
        have hfz7_1 := blk_frozen BK303.out 1
        have hfz7_2 := blk_frozen BK303.out 2
        have hfz7_3 := blk_frozen BK303.out 3
        have hfz7_4 := blk_frozen BK303.out 4
        have p304 : 0 ≤ (x4_1 : Int) := of_decide_eq_true (by first | (with_reducible assumption) | assumption)
        have q304 : x4_1 < (l0_1.length : Int) := of_decide_eq_true (by first | (with_reducible assumption) | assumption)
        obtain ⟨ad304, A304_3, c304_3, e304, hx304_0, hx304_1, hx304_2, hx304_3, hl304_3, hi304_3⟩ := at_T91 HR0_1.out x4_1 p304 q304
        cases e304
        replace hx304_0 := (HB.out.cell (World.block_lt_of_cell? w _ hx304_0)).trans hx304_0
        replace hx304_1 := (HB.out.cell (World.block_lt_of_cell? w _ hx304_1)).trans hx304_1
        replace hx304_2 := (HB.out.cell (World.block_lt_of_cell? w _ hx304_2)).trans hx304_2
        replace hx304_3 := (HB.out.cell (World.block_lt_of_cell? w _ hx304_3)).trans hx304_3
        have HR304_3 := Aside0.mk hi304_3
        have HC304_3 := Aside0.mk hl304_3
        clear hi304_3 hl304_3
        replace p304 := eq_true p304
        replace q304 := eq_true q304
        go_wp2
        repeat (go_quiet (fail); try go_wp2)
        go_roundg k1
        case measure => have := HK1.out; omega
        case rel => exact ⟨(wrap64 (x3_1 + (((rd_T91 l0_1 x4_1).f3).length : Int))), (wrap64 (x4_1 + 1)), (by first | rfl | (simp; done) | (simp [*]; done)), (by first | rfl | (simp; done) | (simp [*]; done)), H', ⟨by have := HK1.out; omega⟩, ⟨k_ BK303⟩, ⟨b_ HB⟩⟩
  case rest =>
    clear HC2
    obtain ⟨kq, x3_1, rfl, HA, HJ1, BK303, HB⟩ := hcut
    cases kq with
    | zero => exact absurd HA.out (by simp [chalklineref03_Few.j1])
    | succ kj1 =>
      have H := HA.out
      clear HA
      simp only [chalklineref03_Few.j1] at H
      have HC10 := Aside0.mk H
      clear H
      go_upto_block 2 with (fail)
      repeat (go_quiet (fail); go_upto_block 2 with (fail))
      go_cut [3] (fun v3 wc => ∃ (kq : Nat) (x3_9 : Int), v3 = .int .i64 x3_9 ∧ Aside0 (chalklineref03_Few.j3 kq x3_9 l0_0 l0_1 l0_2 l0_3 l0_4 = some r) ∧ Aside0 (kq ≤ kj1) ∧ Aside0 (wc.heap[gb303]? = some (.cells #[(.slice A0_0 l0_0.length c0_0), (.slice A0_1 l0_1.length c0_1), (.slice A0_2 l0_2.length c0_2), (.slice A0_3 l0_3.length c0_3), (.slice A0_4 l0_4.length c0_4)] 45 (0, 0))) ∧ Aside0 (Below w.heap.size w wc))
      case first =>
        have H := HC10.out
        clear HC10
        have H' := Aside0.mk H
        clear H
        go_wp2
        repeat (go_quiet (fail); try go_wp2)
        go_loopg [3, 5] kj1 (fun kq v3 v5 w' => ∃ (x3_2 : Int) (x5_2 : Int), v3 = .int .i64 x3_2 ∧ v5 = .int .i64 x5_2 ∧ Aside0 (chalklineref03_Few.l1 kq x3_2 x5_2 l0_0 l0_1 l0_2 l0_3 l0_4 = some r) ∧ Aside0 (kq ≤ kj1) ∧ Aside0 (w'.heap[gb303]? = some (.cells #[(.slice A0_0 l0_0.length c0_0), (.slice A0_1 l0_1.length c0_1), (.slice A0_2 l0_2.length c0_2), (.slice A0_3 l0_3.length c0_3), (.slice A0_4 l0_4.length c0_4)] 45 (0, 0))) ∧ Aside0 (Below w.heap.size w w'))
        case atStart => exact ⟨(x3_1), (0), (by first | rfl | (simp; done) | (simp [*]; done)), (by first | rfl | (simp; done) | (simp [*]; done)), H', ⟨Nat.le_refl _⟩, ⟨k_ BK303⟩, ⟨b_ HB⟩⟩
        case round =>
          clear H'
          obtain ⟨x3_2, x5_2, rfl, rfl, HA, HK2, BK303, HB⟩ := hrel
          cases gk with
          | zero => exact absurd HA.out (by simp [chalklineref03_Few.l1])
          | succ k2 =>
            have H := HA.out
            clear HA
            simp only [chalklineref03_Few.l1] at H
            by_cases c11 : x5_2 < (l0_2.length : Int)
            rotate_left
            · rw [if_neg c11] at H
              have c11b0 : decide (x5_2 < (l0_2.length : Int)) = false := decide_eq_false c11
              clear c11
              (first | rw [c11b0] | (simp only [i64_w, i32_w]; rw [c11b0]) | skip)
              have H' := Aside0.mk H
              clear H
              have hcz16_0 : wr.cell? ⟨gb303, 0, none⟩ = some (.slice A0_0 l0_0.length c0_0) := (blk_cell BK303.out 0).trans rfl
              have hcz16_1 : wr.cell? ⟨gb303, 1, none⟩ = some (.slice A0_1 l0_1.length c0_1) := (blk_cell BK303.out 1).trans rfl
              have hcz16_2 : wr.cell? ⟨gb303, 2, none⟩ = some (.slice A0_2 l0_2.length c0_2) := (blk_cell BK303.out 2).trans rfl
              have hcz16_3 : wr.cell? ⟨gb303, 3, none⟩ = some (.slice A0_3 l0_3.length c0_3) := (blk_cell BK303.out 3).trans rfl
              have hcz16_4 : wr.cell? ⟨gb303, 4, none⟩ = some (.slice A0_4 l0_4.length c0_4) := (blk_cell BK303.out 4).trans rfl
              have hfz16_0 := blk_frozen BK303.out 0
              have hfz16_1 := blk_frozen BK303.out 1
              have hfz16_2 := blk_frozen BK303.out 2
              have hfz16_3 := blk_frozen BK303.out 3
              have hfz16_4 := blk_frozen BK303.out 4
              go_wp2
              repeat (go_quiet (fail); try go_wp2)
              go_meet
              case rel => exact ⟨_, (x3_2), (by first | rfl | (simp; done) | (simp [*]; done)), H', ⟨by have := HJ1.out; have := HK2.out; first | omega | exact Nat.le_refl _⟩, ⟨k_ BK303⟩, ⟨b_ HB⟩⟩
            rw [if_pos c11] at H
            have c11b0 : decide (x5_2 < (l0_2.length : Int)) = true := decide_eq_true c11
            clear c11
            (first | rw [c11b0] | (simp only [i64_w, i32_w]; rw [c11b0]) | skip)
            by_cases c12 : x5_2 < 80
            rotate_left
            · rw [if_neg c12] at H
              have c12b0 : decide (x5_2 < 80) = false := decide_eq_false c12
              clear c12
              have H' := Aside0.mk H
              clear H
              have hcz15_0 : wr.cell? ⟨gb303, 0, none⟩ = some (.slice A0_0 l0_0.length c0_0) := (blk_cell BK303.out 0).trans rfl
              have hcz15_1 : wr.cell? ⟨gb303, 1, none⟩ = some (.slice A0_1 l0_1.length c0_1) := (blk_cell BK303.out 1).trans rfl
              have hcz15_2 : wr.cell? ⟨gb303, 2, none⟩ = some (.slice A0_2 l0_2.length c0_2) := (blk_cell BK303.out 2).trans rfl
              have hcz15_3 : wr.cell? ⟨gb303, 3, none⟩ = some (.slice A0_3 l0_3.length c0_3) := (blk_cell BK303.out 3).trans rfl
              have hcz15_4 : wr.cell? ⟨gb303, 4, none⟩ = some (.slice A0_4 l0_4.length c0_4) := (blk_cell BK303.out 4).trans rfl
              have hfz15_0 := blk_frozen BK303.out 0
              have hfz15_1 := blk_frozen BK303.out 1
              have hfz15_2 := blk_frozen BK303.out 2
              have hfz15_3 := blk_frozen BK303.out 3
              have hfz15_4 := blk_frozen BK303.out 4
              go_wp2
              repeat (go_quiet (fail); try go_wp2)
              go_meet
              case rel => exact ⟨_, (x3_2), (by first | rfl | (simp; done) | (simp [*]; done)), H', ⟨by have := HJ1.out; have := HK2.out; first | omega | exact Nat.le_refl _⟩, ⟨k_ BK303⟩, ⟨b_ HB⟩⟩
            rw [if_pos c12] at H
            have c12b0 : decide (x5_2 < 80) = true := decide_eq_true c12
            clear c12
            by_cases c13 : 0 ≤ x5_2
            rotate_left
            · rw [if_neg c13] at H
              exact absurd H (by simp)
            rw [if_pos c13] at H
            have c13b0 : decide (0 ≤ x5_2) = true := decide_eq_true c13
            clear c13
            have H' := Aside0.mk H
            clear H
            have hcz14_0 : wr.cell? ⟨gb303, 0, none⟩ = some (.slice A0_0 l0_0.length c0_0) := (blk_cell BK303.out 0).trans rfl
            have hcz14_1 : wr.cell? ⟨gb303, 1, none⟩ = some (.slice A0_1 l0_1.length c0_1) := (blk_cell BK303.out 1).trans rfl
            have hcz14_2 : wr.cell? ⟨gb303, 2, none⟩ = some (.slice A0_2 l0_2.length c0_2) := (blk_cell BK303.out 2).trans rfl
            have hcz14_3 : wr.cell? ⟨gb303, 3, none⟩ = some (.slice A0_3 l0_3.length c0_3) := (blk_cell BK303.out 3).trans rfl
            have hcz14_4 : wr.cell? ⟨gb303, 4, none⟩ = some (.slice A0_4 l0_4.length c0_4) := (blk_cell BK303.out 4).trans rfl
            have hfz14_0 := blk_frozen BK303.out 0
            have hfz14_1 := blk_frozen BK303.out 1
            have hfz14_2 := blk_frozen BK303.out 2
            have hfz14_3 := blk_frozen BK303.out 3
            have hfz14_4 := blk_frozen BK303.out 4
            have p305 : 0 ≤ (x5_2 : Int) := of_decide_eq_true (by first | (with_reducible assumption) | assumption)
            have q305 : x5_2 < (l0_2.length : Int) := of_decide_eq_true (by first | (with_reducible assumption) | assumption)
            obtain ⟨ad305, A305_1, c305_1, e305, hx305_0, hx305_1, hl305_1, hi305_1⟩ := at_T95 HR0_2.out x5_2 p305 q305
            cases e305
            replace hx305_0 := (HB.out.cell (World.block_lt_of_cell? w _ hx305_0)).trans hx305_0
            replace hx305_1 := (HB.out.cell (World.block_lt_of_cell? w _ hx305_1)).trans hx305_1
            have HR305_1 := Aside0.mk hi305_1
            have HC305_1 := Aside0.mk hl305_1
            clear hi305_1 hl305_1
            replace p305 := eq_true p305
            replace q305 := eq_true q305
            go_wp2
            repeat (go_quiet (fail); try go_wp2)
            go_roundg k2
            case measure => have := HJ1.out; have := HK2.out; omega
            case rel => exact ⟨(wrap64 (x3_2 + (((rd_T95 l0_2 x5_2).f1).length : Int))), (wrap64 (x5_2 + 1)), (by first | rfl | (simp; done) | (simp [*]; done)), (by first | rfl | (simp; done) | (simp [*]; done)), H', ⟨by have := HJ1.out; have := HK2.out; omega⟩, ⟨k_ BK303⟩, ⟨b_ HB⟩⟩
      case rest =>
        clear HC10
        obtain ⟨kq, x3_9, rfl, HA, HJ9, BK303, HB⟩ := hcut
        cases kq with
        | zero => exact absurd HA.out (by simp [chalklineref03_Few.j3])
        | succ kj9 =>
          have H := HA.out
          clear HA
          simp only [chalklineref03_Few.j3] at H
          have HC17 := Aside0.mk H
          clear H
          go_upto_block 4 with (fail)
          repeat (go_quiet (fail); go_upto_block 4 with (fail))
          go_cut [3] (fun v3 wc => ∃ (kq : Nat) (x3_16 : Int), v3 = .int .i64 x3_16 ∧ Aside0 (chalklineref03_Few.j5 kq x3_16 l0_0 l0_1 l0_2 l0_3 l0_4 = some r) ∧ Aside0 (kq ≤ kj9) ∧ Aside0 (wc.heap[gb303]? = some (.cells #[(.slice A0_0 l0_0.length c0_0), (.slice A0_1 l0_1.length c0_1), (.slice A0_2 l0_2.length c0_2), (.slice A0_3 l0_3.length c0_3), (.slice A0_4 l0_4.length c0_4)] 45 (0, 0))) ∧ Aside0 (Below w.heap.size w wc))
          case first =>
            have H := HC17.out
            clear HC17
            have H' := Aside0.mk H
            clear H
            go_wp2
            repeat (go_quiet (fail); try go_wp2)
            go_loopg [3, 6] kj9 (fun kq v3 v6 w' => ∃ (x3_3 : Int) (x6_3 : Int), v3 = .int .i64 x3_3 ∧ v6 = .int .i64 x6_3 ∧ Aside0 (chalklineref03_Few.l2 kq x3_3 x6_3 l0_0 l0_1 l0_2 l0_3 l0_4 = some r) ∧ Aside0 (kq ≤ kj9) ∧ Aside0 (w'.heap[gb303]? = some (.cells #[(.slice A0_0 l0_0.length c0_0), (.slice A0_1 l0_1.length c0_1), (.slice A0_2 l0_2.length c0_2), (.slice A0_3 l0_3.length c0_3), (.slice A0_4 l0_4.length c0_4)] 45 (0, 0))) ∧ Aside0 (Below w.heap.size w w'))
            case atStart => exact ⟨(x3_9), (0), (by first | rfl | (simp; done) | (simp [*]; done)), (by first | rfl | (simp; done) | (simp [*]; done)), H', ⟨Nat.le_refl _⟩, ⟨k_ BK303⟩, ⟨b_ HB⟩⟩
            case round =>
              clear H'
              obtain ⟨x3_3, x6_3, rfl, rfl, HA, HK3, BK303, HB⟩ := hrel
              cases gk with
              | zero => exact absurd HA.out (by simp [chalklineref03_Few.l2])
              | succ k3 =>
                have H := HA.out
                clear HA
                simp only [chalklineref03_Few.l2] at H
                by_cases c18 : x6_3 < (l0_4.length : Int)
                rotate_left
                · rw [if_neg c18] at H
                  have c18b0 : decide (x6_3 < (l0_4.length : Int)) = false := decide_eq_false c18
                  clear c18
                  (first | rw [c18b0] | (simp only [i64_w, i32_w]; rw [c18b0]) | skip)
                  have H' := Aside0.mk H
                  clear H
                  have hcz23_0 : wr.cell? ⟨gb303, 0, none⟩ = some (.slice A0_0 l0_0.length c0_0) := (blk_cell BK303.out 0).trans rfl
                  have hcz23_1 : wr.cell? ⟨gb303, 1, none⟩ = some (.slice A0_1 l0_1.length c0_1) := (blk_cell BK303.out 1).trans rfl
                  have hcz23_2 : wr.cell? ⟨gb303, 2, none⟩ = some (.slice A0_2 l0_2.length c0_2) := (blk_cell BK303.out 2).trans rfl
                  have hcz23_3 : wr.cell? ⟨gb303, 3, none⟩ = some (.slice A0_3 l0_3.length c0_3) := (blk_cell BK303.out 3).trans rfl
                  have hcz23_4 : wr.cell? ⟨gb303, 4, none⟩ = some (.slice A0_4 l0_4.length c0_4) := (blk_cell BK303.out 4).trans rfl
                  have hfz23_0 := blk_frozen BK303.out 0
                  have hfz23_1 := blk_frozen BK303.out 1
                  have hfz23_2 := blk_frozen BK303.out 2
                  have hfz23_3 := blk_frozen BK303.out 3
                  have hfz23_4 := blk_frozen BK303.out 4
                  go_wp2
                  repeat (go_quiet (fail); try go_wp2)
                  go_meet
                  case rel => exact ⟨_, (x3_3), (by first | rfl | (simp; done) | (simp [*]; done)), H', ⟨by have := HJ1.out; have := HJ9.out; have := HK3.out; first | omega | exact Nat.le_refl _⟩, ⟨k_ BK303⟩, ⟨b_ HB⟩⟩
                rw [if_pos c18] at H
                have c18b0 : decide (x6_3 < (l0_4.length : Int)) = true := decide_eq_true c18
                clear c18
                (first | rw [c18b0] | (simp only [i64_w, i32_w]; rw [c18b0]) | skip)
                by_cases c19 : x6_3 < 80
                rotate_left
                · rw [if_neg c19] at H
                  have c19b0 : decide (x6_3 < 80) = false := decide_eq_false c19
                  clear c19
                  have H' := Aside0.mk H
                  clear H
                  have hcz22_0 : wr.cell? ⟨gb303, 0, none⟩ = some (.slice A0_0 l0_0.length c0_0) := (blk_cell BK303.out 0).trans rfl
                  have hcz22_1 : wr.cell? ⟨gb303, 1, none⟩ = some (.slice A0_1 l0_1.length c0_1) := (blk_cell BK303.out 1).trans rfl
                  have hcz22_2 : wr.cell? ⟨gb303, 2, none⟩ = some (.slice A0_2 l0_2.length c0_2) := (blk_cell BK303.out 2).trans rfl
                  have hcz22_3 : wr.cell? ⟨gb303, 3, none⟩ = some (.slice A0_3 l0_3.length c0_3) := (blk_cell BK303.out 3).trans rfl
                  have hcz22_4 : wr.cell? ⟨gb303, 4, none⟩ = some (.slice A0_4 l0_4.length c0_4) := (blk_cell BK303.out 4).trans rfl
                  have hfz22_0 := blk_frozen BK303.out 0
                  have hfz22_1 := blk_frozen BK303.out 1
                  have hfz22_2 := blk_frozen BK303.out 2
                  have hfz22_3 := blk_frozen BK303.out 3
                  have hfz22_4 := blk_frozen BK303.out 4
                  go_wp2
                  repeat (go_quiet (fail); try go_wp2)
                  go_meet
                  case rel => exact ⟨_, (x3_3), (by first | rfl | (simp; done) | (simp [*]; done)), H', ⟨by have := HJ1.out; have := HJ9.out; have := HK3.out; first | omega | exact Nat.le_refl _⟩, ⟨k_ BK303⟩, ⟨b_ HB⟩⟩
                rw [if_pos c19] at H
                have c19b0 : decide (x6_3 < 80) = true := decide_eq_true c19
                clear c19
                by_cases c20 : 0 ≤ x6_3
                rotate_left
                · rw [if_neg c20] at H
                  exact absurd H (by simp)
                rw [if_pos c20] at H
                have c20b0 : decide (0 ≤ x6_3) = true := decide_eq_true c20
                clear c20
                have H' := Aside0.mk H
                clear H
                have hcz21_0 : wr.cell? ⟨gb303, 0, none⟩ = some (.slice A0_0 l0_0.length c0_0) := (blk_cell BK303.out 0).trans rfl
                have hcz21_1 : wr.cell? ⟨gb303, 1, none⟩ = some (.slice A0_1 l0_1.length c0_1) := (blk_cell BK303.out 1).trans rfl
                have hcz21_2 : wr.cell? ⟨gb303, 2, none⟩ = some (.slice A0_2 l0_2.length c0_2) := (blk_cell BK303.out 2).trans rfl
                have hcz21_3 : wr.cell? ⟨gb303, 3, none⟩ = some (.slice A0_3 l0_3.length c0_3) := (blk_cell BK303.out 3).trans rfl
                have hcz21_4 : wr.cell? ⟨gb303, 4, none⟩ = some (.slice A0_4 l0_4.length c0_4) := (blk_cell BK303.out 4).trans rfl
                have hfz21_0 := blk_frozen BK303.out 0
                have hfz21_1 := blk_frozen BK303.out 1
                have hfz21_2 := blk_frozen BK303.out 2
                have hfz21_3 := blk_frozen BK303.out 3
                have hfz21_4 := blk_frozen BK303.out 4
                have p306 : 0 ≤ (x6_3 : Int) := of_decide_eq_true (by first | (with_reducible assumption) | assumption)
                have q306 : x6_3 < (l0_4.length : Int) := of_decide_eq_true (by first | (with_reducible assumption) | assumption)
                obtain ⟨ad306, A306_1, c306_1, A306_2, c306_2, e306, hx306_0, hx306_1, hx306_2, hl306_1, hi306_1, hl306_2, hi306_2⟩ := at_T101 HR0_4.out x6_3 p306 q306
                cases e306
                replace hx306_0 := (HB.out.cell (World.block_lt_of_cell? w _ hx306_0)).trans hx306_0
                replace hx306_1 := (HB.out.cell (World.block_lt_of_cell? w _ hx306_1)).trans hx306_1
                replace hx306_2 := (HB.out.cell (World.block_lt_of_cell? w _ hx306_2)).trans hx306_2
                have HR306_1 := Aside0.mk hi306_1
                have HC306_1 := Aside0.mk hl306_1
                clear hi306_1 hl306_1
                have HR306_2 := Aside0.mk hi306_2
                have HC306_2 := Aside0.mk hl306_2
                clear hi306_2 hl306_2
                replace p306 := eq_true p306
                replace q306 := eq_true q306
                have p307 : 0 ≤ (x6_3 : Int) := of_decide_eq_true (by first | (with_reducible assumption) | assumption)
                have q307 : x6_3 < (l0_4.length : Int) := of_decide_eq_true (by first | (with_reducible assumption) | assumption)
                obtain ⟨ad307, A307_1, c307_1, A307_2, c307_2, e307, hx307_0, hx307_1, hx307_2, hl307_1, hi307_1, hl307_2, hi307_2⟩ := at_T101 HR0_4.out x6_3 p307 q307
                obtain rfl : ad306 = ad307 := (by injection e307)
                replace hx307_0 := (HB.out.cell (World.block_lt_of_cell? w _ hx307_0)).trans hx307_0
                replace hx307_1 := (HB.out.cell (World.block_lt_of_cell? w _ hx307_1)).trans hx307_1
                replace hx307_2 := (HB.out.cell (World.block_lt_of_cell? w _ hx307_2)).trans hx307_2
                have HR307_1 := Aside0.mk hi307_1
                have HC307_1 := Aside0.mk hl307_1
                clear hi307_1 hl307_1
                have HR307_2 := Aside0.mk hi307_2
                have HC307_2 := Aside0.mk hl307_2
                clear hi307_2 hl307_2
                replace p307 := eq_true p307
                replace q307 := eq_true q307
                have ea_ := Option.some.inj (hx306_1.symm.trans hx307_1)
                injection ea_ with ea_ en_ ec_
                subst ea_
                subst ec_
                clear en_
                have ea_ := Option.some.inj (hx306_2.symm.trans hx307_2)
                injection ea_ with ea_ en_ ec_
                subst ea_
                subst ec_
                clear en_
                go_wp2
                repeat (go_quiet (fail); try go_wp2)
                go_roundg k3
                case measure => have := HJ1.out; have := HJ9.out; have := HK3.out; omega
                case rel => exact ⟨(wrap64 ((wrap64 (x3_3 + (((rd_T101 l0_4 x6_3).f1).length : Int))) + (((rd_T101 l0_4 x6_3).f2).length : Int))), (wrap64 (x6_3 + 1)), (by first | rfl | (simp; done) | (simp [*]; done)), (by first | rfl | (simp; done) | (simp [*]; done)), H', ⟨by have := HJ1.out; have := HJ9.out; have := HK3.out; omega⟩, ⟨k_ BK303⟩, ⟨b_ HB⟩⟩
          case rest =>
            clear HC17
            obtain ⟨kq, x3_16, rfl, HA, HJ16, BK303, HB⟩ := hcut
            cases kq with
            | zero => exact absurd HA.out (by simp [chalklineref03_Few.j5])
            | succ kj16 =>
              have H := HA.out
              clear HA
              simp only [chalklineref03_Few.j5] at H
              have H' := Aside0.mk H
              clear H
              go_wp2
              repeat (go_quiet (fail); try go_wp2)
              go_loopg [3, 7] kj16 (fun kq v3 v7 w' => ∃ (x3_4 : Int) (x7_4 : Int), v3 = .int .i64 x3_4 ∧ v7 = .int .i64 x7_4 ∧ Aside0 (chalklineref03_Few.l3 kq x3_4 x7_4 l0_0 l0_1 l0_2 l0_3 l0_4 = some r) ∧ Aside0 (kq ≤ kj16) ∧ Aside0 (w'.heap[gb303]? = some (.cells #[(.slice A0_0 l0_0.length c0_0), (.slice A0_1 l0_1.length c0_1), (.slice A0_2 l0_2.length c0_2), (.slice A0_3 l0_3.length c0_3), (.slice A0_4 l0_4.length c0_4)] 45 (0, 0))) ∧ Aside0 (Below w.heap.size w w'))
              case atStart => exact ⟨(x3_16), (1), (by first | rfl | (simp; done) | (simp [*]; done)), (by first | rfl | (simp; done) | (simp [*]; done)), H', ⟨Nat.le_refl _⟩, ⟨k_ BK303⟩, ⟨b_ HB⟩⟩
              case round =>
                clear H'
                obtain ⟨x3_4, x7_4, rfl, rfl, HA, HK4, BK303, HB⟩ := hrel
                cases gk with
                | zero => exact absurd HA.out (by simp [chalklineref03_Few.l3])
                | succ k4 =>
                  have H := HA.out
                  clear HA
                  simp only [chalklineref03_Few.l3] at H
                  by_cases c24 : x7_4 ≤ 5
                  rotate_left
                  · rw [if_neg c24] at H
                    have c24b0 : decide (x7_4 ≤ 5) = false := decide_eq_false c24
                    clear c24
                    obtain rfl := Option.some.inj H
                    go_wp2
                    repeat (go_quiet (fail); try go_wp2)
                    go_ret
                    exact ⟨by first | rfl | (simp [errW_none, errW_some] <;> rfl) | (simp [*, errW_none, errW_some] <;> rfl), b_ HB⟩
                  rw [if_pos c24] at H
                  have c24b0 : decide (x7_4 ≤ 5) = true := decide_eq_true c24
                  clear c24
                  replace H := Option.bind_eq_some_iff.mp H
                  obtain ⟨t308, A250, H⟩ := H
                  replace H : (chalklineref03_Few.l4 k4 x3_4 x7_4 t308 0 l0_0 l0_1 l0_2 l0_3 l0_4) = some r := H
                  have A25 := Aside0.mk A250
                  clear A250
                  have H' := Aside0.mk H
                  clear H
                  have hcz26_0 : wr.cell? ⟨gb303, 0, none⟩ = some (.slice A0_0 l0_0.length c0_0) := (blk_cell BK303.out 0).trans rfl
                  have hcz26_1 : wr.cell? ⟨gb303, 1, none⟩ = some (.slice A0_1 l0_1.length c0_1) := (blk_cell BK303.out 1).trans rfl
                  have hcz26_2 : wr.cell? ⟨gb303, 2, none⟩ = some (.slice A0_2 l0_2.length c0_2) := (blk_cell BK303.out 2).trans rfl
                  have hcz26_3 : wr.cell? ⟨gb303, 3, none⟩ = some (.slice A0_3 l0_3.length c0_3) := (blk_cell BK303.out 3).trans rfl
                  have hcz26_4 : wr.cell? ⟨gb303, 4, none⟩ = some (.slice A0_4 l0_4.length c0_4) := (blk_cell BK303.out 4).trans rfl
                  have hfz26_0 := blk_frozen BK303.out 0
                  have hfz26_1 := blk_frozen BK303.out 1
                  have hfz26_2 := blk_frozen BK303.out 2
                  have hfz26_3 := blk_frozen BK303.out 3
                  have hfz26_4 := blk_frozen BK303.out 4
                  go_wp2_with (first | (go_at_call 60; (with_reducible refine (chalklineref03_Names.calls k4 _ _ l0_0 _ _ l0_1 _ _ l0_2 _ _ l0_3 _ _ l0_4 x7_4 t308 _ ?side1 ?side2 ?side3 ?side4 ?side5 ?side6 ?side7 ?side8 ?side9 ?side10 A25.out).mono ?_); (case side1 => repeat (first | exact (Kd.C_below HR0_0.out HB.out) | (with_reducible refine Kd.C_alloc ?_ _) | (with_reducible refine Kd.C_drewN ?_ _) | (with_reducible refine Kd.C_drew ?_))); (case side2 => exact HC0_0.out); (case side3 => repeat (first | exact (Kd.C_below HR0_1.out HB.out) | (with_reducible refine Kd.C_alloc ?_ _) | (with_reducible refine Kd.C_drewN ?_ _) | (with_reducible refine Kd.C_drew ?_))); (case side4 => exact HC0_1.out); (case side5 => repeat (first | exact (Kd.C_below HR0_2.out HB.out) | (with_reducible refine Kd.C_alloc ?_ _) | (with_reducible refine Kd.C_drewN ?_ _) | (with_reducible refine Kd.C_drew ?_))); (case side6 => exact HC0_2.out); (case side7 => repeat (first | exact (Kd.C_below HR0_3.out HB.out) | (with_reducible refine Kd.C_alloc ?_ _) | (with_reducible refine Kd.C_drewN ?_ _) | (with_reducible refine Kd.C_drew ?_))); (case side8 => exact HC0_3.out); (case side9 => repeat (first | exact (Kd.C_below HR0_4.out HB.out) | (with_reducible refine Kd.C_alloc ?_ _) | (with_reducible refine Kd.C_drewN ?_ _) | (with_reducible refine Kd.C_drew ?_))); (case side10 => exact HC0_4.out); rintro e w27 ⟨v309, rfl, ho0, hb⟩; have n0_ := Aside0.mk (Kd.R_lower ho0 (below_size (b_ HB))); have n1_ := Aside0.mk (blk_below (k_ BK303) hb); have n2_ := Aside0.mk (below_step (b_ HB) hb); clear BK303; clear HB; have HO310 := n0_; have BK303 := n1_; have HB := n2_; clear n0_ n1_ n2_; (try clear hb); (try clear hb2); (try clear hk); (try clear hi); (try clear ho0)))
                  repeat (go_quiet (first | (go_at_call 60; (with_reducible refine (chalklineref03_Names.calls k4 _ _ l0_0 _ _ l0_1 _ _ l0_2 _ _ l0_3 _ _ l0_4 x7_4 t308 _ ?side1 ?side2 ?side3 ?side4 ?side5 ?side6 ?side7 ?side8 ?side9 ?side10 A25.out).mono ?_); (case side1 => repeat (first | exact (Kd.C_below HR0_0.out HB.out) | (with_reducible refine Kd.C_alloc ?_ _) | (with_reducible refine Kd.C_drewN ?_ _) | (with_reducible refine Kd.C_drew ?_))); (case side2 => exact HC0_0.out); (case side3 => repeat (first | exact (Kd.C_below HR0_1.out HB.out) | (with_reducible refine Kd.C_alloc ?_ _) | (with_reducible refine Kd.C_drewN ?_ _) | (with_reducible refine Kd.C_drew ?_))); (case side4 => exact HC0_1.out); (case side5 => repeat (first | exact (Kd.C_below HR0_2.out HB.out) | (with_reducible refine Kd.C_alloc ?_ _) | (with_reducible refine Kd.C_drewN ?_ _) | (with_reducible refine Kd.C_drew ?_))); (case side6 => exact HC0_2.out); (case side7 => repeat (first | exact (Kd.C_below HR0_3.out HB.out) | (with_reducible refine Kd.C_alloc ?_ _) | (with_reducible refine Kd.C_drewN ?_ _) | (with_reducible refine Kd.C_drew ?_))); (case side8 => exact HC0_3.out); (case side9 => repeat (first | exact (Kd.C_below HR0_4.out HB.out) | (with_reducible refine Kd.C_alloc ?_ _) | (with_reducible refine Kd.C_drewN ?_ _) | (with_reducible refine Kd.C_drew ?_))); (case side10 => exact HC0_4.out); rintro e w27 ⟨v309, rfl, ho0, hb⟩; have n0_ := Aside0.mk (Kd.R_lower ho0 (below_size (b_ HB))); have n1_ := Aside0.mk (blk_below (k_ BK303) hb); have n2_ := Aside0.mk (below_step (b_ HB) hb); clear BK303; clear HB; have HO310 := n0_; have BK303 := n1_; have HB := n2_; clear n0_ n1_ n2_; (try clear hb); (try clear hb2); (try clear hk); (try clear hi); (try clear ho0))); try go_wp2_with (first | (go_at_call 60; (with_reducible refine (chalklineref03_Names.calls k4 _ _ l0_0 _ _ l0_1 _ _ l0_2 _ _ l0_3 _ _ l0_4 x7_4 t308 _ ?side1 ?side2 ?side3 ?side4 ?side5 ?side6 ?side7 ?side8 ?side9 ?side10 A25.out).mono ?_); (case side1 => repeat (first | exact (Kd.C_below HR0_0.out HB.out) | (with_reducible refine Kd.C_alloc ?_ _) | (with_reducible refine Kd.C_drewN ?_ _) | (with_reducible refine Kd.C_drew ?_))); (case side2 => exact HC0_0.out); (case side3 => repeat (first | exact (Kd.C_below HR0_1.out HB.out) | (with_reducible refine Kd.C_alloc ?_ _) | (with_reducible refine Kd.C_drewN ?_ _) | (with_reducible refine Kd.C_drew ?_))); (case side4 => exact HC0_1.out); (case side5 => repeat (first | exact (Kd.C_below HR0_2.out HB.out) | (with_reducible refine Kd.C_alloc ?_ _) | (with_reducible refine Kd.C_drewN ?_ _) | (with_reducible refine Kd.C_drew ?_))); (case side6 => exact HC0_2.out); (case side7 => repeat (first | exact (Kd.C_below HR0_3.out HB.out) | (with_reducible refine Kd.C_alloc ?_ _) | (with_reducible refine Kd.C_drewN ?_ _) | (with_reducible refine Kd.C_drew ?_))); (case side8 => exact HC0_3.out); (case side9 => repeat (first | exact (Kd.C_below HR0_4.out HB.out) | (with_reducible refine Kd.C_alloc ?_ _) | (with_reducible refine Kd.C_drewN ?_ _) | (with_reducible refine Kd.C_drew ?_))); (case side10 => exact HC0_4.out); rintro e w27 ⟨v309, rfl, ho0, hb⟩; have n0_ := Aside0.mk (Kd.R_lower ho0 (below_size (b_ HB))); have n1_ := Aside0.mk (blk_below (k_ BK303) hb); have n2_ := Aside0.mk (below_step (b_ HB) hb); clear BK303; clear HB; have HO310 := n0_; have BK303 := n1_; have HB := n2_; clear n0_ n1_ n2_; (try clear hb); (try clear hb2); (try clear hk); (try clear hi); (try clear ho0))))
                  go_loopg [3, 9] k4 (fun kq v3 v9 w' => ∃ (x3_5 : Int) (x9_5 : Int), v3 = .int .i64 x3_5 ∧ v9 = .int .i64 x9_5 ∧ Aside0 (chalklineref03_Few.l4 kq x3_5 x7_4 t308 x9_5 l0_0 l0_1 l0_2 l0_3 l0_4 = some r) ∧ Aside0 (kq ≤ k4) ∧ Aside0 (Kd.R Kd.string 9 w' w.heap.size (fun _ => True) v309 t308) ∧ Aside0 (w'.heap[gb303]? = some (.cells #[(.slice A0_0 l0_0.length c0_0), (.slice A0_1 l0_1.length c0_1), (.slice A0_2 l0_2.length c0_2), (.slice A0_3 l0_3.length c0_3), (.slice A0_4 l0_4.length c0_4)] 45 (0, 0))) ∧ Aside0 (Below w.heap.size w w'))
                  case atStart => exact ⟨(x3_4), (0), (by first | rfl | (simp; done) | (simp [*]; done)), (by first | rfl | (simp; done) | (simp [*]; done)), H', ⟨Nat.le_refl _⟩, ⟨by (with_reducible repeat (first | apply Kd.R_alloc | apply Kd.R_drewN | apply Kd.R_drew)); exact HO310.out⟩, ⟨k_ BK303⟩, ⟨b_ HB⟩⟩
                  case round =>
                    clear H'
                    (try clear c24); (try clear c24b0); (try clear hcz26_0); (try clear hcz26_1); (try clear hcz26_2); (try clear hcz26_3); (try clear hcz26_4); (try clear hfz26_0); (try clear hfz26_1); (try clear hfz26_2); (try clear hfz26_3); (try clear hfz26_4)
                    obtain ⟨x3_5, x9_5, rfl, rfl, HA, HK5, HO_8, BK303, HB⟩ := hrel
                    cases gk with
                    | zero => exact absurd HA.out (by simp [chalklineref03_Few.l4])
                    | succ k5 =>
                      have H := HA.out
                      clear HA
                      simp only [chalklineref03_Few.l4] at H
                      by_cases c28 : x9_5 < (t308.length : Int)
                      rotate_left
                      · rw [if_neg c28] at H
                        have c28b0 : decide (x9_5 < (t308.length : Int)) = false := decide_eq_false c28
                        clear c28
                        by_cases c35 : (t308.length : Int) > 80
                        · rw [if_pos c35] at H
                          have c35b0 : decide (80 < (t308.length : Int)) = true := decide_eq_true c35
                          have c35b1 : decide (80 < t308.length) = true := decide_eq_true (by omega)
                          clear c35
                          obtain rfl := Option.some.inj H
                          obtain ⟨Ao36, co36, eo36⟩ := Kd.R_slice HO_8.out
                          subst eo36
                          go_wp2
                          repeat (go_quiet (fail); try go_wp2)
                          go_ret
                          exact ⟨by first | rfl | (simp [errW_none, errW_some] <;> rfl) | (simp [*, errW_none, errW_some] <;> rfl), b_ HB⟩
                        rw [if_neg c35] at H
                        have c35b0 : decide (80 < (t308.length : Int)) = false := decide_eq_false c35
                        have c35b1 : decide (80 < t308.length) = false := decide_eq_false (by omega)
                        clear c35
                        have H' := Aside0.mk H
                        clear H
                        obtain ⟨Ao37, co37, eo37⟩ := Kd.R_slice HO_8.out
                        subst eo37
                        go_wp2
                        repeat (go_quiet (fail); try go_wp2)
                        go_roundg k5
                        case measure => have := HJ1.out; have := HJ9.out; have := HJ16.out; have := HK4.out; have := HK5.out; omega
                        case rel => exact ⟨(x3_5), (wrap64 (x7_4 + 1)), (by first | rfl | (simp; done) | (simp [*]; done)), (by first | rfl | (simp; done) | (simp [*]; done)), H', ⟨by have := HJ1.out; have := HJ9.out; have := HJ16.out; have := HK4.out; have := HK5.out; omega⟩, ⟨k_ BK303⟩, ⟨b_ HB⟩⟩
                      rw [if_pos c28] at H
                      have c28b0 : decide (x9_5 < (t308.length : Int)) = true := decide_eq_true c28
                      clear c28
                      by_cases c29 : x9_5 < 80
                      · rw [if_pos c29] at H
                        have c29b0 : decide (x9_5 < 80) = true := decide_eq_true c29
                        clear c29
                        by_cases c30 : 0 ≤ x9_5
                        rotate_left
                        · rw [if_neg c30] at H
                          exact absurd H (by simp)
                        rw [if_pos c30] at H
                        have c30b0 : decide (0 ≤ x9_5) = true := decide_eq_true c30
                        clear c30
                        have H' := Aside0.mk H
                        clear H
                        obtain ⟨Ao31, co31, eo31⟩ := Kd.R_slice HO_8.out
                        subst eo31
                        have p311 : 0 ≤ (x9_5 : Int) := of_decide_eq_true (by first | (with_reducible assumption) | assumption)
                        have q311 : x9_5 < (t308.length : Int) := of_decide_eq_true (by first | (with_reducible assumption) | assumption)
                        obtain ⟨ad311, e311, hx311_0⟩ := Kd.at_string (Kd.R_reads' HO_8.out).2.2 x9_5 p311 q311
                        cases e311
                        replace p311 := eq_true p311
                        replace q311 := eq_true q311
                        go_wp2
                        repeat (go_quiet (fail); try go_wp2)
                        go_roundg k5
                        case measure => have := HJ1.out; have := HJ9.out; have := HJ16.out; have := HK4.out; have := HK5.out; omega
                        case rel => exact ⟨(wrap64 (x3_5 + ((rdOf ByteArray.empty t308 x9_5).size : Int))), (wrap64 (x9_5 + 1)), (by first | rfl | (simp; done) | (simp [*]; done)), (by first | rfl | (simp; done) | (simp [*]; done)), H', ⟨by have := HJ1.out; have := HJ9.out; have := HJ16.out; have := HK4.out; have := HK5.out; omega⟩, ⟨by (with_reducible repeat (first | apply Kd.R_alloc | apply Kd.R_drewN | apply Kd.R_drew)); exact HO_8.out⟩, ⟨k_ BK303⟩, ⟨b_ HB⟩⟩
                      rw [if_neg c29] at H
                      have c29b0 : decide (x9_5 < 80) = false := decide_eq_false c29
                      clear c29
                      by_cases c32 : (t308.length : Int) > 80
                      · rw [if_pos c32] at H
                        have c32b0 : decide (80 < (t308.length : Int)) = true := decide_eq_true c32
                        have c32b1 : decide (80 < t308.length) = true := decide_eq_true (by omega)
                        clear c32
                        obtain rfl := Option.some.inj H
                        obtain ⟨Ao33, co33, eo33⟩ := Kd.R_slice HO_8.out
                        subst eo33
                        go_wp2
                        repeat (go_quiet (fail); try go_wp2)
                        go_ret
                        exact ⟨by first | rfl | (simp [errW_none, errW_some] <;> rfl) | (simp [*, errW_none, errW_some] <;> rfl), b_ HB⟩
                      rw [if_neg c32] at H
                      have c32b0 : decide (80 < (t308.length : Int)) = false := decide_eq_false c32
                      have c32b1 : decide (80 < t308.length) = false := decide_eq_false (by omega)
                      clear c32
                      have H' := Aside0.mk H
                      clear H
                      obtain ⟨Ao34, co34, eo34⟩ := Kd.R_slice HO_8.out
                      subst eo34
                      go_wp2
                      repeat (go_quiet (fail); try go_wp2)
                      go_roundg k5
                      case measure => have := HJ1.out; have := HJ9.out; have := HJ16.out; have := HK4.out; have := HK5.out; omega
                      case rel => exact ⟨(x3_5), (wrap64 (x7_4 + 1)), (by first | rfl | (simp; done) | (simp [*]; done)), (by first | rfl | (simp; done) | (simp [*]; done)), H', ⟨by have := HJ1.out; have := HJ9.out; have := HJ16.out; have := HK4.out; have := HK5.out; omega⟩, ⟨k_ BK303⟩, ⟨b_ HB⟩⟩
end Go.Proofs.YtjdajlnigiicaaaDoor.S
end
section
namespace Go.Proofs.YtjdajlnigiicaaaDoor.S
open Go.RowKit Go.Proofs.YtjdajlnigiicaaaDoorW.PrintWords Go.Proofs.YtjdajlnigiicaaaDoorW.PrintLast Go.Proofs.YtjdajlnigiicaaaDoorW.PrintMore
attribute [local go_sem] max2_int min2_int max_two min_two max_three min_three max_four min_four   -- for this text's walks alone
set_option linter.unusedVariables false
set_option linter.unusedSimpArgs false
def chalklinelaw04_few.f (k : Nat) (l0_0 : List (S87)) (l0_1 : List (S91)) (l0_2 : List (S95)) (l0_3 : List (S98)) (l0_4 : List (S101)) (l1_0 : List (S55)) : Option (Bool) := (chalklineref03_Few.f k l0_0 l0_1 l0_2 l0_3 l0_4).bind fun t314 => (if t314 = true then (some (decide ((l1_0.length : Int) ≤ 100))) else (some false))
set_option maxHeartbeats 8000000 in
set_option maxRecDepth 100000 in
theorem chalklinelaw04_few.calls (k : Nat) (A0_0 : Option Addr) (c0_0 : Nat) (l0_0 : List (S87)) (A0_1 : Option Addr) (c0_1 : Nat) (l0_1 : List (S91)) (A0_2 : Option Addr) (c0_2 : Nat) (l0_2 : List (S95)) (A0_3 : Option Addr) (c0_3 : Nat) (l0_3 : List (S98)) (A0_4 : Option Addr) (c0_4 : Nat) (l0_4 : List (S101)) (A1_0 : Option Addr) (c1_0 : Nat) (l1_0 : List (S55)) (r : Bool) (w : World) (hr0_0 : Kd.C k87 w A0_0 l0_0.length l0_0) (hc0_0 : l0_0.length ≤ c0_0) (hr0_1 : Kd.C k91 w A0_1 l0_1.length l0_1) (hc0_1 : l0_1.length ≤ c0_1) (hr0_2 : Kd.C k95 w A0_2 l0_2.length l0_2) (hc0_2 : l0_2.length ≤ c0_2) (hr0_3 : Kd.C k98 w A0_3 l0_3.length l0_3) (hc0_3 : l0_3.length ≤ c0_3) (hr0_4 : Kd.C k101 w A0_4 l0_4.length l0_4) (hc0_4 : l0_4.length ≤ c0_4) (hr1_0 : Kd.C k55 w A1_0 l1_0.length l1_0) (hc1_0 : l1_0.length ≤ c1_0) (h : chalklinelaw04_few.f k l0_0 l0_1 l0_2 l0_3 l0_4 l1_0 = some r) :
    Calls Tryd.prog 20 #[.agg #[.slice A0_0 l0_0.length c0_0, .slice A0_1 l0_1.length c0_1, .slice A0_2 l0_2.length c0_2, .slice A0_3 l0_3.length c0_3, .slice A0_4 l0_4.length c0_4], .agg #[.slice A1_0 l1_0.length c1_0]] w fun e w' => e = .returned (.bool r) ∧ Below w.heap.size w w' := by
  have hu45 := Tryd.underlying45
  have hu24 := Tryd.underlying24
  have HR0_0 := Aside0.mk hr0_0
  have HC0_0 := Aside0.mk hc0_0
  clear hr0_0 hc0_0
  have HR0_1 := Aside0.mk hr0_1
  have HC0_1 := Aside0.mk hc0_1
  clear hr0_1 hc0_1
  have HR0_2 := Aside0.mk hr0_2
  have HC0_2 := Aside0.mk hc0_2
  clear hr0_2 hc0_2
  have HR0_3 := Aside0.mk hr0_3
  have HC0_3 := Aside0.mk hc0_3
  clear hr0_3 hc0_3
  have HR0_4 := Aside0.mk hr0_4
  have HC0_4 := Aside0.mk hc0_4
  clear hr0_4 hc0_4
  have HR1_0 := Aside0.mk hr1_0
  have HC1_0 := Aside0.mk hc1_0
  clear hr1_0 hc1_0
  have HB := Aside0.mk (Below.refl w.heap.size w)
  have H : ((chalklineref03_Few.f k l0_0 l0_1 l0_2 l0_3 l0_4).bind fun t314 => (if t314 = true then (some (decide ((l1_0.length : Int) ≤ 100))) else (some false))) = some r := h
  clear h
  replace H := Option.bind_eq_some_iff.mp H
  obtain ⟨t314, A30, H⟩ := H
  replace H : (if t314 = true then (some (decide ((l1_0.length : Int) ≤ 100))) else (some false)) = some r := H
  have A3 := Aside0.mk A30
  clear A30
  by_cases c4 : t314 = true
  · subst c4
    have H1 : (some (decide ((l1_0.length : Int) ≤ 100))) = some r := by rw [if_pos rfl] at H; exact H
    clear H
    have H := H1
    clear H1
    obtain rfl := Option.some.inj H
    go_enter Tryd.func20, Tryd.ntmps20
    go_wp2_with (first | ((with_reducible refine gate_dst (N := 2) rfl ?_); (try (refine gate_guard (by rfl) ?_; dsimp only)); refine box_event ?hg (N := 2) ?hd (cs := #[.slice A0_0 l0_0.length c0_0, .slice A0_1 l0_1.length c0_1, .slice A0_2 l0_2.length c0_2, .slice A0_3 l0_3.length c0_3, .slice A0_4 l0_4.length c0_4]) (t := 45) ?hr ?_; (case hd => rfl); (case hg => rfl); (case hr => first | (go_simp; done) | (go_simp; rfl)); intro gb312 hg w5 hbox hb; have n0_ := Aside0.mk (below_step (b_ HB) hb); have n1_ := Aside0.mk (hbox); have n2_ := Aside0.mk ((by rw [hg]; exact (below_size (b_ HB)) : w.heap.size ≤ gb312)); have n3_ := n2_; clear HB; have HB := n0_; have BK312 := n1_; have GW312 := n2_; have GE312 := n3_; clear n0_ n1_ n2_ n3_; clear hb hbox hg) | ((with_reducible refine gate_dst (N := 3) rfl ?_); (try (refine gate_guard (by rfl) ?_; dsimp only)); refine box_event ?hg (N := 3) ?hd (cs := #[.slice A1_0 l1_0.length c1_0]) (t := 24) ?hr ?_; (case hd => rfl); (case hg => rfl); (case hr => first | (go_simp; done) | (go_simp; rfl)); intro gb313 hg w6 hbox hb; have n0_ := Aside0.mk (blk_below (k_ BK312) hb); have n1_ := Aside0.mk (below_step (b_ HB) hb); have n2_ := Aside0.mk (hbox); have n3_ := Aside0.mk ((by rw [hg]; exact (below_size (b_ HB)) : w.heap.size ≤ gb313)); have n4_ := n3_; have n5_ := Aside0.mk ((by rw [hg]; exact Nat.ne_of_lt (blk_lt (k_ BK312)) : gb312 ≠ gb313)); have n6_ := Aside0.mk ((by rw [hg]; exact Nat.ne_of_gt (blk_lt (k_ BK312)) : gb313 ≠ gb312)); clear BK312; clear HB; have BK312 := n0_; have HB := n1_; have BK313 := n2_; have GW313 := n3_; have GE313 := n4_; have NB312_313 := n5_; have NB313_312 := n6_; clear n0_ n1_ n2_ n3_ n4_ n5_ n6_; clear hb hbox hg; have hnb7 := NB312_313.out; have hnc7 := NB313_312.out; have hcz8_0 : w6.cell? ⟨gb312, 0, none⟩ = some (.slice A0_0 l0_0.length c0_0) := (blk_cell BK312.out 0).trans rfl; have hcz8_1 : w6.cell? ⟨gb312, 1, none⟩ = some (.slice A0_1 l0_1.length c0_1) := (blk_cell BK312.out 1).trans rfl; have hcz8_2 : w6.cell? ⟨gb312, 2, none⟩ = some (.slice A0_2 l0_2.length c0_2) := (blk_cell BK312.out 2).trans rfl; have hcz8_3 : w6.cell? ⟨gb312, 3, none⟩ = some (.slice A0_3 l0_3.length c0_3) := (blk_cell BK312.out 3).trans rfl; have hcz8_4 : w6.cell? ⟨gb312, 4, none⟩ = some (.slice A0_4 l0_4.length c0_4) := (blk_cell BK312.out 4).trans rfl; have hfz8_0 := blk_frozen BK312.out 0; have hfz8_1 := blk_frozen BK312.out 1; have hfz8_2 := blk_frozen BK312.out 2; have hfz8_3 := blk_frozen BK312.out 3; have hfz8_4 := blk_frozen BK312.out 4) | ((with_reducible refine gate_callee (f := 37) rfl ?_); refine goesL_ (some 6) rfl rfl Tryd.func37 (by kernel_rfl) rfl #[.agg #[.slice A0_0 l0_0.length c0_0, .slice A0_1 l0_1.length c0_1, .slice A0_2 l0_2.length c0_2, .slice A0_3 l0_3.length c0_3, .slice A0_4 l0_4.length c0_4]] rfl (by (try simp only [List.map_toArray, List.map_cons, List.map_nil]); first | done | rfl | (simp only [List.length_drop, List.length_take]; rfl)) ?_; (with_reducible refine (chalklineref03_Few.calls k _ _ l0_0 _ _ l0_1 _ _ l0_2 _ _ l0_3 _ _ l0_4 true _ ?side1 ?side2 ?side3 ?side4 ?side5 ?side6 ?side7 ?side8 ?side9 ?side10 A3.out).mono ?_); (case side1 => repeat (first | exact (Kd.C_below HR0_0.out HB.out) | (with_reducible refine Kd.C_alloc ?_ _) | (with_reducible refine Kd.C_drewN ?_ _) | (with_reducible refine Kd.C_drew ?_))); (case side2 => exact HC0_0.out); (case side3 => repeat (first | exact (Kd.C_below HR0_1.out HB.out) | (with_reducible refine Kd.C_alloc ?_ _) | (with_reducible refine Kd.C_drewN ?_ _) | (with_reducible refine Kd.C_drew ?_))); (case side4 => exact HC0_1.out); (case side5 => repeat (first | exact (Kd.C_below HR0_2.out HB.out) | (with_reducible refine Kd.C_alloc ?_ _) | (with_reducible refine Kd.C_drewN ?_ _) | (with_reducible refine Kd.C_drew ?_))); (case side6 => exact HC0_2.out); (case side7 => repeat (first | exact (Kd.C_below HR0_3.out HB.out) | (with_reducible refine Kd.C_alloc ?_ _) | (with_reducible refine Kd.C_drewN ?_ _) | (with_reducible refine Kd.C_drew ?_))); (case side8 => exact HC0_3.out); (case side9 => repeat (first | exact (Kd.C_below HR0_4.out HB.out) | (with_reducible refine Kd.C_alloc ?_ _) | (with_reducible refine Kd.C_drewN ?_ _) | (with_reducible refine Kd.C_drew ?_))); (case side10 => exact HC0_4.out); rintro e w9 ⟨rfl, hb⟩; refine ⟨_, rfl, ?_⟩; have n0_ := Aside0.mk (blk_below (k_ BK312) hb); have n1_ := Aside0.mk (blk_below (k_ BK313) hb); have n2_ := Aside0.mk (below_step (b_ HB) hb); clear BK312; clear BK313; clear HB; have BK312 := n0_; have BK313 := n1_; have HB := n2_; clear n0_ n1_ n2_; (try clear hb); (try clear hb2); (try clear hk); (try clear hi); have hcz10_0 : w9.cell? ⟨gb313, 0, none⟩ = some (.slice A1_0 l1_0.length c1_0) := (blk_cell BK313.out 0).trans rfl; have hfz10_0 := blk_frozen BK313.out 0))
    go_ret
    exact ⟨by first | rfl | (simp [errW_none, errW_some] <;> rfl) | (simp [*, errW_none, errW_some] <;> rfl), b_ HB⟩
  replace c4 := Bool.eq_false_iff.mpr c4
  subst c4
  have H1 : (some false) = some r := by rw [if_neg (show ¬ (false = true) by decide)] at H; exact H
  clear H
  have H := H1
  clear H1
  obtain rfl := Option.some.inj H
  go_enter Tryd.func20, Tryd.ntmps20
  go_wp2_with (first | ((with_reducible refine gate_dst (N := 2) rfl ?_); (try (refine gate_guard (by rfl) ?_; dsimp only)); refine box_event ?hg (N := 2) ?hd (cs := #[.slice A0_0 l0_0.length c0_0, .slice A0_1 l0_1.length c0_1, .slice A0_2 l0_2.length c0_2, .slice A0_3 l0_3.length c0_3, .slice A0_4 l0_4.length c0_4]) (t := 45) ?hr ?_; (case hd => rfl); (case hg => rfl); (case hr => first | (go_simp; done) | (go_simp; rfl)); intro gb312 hg w11 hbox hb; have n0_ := Aside0.mk (below_step (b_ HB) hb); have n1_ := Aside0.mk (hbox); have n2_ := Aside0.mk ((by rw [hg]; exact (below_size (b_ HB)) : w.heap.size ≤ gb312)); have n3_ := n2_; clear HB; have HB := n0_; have BK312 := n1_; have GW312 := n2_; have GE312 := n3_; clear n0_ n1_ n2_ n3_; clear hb hbox hg) | ((with_reducible refine gate_dst (N := 3) rfl ?_); (try (refine gate_guard (by rfl) ?_; dsimp only)); refine box_event ?hg (N := 3) ?hd (cs := #[.slice A1_0 l1_0.length c1_0]) (t := 24) ?hr ?_; (case hd => rfl); (case hg => rfl); (case hr => first | (go_simp; done) | (go_simp; rfl)); intro gb313 hg w12 hbox hb; have n0_ := Aside0.mk (blk_below (k_ BK312) hb); have n1_ := Aside0.mk (below_step (b_ HB) hb); have n2_ := Aside0.mk (hbox); have n3_ := Aside0.mk ((by rw [hg]; exact (below_size (b_ HB)) : w.heap.size ≤ gb313)); have n4_ := n3_; have n5_ := Aside0.mk ((by rw [hg]; exact Nat.ne_of_lt (blk_lt (k_ BK312)) : gb312 ≠ gb313)); have n6_ := Aside0.mk ((by rw [hg]; exact Nat.ne_of_gt (blk_lt (k_ BK312)) : gb313 ≠ gb312)); clear BK312; clear HB; have BK312 := n0_; have HB := n1_; have BK313 := n2_; have GW313 := n3_; have GE313 := n4_; have NB312_313 := n5_; have NB313_312 := n6_; clear n0_ n1_ n2_ n3_ n4_ n5_ n6_; clear hb hbox hg; have hnb13 := NB312_313.out; have hnc13 := NB313_312.out; have hcz14_0 : w12.cell? ⟨gb312, 0, none⟩ = some (.slice A0_0 l0_0.length c0_0) := (blk_cell BK312.out 0).trans rfl; have hcz14_1 : w12.cell? ⟨gb312, 1, none⟩ = some (.slice A0_1 l0_1.length c0_1) := (blk_cell BK312.out 1).trans rfl; have hcz14_2 : w12.cell? ⟨gb312, 2, none⟩ = some (.slice A0_2 l0_2.length c0_2) := (blk_cell BK312.out 2).trans rfl; have hcz14_3 : w12.cell? ⟨gb312, 3, none⟩ = some (.slice A0_3 l0_3.length c0_3) := (blk_cell BK312.out 3).trans rfl; have hcz14_4 : w12.cell? ⟨gb312, 4, none⟩ = some (.slice A0_4 l0_4.length c0_4) := (blk_cell BK312.out 4).trans rfl; have hfz14_0 := blk_frozen BK312.out 0; have hfz14_1 := blk_frozen BK312.out 1; have hfz14_2 := blk_frozen BK312.out 2; have hfz14_3 := blk_frozen BK312.out 3; have hfz14_4 := blk_frozen BK312.out 4) | ((with_reducible refine gate_callee (f := 37) rfl ?_); refine goesL_ (some 6) rfl rfl Tryd.func37 (by kernel_rfl) rfl #[.agg #[.slice A0_0 l0_0.length c0_0, .slice A0_1 l0_1.length c0_1, .slice A0_2 l0_2.length c0_2, .slice A0_3 l0_3.length c0_3, .slice A0_4 l0_4.length c0_4]] rfl (by (try simp only [List.map_toArray, List.map_cons, List.map_nil]); first | done | rfl | (simp only [List.length_drop, List.length_take]; rfl)) ?_; (with_reducible refine (chalklineref03_Few.calls k _ _ l0_0 _ _ l0_1 _ _ l0_2 _ _ l0_3 _ _ l0_4 false _ ?side1 ?side2 ?side3 ?side4 ?side5 ?side6 ?side7 ?side8 ?side9 ?side10 A3.out).mono ?_); (case side1 => repeat (first | exact (Kd.C_below HR0_0.out HB.out) | (with_reducible refine Kd.C_alloc ?_ _) | (with_reducible refine Kd.C_drewN ?_ _) | (with_reducible refine Kd.C_drew ?_))); (case side2 => exact HC0_0.out); (case side3 => repeat (first | exact (Kd.C_below HR0_1.out HB.out) | (with_reducible refine Kd.C_alloc ?_ _) | (with_reducible refine Kd.C_drewN ?_ _) | (with_reducible refine Kd.C_drew ?_))); (case side4 => exact HC0_1.out); (case side5 => repeat (first | exact (Kd.C_below HR0_2.out HB.out) | (with_reducible refine Kd.C_alloc ?_ _) | (with_reducible refine Kd.C_drewN ?_ _) | (with_reducible refine Kd.C_drew ?_))); (case side6 => exact HC0_2.out); (case side7 => repeat (first | exact (Kd.C_below HR0_3.out HB.out) | (with_reducible refine Kd.C_alloc ?_ _) | (with_reducible refine Kd.C_drewN ?_ _) | (with_reducible refine Kd.C_drew ?_))); (case side8 => exact HC0_3.out); (case side9 => repeat (first | exact (Kd.C_below HR0_4.out HB.out) | (with_reducible refine Kd.C_alloc ?_ _) | (with_reducible refine Kd.C_drewN ?_ _) | (with_reducible refine Kd.C_drew ?_))); (case side10 => exact HC0_4.out); rintro e w15 ⟨rfl, hb⟩; refine ⟨_, rfl, ?_⟩; have n0_ := Aside0.mk (blk_below (k_ BK312) hb); have n1_ := Aside0.mk (blk_below (k_ BK313) hb); have n2_ := Aside0.mk (below_step (b_ HB) hb); clear BK312; clear BK313; clear HB; have BK312 := n0_; have BK313 := n1_; have HB := n2_; clear n0_ n1_ n2_; (try clear hb); (try clear hb2); (try clear hk); (try clear hi)))
  go_ret
  exact ⟨by first | rfl | (simp [errW_none, errW_some] <;> rfl) | (simp [*, errW_none, errW_some] <;> rfl), b_ HB⟩
end Go.Proofs.YtjdajlnigiicaaaDoor.S
end
section
namespace Go.Proofs.YtjdajlnigiicaaaDoor.S
open Go.RowKit Go.Proofs.YtjdajlnigiicaaaDoorW.PrintWords Go.Proofs.YtjdajlnigiicaaaDoorW.PrintLast Go.Proofs.YtjdajlnigiicaaaDoorW.PrintMore
attribute [local go_sem] max2_int min2_int max_two min_two max_three min_three max_four min_four   -- for this text's walks alone
set_option linter.unusedVariables false
set_option linter.unusedSimpArgs false
theorem eqA55 (d : Nat) (w : World) (x0 y0 : Int) (x1 y1 : Int) :
    (Op.equalIn (d + 2) 55 (.agg #[.int .i64 x0, .int .i64 x1]) (.agg #[.int .i64 y0, .int .i64 y1])).run Tryd.prog w = .ok (x0 == y0 && (x1 == y1)) w := by
  refine eqA_of Tryd.underlying55 (by kernel_rfl) ?_
  refine eqf_cons (by rfl) (by go_simp; rfl) (by go_simp; rfl) (by go_simp) ?_
  exact eqf_last (by rfl) (by go_simp; rfl) (by go_simp; rfl) (by go_simp)
end Go.Proofs.YtjdajlnigiicaaaDoor.S
end
section
namespace Go.Proofs.YtjdajlnigiicaaaDoor.S
open Go.RowKit Go.Proofs.YtjdajlnigiicaaaDoorW.PrintWords Go.Proofs.YtjdajlnigiicaaaDoorW.PrintLast Go.Proofs.YtjdajlnigiicaaaDoorW.PrintMore
attribute [local go_sem] max2_int min2_int max_two min_two max_three min_three max_four min_four   -- for this text's walks alone
set_option linter.unusedVariables false
set_option linter.unusedSimpArgs false
theorem eqA57 (d : Nat) (w : World) (x0 y0 : Int) (x1 y1 : Int) (x2 y2 : Int) :
    (Op.equalIn (d + 3) 57 (.agg #[.int .i64 x0, .int .i64 x1, .int .i64 x2]) (.agg #[.int .i64 y0, .int .i64 y1, .int .i64 y2])).run Tryd.prog w = .ok (x0 == y0 && ((x1 == y1 && (x2 == y2)))) w := by
  refine eqA_of Tryd.underlying57 (by kernel_rfl) ?_
  refine eqf_cons (by rfl) (by go_simp; rfl) (by go_simp; rfl) (by go_simp) ?_
  exact eqf_last (by rfl) (by go_simp) (by go_simp) (eqA55 (d + 0) w _ _ _ _)
end Go.Proofs.YtjdajlnigiicaaaDoor.S
end
section
namespace Go.Proofs.YtjdajlnigiicaaaDoor.S
open Go.RowKit Go.Proofs.YtjdajlnigiicaaaDoorW.PrintWords Go.Proofs.YtjdajlnigiicaaaDoorW.PrintLast Go.Proofs.YtjdajlnigiicaaaDoorW.PrintMore
attribute [local go_sem] max2_int min2_int max_two min_two max_three min_three max_four min_four   -- for this text's walks alone
set_option linter.unusedVariables false
set_option linter.unusedSimpArgs false
attribute [local go_sem high] eqA55
def week_Diff.l0 : Nat → List (S57) → Int → List (S55) → Int → Int → List (S55) → Option ((List (S57)) × Int)
  | 0, _, _, _, _, _, _ => none
  | k + 1, x4, x5, x16, x17, x18, x102000 => if x18 < x17 then (if 0 ≤ x18 then (if x18 < (x16.length : Int) then (if x18 < (x102000.length : Int) then (if (!(((rd_T55 x16 x18).f0) == ((rd_T55 x102000 x18).f0)) || (!(((rd_T55 x16 x18).f1) == ((rd_T55 x102000 x18).f1)))) = true then (if x4.length < 5864062014805 then (week_Diff.l0 k (x4 ++ [(⟨x18, (⟨(rd_T55 x16 x18).f0, (rd_T55 x16 x18).f1⟩ : S55)⟩ : S57)]) x5 x16 x17 (wrap64 (x18 + 1)) x102000) else (none)) else (week_Diff.l0 k x4 x5 x16 x17 (wrap64 (x18 + 1)) x102000)) else (none)) else (none)) else (none)) else (some (x4, x5))
def week_Diff.f (k : Nat) (l0_0 : List (S55)) (l1_0 : List (S55)) : Option ((List (S57)) × Int) := if (l0_0.length : Int) = (l1_0.length : Int) then (week_Diff.l0 k ([] : List (S57)) 0 l1_0 (l1_0.length : Int) 0 l0_0) else (some (([] : List (S57)), 1))
set_option maxHeartbeats 8000000 in
set_option maxRecDepth 100000 in
theorem week_Diff.calls (k : Nat) (A0_0 : Option Addr) (c0_0 : Nat) (l0_0 : List (S55)) (A1_0 : Option Addr) (c1_0 : Nat) (l1_0 : List (S55)) (r1 : List (S57)) (r2 : Int) (w : World) (hr0_0 : Kd.C k55 w A0_0 l0_0.length l0_0) (hc0_0 : l0_0.length ≤ c0_0) (hr1_0 : Kd.C k55 w A1_0 l1_0.length l1_0) (hc1_0 : l1_0.length ≤ c1_0) (h : week_Diff.f k l0_0 l1_0 = some (r1, r2)) :
    Calls Tryd.prog 10 #[.agg #[.slice A0_0 l0_0.length c0_0], .agg #[.slice A1_0 l1_0.length c1_0]] w fun e w' => ∃ v0_ : Value, e = .returned (.tuple #[v0_, .int .i64 r2]) ∧ Kd.R k57 57 w' w.heap.size (fun _ => True) v0_ r1 ∧ Below w.heap.size w w' := by
  have hu24 := Tryd.underlying24
  have hu55 := Tryd.underlying55
  have hu57 := Tryd.underlying57
  have HR0_0 := Aside0.mk hr0_0
  have HC0_0 := Aside0.mk hc0_0
  clear hr0_0 hc0_0
  have HR1_0 := Aside0.mk hr1_0
  have HC1_0 := Aside0.mk hc1_0
  clear hr1_0 hc1_0
  have HB := Aside0.mk (Below.refl w.heap.size w)
  have H : (if (l0_0.length : Int) = (l1_0.length : Int) then (week_Diff.l0 k ([] : List (S57)) 0 l1_0 (l1_0.length : Int) 0 l0_0) else (some (([] : List (S57)), 1))) = some (r1, r2) := h
  clear h
  by_cases c3 : (l0_0.length : Int) = (l1_0.length : Int)
  rotate_left
  · rw [if_neg c3] at H
    have c3b0 : ((l0_0.length : Int) == (l1_0.length : Int)) = false := beq_eq_false_iff_ne.mpr c3
    have c3b1 : ((l0_0.length : Int) != (l1_0.length : Int)) = true := bne_iff_ne.mpr c3
    have c3b2 : (l0_0.length == l1_0.length) = false := by first | simpa using c3 | (simp at c3 ⊢; omega)
    simp only [Option.some.injEq, Prod.mk.injEq] at H
    obtain ⟨rfl, rfl⟩ := H
    go_enter Tryd.func10, Tryd.ntmps10
    go_wp2_with (first | ((with_reducible refine gate_dst (N := 2) rfl ?_); refine box_event ?hg (N := 2) ?hd (cs := #[.slice A0_0 l0_0.length c0_0]) (t := 24) ?hr ?_; (case hd => rfl); (case hg => rfl); (case hr => first | (go_simp; done) | (go_simp; rfl)); intro gb101 hg w28 hbox hb; have n0_ := Aside0.mk (below_step (b_ HB) hb); have n1_ := Aside0.mk (hbox); have n2_ := Aside0.mk ((by rw [hg]; exact (below_size (b_ HB)) : w.heap.size ≤ gb101)); have n3_ := n2_; clear HB; have HB := n0_; have BK101 := n1_; have GW101 := n2_; have GE101 := n3_; clear n0_ n1_ n2_ n3_; clear hb hbox hg) | ((with_reducible refine gate_dst (N := 3) rfl ?_); refine box_event ?hg (N := 3) ?hd (cs := #[.slice A1_0 l1_0.length c1_0]) (t := 24) ?hr ?_; (case hd => rfl); (case hg => rfl); (case hr => first | (go_simp; done) | (go_simp; rfl)); intro gb102 hg w29 hbox hb; have n0_ := Aside0.mk (blk_below (k_ BK101) hb); have n1_ := Aside0.mk (below_step (b_ HB) hb); have n2_ := Aside0.mk (hbox); have n3_ := Aside0.mk ((by rw [hg]; exact (below_size (b_ HB)) : w.heap.size ≤ gb102)); have n4_ := n3_; have n5_ := Aside0.mk ((by rw [hg]; exact Nat.ne_of_lt (blk_lt (k_ BK101)) : gb101 ≠ gb102)); have n6_ := Aside0.mk ((by rw [hg]; exact Nat.ne_of_gt (blk_lt (k_ BK101)) : gb102 ≠ gb101)); clear BK101; clear HB; have BK101 := n0_; have HB := n1_; have BK102 := n2_; have GW102 := n3_; have GE102 := n4_; have NB101_102 := n5_; have NB102_101 := n6_; clear n0_ n1_ n2_ n3_ n4_ n5_ n6_; clear hb hbox hg; have hnb30 := NB101_102.out; have hnc30 := NB102_101.out; have hcz31_0 : w29.cell? ⟨gb101, 0, none⟩ = some (.slice A0_0 l0_0.length c0_0) := (blk_cell BK101.out 0).trans rfl; have hfz31_0 := blk_frozen BK101.out 0; have hcz32_0 : w29.cell? ⟨gb102, 0, none⟩ = some (.slice A1_0 l1_0.length c1_0) := (blk_cell BK102.out 0).trans rfl; have hfz32_0 := blk_frozen BK102.out 0))
    repeat (go_quiet (first | ((with_reducible refine gate_dst (N := 2) rfl ?_); refine box_event ?hg (N := 2) ?hd (cs := #[.slice A0_0 l0_0.length c0_0]) (t := 24) ?hr ?_; (case hd => rfl); (case hg => rfl); (case hr => first | (go_simp; done) | (go_simp; rfl)); intro gb101 hg w28 hbox hb; have n0_ := Aside0.mk (below_step (b_ HB) hb); have n1_ := Aside0.mk (hbox); have n2_ := Aside0.mk ((by rw [hg]; exact (below_size (b_ HB)) : w.heap.size ≤ gb101)); have n3_ := n2_; clear HB; have HB := n0_; have BK101 := n1_; have GW101 := n2_; have GE101 := n3_; clear n0_ n1_ n2_ n3_; clear hb hbox hg) | ((with_reducible refine gate_dst (N := 3) rfl ?_); refine box_event ?hg (N := 3) ?hd (cs := #[.slice A1_0 l1_0.length c1_0]) (t := 24) ?hr ?_; (case hd => rfl); (case hg => rfl); (case hr => first | (go_simp; done) | (go_simp; rfl)); intro gb102 hg w29 hbox hb; have n0_ := Aside0.mk (blk_below (k_ BK101) hb); have n1_ := Aside0.mk (below_step (b_ HB) hb); have n2_ := Aside0.mk (hbox); have n3_ := Aside0.mk ((by rw [hg]; exact (below_size (b_ HB)) : w.heap.size ≤ gb102)); have n4_ := n3_; have n5_ := Aside0.mk ((by rw [hg]; exact Nat.ne_of_lt (blk_lt (k_ BK101)) : gb101 ≠ gb102)); have n6_ := Aside0.mk ((by rw [hg]; exact Nat.ne_of_gt (blk_lt (k_ BK101)) : gb102 ≠ gb101)); clear BK101; clear HB; have BK101 := n0_; have HB := n1_; have BK102 := n2_; have GW102 := n3_; have GE102 := n4_; have NB101_102 := n5_; have NB102_101 := n6_; clear n0_ n1_ n2_ n3_ n4_ n5_ n6_; clear hb hbox hg; have hnb30 := NB101_102.out; have hnc30 := NB102_101.out; have hcz31_0 : w29.cell? ⟨gb101, 0, none⟩ = some (.slice A0_0 l0_0.length c0_0) := (blk_cell BK101.out 0).trans rfl; have hfz31_0 := blk_frozen BK101.out 0; have hcz32_0 : w29.cell? ⟨gb102, 0, none⟩ = some (.slice A1_0 l1_0.length c1_0) := (blk_cell BK102.out 0).trans rfl; have hfz32_0 := blk_frozen BK102.out 0)); try go_wp2_with (first | ((with_reducible refine gate_dst (N := 2) rfl ?_); refine box_event ?hg (N := 2) ?hd (cs := #[.slice A0_0 l0_0.length c0_0]) (t := 24) ?hr ?_; (case hd => rfl); (case hg => rfl); (case hr => first | (go_simp; done) | (go_simp; rfl)); intro gb101 hg w28 hbox hb; have n0_ := Aside0.mk (below_step (b_ HB) hb); have n1_ := Aside0.mk (hbox); have n2_ := Aside0.mk ((by rw [hg]; exact (below_size (b_ HB)) : w.heap.size ≤ gb101)); have n3_ := n2_; clear HB; have HB := n0_; have BK101 := n1_; have GW101 := n2_; have GE101 := n3_; clear n0_ n1_ n2_ n3_; clear hb hbox hg) | ((with_reducible refine gate_dst (N := 3) rfl ?_); refine box_event ?hg (N := 3) ?hd (cs := #[.slice A1_0 l1_0.length c1_0]) (t := 24) ?hr ?_; (case hd => rfl); (case hg => rfl); (case hr => first | (go_simp; done) | (go_simp; rfl)); intro gb102 hg w29 hbox hb; have n0_ := Aside0.mk (blk_below (k_ BK101) hb); have n1_ := Aside0.mk (below_step (b_ HB) hb); have n2_ := Aside0.mk (hbox); have n3_ := Aside0.mk ((by rw [hg]; exact (below_size (b_ HB)) : w.heap.size ≤ gb102)); have n4_ := n3_; have n5_ := Aside0.mk ((by rw [hg]; exact Nat.ne_of_lt (blk_lt (k_ BK101)) : gb101 ≠ gb102)); have n6_ := Aside0.mk ((by rw [hg]; exact Nat.ne_of_gt (blk_lt (k_ BK101)) : gb102 ≠ gb101)); clear BK101; clear HB; have BK101 := n0_; have HB := n1_; have BK102 := n2_; have GW102 := n3_; have GE102 := n4_; have NB101_102 := n5_; have NB102_101 := n6_; clear n0_ n1_ n2_ n3_ n4_ n5_ n6_; clear hb hbox hg; have hnb30 := NB101_102.out; have hnc30 := NB102_101.out; have hcz31_0 : w29.cell? ⟨gb101, 0, none⟩ = some (.slice A0_0 l0_0.length c0_0) := (blk_cell BK101.out 0).trans rfl; have hfz31_0 := blk_frozen BK101.out 0; have hcz32_0 : w29.cell? ⟨gb102, 0, none⟩ = some (.slice A1_0 l1_0.length c1_0) := (blk_cell BK102.out 0).trans rfl; have hfz32_0 := blk_frozen BK102.out 0)))
    go_ret2
    exact ⟨_, by first | rfl | (simp [errW_none, errW_some] <;> rfl) | (simp [*, errW_none, errW_some] <;> rfl), by first | exact Kd.R_nil _ _ _ _ _ | exact Kd.N_nil _ _ _ _ _ | exact Kd.V_nil _ _ _ _ _ | exact Kd.Q_nil _ _ _ _ _ | exact Kd.S_nil _ _ _ _ _, b_ HB⟩
  rw [if_pos c3] at H
  have c3b0 : ((l0_0.length : Int) == (l1_0.length : Int)) = true := beq_iff_eq.mpr c3
  have c3b1 : ((l0_0.length : Int) != (l1_0.length : Int)) = false := bne_eq_false_iff_eq.mpr c3
  have c3b2 : (l0_0.length == l1_0.length) = true := by first | simpa using c3 | (simp at c3 ⊢; omega)
  clear c3
  have H' := Aside0.mk H
  clear H
  go_enter Tryd.func10, Tryd.ntmps10
  go_wp2_with (first | ((with_reducible refine gate_dst (N := 2) rfl ?_); refine box_event ?hg (N := 2) ?hd (cs := #[.slice A0_0 l0_0.length c0_0]) (t := 24) ?hr ?_; (case hd => rfl); (case hg => rfl); (case hr => first | (go_simp; done) | (go_simp; rfl)); intro gb101 hg w4 hbox hb; have n0_ := Aside0.mk (below_step (b_ HB) hb); have n1_ := Aside0.mk (hbox); have n2_ := Aside0.mk ((by rw [hg]; exact (below_size (b_ HB)) : w.heap.size ≤ gb101)); have n3_ := n2_; clear HB; have HB := n0_; have BK101 := n1_; have GW101 := n2_; have GE101 := n3_; clear n0_ n1_ n2_ n3_; clear hb hbox hg) | ((with_reducible refine gate_dst (N := 3) rfl ?_); refine box_event ?hg (N := 3) ?hd (cs := #[.slice A1_0 l1_0.length c1_0]) (t := 24) ?hr ?_; (case hd => rfl); (case hg => rfl); (case hr => first | (go_simp; done) | (go_simp; rfl)); intro gb102 hg w5 hbox hb; have n0_ := Aside0.mk (blk_below (k_ BK101) hb); have n1_ := Aside0.mk (below_step (b_ HB) hb); have n2_ := Aside0.mk (hbox); have n3_ := Aside0.mk ((by rw [hg]; exact (below_size (b_ HB)) : w.heap.size ≤ gb102)); have n4_ := n3_; have n5_ := Aside0.mk ((by rw [hg]; exact Nat.ne_of_lt (blk_lt (k_ BK101)) : gb101 ≠ gb102)); have n6_ := Aside0.mk ((by rw [hg]; exact Nat.ne_of_gt (blk_lt (k_ BK101)) : gb102 ≠ gb101)); clear BK101; clear HB; have BK101 := n0_; have HB := n1_; have BK102 := n2_; have GW102 := n3_; have GE102 := n4_; have NB101_102 := n5_; have NB102_101 := n6_; clear n0_ n1_ n2_ n3_ n4_ n5_ n6_; clear hb hbox hg; have hnb6 := NB101_102.out; have hnc6 := NB102_101.out; have hcz7_0 : w5.cell? ⟨gb101, 0, none⟩ = some (.slice A0_0 l0_0.length c0_0) := (blk_cell BK101.out 0).trans rfl; have hfz7_0 := blk_frozen BK101.out 0; have hcz8_0 : w5.cell? ⟨gb102, 0, none⟩ = some (.slice A1_0 l1_0.length c1_0) := (blk_cell BK102.out 0).trans rfl; have hfz8_0 := blk_frozen BK102.out 0))
  repeat (go_quiet (first | ((with_reducible refine gate_dst (N := 2) rfl ?_); refine box_event ?hg (N := 2) ?hd (cs := #[.slice A0_0 l0_0.length c0_0]) (t := 24) ?hr ?_; (case hd => rfl); (case hg => rfl); (case hr => first | (go_simp; done) | (go_simp; rfl)); intro gb101 hg w4 hbox hb; have n0_ := Aside0.mk (below_step (b_ HB) hb); have n1_ := Aside0.mk (hbox); have n2_ := Aside0.mk ((by rw [hg]; exact (below_size (b_ HB)) : w.heap.size ≤ gb101)); have n3_ := n2_; clear HB; have HB := n0_; have BK101 := n1_; have GW101 := n2_; have GE101 := n3_; clear n0_ n1_ n2_ n3_; clear hb hbox hg) | ((with_reducible refine gate_dst (N := 3) rfl ?_); refine box_event ?hg (N := 3) ?hd (cs := #[.slice A1_0 l1_0.length c1_0]) (t := 24) ?hr ?_; (case hd => rfl); (case hg => rfl); (case hr => first | (go_simp; done) | (go_simp; rfl)); intro gb102 hg w5 hbox hb; have n0_ := Aside0.mk (blk_below (k_ BK101) hb); have n1_ := Aside0.mk (below_step (b_ HB) hb); have n2_ := Aside0.mk (hbox); have n3_ := Aside0.mk ((by rw [hg]; exact (below_size (b_ HB)) : w.heap.size ≤ gb102)); have n4_ := n3_; have n5_ := Aside0.mk ((by rw [hg]; exact Nat.ne_of_lt (blk_lt (k_ BK101)) : gb101 ≠ gb102)); have n6_ := Aside0.mk ((by rw [hg]; exact Nat.ne_of_gt (blk_lt (k_ BK101)) : gb102 ≠ gb101)); clear BK101; clear HB; have BK101 := n0_; have HB := n1_; have BK102 := n2_; have GW102 := n3_; have GE102 := n4_; have NB101_102 := n5_; have NB102_101 := n6_; clear n0_ n1_ n2_ n3_ n4_ n5_ n6_; clear hb hbox hg; have hnb6 := NB101_102.out; have hnc6 := NB102_101.out; have hcz7_0 : w5.cell? ⟨gb101, 0, none⟩ = some (.slice A0_0 l0_0.length c0_0) := (blk_cell BK101.out 0).trans rfl; have hfz7_0 := blk_frozen BK101.out 0; have hcz8_0 : w5.cell? ⟨gb102, 0, none⟩ = some (.slice A1_0 l1_0.length c1_0) := (blk_cell BK102.out 0).trans rfl; have hfz8_0 := blk_frozen BK102.out 0)); try go_wp2_with (first | ((with_reducible refine gate_dst (N := 2) rfl ?_); refine box_event ?hg (N := 2) ?hd (cs := #[.slice A0_0 l0_0.length c0_0]) (t := 24) ?hr ?_; (case hd => rfl); (case hg => rfl); (case hr => first | (go_simp; done) | (go_simp; rfl)); intro gb101 hg w4 hbox hb; have n0_ := Aside0.mk (below_step (b_ HB) hb); have n1_ := Aside0.mk (hbox); have n2_ := Aside0.mk ((by rw [hg]; exact (below_size (b_ HB)) : w.heap.size ≤ gb101)); have n3_ := n2_; clear HB; have HB := n0_; have BK101 := n1_; have GW101 := n2_; have GE101 := n3_; clear n0_ n1_ n2_ n3_; clear hb hbox hg) | ((with_reducible refine gate_dst (N := 3) rfl ?_); refine box_event ?hg (N := 3) ?hd (cs := #[.slice A1_0 l1_0.length c1_0]) (t := 24) ?hr ?_; (case hd => rfl); (case hg => rfl); (case hr => first | (go_simp; done) | (go_simp; rfl)); intro gb102 hg w5 hbox hb; have n0_ := Aside0.mk (blk_below (k_ BK101) hb); have n1_ := Aside0.mk (below_step (b_ HB) hb); have n2_ := Aside0.mk (hbox); have n3_ := Aside0.mk ((by rw [hg]; exact (below_size (b_ HB)) : w.heap.size ≤ gb102)); have n4_ := n3_; have n5_ := Aside0.mk ((by rw [hg]; exact Nat.ne_of_lt (blk_lt (k_ BK101)) : gb101 ≠ gb102)); have n6_ := Aside0.mk ((by rw [hg]; exact Nat.ne_of_gt (blk_lt (k_ BK101)) : gb102 ≠ gb101)); clear BK101; clear HB; have BK101 := n0_; have HB := n1_; have BK102 := n2_; have GW102 := n3_; have GE102 := n4_; have NB101_102 := n5_; have NB102_101 := n6_; clear n0_ n1_ n2_ n3_ n4_ n5_ n6_; clear hb hbox hg; have hnb6 := NB101_102.out; have hnc6 := NB102_101.out; have hcz7_0 : w5.cell? ⟨gb101, 0, none⟩ = some (.slice A0_0 l0_0.length c0_0) := (blk_cell BK101.out 0).trans rfl; have hfz7_0 := blk_frozen BK101.out 0; have hcz8_0 : w5.cell? ⟨gb102, 0, none⟩ = some (.slice A1_0 l1_0.length c1_0) := (blk_cell BK102.out 0).trans rfl; have hfz8_0 := blk_frozen BK102.out 0)))
  go_loopg [4, 18] k (fun kq v4 v18 w' => ∃ (x4_1 : List (S57)) (x18_1 : Int), v18 = .int .i64 x18_1 ∧ Aside0 (week_Diff.l0 kq x4_1 0 l1_0 (l1_0.length : Int) x18_1 l0_0 = some (r1, r2)) ∧ Aside0 (kq ≤ k) ∧ Aside0 (Kd.R k57 57 w' w.heap.size (fun _ => True) v4 x4_1) ∧ Aside0 (w'.heap[gb101]? = some (.cells #[(.slice A0_0 l0_0.length c0_0)] 24 (0, 0))) ∧ Aside0 (w'.heap[gb102]? = some (.cells #[(.slice A1_0 l1_0.length c1_0)] 24 (0, 0))) ∧ Aside0 (Below w.heap.size w w'))
  case atStart => exact ⟨(([] : List (S57))), (0), (by first | rfl | (simp; done) | (simp [*]; done)), H', ⟨Nat.le_refl _⟩, ⟨by first | exact Kd.R_nil _ _ _ _ _ | exact Kd.N_nil _ _ _ _ _ | exact Kd.V_nil _ _ _ _ _ | exact Kd.Q_nil _ _ _ _ _ | exact Kd.S_nil _ _ _ _ _⟩, ⟨k_ BK101⟩, ⟨k_ BK102⟩, ⟨b_ HB⟩⟩
  case round =>
    clear H'
    (try clear c3); (try clear c3b0); (try clear c3b1); (try clear c3b2); (try clear hcz7_0); (try clear hcz8_0); (try clear hfz7_0); (try clear hfz8_0)
    obtain ⟨x4_1, x18_1, rfl, HA, HK1, HO_4, BK101, BK102, HB⟩ := hrel
    cases gk with
    | zero => exact absurd HA.out (by simp [week_Diff.l0])
    | succ k1 =>
      have H := HA.out
      clear HA
      simp only [week_Diff.l0] at H
      by_cases c9 : x18_1 < (l1_0.length : Int)
      rotate_left
      · rw [if_neg c9] at H
        have c9b0 : decide (x18_1 < (l1_0.length : Int)) = false := decide_eq_false c9
        clear c9
        simp only [Option.some.injEq, Prod.mk.injEq] at H
        obtain ⟨rfl, rfl⟩ := H
        go_wp2
        repeat (go_quiet (fail); try go_wp2)
        go_ret2
        exact ⟨_, by first | rfl | (simp [errW_none, errW_some] <;> rfl) | (simp [*, errW_none, errW_some] <;> rfl), by (with_reducible repeat (first | apply Kd.R_alloc | apply Kd.R_drewN | apply Kd.R_drew)); exact HO_4.out, b_ HB⟩
      rw [if_pos c9] at H
      have c9b0 : decide (x18_1 < (l1_0.length : Int)) = true := decide_eq_true c9
      clear c9
      by_cases c10 : 0 ≤ x18_1
      rotate_left
      · rw [if_neg c10] at H
        exact absurd H (by simp)
      rw [if_pos c10] at H
      have c10b0 : decide (0 ≤ x18_1) = true := decide_eq_true c10
      clear c10
      by_cases c11 : x18_1 < (l1_0.length : Int)
      rotate_left
      · rw [if_neg c11] at H
        exact absurd H (by simp)
      rw [if_pos c11] at H
      have c11b0 : decide (x18_1 < (l1_0.length : Int)) = true := decide_eq_true c11
      clear c11
      by_cases c12 : x18_1 < (l0_0.length : Int)
      rotate_left
      · rw [if_neg c12] at H
        exact absurd H (by simp)
      rw [if_pos c12] at H
      have c12b0 : decide (x18_1 < (l0_0.length : Int)) = true := decide_eq_true c12
      clear c12
      by_cases c13 : (!(((rd_T55 l1_0 x18_1).f0) == ((rd_T55 l0_0 x18_1).f0)) || (!(((rd_T55 l1_0 x18_1).f1) == ((rd_T55 l0_0 x18_1).f1)))) = true
      rotate_left
      · rw [if_neg c13] at H
        have c13b0 : (!(((rd_T55 l1_0 x18_1).f0) == ((rd_T55 l0_0 x18_1).f0)) || (!(((rd_T55 l1_0 x18_1).f1) == ((rd_T55 l0_0 x18_1).f1)))) = false := by simpa using c13
        clear c13
        have H' := Aside0.mk H
        clear H
        have p103 : 0 ≤ (x18_1 : Int) := of_decide_eq_true (by first | (with_reducible assumption) | assumption)
        have q103 : x18_1 < (l1_0.length : Int) := of_decide_eq_true (by first | (with_reducible assumption) | assumption)
        obtain ⟨ad103, e103, hx103_0, hx103_1⟩ := at_T55 HR1_0.out x18_1 p103 q103
        cases e103
        replace hx103_0 := (HB.out.cell (World.block_lt_of_cell? w _ hx103_0)).trans hx103_0
        replace hx103_1 := (HB.out.cell (World.block_lt_of_cell? w _ hx103_1)).trans hx103_1
        replace p103 := eq_true p103
        replace q103 := eq_true q103
        go_wp2_with (first | ((with_reducible refine gate_dst (N := 7) rfl ?_); refine box_event ?hg (N := 7) ?hd (cs := #[.int .i64 0, .int .i64 0]) (t := 55) ?hr ?_; (case hd => rfl); (case hg => rfl); (case hr => first | (go_simp; done) | (go_simp; rfl)); intro gb104 hg w22 hbox hb; have n0_ := Aside0.mk (Kd.R_below (r_ HO_4) hb); have n1_ := Aside0.mk (blk_below (k_ BK101) hb); have n2_ := Aside0.mk (blk_below (k_ BK102) hb); have n3_ := Aside0.mk (below_step (b_ HB) hb); have n4_ := Aside0.mk (hbox); have n5_ := Aside0.mk ((by rw [hg]; exact (below_size (b_ HB)) : w.heap.size ≤ gb104)); have n6_ := n5_; have n7_ := Aside0.mk ((by rw [hg]; exact Nat.ne_of_lt (blk_lt (k_ BK101)) : gb101 ≠ gb104)); have n8_ := Aside0.mk ((by rw [hg]; exact Nat.ne_of_gt (blk_lt (k_ BK101)) : gb104 ≠ gb101)); have n9_ := Aside0.mk ((by rw [hg]; exact Nat.ne_of_lt (blk_lt (k_ BK102)) : gb102 ≠ gb104)); have n10_ := Aside0.mk ((by rw [hg]; exact Nat.ne_of_gt (blk_lt (k_ BK102)) : gb104 ≠ gb102)); clear HO_4; clear BK101; clear BK102; clear HB; have HO_4 := n0_; have BK101 := n1_; have BK102 := n2_; have HB := n3_; have BK104 := n4_; have GW104 := n5_; have GE104 := n6_; have NB101_104 := n7_; have NB104_101 := n8_; have NB102_104 := n9_; have NB104_102 := n10_; clear n0_ n1_ n2_ n3_ n4_ n5_ n6_ n7_ n8_ n9_ n10_; clear hb hbox hg; have hnb23 := NB104_101.out; have hnc23 := NB101_104.out; have hnb24 := NB104_102.out; have hnc24 := NB102_104.out; have hcz25_0 : w22.cell? ⟨gb104, 0, none⟩ = some (.int .i64 0) := (blk_cell BK104.out 0).trans rfl; have hcz25_1 : w22.cell? ⟨gb104, 1, none⟩ = some (.int .i64 0) := (blk_cell BK104.out 1).trans rfl; have hfz25_0 := blk_frozen BK104.out 0; have hfz25_1 := blk_frozen BK104.out 1; have hnb26 := NB101_102.out; have hnc26 := NB102_101.out; have hcz27_0 : w22.cell? ⟨gb101, 0, none⟩ = some (.slice A0_0 l0_0.length c0_0) := (blk_cell BK101.out 0).trans rfl; have hfz27_0 := blk_frozen BK101.out 0; have p105 : 0 ≤ (x18_1 : Int) := of_decide_eq_true (by first | (with_reducible assumption) | assumption); have q105 : x18_1 < (l0_0.length : Int) := of_decide_eq_true (by first | (with_reducible assumption) | assumption); obtain ⟨ad105, e105, hx105_0, hx105_1⟩ := at_T55 HR0_0.out x18_1 p105 q105; cases e105; have hn105_0 : ad105.block ≠ gb104 := Nat.ne_of_lt (Nat.lt_of_lt_of_le (by have := World.block_lt_of_cell? _ _ hx105_0; first | rwa [add_block] at this | exact this) GW104.out); have hn105_1 : ad105.block ≠ gb104 := Nat.ne_of_lt (Nat.lt_of_lt_of_le (by have := World.block_lt_of_cell? _ _ hx105_0; first | rwa [add_block] at this | exact this) GW104.out); replace hx105_0 := (HB.out.cell (World.block_lt_of_cell? w _ hx105_0)).trans hx105_0; replace hx105_1 := (HB.out.cell (World.block_lt_of_cell? w _ hx105_1)).trans hx105_1; replace hx105_0 := (cell_far (p := ⟨gb104, 0, none⟩) (by first | (rw [add_block]; exact hn105_0) | (show (Addr.add _ _).block ≠ _; rw [add_block]; exact hn105_0) | exact hn105_0) (.int .i64 ((rd_T55 l1_0 x18_1).f0))).trans hx105_0; replace hx105_1 := (cell_far (p := ⟨gb104, 0, none⟩) (by first | (rw [add_block]; exact hn105_0) | (show (Addr.add _ _).block ≠ _; rw [add_block]; exact hn105_0) | exact hn105_0) (.int .i64 ((rd_T55 l1_0 x18_1).f0))).trans hx105_1; replace hx105_0 := (cell_far (p := ⟨gb104, 1, none⟩) (by first | (rw [add_block]; exact hn105_1) | (show (Addr.add _ _).block ≠ _; rw [add_block]; exact hn105_1) | exact hn105_1) (.int .i64 ((rd_T55 l1_0 x18_1).f1))).trans hx105_0; replace hx105_1 := (cell_far (p := ⟨gb104, 1, none⟩) (by first | (rw [add_block]; exact hn105_1) | (show (Addr.add _ _).block ≠ _; rw [add_block]; exact hn105_1) | exact hn105_1) (.int .i64 ((rd_T55 l1_0 x18_1).f1))).trans hx105_1; (try have hy105_0 := fun (n_ : Nat) => (show ((((w22.drewN n_).setCell ⟨gb104, 0, none⟩ (.int .i64 ((rd_T55 l1_0 x18_1).f0))).setCell ⟨gb104, 1, none⟩ (.int .i64 ((rd_T55 l1_0 x18_1).f1)))).cell? _ = some _ from hx105_0)); (try have hy105_1 := fun (n_ : Nat) => (show ((((w22.drewN n_).setCell ⟨gb104, 0, none⟩ (.int .i64 ((rd_T55 l1_0 x18_1).f0))).setCell ⟨gb104, 1, none⟩ (.int .i64 ((rd_T55 l1_0 x18_1).f1)))).cell? _ = some _ from hx105_1)); clear hn105_0; clear hn105_1; replace p105 := eq_true p105; replace q105 := eq_true q105))
        repeat (go_quiet (first | ((with_reducible refine gate_dst (N := 7) rfl ?_); refine box_event ?hg (N := 7) ?hd (cs := #[.int .i64 0, .int .i64 0]) (t := 55) ?hr ?_; (case hd => rfl); (case hg => rfl); (case hr => first | (go_simp; done) | (go_simp; rfl)); intro gb104 hg w22 hbox hb; have n0_ := Aside0.mk (Kd.R_below (r_ HO_4) hb); have n1_ := Aside0.mk (blk_below (k_ BK101) hb); have n2_ := Aside0.mk (blk_below (k_ BK102) hb); have n3_ := Aside0.mk (below_step (b_ HB) hb); have n4_ := Aside0.mk (hbox); have n5_ := Aside0.mk ((by rw [hg]; exact (below_size (b_ HB)) : w.heap.size ≤ gb104)); have n6_ := n5_; have n7_ := Aside0.mk ((by rw [hg]; exact Nat.ne_of_lt (blk_lt (k_ BK101)) : gb101 ≠ gb104)); have n8_ := Aside0.mk ((by rw [hg]; exact Nat.ne_of_gt (blk_lt (k_ BK101)) : gb104 ≠ gb101)); have n9_ := Aside0.mk ((by rw [hg]; exact Nat.ne_of_lt (blk_lt (k_ BK102)) : gb102 ≠ gb104)); have n10_ := Aside0.mk ((by rw [hg]; exact Nat.ne_of_gt (blk_lt (k_ BK102)) : gb104 ≠ gb102)); clear HO_4; clear BK101; clear BK102; clear HB; have HO_4 := n0_; have BK101 := n1_; have BK102 := n2_; have HB := n3_; have BK104 := n4_; have GW104 := n5_; have GE104 := n6_; have NB101_104 := n7_; have NB104_101 := n8_; have NB102_104 := n9_; have NB104_102 := n10_; clear n0_ n1_ n2_ n3_ n4_ n5_ n6_ n7_ n8_ n9_ n10_; clear hb hbox hg; have hnb23 := NB104_101.out; have hnc23 := NB101_104.out; have hnb24 := NB104_102.out; have hnc24 := NB102_104.out; have hcz25_0 : w22.cell? ⟨gb104, 0, none⟩ = some (.int .i64 0) := (blk_cell BK104.out 0).trans rfl; have hcz25_1 : w22.cell? ⟨gb104, 1, none⟩ = some (.int .i64 0) := (blk_cell BK104.out 1).trans rfl; have hfz25_0 := blk_frozen BK104.out 0; have hfz25_1 := blk_frozen BK104.out 1; have hnb26 := NB101_102.out; have hnc26 := NB102_101.out; have hcz27_0 : w22.cell? ⟨gb101, 0, none⟩ = some (.slice A0_0 l0_0.length c0_0) := (blk_cell BK101.out 0).trans rfl; have hfz27_0 := blk_frozen BK101.out 0; have p105 : 0 ≤ (x18_1 : Int) := of_decide_eq_true (by first | (with_reducible assumption) | assumption); have q105 : x18_1 < (l0_0.length : Int) := of_decide_eq_true (by first | (with_reducible assumption) | assumption); obtain ⟨ad105, e105, hx105_0, hx105_1⟩ := at_T55 HR0_0.out x18_1 p105 q105; cases e105; have hn105_0 : ad105.block ≠ gb104 := Nat.ne_of_lt (Nat.lt_of_lt_of_le (by have := World.block_lt_of_cell? _ _ hx105_0; first | rwa [add_block] at this | exact this) GW104.out); have hn105_1 : ad105.block ≠ gb104 := Nat.ne_of_lt (Nat.lt_of_lt_of_le (by have := World.block_lt_of_cell? _ _ hx105_0; first | rwa [add_block] at this | exact this) GW104.out); replace hx105_0 := (HB.out.cell (World.block_lt_of_cell? w _ hx105_0)).trans hx105_0; replace hx105_1 := (HB.out.cell (World.block_lt_of_cell? w _ hx105_1)).trans hx105_1; replace hx105_0 := (cell_far (p := ⟨gb104, 0, none⟩) (by first | (rw [add_block]; exact hn105_0) | (show (Addr.add _ _).block ≠ _; rw [add_block]; exact hn105_0) | exact hn105_0) (.int .i64 ((rd_T55 l1_0 x18_1).f0))).trans hx105_0; replace hx105_1 := (cell_far (p := ⟨gb104, 0, none⟩) (by first | (rw [add_block]; exact hn105_0) | (show (Addr.add _ _).block ≠ _; rw [add_block]; exact hn105_0) | exact hn105_0) (.int .i64 ((rd_T55 l1_0 x18_1).f0))).trans hx105_1; replace hx105_0 := (cell_far (p := ⟨gb104, 1, none⟩) (by first | (rw [add_block]; exact hn105_1) | (show (Addr.add _ _).block ≠ _; rw [add_block]; exact hn105_1) | exact hn105_1) (.int .i64 ((rd_T55 l1_0 x18_1).f1))).trans hx105_0; replace hx105_1 := (cell_far (p := ⟨gb104, 1, none⟩) (by first | (rw [add_block]; exact hn105_1) | (show (Addr.add _ _).block ≠ _; rw [add_block]; exact hn105_1) | exact hn105_1) (.int .i64 ((rd_T55 l1_0 x18_1).f1))).trans hx105_1; (try have hy105_0 := fun (n_ : Nat) => (show ((((w22.drewN n_).setCell ⟨gb104, 0, none⟩ (.int .i64 ((rd_T55 l1_0 x18_1).f0))).setCell ⟨gb104, 1, none⟩ (.int .i64 ((rd_T55 l1_0 x18_1).f1)))).cell? _ = some _ from hx105_0)); (try have hy105_1 := fun (n_ : Nat) => (show ((((w22.drewN n_).setCell ⟨gb104, 0, none⟩ (.int .i64 ((rd_T55 l1_0 x18_1).f0))).setCell ⟨gb104, 1, none⟩ (.int .i64 ((rd_T55 l1_0 x18_1).f1)))).cell? _ = some _ from hx105_1)); clear hn105_0; clear hn105_1; replace p105 := eq_true p105; replace q105 := eq_true q105)); try go_wp2_with (first | ((with_reducible refine gate_dst (N := 7) rfl ?_); refine box_event ?hg (N := 7) ?hd (cs := #[.int .i64 0, .int .i64 0]) (t := 55) ?hr ?_; (case hd => rfl); (case hg => rfl); (case hr => first | (go_simp; done) | (go_simp; rfl)); intro gb104 hg w22 hbox hb; have n0_ := Aside0.mk (Kd.R_below (r_ HO_4) hb); have n1_ := Aside0.mk (blk_below (k_ BK101) hb); have n2_ := Aside0.mk (blk_below (k_ BK102) hb); have n3_ := Aside0.mk (below_step (b_ HB) hb); have n4_ := Aside0.mk (hbox); have n5_ := Aside0.mk ((by rw [hg]; exact (below_size (b_ HB)) : w.heap.size ≤ gb104)); have n6_ := n5_; have n7_ := Aside0.mk ((by rw [hg]; exact Nat.ne_of_lt (blk_lt (k_ BK101)) : gb101 ≠ gb104)); have n8_ := Aside0.mk ((by rw [hg]; exact Nat.ne_of_gt (blk_lt (k_ BK101)) : gb104 ≠ gb101)); have n9_ := Aside0.mk ((by rw [hg]; exact Nat.ne_of_lt (blk_lt (k_ BK102)) : gb102 ≠ gb104)); have n10_ := Aside0.mk ((by rw [hg]; exact Nat.ne_of_gt (blk_lt (k_ BK102)) : gb104 ≠ gb102)); clear HO_4; clear BK101; clear BK102; clear HB; have HO_4 := n0_; have BK101 := n1_; have BK102 := n2_; have HB := n3_; have BK104 := n4_; have GW104 := n5_; have GE104 := n6_; have NB101_104 := n7_; have NB104_101 := n8_; have NB102_104 := n9_; have NB104_102 := n10_; clear n0_ n1_ n2_ n3_ n4_ n5_ n6_ n7_ n8_ n9_ n10_; clear hb hbox hg; have hnb23 := NB104_101.out; have hnc23 := NB101_104.out; have hnb24 := NB104_102.out; have hnc24 := NB102_104.out; have hcz25_0 : w22.cell? ⟨gb104, 0, none⟩ = some (.int .i64 0) := (blk_cell BK104.out 0).trans rfl; have hcz25_1 : w22.cell? ⟨gb104, 1, none⟩ = some (.int .i64 0) := (blk_cell BK104.out 1).trans rfl; have hfz25_0 := blk_frozen BK104.out 0; have hfz25_1 := blk_frozen BK104.out 1; have hnb26 := NB101_102.out; have hnc26 := NB102_101.out; have hcz27_0 : w22.cell? ⟨gb101, 0, none⟩ = some (.slice A0_0 l0_0.length c0_0) := (blk_cell BK101.out 0).trans rfl; have hfz27_0 := blk_frozen BK101.out 0; have p105 : 0 ≤ (x18_1 : Int) := of_decide_eq_true (by first | (with_reducible assumption) | assumption); have q105 : x18_1 < (l0_0.length : Int) := of_decide_eq_true (by first | (with_reducible assumption) | assumption); obtain ⟨ad105, e105, hx105_0, hx105_1⟩ := at_T55 HR0_0.out x18_1 p105 q105; cases e105; have hn105_0 : ad105.block ≠ gb104 := Nat.ne_of_lt (Nat.lt_of_lt_of_le (by have := World.block_lt_of_cell? _ _ hx105_0; first | rwa [add_block] at this | exact this) GW104.out); have hn105_1 : ad105.block ≠ gb104 := Nat.ne_of_lt (Nat.lt_of_lt_of_le (by have := World.block_lt_of_cell? _ _ hx105_0; first | rwa [add_block] at this | exact this) GW104.out); replace hx105_0 := (HB.out.cell (World.block_lt_of_cell? w _ hx105_0)).trans hx105_0; replace hx105_1 := (HB.out.cell (World.block_lt_of_cell? w _ hx105_1)).trans hx105_1; replace hx105_0 := (cell_far (p := ⟨gb104, 0, none⟩) (by first | (rw [add_block]; exact hn105_0) | (show (Addr.add _ _).block ≠ _; rw [add_block]; exact hn105_0) | exact hn105_0) (.int .i64 ((rd_T55 l1_0 x18_1).f0))).trans hx105_0; replace hx105_1 := (cell_far (p := ⟨gb104, 0, none⟩) (by first | (rw [add_block]; exact hn105_0) | (show (Addr.add _ _).block ≠ _; rw [add_block]; exact hn105_0) | exact hn105_0) (.int .i64 ((rd_T55 l1_0 x18_1).f0))).trans hx105_1; replace hx105_0 := (cell_far (p := ⟨gb104, 1, none⟩) (by first | (rw [add_block]; exact hn105_1) | (show (Addr.add _ _).block ≠ _; rw [add_block]; exact hn105_1) | exact hn105_1) (.int .i64 ((rd_T55 l1_0 x18_1).f1))).trans hx105_0; replace hx105_1 := (cell_far (p := ⟨gb104, 1, none⟩) (by first | (rw [add_block]; exact hn105_1) | (show (Addr.add _ _).block ≠ _; rw [add_block]; exact hn105_1) | exact hn105_1) (.int .i64 ((rd_T55 l1_0 x18_1).f1))).trans hx105_1; (try have hy105_0 := fun (n_ : Nat) => (show ((((w22.drewN n_).setCell ⟨gb104, 0, none⟩ (.int .i64 ((rd_T55 l1_0 x18_1).f0))).setCell ⟨gb104, 1, none⟩ (.int .i64 ((rd_T55 l1_0 x18_1).f1)))).cell? _ = some _ from hx105_0)); (try have hy105_1 := fun (n_ : Nat) => (show ((((w22.drewN n_).setCell ⟨gb104, 0, none⟩ (.int .i64 ((rd_T55 l1_0 x18_1).f0))).setCell ⟨gb104, 1, none⟩ (.int .i64 ((rd_T55 l1_0 x18_1).f1)))).cell? _ = some _ from hx105_1)); clear hn105_0; clear hn105_1; replace p105 := eq_true p105; replace q105 := eq_true q105)))
        go_roundg k1
        case measure => have := HK1.out; omega
        case rel => exact ⟨(x4_1), (wrap64 (x18_1 + 1)), (by first | rfl | (simp; done) | (simp [*]; done)), H', ⟨by have := HK1.out; omega⟩, ⟨by (with_reducible repeat (first | apply Kd.R_alloc | apply Kd.R_drewN | apply Kd.R_drew)); exact Kd.R_mono (Kd.R_far (p := ⟨gb104, 1, none⟩) (Kd.R_far (p := ⟨gb104, 0, none⟩) (Kd.R_types HO_4.out BK104.out (by decide)) (fun _ hk => hk.2) (.int .i64 ((rd_T55 l1_0 x18_1).f0))) (fun _ hk => hk.2) (.int .i64 ((rd_T55 l1_0 x18_1).f1))) (fun _ hk => trivial)⟩, ⟨by (with_reducible repeat (first | refine blk_drewN ?_ _ | refine blk_drew ?_ | refine blk_alloc ?_ _)); refine blk_far ?_ NB101_104.out _; (with_reducible repeat (first | refine blk_drewN ?_ _ | refine blk_drew ?_ | refine blk_alloc ?_ _)); refine blk_far ?_ NB101_104.out _; (with_reducible repeat (first | refine blk_drewN ?_ _ | refine blk_drew ?_ | refine blk_alloc ?_ _)); exact BK101.out⟩, ⟨by (with_reducible repeat (first | refine blk_drewN ?_ _ | refine blk_drew ?_ | refine blk_alloc ?_ _)); refine blk_far ?_ NB102_104.out _; (with_reducible repeat (first | refine blk_drewN ?_ _ | refine blk_drew ?_ | refine blk_alloc ?_ _)); refine blk_far ?_ NB102_104.out _; (with_reducible repeat (first | refine blk_drewN ?_ _ | refine blk_drew ?_ | refine blk_alloc ?_ _)); exact BK102.out⟩, ⟨b_ HB⟩⟩
      rw [if_pos c13] at H
      have c13b0 : (!(((rd_T55 l1_0 x18_1).f0) == ((rd_T55 l0_0 x18_1).f0)) || (!(((rd_T55 l1_0 x18_1).f1) == ((rd_T55 l0_0 x18_1).f1)))) = true := c13
      clear c13
      by_cases c14 : x4_1.length < 5864062014805
      rotate_left
      · rw [if_neg c14] at H
        exact absurd H (by simp)
      rw [if_pos c14] at H
      have LMc14 := Aside0.mk c14
      clear c14
      obtain ⟨y106, hy106⟩ : ∃ y_ : List (S57), y_ = (x4_1 ++ [(⟨x18_1, (⟨(rd_T55 l1_0 x18_1).f0, (rd_T55 l1_0 x18_1).f1⟩ : S55)⟩ : S57)]) := ⟨_, rfl⟩
      replace H : (week_Diff.l0 k1 y106 0 l1_0 (l1_0.length : Int) (wrap64 (x18_1 + 1)) l0_0) = some (r1, r2) := by first | (rw [hy106]; with_reducible exact H) | (have H2_ := (Option.bind_some _ _).symm.trans H; rw [hy106]; with_reducible exact H2_) | (have H2_ := (Option.bind_some _ _).symm.trans H; with_reducible exact H2_) | with_reducible exact H | (rw [hy106]; exact H) | exact H
      have Ny106 := Aside0.mk hy106
      clear hy106
      have H' := Aside0.mk H
      clear H
      have p103 : 0 ≤ (x18_1 : Int) := of_decide_eq_true (by first | (with_reducible assumption) | assumption)
      have q103 : x18_1 < (l1_0.length : Int) := of_decide_eq_true (by first | (with_reducible assumption) | assumption)
      obtain ⟨ad103, e103, hx103_0, hx103_1⟩ := at_T55 HR1_0.out x18_1 p103 q103
      cases e103
      replace hx103_0 := (HB.out.cell (World.block_lt_of_cell? w _ hx103_0)).trans hx103_0
      replace hx103_1 := (HB.out.cell (World.block_lt_of_cell? w _ hx103_1)).trans hx103_1
      replace p103 := eq_true p103
      replace q103 := eq_true q103
      go_wp2_with (first | ((with_reducible refine gate_dst (N := 7) rfl ?_); refine box_event ?hg (N := 7) ?hd (cs := #[.int .i64 0, .int .i64 0]) (t := 55) ?hr ?_; (case hd => rfl); (case hg => rfl); (case hr => first | (go_simp; done) | (go_simp; rfl)); intro gb104 hg w15 hbox hb; have n0_ := Aside0.mk (Kd.R_below (r_ HO_4) hb); have n1_ := Aside0.mk (blk_below (k_ BK101) hb); have n2_ := Aside0.mk (blk_below (k_ BK102) hb); have n3_ := Aside0.mk (below_step (b_ HB) hb); have n4_ := Aside0.mk (hbox); have n5_ := Aside0.mk ((by rw [hg]; exact (below_size (b_ HB)) : w.heap.size ≤ gb104)); have n6_ := n5_; have n7_ := Aside0.mk ((by rw [hg]; exact Nat.ne_of_lt (blk_lt (k_ BK101)) : gb101 ≠ gb104)); have n8_ := Aside0.mk ((by rw [hg]; exact Nat.ne_of_gt (blk_lt (k_ BK101)) : gb104 ≠ gb101)); have n9_ := Aside0.mk ((by rw [hg]; exact Nat.ne_of_lt (blk_lt (k_ BK102)) : gb102 ≠ gb104)); have n10_ := Aside0.mk ((by rw [hg]; exact Nat.ne_of_gt (blk_lt (k_ BK102)) : gb104 ≠ gb102)); clear HO_4; clear BK101; clear BK102; clear HB; have HO_4 := n0_; have BK101 := n1_; have BK102 := n2_; have HB := n3_; have BK104 := n4_; have GW104 := n5_; have GE104 := n6_; have NB101_104 := n7_; have NB104_101 := n8_; have NB102_104 := n9_; have NB104_102 := n10_; clear n0_ n1_ n2_ n3_ n4_ n5_ n6_ n7_ n8_ n9_ n10_; clear hb hbox hg; have hnb16 := NB104_101.out; have hnc16 := NB101_104.out; have hnb17 := NB104_102.out; have hnc17 := NB102_104.out; have hcz18_0 : w15.cell? ⟨gb104, 0, none⟩ = some (.int .i64 0) := (blk_cell BK104.out 0).trans rfl; have hcz18_1 : w15.cell? ⟨gb104, 1, none⟩ = some (.int .i64 0) := (blk_cell BK104.out 1).trans rfl; have hfz18_0 := blk_frozen BK104.out 0; have hfz18_1 := blk_frozen BK104.out 1; have hnb19 := NB101_102.out; have hnc19 := NB102_101.out; have hcz20_0 : w15.cell? ⟨gb101, 0, none⟩ = some (.slice A0_0 l0_0.length c0_0) := (blk_cell BK101.out 0).trans rfl; have hfz20_0 := blk_frozen BK101.out 0; have p105 : 0 ≤ (x18_1 : Int) := of_decide_eq_true (by first | (with_reducible assumption) | assumption); have q105 : x18_1 < (l0_0.length : Int) := of_decide_eq_true (by first | (with_reducible assumption) | assumption); obtain ⟨ad105, e105, hx105_0, hx105_1⟩ := at_T55 HR0_0.out x18_1 p105 q105; cases e105; have hn105_0 : ad105.block ≠ gb104 := Nat.ne_of_lt (Nat.lt_of_lt_of_le (by have := World.block_lt_of_cell? _ _ hx105_0; first | rwa [add_block] at this | exact this) GW104.out); have hn105_1 : ad105.block ≠ gb104 := Nat.ne_of_lt (Nat.lt_of_lt_of_le (by have := World.block_lt_of_cell? _ _ hx105_0; first | rwa [add_block] at this | exact this) GW104.out); replace hx105_0 := (HB.out.cell (World.block_lt_of_cell? w _ hx105_0)).trans hx105_0; replace hx105_1 := (HB.out.cell (World.block_lt_of_cell? w _ hx105_1)).trans hx105_1; replace hx105_0 := (cell_far (p := ⟨gb104, 0, none⟩) (by first | (rw [add_block]; exact hn105_0) | (show (Addr.add _ _).block ≠ _; rw [add_block]; exact hn105_0) | exact hn105_0) (.int .i64 ((rd_T55 l1_0 x18_1).f0))).trans hx105_0; replace hx105_1 := (cell_far (p := ⟨gb104, 0, none⟩) (by first | (rw [add_block]; exact hn105_0) | (show (Addr.add _ _).block ≠ _; rw [add_block]; exact hn105_0) | exact hn105_0) (.int .i64 ((rd_T55 l1_0 x18_1).f0))).trans hx105_1; replace hx105_0 := (cell_far (p := ⟨gb104, 1, none⟩) (by first | (rw [add_block]; exact hn105_1) | (show (Addr.add _ _).block ≠ _; rw [add_block]; exact hn105_1) | exact hn105_1) (.int .i64 ((rd_T55 l1_0 x18_1).f1))).trans hx105_0; replace hx105_1 := (cell_far (p := ⟨gb104, 1, none⟩) (by first | (rw [add_block]; exact hn105_1) | (show (Addr.add _ _).block ≠ _; rw [add_block]; exact hn105_1) | exact hn105_1) (.int .i64 ((rd_T55 l1_0 x18_1).f1))).trans hx105_1; (try have hy105_0 := fun (n_ : Nat) => (show ((((w15.drewN n_).setCell ⟨gb104, 0, none⟩ (.int .i64 ((rd_T55 l1_0 x18_1).f0))).setCell ⟨gb104, 1, none⟩ (.int .i64 ((rd_T55 l1_0 x18_1).f1)))).cell? _ = some _ from hx105_0)); (try have hy105_1 := fun (n_ : Nat) => (show ((((w15.drewN n_).setCell ⟨gb104, 0, none⟩ (.int .i64 ((rd_T55 l1_0 x18_1).f0))).setCell ⟨gb104, 1, none⟩ (.int .i64 ((rd_T55 l1_0 x18_1).f1)))).cell? _ = some _ from hx105_1)); clear hn105_0; clear hn105_1; replace p105 := eq_true p105; replace q105 := eq_true q105) | ((with_reducible refine gate_builtin (b := .append) (xs := #[.tmp 30, .tmp 34]) rfl ?_); at_builtin; refine Kd.R_append k57 (w0 := w) w.heap.size rfl (.tmp 30) (.tmp 34) 25 57 (.agg #[(.int .i64 0), (.int .i64 0), (.int .i64 0)]) 24 rfl Tryd.underlying25 info57 rfl (by decide) (by omega) u4 x4_1 (⟨x18_1, (⟨(rd_T55 l1_0 x18_1).f0, (rd_T55 l1_0 x18_1).f1⟩ : S55)⟩ : S57) [.int .i64 x18_1, .int .i64 ((rd_T55 l1_0 x18_1).f0), .int .i64 ((rd_T55 l1_0 x18_1).f1)] (fun _ => True) (fun _ => False) rfl (by first | (go_simp; done) | (go_simp; rfl)) ?aP (fun _ hk => hk.elim) ?aF ?aO ?aB ?aS ?aL ?_; (case aP => exact k57_mkM _ _ _ (⟨x18_1, (⟨(rd_T55 l1_0 x18_1).f0, (rd_T55 l1_0 x18_1).f1⟩ : S55)⟩ : S57)); (case aB => exact (b_ HB)); (case aF => exact (fun _ _ => trivial)); (case aO => exact (by (with_reducible repeat (first | apply Kd.R_alloc | apply Kd.R_drewN | apply Kd.R_drew)); exact Kd.R_mono (Kd.R_far (p := ⟨gb104, 1, none⟩) (Kd.R_far (p := ⟨gb104, 0, none⟩) (Kd.R_types HO_4.out BK104.out (by decide)) (fun _ hk => hk.2) (.int .i64 ((rd_T55 l1_0 x18_1).f0))) (fun _ hk => hk.2) (.int .i64 ((rd_T55 l1_0 x18_1).f1))) (fun _ hk => trivial))); (case aS => exact (below_size (b_ HB))); (case aL => have := LMc14.out; omega); intro v107 w21 ho hb hg hat; rw [← Ny106.out] at ho; have n0_ := Aside0.mk (blk_grown (g := gb101) (o := .cells #[.slice (some ad105) l0_0.length c0_0] 24 (0, 0)) (by (with_reducible repeat (first | refine blk_drewN ?_ _ | refine blk_drew ?_ | refine blk_alloc ?_ _)); refine blk_far ?_ NB101_104.out _; (with_reducible repeat (first | refine blk_drewN ?_ _ | refine blk_drew ?_ | refine blk_alloc ?_ _)); refine blk_far ?_ NB101_104.out _; (with_reducible repeat (first | refine blk_drewN ?_ _ | refine blk_drew ?_ | refine blk_alloc ?_ _)); exact BK101.out) hg (Kd.R_ne HO_4.out BK101.out (by decide))); have n1_ := Aside0.mk (blk_grown (g := gb102) (o := .cells #[.slice (some ad103) l1_0.length c1_0] 24 (0, 0)) (by (with_reducible repeat (first | refine blk_drewN ?_ _ | refine blk_drew ?_ | refine blk_alloc ?_ _)); refine blk_far ?_ NB102_104.out _; (with_reducible repeat (first | refine blk_drewN ?_ _ | refine blk_drew ?_ | refine blk_alloc ?_ _)); refine blk_far ?_ NB102_104.out _; (with_reducible repeat (first | refine blk_drewN ?_ _ | refine blk_drew ?_ | refine blk_alloc ?_ _)); exact BK102.out) hg (Kd.R_ne HO_4.out BK102.out (by decide))); have n2_ := Aside0.mk (blk_grown (g := gb104) (o := .cells #[.int .i64 ((rd_T55 l1_0 x18_1).f0), .int .i64 ((rd_T55 l1_0 x18_1).f1)] 55 (0, 0)) (by (with_reducible repeat (first | refine blk_drewN ?_ _ | refine blk_drew ?_ | refine blk_alloc ?_ _)); refine blk_put (cs := #[.int .i64 ((rd_T55 l1_0 x18_1).f0), .int .i64 0]) ?_ 1 _ rfl; (with_reducible repeat (first | refine blk_drewN ?_ _ | refine blk_drew ?_ | refine blk_alloc ?_ _)); refine blk_put (cs := #[.int .i64 0, .int .i64 0]) ?_ 0 _ rfl; (with_reducible repeat (first | refine blk_drewN ?_ _ | refine blk_drew ?_ | refine blk_alloc ?_ _)); exact BK104.out) hg (Kd.R_ne HO_4.out BK104.out (by decide))); have n3_ := Aside0.mk (hb); have n4_ := Aside0.mk (ho); clear BK101; clear BK102; clear BK104; clear HB; clear HO_4; have BK101 := n0_; have BK102 := n1_; have BK104 := n2_; have HB := n3_; have HO108 := n4_; clear n0_ n1_ n2_ n3_ n4_; clear ho hb hg hat))
      repeat (go_quiet (first | ((with_reducible refine gate_dst (N := 7) rfl ?_); refine box_event ?hg (N := 7) ?hd (cs := #[.int .i64 0, .int .i64 0]) (t := 55) ?hr ?_; (case hd => rfl); (case hg => rfl); (case hr => first | (go_simp; done) | (go_simp; rfl)); intro gb104 hg w15 hbox hb; have n0_ := Aside0.mk (Kd.R_below (r_ HO_4) hb); have n1_ := Aside0.mk (blk_below (k_ BK101) hb); have n2_ := Aside0.mk (blk_below (k_ BK102) hb); have n3_ := Aside0.mk (below_step (b_ HB) hb); have n4_ := Aside0.mk (hbox); have n5_ := Aside0.mk ((by rw [hg]; exact (below_size (b_ HB)) : w.heap.size ≤ gb104)); have n6_ := n5_; have n7_ := Aside0.mk ((by rw [hg]; exact Nat.ne_of_lt (blk_lt (k_ BK101)) : gb101 ≠ gb104)); have n8_ := Aside0.mk ((by rw [hg]; exact Nat.ne_of_gt (blk_lt (k_ BK101)) : gb104 ≠ gb101)); have n9_ := Aside0.mk ((by rw [hg]; exact Nat.ne_of_lt (blk_lt (k_ BK102)) : gb102 ≠ gb104)); have n10_ := Aside0.mk ((by rw [hg]; exact Nat.ne_of_gt (blk_lt (k_ BK102)) : gb104 ≠ gb102)); clear HO_4; clear BK101; clear BK102; clear HB; have HO_4 := n0_; have BK101 := n1_; have BK102 := n2_; have HB := n3_; have BK104 := n4_; have GW104 := n5_; have GE104 := n6_; have NB101_104 := n7_; have NB104_101 := n8_; have NB102_104 := n9_; have NB104_102 := n10_; clear n0_ n1_ n2_ n3_ n4_ n5_ n6_ n7_ n8_ n9_ n10_; clear hb hbox hg; have hnb16 := NB104_101.out; have hnc16 := NB101_104.out; have hnb17 := NB104_102.out; have hnc17 := NB102_104.out; have hcz18_0 : w15.cell? ⟨gb104, 0, none⟩ = some (.int .i64 0) := (blk_cell BK104.out 0).trans rfl; have hcz18_1 : w15.cell? ⟨gb104, 1, none⟩ = some (.int .i64 0) := (blk_cell BK104.out 1).trans rfl; have hfz18_0 := blk_frozen BK104.out 0; have hfz18_1 := blk_frozen BK104.out 1; have hnb19 := NB101_102.out; have hnc19 := NB102_101.out; have hcz20_0 : w15.cell? ⟨gb101, 0, none⟩ = some (.slice A0_0 l0_0.length c0_0) := (blk_cell BK101.out 0).trans rfl; have hfz20_0 := blk_frozen BK101.out 0; have p105 : 0 ≤ (x18_1 : Int) := of_decide_eq_true (by first | (with_reducible assumption) | assumption); have q105 : x18_1 < (l0_0.length : Int) := of_decide_eq_true (by first | (with_reducible assumption) | assumption); obtain ⟨ad105, e105, hx105_0, hx105_1⟩ := at_T55 HR0_0.out x18_1 p105 q105; cases e105; have hn105_0 : ad105.block ≠ gb104 := Nat.ne_of_lt (Nat.lt_of_lt_of_le (by have := World.block_lt_of_cell? _ _ hx105_0; first | rwa [add_block] at this | exact this) GW104.out); have hn105_1 : ad105.block ≠ gb104 := Nat.ne_of_lt (Nat.lt_of_lt_of_le (by have := World.block_lt_of_cell? _ _ hx105_0; first | rwa [add_block] at this | exact this) GW104.out); replace hx105_0 := (HB.out.cell (World.block_lt_of_cell? w _ hx105_0)).trans hx105_0; replace hx105_1 := (HB.out.cell (World.block_lt_of_cell? w _ hx105_1)).trans hx105_1; replace hx105_0 := (cell_far (p := ⟨gb104, 0, none⟩) (by first | (rw [add_block]; exact hn105_0) | (show (Addr.add _ _).block ≠ _; rw [add_block]; exact hn105_0) | exact hn105_0) (.int .i64 ((rd_T55 l1_0 x18_1).f0))).trans hx105_0; replace hx105_1 := (cell_far (p := ⟨gb104, 0, none⟩) (by first | (rw [add_block]; exact hn105_0) | (show (Addr.add _ _).block ≠ _; rw [add_block]; exact hn105_0) | exact hn105_0) (.int .i64 ((rd_T55 l1_0 x18_1).f0))).trans hx105_1; replace hx105_0 := (cell_far (p := ⟨gb104, 1, none⟩) (by first | (rw [add_block]; exact hn105_1) | (show (Addr.add _ _).block ≠ _; rw [add_block]; exact hn105_1) | exact hn105_1) (.int .i64 ((rd_T55 l1_0 x18_1).f1))).trans hx105_0; replace hx105_1 := (cell_far (p := ⟨gb104, 1, none⟩) (by first | (rw [add_block]; exact hn105_1) | (show (Addr.add _ _).block ≠ _; rw [add_block]; exact hn105_1) | exact hn105_1) (.int .i64 ((rd_T55 l1_0 x18_1).f1))).trans hx105_1; (try have hy105_0 := fun (n_ : Nat) => (show ((((w15.drewN n_).setCell ⟨gb104, 0, none⟩ (.int .i64 ((rd_T55 l1_0 x18_1).f0))).setCell ⟨gb104, 1, none⟩ (.int .i64 ((rd_T55 l1_0 x18_1).f1)))).cell? _ = some _ from hx105_0)); (try have hy105_1 := fun (n_ : Nat) => (show ((((w15.drewN n_).setCell ⟨gb104, 0, none⟩ (.int .i64 ((rd_T55 l1_0 x18_1).f0))).setCell ⟨gb104, 1, none⟩ (.int .i64 ((rd_T55 l1_0 x18_1).f1)))).cell? _ = some _ from hx105_1)); clear hn105_0; clear hn105_1; replace p105 := eq_true p105; replace q105 := eq_true q105) | ((with_reducible refine gate_builtin (b := .append) (xs := #[.tmp 30, .tmp 34]) rfl ?_); at_builtin; refine Kd.R_append k57 (w0 := w) w.heap.size rfl (.tmp 30) (.tmp 34) 25 57 (.agg #[(.int .i64 0), (.int .i64 0), (.int .i64 0)]) 24 rfl Tryd.underlying25 info57 rfl (by decide) (by omega) u4 x4_1 (⟨x18_1, (⟨(rd_T55 l1_0 x18_1).f0, (rd_T55 l1_0 x18_1).f1⟩ : S55)⟩ : S57) [.int .i64 x18_1, .int .i64 ((rd_T55 l1_0 x18_1).f0), .int .i64 ((rd_T55 l1_0 x18_1).f1)] (fun _ => True) (fun _ => False) rfl (by first | (go_simp; done) | (go_simp; rfl)) ?aP (fun _ hk => hk.elim) ?aF ?aO ?aB ?aS ?aL ?_; (case aP => exact k57_mkM _ _ _ (⟨x18_1, (⟨(rd_T55 l1_0 x18_1).f0, (rd_T55 l1_0 x18_1).f1⟩ : S55)⟩ : S57)); (case aB => exact (b_ HB)); (case aF => exact (fun _ _ => trivial)); (case aO => exact (by (with_reducible repeat (first | apply Kd.R_alloc | apply Kd.R_drewN | apply Kd.R_drew)); exact Kd.R_mono (Kd.R_far (p := ⟨gb104, 1, none⟩) (Kd.R_far (p := ⟨gb104, 0, none⟩) (Kd.R_types HO_4.out BK104.out (by decide)) (fun _ hk => hk.2) (.int .i64 ((rd_T55 l1_0 x18_1).f0))) (fun _ hk => hk.2) (.int .i64 ((rd_T55 l1_0 x18_1).f1))) (fun _ hk => trivial))); (case aS => exact (below_size (b_ HB))); (case aL => have := LMc14.out; omega); intro v107 w21 ho hb hg hat; rw [← Ny106.out] at ho; have n0_ := Aside0.mk (blk_grown (g := gb101) (o := .cells #[.slice (some ad105) l0_0.length c0_0] 24 (0, 0)) (by (with_reducible repeat (first | refine blk_drewN ?_ _ | refine blk_drew ?_ | refine blk_alloc ?_ _)); refine blk_far ?_ NB101_104.out _; (with_reducible repeat (first | refine blk_drewN ?_ _ | refine blk_drew ?_ | refine blk_alloc ?_ _)); refine blk_far ?_ NB101_104.out _; (with_reducible repeat (first | refine blk_drewN ?_ _ | refine blk_drew ?_ | refine blk_alloc ?_ _)); exact BK101.out) hg (Kd.R_ne HO_4.out BK101.out (by decide))); have n1_ := Aside0.mk (blk_grown (g := gb102) (o := .cells #[.slice (some ad103) l1_0.length c1_0] 24 (0, 0)) (by (with_reducible repeat (first | refine blk_drewN ?_ _ | refine blk_drew ?_ | refine blk_alloc ?_ _)); refine blk_far ?_ NB102_104.out _; (with_reducible repeat (first | refine blk_drewN ?_ _ | refine blk_drew ?_ | refine blk_alloc ?_ _)); refine blk_far ?_ NB102_104.out _; (with_reducible repeat (first | refine blk_drewN ?_ _ | refine blk_drew ?_ | refine blk_alloc ?_ _)); exact BK102.out) hg (Kd.R_ne HO_4.out BK102.out (by decide))); have n2_ := Aside0.mk (blk_grown (g := gb104) (o := .cells #[.int .i64 ((rd_T55 l1_0 x18_1).f0), .int .i64 ((rd_T55 l1_0 x18_1).f1)] 55 (0, 0)) (by (with_reducible repeat (first | refine blk_drewN ?_ _ | refine blk_drew ?_ | refine blk_alloc ?_ _)); refine blk_put (cs := #[.int .i64 ((rd_T55 l1_0 x18_1).f0), .int .i64 0]) ?_ 1 _ rfl; (with_reducible repeat (first | refine blk_drewN ?_ _ | refine blk_drew ?_ | refine blk_alloc ?_ _)); refine blk_put (cs := #[.int .i64 0, .int .i64 0]) ?_ 0 _ rfl; (with_reducible repeat (first | refine blk_drewN ?_ _ | refine blk_drew ?_ | refine blk_alloc ?_ _)); exact BK104.out) hg (Kd.R_ne HO_4.out BK104.out (by decide))); have n3_ := Aside0.mk (hb); have n4_ := Aside0.mk (ho); clear BK101; clear BK102; clear BK104; clear HB; clear HO_4; have BK101 := n0_; have BK102 := n1_; have BK104 := n2_; have HB := n3_; have HO108 := n4_; clear n0_ n1_ n2_ n3_ n4_; clear ho hb hg hat)); try go_wp2_with (first | ((with_reducible refine gate_dst (N := 7) rfl ?_); refine box_event ?hg (N := 7) ?hd (cs := #[.int .i64 0, .int .i64 0]) (t := 55) ?hr ?_; (case hd => rfl); (case hg => rfl); (case hr => first | (go_simp; done) | (go_simp; rfl)); intro gb104 hg w15 hbox hb; have n0_ := Aside0.mk (Kd.R_below (r_ HO_4) hb); have n1_ := Aside0.mk (blk_below (k_ BK101) hb); have n2_ := Aside0.mk (blk_below (k_ BK102) hb); have n3_ := Aside0.mk (below_step (b_ HB) hb); have n4_ := Aside0.mk (hbox); have n5_ := Aside0.mk ((by rw [hg]; exact (below_size (b_ HB)) : w.heap.size ≤ gb104)); have n6_ := n5_; have n7_ := Aside0.mk ((by rw [hg]; exact Nat.ne_of_lt (blk_lt (k_ BK101)) : gb101 ≠ gb104)); have n8_ := Aside0.mk ((by rw [hg]; exact Nat.ne_of_gt (blk_lt (k_ BK101)) : gb104 ≠ gb101)); have n9_ := Aside0.mk ((by rw [hg]; exact Nat.ne_of_lt (blk_lt (k_ BK102)) : gb102 ≠ gb104)); have n10_ := Aside0.mk ((by rw [hg]; exact Nat.ne_of_gt (blk_lt (k_ BK102)) : gb104 ≠ gb102)); clear HO_4; clear BK101; clear BK102; clear HB; have HO_4 := n0_; have BK101 := n1_; have BK102 := n2_; have HB := n3_; have BK104 := n4_; have GW104 := n5_; have GE104 := n6_; have NB101_104 := n7_; have NB104_101 := n8_; have NB102_104 := n9_; have NB104_102 := n10_; clear n0_ n1_ n2_ n3_ n4_ n5_ n6_ n7_ n8_ n9_ n10_; clear hb hbox hg; have hnb16 := NB104_101.out; have hnc16 := NB101_104.out; have hnb17 := NB104_102.out; have hnc17 := NB102_104.out; have hcz18_0 : w15.cell? ⟨gb104, 0, none⟩ = some (.int .i64 0) := (blk_cell BK104.out 0).trans rfl; have hcz18_1 : w15.cell? ⟨gb104, 1, none⟩ = some (.int .i64 0) := (blk_cell BK104.out 1).trans rfl; have hfz18_0 := blk_frozen BK104.out 0; have hfz18_1 := blk_frozen BK104.out 1; have hnb19 := NB101_102.out; have hnc19 := NB102_101.out; have hcz20_0 : w15.cell? ⟨gb101, 0, none⟩ = some (.slice A0_0 l0_0.length c0_0) := (blk_cell BK101.out 0).trans rfl; have hfz20_0 := blk_frozen BK101.out 0; have p105 : 0 ≤ (x18_1 : Int) := of_decide_eq_true (by first | (with_reducible assumption) | assumption); have q105 : x18_1 < (l0_0.length : Int) := of_decide_eq_true (by first | (with_reducible assumption) | assumption); obtain ⟨ad105, e105, hx105_0, hx105_1⟩ := at_T55 HR0_0.out x18_1 p105 q105; cases e105; have hn105_0 : ad105.block ≠ gb104 := Nat.ne_of_lt (Nat.lt_of_lt_of_le (by have := World.block_lt_of_cell? _ _ hx105_0; first | rwa [add_block] at this | exact this) GW104.out); have hn105_1 : ad105.block ≠ gb104 := Nat.ne_of_lt (Nat.lt_of_lt_of_le (by have := World.block_lt_of_cell? _ _ hx105_0; first | rwa [add_block] at this | exact this) GW104.out); replace hx105_0 := (HB.out.cell (World.block_lt_of_cell? w _ hx105_0)).trans hx105_0; replace hx105_1 := (HB.out.cell (World.block_lt_of_cell? w _ hx105_1)).trans hx105_1; replace hx105_0 := (cell_far (p := ⟨gb104, 0, none⟩) (by first | (rw [add_block]; exact hn105_0) | (show (Addr.add _ _).block ≠ _; rw [add_block]; exact hn105_0) | exact hn105_0) (.int .i64 ((rd_T55 l1_0 x18_1).f0))).trans hx105_0; replace hx105_1 := (cell_far (p := ⟨gb104, 0, none⟩) (by first | (rw [add_block]; exact hn105_0) | (show (Addr.add _ _).block ≠ _; rw [add_block]; exact hn105_0) | exact hn105_0) (.int .i64 ((rd_T55 l1_0 x18_1).f0))).trans hx105_1; replace hx105_0 := (cell_far (p := ⟨gb104, 1, none⟩) (by first | (rw [add_block]; exact hn105_1) | (show (Addr.add _ _).block ≠ _; rw [add_block]; exact hn105_1) | exact hn105_1) (.int .i64 ((rd_T55 l1_0 x18_1).f1))).trans hx105_0; replace hx105_1 := (cell_far (p := ⟨gb104, 1, none⟩) (by first | (rw [add_block]; exact hn105_1) | (show (Addr.add _ _).block ≠ _; rw [add_block]; exact hn105_1) | exact hn105_1) (.int .i64 ((rd_T55 l1_0 x18_1).f1))).trans hx105_1; (try have hy105_0 := fun (n_ : Nat) => (show ((((w15.drewN n_).setCell ⟨gb104, 0, none⟩ (.int .i64 ((rd_T55 l1_0 x18_1).f0))).setCell ⟨gb104, 1, none⟩ (.int .i64 ((rd_T55 l1_0 x18_1).f1)))).cell? _ = some _ from hx105_0)); (try have hy105_1 := fun (n_ : Nat) => (show ((((w15.drewN n_).setCell ⟨gb104, 0, none⟩ (.int .i64 ((rd_T55 l1_0 x18_1).f0))).setCell ⟨gb104, 1, none⟩ (.int .i64 ((rd_T55 l1_0 x18_1).f1)))).cell? _ = some _ from hx105_1)); clear hn105_0; clear hn105_1; replace p105 := eq_true p105; replace q105 := eq_true q105) | ((with_reducible refine gate_builtin (b := .append) (xs := #[.tmp 30, .tmp 34]) rfl ?_); at_builtin; refine Kd.R_append k57 (w0 := w) w.heap.size rfl (.tmp 30) (.tmp 34) 25 57 (.agg #[(.int .i64 0), (.int .i64 0), (.int .i64 0)]) 24 rfl Tryd.underlying25 info57 rfl (by decide) (by omega) u4 x4_1 (⟨x18_1, (⟨(rd_T55 l1_0 x18_1).f0, (rd_T55 l1_0 x18_1).f1⟩ : S55)⟩ : S57) [.int .i64 x18_1, .int .i64 ((rd_T55 l1_0 x18_1).f0), .int .i64 ((rd_T55 l1_0 x18_1).f1)] (fun _ => True) (fun _ => False) rfl (by first | (go_simp; done) | (go_simp; rfl)) ?aP (fun _ hk => hk.elim) ?aF ?aO ?aB ?aS ?aL ?_; (case aP => exact k57_mkM _ _ _ (⟨x18_1, (⟨(rd_T55 l1_0 x18_1).f0, (rd_T55 l1_0 x18_1).f1⟩ : S55)⟩ : S57)); (case aB => exact (b_ HB)); (case aF => exact (fun _ _ => trivial)); (case aO => exact (by (with_reducible repeat (first | apply Kd.R_alloc | apply Kd.R_drewN | apply Kd.R_drew)); exact Kd.R_mono (Kd.R_far (p := ⟨gb104, 1, none⟩) (Kd.R_far (p := ⟨gb104, 0, none⟩) (Kd.R_types HO_4.out BK104.out (by decide)) (fun _ hk => hk.2) (.int .i64 ((rd_T55 l1_0 x18_1).f0))) (fun _ hk => hk.2) (.int .i64 ((rd_T55 l1_0 x18_1).f1))) (fun _ hk => trivial))); (case aS => exact (below_size (b_ HB))); (case aL => have := LMc14.out; omega); intro v107 w21 ho hb hg hat; rw [← Ny106.out] at ho; have n0_ := Aside0.mk (blk_grown (g := gb101) (o := .cells #[.slice (some ad105) l0_0.length c0_0] 24 (0, 0)) (by (with_reducible repeat (first | refine blk_drewN ?_ _ | refine blk_drew ?_ | refine blk_alloc ?_ _)); refine blk_far ?_ NB101_104.out _; (with_reducible repeat (first | refine blk_drewN ?_ _ | refine blk_drew ?_ | refine blk_alloc ?_ _)); refine blk_far ?_ NB101_104.out _; (with_reducible repeat (first | refine blk_drewN ?_ _ | refine blk_drew ?_ | refine blk_alloc ?_ _)); exact BK101.out) hg (Kd.R_ne HO_4.out BK101.out (by decide))); have n1_ := Aside0.mk (blk_grown (g := gb102) (o := .cells #[.slice (some ad103) l1_0.length c1_0] 24 (0, 0)) (by (with_reducible repeat (first | refine blk_drewN ?_ _ | refine blk_drew ?_ | refine blk_alloc ?_ _)); refine blk_far ?_ NB102_104.out _; (with_reducible repeat (first | refine blk_drewN ?_ _ | refine blk_drew ?_ | refine blk_alloc ?_ _)); refine blk_far ?_ NB102_104.out _; (with_reducible repeat (first | refine blk_drewN ?_ _ | refine blk_drew ?_ | refine blk_alloc ?_ _)); exact BK102.out) hg (Kd.R_ne HO_4.out BK102.out (by decide))); have n2_ := Aside0.mk (blk_grown (g := gb104) (o := .cells #[.int .i64 ((rd_T55 l1_0 x18_1).f0), .int .i64 ((rd_T55 l1_0 x18_1).f1)] 55 (0, 0)) (by (with_reducible repeat (first | refine blk_drewN ?_ _ | refine blk_drew ?_ | refine blk_alloc ?_ _)); refine blk_put (cs := #[.int .i64 ((rd_T55 l1_0 x18_1).f0), .int .i64 0]) ?_ 1 _ rfl; (with_reducible repeat (first | refine blk_drewN ?_ _ | refine blk_drew ?_ | refine blk_alloc ?_ _)); refine blk_put (cs := #[.int .i64 0, .int .i64 0]) ?_ 0 _ rfl; (with_reducible repeat (first | refine blk_drewN ?_ _ | refine blk_drew ?_ | refine blk_alloc ?_ _)); exact BK104.out) hg (Kd.R_ne HO_4.out BK104.out (by decide))); have n3_ := Aside0.mk (hb); have n4_ := Aside0.mk (ho); clear BK101; clear BK102; clear BK104; clear HB; clear HO_4; have BK101 := n0_; have BK102 := n1_; have BK104 := n2_; have HB := n3_; have HO108 := n4_; clear n0_ n1_ n2_ n3_ n4_; clear ho hb hg hat)))
      go_roundg k1
      case measure => have := HK1.out; omega
      case rel => exact ⟨(y106), (wrap64 (x18_1 + 1)), (by first | rfl | (simp; done) | (simp [*]; done)), H', ⟨by have := HK1.out; omega⟩, ⟨by (with_reducible repeat (first | apply Kd.R_alloc | apply Kd.R_drewN | apply Kd.R_drew)); exact HO108.out⟩, ⟨k_ BK101⟩, ⟨k_ BK102⟩, ⟨b_ HB⟩⟩
end Go.Proofs.YtjdajlnigiicaaaDoor.S
end
section
namespace Go.Proofs.YtjdajlnigiicaaaDoor.S
open Go.RowKit Go.Proofs.YtjdajlnigiicaaaDoorW.PrintWords Go.Proofs.YtjdajlnigiicaaaDoorW.PrintLast Go.Proofs.YtjdajlnigiicaaaDoorW.PrintMore
attribute [local go_sem] max2_int min2_int max_two min_two max_three min_three max_four min_four   -- for this text's walks alone
set_option linter.unusedVariables false
set_option linter.unusedSimpArgs false
def slices_Clone_api_Place_api_Place.f (l0 : List (S55)) : Option (List (S55)) := if l0.length < 8796093022208 then some l0 else none
set_option maxHeartbeats 8000000 in
set_option maxRecDepth 100000 in
theorem slices_Clone_api_Place_api_Place.calls (A0 : Option Addr) (c0 : Nat) (l0 : List (S55)) (r : List (S55)) (w : World) (hr0 : Kd.C k55 w A0 l0.length l0) (hc0 : l0.length ≤ c0) (h : slices_Clone_api_Place_api_Place.f l0 = some r) :
    Calls Tryd.prog 32 #[.slice A0 l0.length c0] w fun e w' => ∃ v0_ : Value, e = .returned (v0_) ∧ Kd.R k55 55 w' w.heap.size (fun _ => True) v0_ r ∧ Below w.heap.size w w' := by
  unfold slices_Clone_api_Place_api_Place.f at h
  split at h
  case isFalse => cases h
  case isTrue hlim =>
  obtain rfl := Option.some.inj h
  have hnil := fun w => Lib.run_eql_slice_nil (P := Tryd.prog) w 22 55 A0 l0.length c0 0 0 Tryd.underlying22
  cases A0 with
  | none =>
    have h0 : l0 = [] := by
      rcases l0 with _ | ⟨x, l⟩
      · rfl
      · obtain ⟨ad, e, _⟩ := hr0.2.2 (by simp)
        cases e
    subst h0
    clear hr0 hlim hc0 h
    simp only [List.length_nil, Option.isNone_none] at hnil
    go_enter Tryd.func32, Tryd.ntmps32
    go_wp2
    go_ret
    exact ⟨_, rfl, Kd.R_nil _ _ _ _ _, Below.refl _ _⟩
  | some ad =>
    simp only [Option.isNone_some] at hnil
    have HR0 := Aside0.mk hr0
    have HC0 := Aside0.mk hc0
    have HL := Aside0.mk hlim
    clear hr0 hc0 hlim h
    have HB := Aside0.mk (Below.refl w.heap.size w)
    go_enter Tryd.func32, Tryd.ntmps32
    go_wp2_with (first | ((with_reducible refine gate_dst (N := 5) rfl ?_); refine Kd.R_lit k55 _ 55 ?hg (N := 5) ?hd (xs := ([] : List (S55))) (inner := []) (ok := fun _ => True) (okp := fun _ => True) ?hr ?hp (fun _ hk => hk) trivial (Below.refl _ _) (Nat.le_refl _) (by simp) ?_; (case hd => rfl); (case hg => rfl); (case hr => first | (go_simp; done) | (go_simp; rfl)); (case hp => exact (Reps.none _ _)); intro v123 w3 ho4 hb hg_ hnew_; clear hg_ hnew_; have n0_ := Aside0.mk (Kd.R_lower ho4 (below_size (b_ HB))); have n1_ := Aside0.mk (below_step (b_ HB) hb); clear HB; have HO124 := n0_; have HB := n1_; clear n0_ n1_; clear hb ho4) | ((with_reducible refine gate_builtin (b := .append) (xs := #[.tmp 5, .tmp 6]) rfl ?_); at_builtin; refine Kd.R_append_rows k55 (w0 := w) w.heap.size rfl (.tmp 5) (.tmp 6) 22 55 (.agg #[(.int .i64 0), (.int .i64 0)]) 16 rfl Tryd.underlying22 info55 rfl (by decide) (by omega) v123 [] l0 _ _ _ (fun _ => True) (fun _ => False) rfl rfl ?aO ?aR (fun _ _ h => h) (fun _ h => h.elim) ?aF ?aB ?aS ?aL ?_; (case aR => repeat (first | exact (Kd.C_below HR0.out HB.out) | (with_reducible refine Kd.C_alloc ?_ _) | (with_reducible refine Kd.C_drewN ?_ _) | (with_reducible refine Kd.C_drew ?_))); (case aB => exact (b_ HB)); (case aF => exact (fun _ _ => trivial)); (case aO => exact (r_ HO124)); (case aS => exact (below_size (b_ HB))); (case aL => have := HL.out; simp; omega); intro v126 w5 ho hb hg hat; have n0_ := Aside0.mk (hb); have n1_ := Aside0.mk (ho); clear HB; clear HO124; have HB := n0_; have HO127 := n1_; clear n0_ n1_; clear ho hb hg hat))
    go_ret
    exact ⟨_, by first | rfl | (simp; done) | (simp [*] <;> rfl), by (with_reducible repeat (first | apply Kd.R_alloc | apply Kd.R_drewN | apply Kd.R_drew)); exact HO127.out, b_ HB⟩
end Go.Proofs.YtjdajlnigiicaaaDoor.S
end
section
namespace Go.Proofs.YtjdajlnigiicaaaDoor.S
open Go.RowKit Go.Proofs.YtjdajlnigiicaaaDoorW.PrintWords Go.Proofs.YtjdajlnigiicaaaDoorW.PrintLast Go.Proofs.YtjdajlnigiicaaaDoorW.PrintMore
attribute [local go_sem] max2_int min2_int max_two min_two max_three min_three max_four min_four   -- for this text's walks alone
set_option linter.unusedVariables false
set_option linter.unusedSimpArgs false
def week_Apply.l0 : Nat → Int → List (S57) → Int → Int → List (S55) → List (S55) → Option ((List (S55)) × Int)
  | 0, _, _, _, _, _, _ => none
  | k + 1, x7, x14, x15, x16, x110000, x115000 => if x16 < x15 then (if 0 ≤ x16 then (if x16 < (x14.length : Int) then (if ((rd_T57 x14 x16).f0) ≤ x7 then (some (([] : List (S55)), 1)) else (if ((rd_T57 x14 x16).f0) ≥ (x110000.length : Int) then (some (([] : List (S55)), 1)) else (if 0 ≤ ((rd_T57 x14 x16).f0) then (if ((rd_T57 x14 x16).f0) < (x115000.length : Int) then (week_Apply.l0 k ((rd_T57 x14 x16).f0) x14 x15 (wrap64 (x16 + 1)) x110000 (x115000.set (((rd_T57 x14 x16).f0) : Int).toNat (⟨(rd_T57 x14 x16).f1.f0, (rd_T57 x14 x16).f1.f1⟩ : S55))) else (none)) else (none)))) else (none)) else (none)) else (some (x115000, 0))
def week_Apply.f (k : Nat) (l0_0 : List (S55)) (l1 : List (S57)) : Option ((List (S55)) × Int) := (slices_Clone_api_Place_api_Place.f l0_0).bind fun t111 => (week_Apply.l0 k (-1) l1 (l1.length : Int) 0 l0_0 t111)
set_option maxHeartbeats 8000000 in
set_option maxRecDepth 100000 in
theorem week_Apply.calls (k : Nat) (A0_0 : Option Addr) (c0_0 : Nat) (l0_0 : List (S55)) (A1 : Option Addr) (c1 : Nat) (l1 : List (S57)) (r1 : List (S55)) (r2 : Int) (w : World) (hr0_0 : Kd.C k55 w A0_0 l0_0.length l0_0) (hc0_0 : l0_0.length ≤ c0_0) (hr1 : Kd.C k57 w A1 l1.length l1) (hc1 : l1.length ≤ c1) (h : week_Apply.f k l0_0 l1 = some (r1, r2)) :
    Calls Tryd.prog 12 #[.agg #[.slice A0_0 l0_0.length c0_0], .slice A1 l1.length c1] w fun e w' => ∃ v0_ : Value, e = .returned (.tuple #[.agg #[v0_], .int .i64 r2]) ∧ Kd.R k55 55 w' w.heap.size (fun _ => True) v0_ r1 ∧ Below w.heap.size w w' := by
  have hu24 := Tryd.underlying24
  have hu57 := Tryd.underlying57
  have hu55 := Tryd.underlying55
  have HR0_0 := Aside0.mk hr0_0
  have HC0_0 := Aside0.mk hc0_0
  clear hr0_0 hc0_0
  have HR1 := Aside0.mk hr1
  have HC1 := Aside0.mk hc1
  clear hr1 hc1
  have HB := Aside0.mk (Below.refl w.heap.size w)
  have H : ((slices_Clone_api_Place_api_Place.f l0_0).bind fun t111 => (week_Apply.l0 k (-1) l1 (l1.length : Int) 0 l0_0 t111)) = some (r1, r2) := h
  clear h
  replace H := Option.bind_eq_some_iff.mp H
  obtain ⟨t111, A30, H⟩ := H
  replace H : (week_Apply.l0 k (-1) l1 (l1.length : Int) 0 l0_0 t111) = some (r1, r2) := H
  have A3 := Aside0.mk A30
  clear A30
  have H' := Aside0.mk H
  clear H
  go_enter Tryd.func12, Tryd.ntmps12
  go_wp2_with (first | ((with_reducible refine gate_dst (N := 2) rfl ?_); (try (refine gate_guard (by rfl) ?_; dsimp only)); refine box_event ?hg (N := 2) ?hd (cs := #[.slice A0_0 l0_0.length c0_0]) (t := 24) ?hr ?_; (case hd => rfl); (case hg => rfl); (case hr => first | (go_simp; done) | (go_simp; rfl)); intro gb109 hg w4 hbox hb; have n0_ := Aside0.mk (below_step (b_ HB) hb); have n1_ := Aside0.mk (hbox); have n2_ := Aside0.mk ((by rw [hg]; exact (below_size (b_ HB)) : w.heap.size ≤ gb109)); have n3_ := n2_; clear HB; have HB := n0_; have BK109 := n1_; have GW109 := n2_; have GE109 := n3_; clear n0_ n1_ n2_ n3_; clear hb hbox hg) | ((with_reducible refine gate_dst (N := 4) rfl ?_); (try (refine gate_guard (by rfl) ?_; dsimp only)); refine box_event ?hg (N := 4) ?hd (cs := #[.slice none 0 0]) (t := 24) ?hr ?_; (case hd => rfl); (case hg => rfl); (case hr => first | (go_simp; done) | (go_simp; rfl)); intro gb110 hg w5 hbox hb; have n0_ := Aside0.mk (blk_below (k_ BK109) hb); have n1_ := Aside0.mk (below_step (b_ HB) hb); have n2_ := Aside0.mk (hbox); have n3_ := Aside0.mk ((by rw [hg]; exact (below_size (b_ HB)) : w.heap.size ≤ gb110)); have n4_ := n3_; have n5_ := Aside0.mk ((by rw [hg]; exact Nat.ne_of_lt (blk_lt (k_ BK109)) : gb109 ≠ gb110)); have n6_ := Aside0.mk ((by rw [hg]; exact Nat.ne_of_gt (blk_lt (k_ BK109)) : gb110 ≠ gb109)); clear BK109; clear HB; have BK109 := n0_; have HB := n1_; have BK110 := n2_; have GW110 := n3_; have GE110 := n4_; have NB109_110 := n5_; have NB110_109 := n6_; clear n0_ n1_ n2_ n3_ n4_ n5_ n6_; clear hb hbox hg; have hnb6 := NB109_110.out; have hnc6 := NB110_109.out; have hcz7_0 : w5.cell? ⟨gb109, 0, none⟩ = some (.slice A0_0 l0_0.length c0_0) := (blk_cell BK109.out 0).trans rfl; have hfz7_0 := blk_frozen BK109.out 0) | ((with_reducible refine gate_callee (f := 32) rfl ?_); refine goesL_ (some 12) rfl rfl Tryd.func32 (by kernel_rfl) rfl #[.slice A0_0 l0_0.length c0_0] rfl (by (try simp only [List.map_toArray, List.map_cons, List.map_nil]); first | done | rfl | (simp only [List.length_drop, List.length_take]; rfl)) ?_; (with_reducible refine (slices_Clone_api_Place_api_Place.calls _ _ l0_0 t111 _ ?side1 ?side2 A3.out).mono ?_); (case side1 => repeat (first | exact (Kd.C_below HR0_0.out HB.out) | (with_reducible refine Kd.C_alloc ?_ _) | (with_reducible refine Kd.C_drewN ?_ _) | (with_reducible refine Kd.C_drew ?_))); (case side2 => exact HC0_0.out); rintro e w8 ⟨v112, rfl, ho0, hb⟩; refine ⟨_, rfl, ?_⟩; have n0_ := Aside0.mk (Kd.R_lower ho0 (below_size (b_ HB))); have n1_ := Aside0.mk (blk_below (k_ BK109) hb); have n2_ := Aside0.mk (blk_below (k_ BK110) hb); have n3_ := Aside0.mk (below_step (b_ HB) hb); clear BK109; clear BK110; clear HB; have HO113 := n0_; have BK109 := n1_; have BK110 := n2_; have HB := n3_; clear n0_ n1_ n2_ n3_; (try clear hb); (try clear hb2); (try clear hk); (try clear hi); (try clear ho0); obtain ⟨Ao9, co9, eo9⟩ := Kd.R_slice HO113.out; subst eo9) | ((with_reducible refine gate_dst (N := 6) rfl ?_); (try (refine gate_guard (by rfl) ?_; dsimp only)); refine box_event ?hg (N := 6) ?hd (cs := #[.slice none 0 0]) (t := 24) ?hr ?_; (case hd => rfl); (case hg => rfl); (case hr => first | (go_simp; done) | (go_simp; rfl)); intro gb114 hg w10 hbox hb; have n0_ := Aside0.mk (Kd.R_below (r_ HO113) hb); have n1_ := Aside0.mk (blk_below (k_ BK109) hb); have n2_ := Aside0.mk (blk_below (k_ BK110) hb); have n3_ := Aside0.mk (below_step (b_ HB) hb); have n4_ := Aside0.mk (hbox); have n5_ := Aside0.mk ((by rw [hg]; exact (below_size (b_ HB)) : w.heap.size ≤ gb114)); have n6_ := n5_; have n7_ := Aside0.mk ((by rw [hg]; exact Nat.ne_of_lt (blk_lt (k_ BK109)) : gb109 ≠ gb114)); have n8_ := Aside0.mk ((by rw [hg]; exact Nat.ne_of_gt (blk_lt (k_ BK109)) : gb114 ≠ gb109)); have n9_ := Aside0.mk ((by rw [hg]; exact Nat.ne_of_lt (blk_lt (k_ BK110)) : gb110 ≠ gb114)); have n10_ := Aside0.mk ((by rw [hg]; exact Nat.ne_of_gt (blk_lt (k_ BK110)) : gb114 ≠ gb110)); clear HO113; clear BK109; clear BK110; clear HB; have HO113 := n0_; have BK109 := n1_; have BK110 := n2_; have HB := n3_; have BK114 := n4_; have GW114 := n5_; have GE114 := n6_; have NB109_114 := n7_; have NB114_109 := n8_; have NB110_114 := n9_; have NB114_110 := n10_; clear n0_ n1_ n2_ n3_ n4_ n5_ n6_ n7_ n8_ n9_ n10_; clear hb hbox hg; have hnb11 := NB114_109.out; have hnc11 := NB109_114.out; have hnb12 := NB114_110.out; have hnc12 := NB110_114.out; have hcz13_0 : w10.cell? ⟨gb114, 0, none⟩ = some (.slice none 0 0) := (blk_cell BK114.out 0).trans rfl; have hfz13_0 := blk_frozen BK114.out 0))
  go_loopg [7, 16] k (fun kq v7 v16 w' => ∃ (x7_1 : Int) (x16_1 : Int) (x115000_1 : List (S55)) (u115000 : Value), v7 = .int .i64 x7_1 ∧ v16 = .int .i64 x16_1 ∧ Aside0 (week_Apply.l0 kq x7_1 l1 (l1.length : Int) x16_1 l0_0 x115000_1 = some (r1, r2)) ∧ Aside0 (kq ≤ k) ∧ Aside0 (Kd.R k55 55 w' w.heap.size (fun _ => True) u115000 x115000_1) ∧ Aside0 (w'.heap[gb109]? = some (.cells #[(.slice A0_0 l0_0.length c0_0)] 24 (0, 0))) ∧ Aside0 (w'.heap[gb110]? = some (.cells #[(.slice none 0 0)] 24 (0, 0))) ∧ Aside0 (w'.heap[gb114]? = some (.cells #[u115000] 24 (0, 0))) ∧ Aside0 (Below w.heap.size w w'))
  case atStart => exact ⟨((-1)), (0), (t111), (.slice Ao9 t111.length co9), (by first | rfl | (simp; done) | (simp [*]; done)), (by first | rfl | (simp; done) | (simp [*]; done)), H', ⟨Nat.le_refl _⟩, ⟨by (with_reducible repeat (first | apply Kd.R_alloc | apply Kd.R_drewN | apply Kd.R_drew)); exact Kd.R_mono (Kd.R_far (p := ⟨gb114, 0, none⟩) (Kd.R_types HO113.out BK114.out (by decide)) (fun _ hk => hk.2) (.slice Ao9 t111.length co9)) (fun _ hk => trivial)⟩, ⟨by (with_reducible repeat (first | refine blk_drewN ?_ _ | refine blk_drew ?_ | refine blk_alloc ?_ _)); refine blk_far ?_ NB109_114.out _; (with_reducible repeat (first | refine blk_drewN ?_ _ | refine blk_drew ?_ | refine blk_alloc ?_ _)); exact BK109.out⟩, ⟨by (with_reducible repeat (first | refine blk_drewN ?_ _ | refine blk_drew ?_ | refine blk_alloc ?_ _)); refine blk_far ?_ NB110_114.out _; (with_reducible repeat (first | refine blk_drewN ?_ _ | refine blk_drew ?_ | refine blk_alloc ?_ _)); exact BK110.out⟩, ⟨by (with_reducible repeat (first | refine blk_drewN ?_ _ | refine blk_drew ?_ | refine blk_alloc ?_ _)); refine blk_put (cs := #[.slice none 0 0]) ?_ 0 _ rfl; (with_reducible repeat (first | refine blk_drewN ?_ _ | refine blk_drew ?_ | refine blk_alloc ?_ _)); exact BK114.out⟩, ⟨b_ HB⟩⟩
  case round =>
    clear H'
    (try clear c1); (try clear hcz13_0); (try clear hcz7_0); (try clear hfz13_0); (try clear hfz7_0)
    obtain ⟨x7_1, x16_1, x115000_1, u115000, rfl, rfl, HA, HK1, HO_115000, BK109, BK110, BK114, HB⟩ := hrel
    cases gk with
    | zero => exact absurd HA.out (by simp [week_Apply.l0])
    | succ k1 =>
      have H := HA.out
      clear HA
      simp only [week_Apply.l0] at H
      by_cases c14 : x16_1 < (l1.length : Int)
      rotate_left
      · rw [if_neg c14] at H
        have c14b0 : decide (x16_1 < (l1.length : Int)) = false := decide_eq_false c14
        clear c14
        simp only [Option.some.injEq, Prod.mk.injEq] at H
        obtain ⟨rfl, rfl⟩ := H
        have hnb54 := NB114_109.out
        have hnc54 := NB109_114.out
        have hnb55 := NB114_110.out
        have hnc55 := NB110_114.out
        have hcz56_0 : wr.cell? ⟨gb114, 0, none⟩ = some (u115000) := (blk_cell BK114.out 0).trans rfl
        have hfz56_0 := blk_frozen BK114.out 0
        obtain ⟨Ao57, co57, eo57⟩ := Kd.R_slice HO_115000.out
        subst eo57
        have hnb58 := NB110_109.out
        have hnc58 := NB109_110.out
        have hcz59_0 : wr.cell? ⟨gb110, 0, none⟩ = some (.slice none 0 0) := (blk_cell BK110.out 0).trans rfl
        have hfz59_0 := blk_frozen BK110.out 0
        go_wp2
        refine bodyPost_ret (results_ct rfl _ _ gb110 24 #[.slice Ao57 x115000_1.length co57] (0, 0) _ rfl (by (with_reducible repeat (first | refine blk_drewN ?_ _ | refine blk_drew ?_ | refine blk_alloc ?_ _)); refine blk_put (cs := #[.slice none 0 0]) ?_ 0 _ rfl; (with_reducible repeat (first | refine blk_drewN ?_ _ | refine blk_drew ?_ | refine blk_alloc ?_ _)); exact BK110.out) Tryd.underlying24 rfl (by kernel_rfl)) rfl ?_
        exact ⟨_, by first | rfl | (simp [errW_none, errW_some] <;> rfl) | (simp [*, errW_none, errW_some] <;> rfl), by (with_reducible repeat (first | apply Kd.R_alloc | apply Kd.R_drewN | apply Kd.R_drew)); exact Kd.R_mono (Kd.R_far (p := ⟨gb110, 0, none⟩) (Kd.R_types HO_115000.out BK110.out (by decide)) (fun _ hk => hk.2) (.slice Ao57 x115000_1.length co57)) (fun _ hk => trivial), b_ HB⟩
      rw [if_pos c14] at H
      have c14b0 : decide (x16_1 < (l1.length : Int)) = true := decide_eq_true c14
      clear c14
      by_cases c15 : 0 ≤ x16_1
      rotate_left
      · rw [if_neg c15] at H
        exact absurd H (by simp)
      rw [if_pos c15] at H
      have c15b0 : decide (0 ≤ x16_1) = true := decide_eq_true c15
      clear c15
      by_cases c16 : x16_1 < (l1.length : Int)
      rotate_left
      · rw [if_neg c16] at H
        exact absurd H (by simp)
      rw [if_pos c16] at H
      have c16b0 : decide (x16_1 < (l1.length : Int)) = true := decide_eq_true c16
      clear c16
      by_cases c17 : ((rd_T57 l1 x16_1).f0) ≤ x7_1
      · rw [if_pos c17] at H
        have c17b0 : decide (((rd_T57 l1 x16_1).f0) ≤ x7_1) = true := decide_eq_true c17
        clear c17
        simp only [Option.some.injEq, Prod.mk.injEq] at H
        obtain ⟨rfl, rfl⟩ := H
        have p115 : 0 ≤ (x16_1 : Int) := of_decide_eq_true (by first | (with_reducible assumption) | assumption)
        have q115 : x16_1 < (l1.length : Int) := of_decide_eq_true (by first | (with_reducible assumption) | assumption)
        obtain ⟨ad115, e115, hx115_0, hx115_1, hx115_2⟩ := at_T57 HR1.out x16_1 p115 q115
        cases e115
        replace hx115_0 := (HB.out.cell (World.block_lt_of_cell? w _ hx115_0)).trans hx115_0
        replace hx115_1 := (HB.out.cell (World.block_lt_of_cell? w _ hx115_1)).trans hx115_1
        replace hx115_2 := (HB.out.cell (World.block_lt_of_cell? w _ hx115_2)).trans hx115_2
        replace p115 := eq_true p115
        replace q115 := eq_true q115
        go_wp2_with (first | ((with_reducible refine gate_dst (N := 9) rfl ?_); (try (refine gate_guard (by rfl) ?_; dsimp only)); refine box_event ?hg (N := 9) ?hd (cs := #[.int .i64 0, .int .i64 0, .int .i64 0]) (t := 57) ?hr ?_; (case hd => rfl); (case hg => rfl); (case hr => first | (go_simp; done) | (go_simp; rfl)); intro gb116 hg w18 hbox hb; have n0_ := Aside0.mk (Kd.R_below (r_ HO_115000) hb); have n1_ := Aside0.mk (blk_below (k_ BK109) hb); have n2_ := Aside0.mk (blk_below (k_ BK110) hb); have n3_ := Aside0.mk (blk_below (k_ BK114) hb); have n4_ := Aside0.mk (below_step (b_ HB) hb); have n5_ := Aside0.mk (hbox); have n6_ := Aside0.mk ((by rw [hg]; exact (below_size (b_ HB)) : w.heap.size ≤ gb116)); have n7_ := n6_; have n8_ := Aside0.mk ((by rw [hg]; exact Nat.ne_of_lt (blk_lt (k_ BK109)) : gb109 ≠ gb116)); have n9_ := Aside0.mk ((by rw [hg]; exact Nat.ne_of_gt (blk_lt (k_ BK109)) : gb116 ≠ gb109)); have n10_ := Aside0.mk ((by rw [hg]; exact Nat.ne_of_lt (blk_lt (k_ BK110)) : gb110 ≠ gb116)); have n11_ := Aside0.mk ((by rw [hg]; exact Nat.ne_of_gt (blk_lt (k_ BK110)) : gb116 ≠ gb110)); have n12_ := Aside0.mk ((by rw [hg]; exact Nat.ne_of_lt (blk_lt (k_ BK114)) : gb114 ≠ gb116)); have n13_ := Aside0.mk ((by rw [hg]; exact Nat.ne_of_gt (blk_lt (k_ BK114)) : gb116 ≠ gb114)); clear HO_115000; clear BK109; clear BK110; clear BK114; clear HB; have HO_115000 := n0_; have BK109 := n1_; have BK110 := n2_; have BK114 := n3_; have HB := n4_; have BK116 := n5_; have GW116 := n6_; have GE116 := n7_; have NB109_116 := n8_; have NB116_109 := n9_; have NB110_116 := n10_; have NB116_110 := n11_; have NB114_116 := n12_; have NB116_114 := n13_; clear n0_ n1_ n2_ n3_ n4_ n5_ n6_ n7_ n8_ n9_ n10_ n11_ n12_ n13_; clear hb hbox hg; have hnb19 := NB116_109.out; have hnc19 := NB109_116.out; have hnb20 := NB116_110.out; have hnc20 := NB110_116.out; have hnb21 := NB116_114.out; have hnc21 := NB114_116.out; have hcz22_0 : w18.cell? ⟨gb116, 0, none⟩ = some (.int .i64 0) := (blk_cell BK116.out 0).trans rfl; have hcz22_1 : w18.cell? ⟨gb116, 1, none⟩ = some (.int .i64 0) := (blk_cell BK116.out 1).trans rfl; have hcz22_2 : w18.cell? ⟨gb116, 2, none⟩ = some (.int .i64 0) := (blk_cell BK116.out 2).trans rfl; have hfz22_0 := blk_frozen BK116.out 0; have hfz22_1 := blk_frozen BK116.out 1; have hfz22_2 := blk_frozen BK116.out 2; have hnb23 := NB110_109.out; have hnc23 := NB109_110.out; have hnb24 := NB110_114.out; have hnc24 := NB114_110.out; have hcz25_0 : w18.cell? ⟨gb110, 0, none⟩ = some (.slice none 0 0) := (blk_cell BK110.out 0).trans rfl; have hfz25_0 := blk_frozen BK110.out 0))
        refine bodyPost_ret (results_ct rfl _ _ gb110 24 #[.slice none 0 0] (0, 0) _ rfl (by (with_reducible repeat (first | refine blk_drewN ?_ _ | refine blk_drew ?_ | refine blk_alloc ?_ _)); refine blk_put (cs := #[.slice none 0 0]) ?_ 0 _ rfl; (with_reducible repeat (first | refine blk_drewN ?_ _ | refine blk_drew ?_ | refine blk_alloc ?_ _)); refine blk_far ?_ NB110_116.out _; (with_reducible repeat (first | refine blk_drewN ?_ _ | refine blk_drew ?_ | refine blk_alloc ?_ _)); refine blk_far ?_ NB110_116.out _; (with_reducible repeat (first | refine blk_drewN ?_ _ | refine blk_drew ?_ | refine blk_alloc ?_ _)); refine blk_far ?_ NB110_116.out _; (with_reducible repeat (first | refine blk_drewN ?_ _ | refine blk_drew ?_ | refine blk_alloc ?_ _)); exact BK110.out) Tryd.underlying24 rfl (by kernel_rfl)) rfl ?_
        exact ⟨_, by first | rfl | (simp [errW_none, errW_some] <;> rfl) | (simp [*, errW_none, errW_some] <;> rfl), by first | exact Kd.R_nil _ _ _ _ _ | exact Kd.N_nil _ _ _ _ _ | exact Kd.V_nil _ _ _ _ _ | exact Kd.Q_nil _ _ _ _ _ | exact Kd.S_nil _ _ _ _ _, b_ HB⟩
      rw [if_neg c17] at H
      have c17b0 : decide (((rd_T57 l1 x16_1).f0) ≤ x7_1) = false := decide_eq_false c17
      clear c17
      by_cases c26 : ((rd_T57 l1 x16_1).f0) ≥ (l0_0.length : Int)
      · rw [if_pos c26] at H
        have c26b0 : decide ((l0_0.length : Int) ≤ ((rd_T57 l1 x16_1).f0)) = true := decide_eq_true c26
        clear c26
        simp only [Option.some.injEq, Prod.mk.injEq] at H
        obtain ⟨rfl, rfl⟩ := H
        have p115 : 0 ≤ (x16_1 : Int) := of_decide_eq_true (by first | (with_reducible assumption) | assumption)
        have q115 : x16_1 < (l1.length : Int) := of_decide_eq_true (by first | (with_reducible assumption) | assumption)
        obtain ⟨ad115, e115, hx115_0, hx115_1, hx115_2⟩ := at_T57 HR1.out x16_1 p115 q115
        cases e115
        replace hx115_0 := (HB.out.cell (World.block_lt_of_cell? w _ hx115_0)).trans hx115_0
        replace hx115_1 := (HB.out.cell (World.block_lt_of_cell? w _ hx115_1)).trans hx115_1
        replace hx115_2 := (HB.out.cell (World.block_lt_of_cell? w _ hx115_2)).trans hx115_2
        replace p115 := eq_true p115
        replace q115 := eq_true q115
        go_wp2_with (first | ((with_reducible refine gate_dst (N := 9) rfl ?_); (try (refine gate_guard (by rfl) ?_; dsimp only)); refine box_event ?hg (N := 9) ?hd (cs := #[.int .i64 0, .int .i64 0, .int .i64 0]) (t := 57) ?hr ?_; (case hd => rfl); (case hg => rfl); (case hr => first | (go_simp; done) | (go_simp; rfl)); intro gb116 hg w27 hbox hb; have n0_ := Aside0.mk (Kd.R_below (r_ HO_115000) hb); have n1_ := Aside0.mk (blk_below (k_ BK109) hb); have n2_ := Aside0.mk (blk_below (k_ BK110) hb); have n3_ := Aside0.mk (blk_below (k_ BK114) hb); have n4_ := Aside0.mk (below_step (b_ HB) hb); have n5_ := Aside0.mk (hbox); have n6_ := Aside0.mk ((by rw [hg]; exact (below_size (b_ HB)) : w.heap.size ≤ gb116)); have n7_ := n6_; have n8_ := Aside0.mk ((by rw [hg]; exact Nat.ne_of_lt (blk_lt (k_ BK109)) : gb109 ≠ gb116)); have n9_ := Aside0.mk ((by rw [hg]; exact Nat.ne_of_gt (blk_lt (k_ BK109)) : gb116 ≠ gb109)); have n10_ := Aside0.mk ((by rw [hg]; exact Nat.ne_of_lt (blk_lt (k_ BK110)) : gb110 ≠ gb116)); have n11_ := Aside0.mk ((by rw [hg]; exact Nat.ne_of_gt (blk_lt (k_ BK110)) : gb116 ≠ gb110)); have n12_ := Aside0.mk ((by rw [hg]; exact Nat.ne_of_lt (blk_lt (k_ BK114)) : gb114 ≠ gb116)); have n13_ := Aside0.mk ((by rw [hg]; exact Nat.ne_of_gt (blk_lt (k_ BK114)) : gb116 ≠ gb114)); clear HO_115000; clear BK109; clear BK110; clear BK114; clear HB; have HO_115000 := n0_; have BK109 := n1_; have BK110 := n2_; have BK114 := n3_; have HB := n4_; have BK116 := n5_; have GW116 := n6_; have GE116 := n7_; have NB109_116 := n8_; have NB116_109 := n9_; have NB110_116 := n10_; have NB116_110 := n11_; have NB114_116 := n12_; have NB116_114 := n13_; clear n0_ n1_ n2_ n3_ n4_ n5_ n6_ n7_ n8_ n9_ n10_ n11_ n12_ n13_; clear hb hbox hg; have hnb28 := NB116_109.out; have hnc28 := NB109_116.out; have hnb29 := NB116_110.out; have hnc29 := NB110_116.out; have hnb30 := NB116_114.out; have hnc30 := NB114_116.out; have hcz31_0 : w27.cell? ⟨gb116, 0, none⟩ = some (.int .i64 0) := (blk_cell BK116.out 0).trans rfl; have hcz31_1 : w27.cell? ⟨gb116, 1, none⟩ = some (.int .i64 0) := (blk_cell BK116.out 1).trans rfl; have hcz31_2 : w27.cell? ⟨gb116, 2, none⟩ = some (.int .i64 0) := (blk_cell BK116.out 2).trans rfl; have hfz31_0 := blk_frozen BK116.out 0; have hfz31_1 := blk_frozen BK116.out 1; have hfz31_2 := blk_frozen BK116.out 2; have hnb32 := NB109_110.out; have hnc32 := NB110_109.out; have hnb33 := NB109_114.out; have hnc33 := NB114_109.out; have hcz34_0 : w27.cell? ⟨gb109, 0, none⟩ = some (.slice A0_0 l0_0.length c0_0) := (blk_cell BK109.out 0).trans rfl; have hfz34_0 := blk_frozen BK109.out 0; have hnb35 := NB110_114.out; have hnc35 := NB114_110.out; have hcz36_0 : w27.cell? ⟨gb110, 0, none⟩ = some (.slice none 0 0) := (blk_cell BK110.out 0).trans rfl; have hfz36_0 := blk_frozen BK110.out 0))
        refine bodyPost_ret (results_ct rfl _ _ gb110 24 #[.slice none 0 0] (0, 0) _ rfl (by (with_reducible repeat (first | refine blk_drewN ?_ _ | refine blk_drew ?_ | refine blk_alloc ?_ _)); refine blk_put (cs := #[.slice none 0 0]) ?_ 0 _ rfl; (with_reducible repeat (first | refine blk_drewN ?_ _ | refine blk_drew ?_ | refine blk_alloc ?_ _)); refine blk_far ?_ NB110_116.out _; (with_reducible repeat (first | refine blk_drewN ?_ _ | refine blk_drew ?_ | refine blk_alloc ?_ _)); refine blk_far ?_ NB110_116.out _; (with_reducible repeat (first | refine blk_drewN ?_ _ | refine blk_drew ?_ | refine blk_alloc ?_ _)); refine blk_far ?_ NB110_116.out _; (with_reducible repeat (first | refine blk_drewN ?_ _ | refine blk_drew ?_ | refine blk_alloc ?_ _)); exact BK110.out) Tryd.underlying24 rfl (by kernel_rfl)) rfl ?_
        exact ⟨_, by first | rfl | (simp [errW_none, errW_some] <;> rfl) | (simp [*, errW_none, errW_some] <;> rfl), by first | exact Kd.R_nil _ _ _ _ _ | exact Kd.N_nil _ _ _ _ _ | exact Kd.V_nil _ _ _ _ _ | exact Kd.Q_nil _ _ _ _ _ | exact Kd.S_nil _ _ _ _ _, b_ HB⟩
      rw [if_neg c26] at H
      have c26b0 : decide ((l0_0.length : Int) ≤ ((rd_T57 l1 x16_1).f0)) = false := decide_eq_false c26
      clear c26
      by_cases c37 : 0 ≤ ((rd_T57 l1 x16_1).f0)
      rotate_left
      · rw [if_neg c37] at H
        exact absurd H (by simp)
      rw [if_pos c37] at H
      have c37b0 : decide (0 ≤ ((rd_T57 l1 x16_1).f0)) = true := decide_eq_true c37
      clear c37
      by_cases c38 : ((rd_T57 l1 x16_1).f0) < (x115000_1.length : Int)
      rotate_left
      · rw [if_neg c38] at H
        exact absurd H (by simp)
      rw [if_pos c38] at H
      have c38b0 : decide (((rd_T57 l1 x16_1).f0) < (x115000_1.length : Int)) = true := decide_eq_true c38
      clear c38
      obtain ⟨y117, hy117⟩ : ∃ y_ : List (S55), y_ = (x115000_1.set (((rd_T57 l1 x16_1).f0) : Int).toNat (⟨(rd_T57 l1 x16_1).f1.f0, (rd_T57 l1 x16_1).f1.f1⟩ : S55)) := ⟨_, rfl⟩
      replace H : (week_Apply.l0 k1 ((rd_T57 l1 x16_1).f0) l1 (l1.length : Int) (wrap64 (x16_1 + 1)) l0_0 y117) = some (r1, r2) := by first | (rw [hy117]; with_reducible exact H) | (have H2_ := (Option.bind_some _ _).symm.trans H; rw [hy117]; with_reducible exact H2_) | (have H2_ := (Option.bind_some _ _).symm.trans H; with_reducible exact H2_) | with_reducible exact H | (rw [hy117]; exact H) | exact H
      have Ny117 := Aside0.mk hy117
      clear hy117
      have H' := Aside0.mk H
      clear H
      have p115 : 0 ≤ (x16_1 : Int) := of_decide_eq_true (by first | (with_reducible assumption) | assumption)
      have q115 : x16_1 < (l1.length : Int) := of_decide_eq_true (by first | (with_reducible assumption) | assumption)
      obtain ⟨ad115, e115, hx115_0, hx115_1, hx115_2⟩ := at_T57 HR1.out x16_1 p115 q115
      cases e115
      replace hx115_0 := (HB.out.cell (World.block_lt_of_cell? w _ hx115_0)).trans hx115_0
      replace hx115_1 := (HB.out.cell (World.block_lt_of_cell? w _ hx115_1)).trans hx115_1
      replace hx115_2 := (HB.out.cell (World.block_lt_of_cell? w _ hx115_2)).trans hx115_2
      replace p115 := eq_true p115
      replace q115 := eq_true q115
      go_wp2_with (first | ((with_reducible refine gate_dst (N := 9) rfl ?_); (try (refine gate_guard (by rfl) ?_; dsimp only)); refine box_event ?hg (N := 9) ?hd (cs := #[.int .i64 0, .int .i64 0, .int .i64 0]) (t := 57) ?hr ?_; (case hd => rfl); (case hg => rfl); (case hr => first | (go_simp; done) | (go_simp; rfl)); intro gb116 hg w40 hbox hb; have n0_ := Aside0.mk (Kd.R_below (r_ HO_115000) hb); have n1_ := Aside0.mk (blk_below (k_ BK109) hb); have n2_ := Aside0.mk (blk_below (k_ BK110) hb); have n3_ := Aside0.mk (blk_below (k_ BK114) hb); have n4_ := Aside0.mk (below_step (b_ HB) hb); have n5_ := Aside0.mk (hbox); have n6_ := Aside0.mk ((by rw [hg]; exact (below_size (b_ HB)) : w.heap.size ≤ gb116)); have n7_ := n6_; have n8_ := Aside0.mk ((by rw [hg]; exact Nat.ne_of_lt (blk_lt (k_ BK109)) : gb109 ≠ gb116)); have n9_ := Aside0.mk ((by rw [hg]; exact Nat.ne_of_gt (blk_lt (k_ BK109)) : gb116 ≠ gb109)); have n10_ := Aside0.mk ((by rw [hg]; exact Nat.ne_of_lt (blk_lt (k_ BK110)) : gb110 ≠ gb116)); have n11_ := Aside0.mk ((by rw [hg]; exact Nat.ne_of_gt (blk_lt (k_ BK110)) : gb116 ≠ gb110)); have n12_ := Aside0.mk ((by rw [hg]; exact Nat.ne_of_lt (blk_lt (k_ BK114)) : gb114 ≠ gb116)); have n13_ := Aside0.mk ((by rw [hg]; exact Nat.ne_of_gt (blk_lt (k_ BK114)) : gb116 ≠ gb114)); clear HO_115000; clear BK109; clear BK110; clear BK114; clear HB; have HO_115000 := n0_; have BK109 := n1_; have BK110 := n2_; have BK114 := n3_; have HB := n4_; have BK116 := n5_; have GW116 := n6_; have GE116 := n7_; have NB109_116 := n8_; have NB116_109 := n9_; have NB110_116 := n10_; have NB116_110 := n11_; have NB114_116 := n12_; have NB116_114 := n13_; clear n0_ n1_ n2_ n3_ n4_ n5_ n6_ n7_ n8_ n9_ n10_ n11_ n12_ n13_; clear hb hbox hg; have hnb41 := NB116_109.out; have hnc41 := NB109_116.out; have hnb42 := NB116_110.out; have hnc42 := NB110_116.out; have hnb43 := NB116_114.out; have hnc43 := NB114_116.out; have hcz44_0 : w40.cell? ⟨gb116, 0, none⟩ = some (.int .i64 0) := (blk_cell BK116.out 0).trans rfl; have hcz44_1 : w40.cell? ⟨gb116, 1, none⟩ = some (.int .i64 0) := (blk_cell BK116.out 1).trans rfl; have hcz44_2 : w40.cell? ⟨gb116, 2, none⟩ = some (.int .i64 0) := (blk_cell BK116.out 2).trans rfl; have hfz44_0 := blk_frozen BK116.out 0; have hfz44_1 := blk_frozen BK116.out 1; have hfz44_2 := blk_frozen BK116.out 2) | ((with_reducible refine gate_store (t := 57) (p := 9) rfl ?_); refine store_event (t := 57) (p := 9) (v := ?vo_w45) (w1 := (((w40.setCell ⟨gb116, 0, none⟩ (.int .i64 ((rd_T57 l1 x16_1).f0))).setCell ⟨gb116, 1, none⟩ (.int .i64 ((rd_T57 l1 x16_1).f1.f0))).setCell ⟨gb116, 2, none⟩ (.int .i64 ((rd_T57 l1 x16_1).f1.f1)))) ?hg ?ho ?hn ?hr ?_; (case ho => rfl); (case hg => rfl); (case hn => rfl); (case hr => first | (go_simp; done) | (go_simp; rfl)); intro w45 hw; have n0_ : Aside0 (Kd.R k55 55 w45 w.heap.size (fun _ => True) u115000 x115000_1) := ⟨(by rw [hw]; exact (by (with_reducible repeat (first | apply Kd.R_alloc | apply Kd.R_drewN | apply Kd.R_drew)); exact Kd.R_mono (Kd.R_far (p := ⟨gb116, 2, none⟩) (Kd.R_far (p := ⟨gb116, 1, none⟩) (Kd.R_far (p := ⟨gb116, 0, none⟩) (Kd.R_types HO_115000.out BK116.out (by decide)) (fun _ hk => hk.2) (.int .i64 ((rd_T57 l1 x16_1).f0))) (fun _ hk => hk.2) (.int .i64 ((rd_T57 l1 x16_1).f1.f0))) (fun _ hk => hk.2) (.int .i64 ((rd_T57 l1 x16_1).f1.f1))) (fun _ hk => trivial)))⟩; have n1_ : Aside0 (w45.heap[gb109]? = some (.cells #[.slice A0_0 l0_0.length c0_0] 24 (0, 0))) := ⟨(by rw [hw]; exact (by (with_reducible repeat (first | refine blk_drewN ?_ _ | refine blk_drew ?_ | refine blk_alloc ?_ _)); refine blk_far ?_ NB109_116.out _; (with_reducible repeat (first | refine blk_drewN ?_ _ | refine blk_drew ?_ | refine blk_alloc ?_ _)); refine blk_far ?_ NB109_116.out _; (with_reducible repeat (first | refine blk_drewN ?_ _ | refine blk_drew ?_ | refine blk_alloc ?_ _)); refine blk_far ?_ NB109_116.out _; (with_reducible repeat (first | refine blk_drewN ?_ _ | refine blk_drew ?_ | refine blk_alloc ?_ _)); exact BK109.out))⟩; have n2_ : Aside0 (w45.heap[gb110]? = some (.cells #[.slice none 0 0] 24 (0, 0))) := ⟨(by rw [hw]; exact (by (with_reducible repeat (first | refine blk_drewN ?_ _ | refine blk_drew ?_ | refine blk_alloc ?_ _)); refine blk_far ?_ NB110_116.out _; (with_reducible repeat (first | refine blk_drewN ?_ _ | refine blk_drew ?_ | refine blk_alloc ?_ _)); refine blk_far ?_ NB110_116.out _; (with_reducible repeat (first | refine blk_drewN ?_ _ | refine blk_drew ?_ | refine blk_alloc ?_ _)); refine blk_far ?_ NB110_116.out _; (with_reducible repeat (first | refine blk_drewN ?_ _ | refine blk_drew ?_ | refine blk_alloc ?_ _)); exact BK110.out))⟩; have n3_ : Aside0 (w45.heap[gb114]? = some (.cells #[u115000] 24 (0, 0))) := ⟨(by rw [hw]; exact (by (with_reducible repeat (first | refine blk_drewN ?_ _ | refine blk_drew ?_ | refine blk_alloc ?_ _)); refine blk_far ?_ NB114_116.out _; (with_reducible repeat (first | refine blk_drewN ?_ _ | refine blk_drew ?_ | refine blk_alloc ?_ _)); refine blk_far ?_ NB114_116.out _; (with_reducible repeat (first | refine blk_drewN ?_ _ | refine blk_drew ?_ | refine blk_alloc ?_ _)); refine blk_far ?_ NB114_116.out _; (with_reducible repeat (first | refine blk_drewN ?_ _ | refine blk_drew ?_ | refine blk_alloc ?_ _)); exact BK114.out))⟩; have n4_ : Aside0 (w45.heap[gb116]? = some (.cells #[.int .i64 ((rd_T57 l1 x16_1).f0), .int .i64 ((rd_T57 l1 x16_1).f1.f0), .int .i64 ((rd_T57 l1 x16_1).f1.f1)] 57 (0, 0))) := ⟨(by rw [hw]; exact (by (with_reducible repeat (first | refine blk_drewN ?_ _ | refine blk_drew ?_ | refine blk_alloc ?_ _)); refine blk_put (cs := #[.int .i64 ((rd_T57 l1 x16_1).f0), .int .i64 ((rd_T57 l1 x16_1).f1.f0), .int .i64 0]) ?_ 2 _ rfl; (with_reducible repeat (first | refine blk_drewN ?_ _ | refine blk_drew ?_ | refine blk_alloc ?_ _)); refine blk_put (cs := #[.int .i64 ((rd_T57 l1 x16_1).f0), .int .i64 0, .int .i64 0]) ?_ 1 _ rfl; (with_reducible repeat (first | refine blk_drewN ?_ _ | refine blk_drew ?_ | refine blk_alloc ?_ _)); refine blk_put (cs := #[.int .i64 0, .int .i64 0, .int .i64 0]) ?_ 0 _ rfl; (with_reducible repeat (first | refine blk_drewN ?_ _ | refine blk_drew ?_ | refine blk_alloc ?_ _)); exact BK116.out))⟩; have n5_ : Aside0 (Below w.heap.size w w45) := ⟨(by rw [hw]; exact (b_ HB))⟩; clear hw; clear HO_115000; clear BK109; clear BK110; clear BK114; clear BK116; clear HB; have HO_115000 := n0_; have BK109 := n1_; have BK110 := n2_; have BK114 := n3_; have BK116 := n4_; have HB := n5_; clear n0_ n1_ n2_ n3_ n4_ n5_; have hcz46_0 : w45.cell? ⟨gb116, 0, none⟩ = some (.int .i64 ((rd_T57 l1 x16_1).f0)) := (blk_cell BK116.out 0).trans rfl; have hcz46_1 : w45.cell? ⟨gb116, 1, none⟩ = some (.int .i64 ((rd_T57 l1 x16_1).f1.f0)) := (blk_cell BK116.out 1).trans rfl; have hcz46_2 : w45.cell? ⟨gb116, 2, none⟩ = some (.int .i64 ((rd_T57 l1 x16_1).f1.f1)) := (blk_cell BK116.out 2).trans rfl; have hfz46_0 := blk_frozen BK116.out 0; have hfz46_1 := blk_frozen BK116.out 1; have hfz46_2 := blk_frozen BK116.out 2; have hnb47 := NB109_110.out; have hnc47 := NB110_109.out; have hnb48 := NB109_114.out; have hnc48 := NB114_109.out; have hcz49_0 : w45.cell? ⟨gb109, 0, none⟩ = some (.slice A0_0 l0_0.length c0_0) := (blk_cell BK109.out 0).trans rfl; have hfz49_0 := blk_frozen BK109.out 0; have hnb50 := NB114_110.out; have hnc50 := NB110_114.out; have hcz51_0 : w45.cell? ⟨gb114, 0, none⟩ = some (u115000) := (blk_cell BK114.out 0).trans rfl; have hfz51_0 := blk_frozen BK114.out 0; have p39 : 0 ≤ (((rd_T57 l1 x16_1).f0) : Int) := of_decide_eq_true (by first | (with_reducible assumption) | assumption); have q39 : (((rd_T57 l1 x16_1).f0) : Int) < ((x115000_1.length : Int) : Int) := of_decide_eq_true (by first | (with_reducible assumption) | assumption); obtain ⟨go39, co39, eo39, gb39, gl39, cl39, HG39⟩ := Kd.R_form HO_115000.out (by omega); (first | cases eo39 | (injection eo39 with ea_ en_ ec_; (first | subst ea_ | (injection ea_ with ea_; subst ea_)); subst ec_; clear en_)); have GB39 := Aside0.mk gb39; have GG39 := Aside0.mk HG39; clear gb39 gl39 HG39; obtain ⟨ce39, hcl39, hM39, hcc39, hfr39⟩ := Kd.R_elem HO_115000.out z55 (((rd_T57 l1 x16_1).f0) : Int) p39 q39; obtain rfl := k55_openM hM39; have hx39_0 : w45.cell? ⟨go39, (((rd_T57 l1 x16_1).f0) : Int).toNat * 2, none⟩ = some (.int .i64 ((rd_T55 x115000_1 ((rd_T57 l1 x16_1).f0)).f0)) := hcc39 0 _ rfl; have hx39_1 : w45.cell? ⟨go39, (((rd_T57 l1 x16_1).f0) : Int).toNat * 2 + 1, none⟩ = some (.int .i64 ((rd_T55 x115000_1 ((rd_T57 l1 x16_1).f0)).f1)) := hcc39 1 _ rfl; have hf39_0 : w45.frozen? ⟨go39, (((rd_T57 l1 x16_1).f0) : Int).toNat * 2, none⟩ = false := hfr39 0; have hf39_1 : w45.frozen? ⟨go39, (((rd_T57 l1 x16_1).f0) : Int).toNat * 2 + 1, none⟩ = false := hfr39 1; clear hcl39 hcc39 hfr39 hM39; replace p39 := eq_true p39; replace q39 := eq_true q39; have HX52 := Aside0.mk (show Kd.R k55 55 w45 w.heap.size (fun _ => True) (.slice (some ⟨go39, 0, none⟩) x115000_1.length co39) x115000_1 from (r_ HO_115000)); obtain ⟨ce52, hcl52, hM52, hcc52, hfr52⟩ := Kd.R_elem HX52.out z55 (((rd_T57 l1 x16_1).f0) : Int) (of_decide_eq_true (by first | (with_reducible assumption) | assumption)) (by have h_ : (((rd_T57 l1 x16_1).f0) : Int) < ((x115000_1.length : Int) : Int) := of_decide_eq_true (by first | (with_reducible assumption) | assumption); first | exact h_ | (have e_ := (Kd.R_reads' HO_115000.out).1; omega) | simpa using h_); obtain rfl := k55_openM hM52; have HP52 := Kd.R_seg HX52.out (((rd_T57 l1 x16_1).f0) : Int) (of_decide_eq_true (by first | (with_reducible assumption) | assumption)) (by have h_ : (((rd_T57 l1 x16_1).f0) : Int) < ((x115000_1.length : Int) : Int) := of_decide_eq_true (by first | (with_reducible assumption) | assumption); first | exact h_ | (have e_ := (Kd.R_reads' HO_115000.out).1; omega) | simpa using h_) (seg := [.int .i64 ((rd_T57 l1 x16_1).f1.f0), .int .i64 ((rd_T57 l1 x16_1).f1.f1)]) (j := 0) hcl52 hcc52 (show 2 ≤ 2 from by decide) (x' := (⟨(rd_T57 l1 x16_1).f1.f0, (rd_T57 l1 x16_1).f1.f1⟩ : S55)) (k55_mkM _ _ _ (⟨(rd_T57 l1 x16_1).f1.f0, (rd_T57 l1 x16_1).f1.f1⟩ : S55) ) (fun _ hk => hk); have hx52_0 := hcc52 0 _ rfl; (try simp only [show (k55).sz = 2 from rfl, Nat.mul_one, Nat.add_zero] at hx52_0); have hf52_0 := hfr52 0; (try simp only [show (k55).sz = 2 from rfl, Nat.mul_one, Nat.add_zero] at hf52_0); have hx52_1 := hcc52 1 _ rfl; (try simp only [show (k55).sz = 2 from rfl, Nat.mul_one, Nat.add_zero] at hx52_1); have hf52_1 := hfr52 1; (try simp only [show (k55).sz = 2 from rfl, Nat.mul_one, Nat.add_zero] at hf52_1); clear hcl52 hcc52 hfr52 hM52) | ((with_reducible refine gate_store (t := 55) (p := 40) rfl ?_); refine store_event (t := 55) (p := 40) (v := ?vo_w53) (w1 := ((w45.setCell ⟨go39, (((rd_T57 l1 x16_1).f0) : Int).toNat * 2, none⟩ (.int .i64 ((rd_T57 l1 x16_1).f1.f0))).setCell ⟨go39, (((rd_T57 l1 x16_1).f0) : Int).toNat * 2 + 1, none⟩ (.int .i64 ((rd_T57 l1 x16_1).f1.f1)))) ?hg ?ho ?hn ?hr ?_; (case ho => rfl); (case hg => rfl); (case hn => rfl); (case hr => first | (go_simp; done) | (go_simp; rfl)); intro w53 hw; have hg : w45.grownBy w53 (some go39) := (by rw [hw]; exact HP52.2); have hp_ : Kd.R k55 55 w53 w.heap.size (fun _ => True) (.slice (some ⟨go39, 0, none⟩) x115000_1.length co39) y117 := (by rw [hw, Ny117.out]; exact HP52.1); clear HP52; have n0_ := Aside0.mk (hp_); have n1_ := Aside0.mk (blk_grown (g := gb109) (o := .cells #[.slice A0_0 l0_0.length c0_0] 24 (0, 0)) (k_ BK109) hg (Kd.R_ne HO_115000.out BK109.out (by decide))); have n2_ := Aside0.mk (blk_grown (g := gb110) (o := .cells #[.slice none 0 0] 24 (0, 0)) (k_ BK110) hg (Kd.R_ne HO_115000.out BK110.out (by decide))); have n3_ := Aside0.mk (blk_grown (g := gb114) (o := .cells #[.slice (some ⟨go39, 0, none⟩) x115000_1.length co39] 24 (0, 0)) (k_ BK114) hg (Kd.R_ne HO_115000.out BK114.out (by decide))); have n4_ := Aside0.mk (blk_grown (g := gb116) (o := .cells #[.int .i64 ((rd_T57 l1 x16_1).f0), .int .i64 ((rd_T57 l1 x16_1).f1.f0), .int .i64 ((rd_T57 l1 x16_1).f1.f1)] 57 (0, 0)) (k_ BK116) hg (Kd.R_ne HO_115000.out BK116.out (by decide))); have n5_ := Aside0.mk ((by rw [hw]; exact below_set (below_set (HB.out) GB39.out) GB39.out : Below w.heap.size w w53)); clear HO_115000; clear BK109; clear BK110; clear BK114; clear BK116; clear HB; have HO_115000 := n0_; have BK109 := n1_; have BK110 := n2_; have BK114 := n3_; have BK116 := n4_; have HB := n5_; clear n0_ n1_ n2_ n3_ n4_ n5_; clear hg hw hp_))
      go_roundg k1
      case measure => have := HK1.out; omega
      case rel => exact ⟨((rd_T57 l1 x16_1).f0), (wrap64 (x16_1 + 1)), (y117), (.slice (some ⟨go39, 0, none⟩) x115000_1.length co39), (by first | rfl | (simp; done) | (simp [*]; done)), (by first | rfl | (simp; done) | (simp [*]; done)), H', ⟨by have := HK1.out; omega⟩, ⟨by (with_reducible repeat (first | apply Kd.R_alloc | apply Kd.R_drewN | apply Kd.R_drew)); exact HO_115000.out⟩, ⟨k_ BK109⟩, ⟨k_ BK110⟩, ⟨k_ BK114⟩, ⟨b_ HB⟩⟩
end Go.Proofs.YtjdajlnigiicaaaDoor.S
end
section
namespace Go.Proofs.YtjdajlnigiicaaaDoor.S
open Go.RowKit Go.Proofs.YtjdajlnigiicaaaDoorW.PrintWords Go.Proofs.YtjdajlnigiicaaaDoorW.PrintLast Go.Proofs.YtjdajlnigiicaaaDoorW.PrintMore
attribute [local go_sem] max2_int min2_int max_two min_two max_three min_three max_four min_four   -- for this text's walks alone
set_option linter.unusedVariables false
set_option linter.unusedSimpArgs false
attribute [local go_sem high] eqA55
def chalklineref04_Same.l0 : Nat → Int → List (S55) → List (S55) → Option (Bool)
  | 0, _, _, _ => none
  | k + 1, x5, x119000, x120000 => if x5 < (x119000.length : Int) then (if 0 ≤ x5 then (if x5 < (x120000.length : Int) then (if (!(((rd_T55 x119000 x5).f0) == ((rd_T55 x120000 x5).f0)) || (!(((rd_T55 x119000 x5).f1) == ((rd_T55 x120000 x5).f1)))) = true then (some false) else (chalklineref04_Same.l0 k (wrap64 (x5 + 1)) x119000 x120000)) else (none)) else (none)) else (some true)
def chalklineref04_Same.f (k : Nat) (l0_0 : List (S55)) (l1_0 : List (S55)) : Option (Bool) := if (l0_0.length : Int) = (l1_0.length : Int) then (chalklineref04_Same.l0 k 0 l0_0 l1_0) else (some false)
set_option maxHeartbeats 8000000 in
set_option maxRecDepth 100000 in
theorem chalklineref04_Same.calls (k : Nat) (A0_0 : Option Addr) (c0_0 : Nat) (l0_0 : List (S55)) (A1_0 : Option Addr) (c1_0 : Nat) (l1_0 : List (S55)) (r : Bool) (w : World) (hr0_0 : Kd.C k55 w A0_0 l0_0.length l0_0) (hc0_0 : l0_0.length ≤ c0_0) (hr1_0 : Kd.C k55 w A1_0 l1_0.length l1_0) (hc1_0 : l1_0.length ≤ c1_0) (h : chalklineref04_Same.f k l0_0 l1_0 = some r) :
    Calls Tryd.prog 17 #[.agg #[.slice A0_0 l0_0.length c0_0], .agg #[.slice A1_0 l1_0.length c1_0]] w fun e w' => e = .returned (.bool r) ∧ Below w.heap.size w w' := by
  have hu24 := Tryd.underlying24
  have hu55 := Tryd.underlying55
  have HR0_0 := Aside0.mk hr0_0
  have HC0_0 := Aside0.mk hc0_0
  clear hr0_0 hc0_0
  have HR1_0 := Aside0.mk hr1_0
  have HC1_0 := Aside0.mk hc1_0
  clear hr1_0 hc1_0
  have HB := Aside0.mk (Below.refl w.heap.size w)
  have H : (if (l0_0.length : Int) = (l1_0.length : Int) then (chalklineref04_Same.l0 k 0 l0_0 l1_0) else (some false)) = some r := h
  clear h
  by_cases c3 : (l0_0.length : Int) = (l1_0.length : Int)
  rotate_left
  · rw [if_neg c3] at H
    have c3b0 : ((l0_0.length : Int) == (l1_0.length : Int)) = false := beq_eq_false_iff_ne.mpr c3
    have c3b1 : ((l0_0.length : Int) != (l1_0.length : Int)) = true := bne_iff_ne.mpr c3
    have c3b2 : (l0_0.length == l1_0.length) = false := by first | simpa using c3 | (simp at c3 ⊢; omega)
    obtain rfl := Option.some.inj H
    go_enter Tryd.func17, Tryd.ntmps17
    go_wp2_with (first | ((with_reducible refine gate_dst (N := 2) rfl ?_); refine box_event ?hg (N := 2) ?hd (cs := #[.slice A0_0 l0_0.length c0_0]) (t := 24) ?hr ?_; (case hd => rfl); (case hg => rfl); (case hr => first | (go_simp; done) | (go_simp; rfl)); intro gb118 hg w21 hbox hb; have n0_ := Aside0.mk (below_step (b_ HB) hb); have n1_ := Aside0.mk (hbox); have n2_ := Aside0.mk ((by rw [hg]; exact (below_size (b_ HB)) : w.heap.size ≤ gb118)); have n3_ := n2_; clear HB; have HB := n0_; have BK118 := n1_; have GW118 := n2_; have GE118 := n3_; clear n0_ n1_ n2_ n3_; clear hb hbox hg) | ((with_reducible refine gate_dst (N := 3) rfl ?_); refine box_event ?hg (N := 3) ?hd (cs := #[.slice A1_0 l1_0.length c1_0]) (t := 24) ?hr ?_; (case hd => rfl); (case hg => rfl); (case hr => first | (go_simp; done) | (go_simp; rfl)); intro gb119 hg w22 hbox hb; have n0_ := Aside0.mk (blk_below (k_ BK118) hb); have n1_ := Aside0.mk (below_step (b_ HB) hb); have n2_ := Aside0.mk (hbox); have n3_ := Aside0.mk ((by rw [hg]; exact (below_size (b_ HB)) : w.heap.size ≤ gb119)); have n4_ := n3_; have n5_ := Aside0.mk ((by rw [hg]; exact Nat.ne_of_lt (blk_lt (k_ BK118)) : gb118 ≠ gb119)); have n6_ := Aside0.mk ((by rw [hg]; exact Nat.ne_of_gt (blk_lt (k_ BK118)) : gb119 ≠ gb118)); clear BK118; clear HB; have BK118 := n0_; have HB := n1_; have BK119 := n2_; have GW119 := n3_; have GE119 := n4_; have NB118_119 := n5_; have NB119_118 := n6_; clear n0_ n1_ n2_ n3_ n4_ n5_ n6_; clear hb hbox hg; have hnb23 := NB118_119.out; have hnc23 := NB119_118.out; have hcz24_0 : w22.cell? ⟨gb118, 0, none⟩ = some (.slice A0_0 l0_0.length c0_0) := (blk_cell BK118.out 0).trans rfl; have hfz24_0 := blk_frozen BK118.out 0; have hcz25_0 : w22.cell? ⟨gb119, 0, none⟩ = some (.slice A1_0 l1_0.length c1_0) := (blk_cell BK119.out 0).trans rfl; have hfz25_0 := blk_frozen BK119.out 0))
    repeat (go_quiet (first | ((with_reducible refine gate_dst (N := 2) rfl ?_); refine box_event ?hg (N := 2) ?hd (cs := #[.slice A0_0 l0_0.length c0_0]) (t := 24) ?hr ?_; (case hd => rfl); (case hg => rfl); (case hr => first | (go_simp; done) | (go_simp; rfl)); intro gb118 hg w21 hbox hb; have n0_ := Aside0.mk (below_step (b_ HB) hb); have n1_ := Aside0.mk (hbox); have n2_ := Aside0.mk ((by rw [hg]; exact (below_size (b_ HB)) : w.heap.size ≤ gb118)); have n3_ := n2_; clear HB; have HB := n0_; have BK118 := n1_; have GW118 := n2_; have GE118 := n3_; clear n0_ n1_ n2_ n3_; clear hb hbox hg) | ((with_reducible refine gate_dst (N := 3) rfl ?_); refine box_event ?hg (N := 3) ?hd (cs := #[.slice A1_0 l1_0.length c1_0]) (t := 24) ?hr ?_; (case hd => rfl); (case hg => rfl); (case hr => first | (go_simp; done) | (go_simp; rfl)); intro gb119 hg w22 hbox hb; have n0_ := Aside0.mk (blk_below (k_ BK118) hb); have n1_ := Aside0.mk (below_step (b_ HB) hb); have n2_ := Aside0.mk (hbox); have n3_ := Aside0.mk ((by rw [hg]; exact (below_size (b_ HB)) : w.heap.size ≤ gb119)); have n4_ := n3_; have n5_ := Aside0.mk ((by rw [hg]; exact Nat.ne_of_lt (blk_lt (k_ BK118)) : gb118 ≠ gb119)); have n6_ := Aside0.mk ((by rw [hg]; exact Nat.ne_of_gt (blk_lt (k_ BK118)) : gb119 ≠ gb118)); clear BK118; clear HB; have BK118 := n0_; have HB := n1_; have BK119 := n2_; have GW119 := n3_; have GE119 := n4_; have NB118_119 := n5_; have NB119_118 := n6_; clear n0_ n1_ n2_ n3_ n4_ n5_ n6_; clear hb hbox hg; have hnb23 := NB118_119.out; have hnc23 := NB119_118.out; have hcz24_0 : w22.cell? ⟨gb118, 0, none⟩ = some (.slice A0_0 l0_0.length c0_0) := (blk_cell BK118.out 0).trans rfl; have hfz24_0 := blk_frozen BK118.out 0; have hcz25_0 : w22.cell? ⟨gb119, 0, none⟩ = some (.slice A1_0 l1_0.length c1_0) := (blk_cell BK119.out 0).trans rfl; have hfz25_0 := blk_frozen BK119.out 0)); try go_wp2_with (first | ((with_reducible refine gate_dst (N := 2) rfl ?_); refine box_event ?hg (N := 2) ?hd (cs := #[.slice A0_0 l0_0.length c0_0]) (t := 24) ?hr ?_; (case hd => rfl); (case hg => rfl); (case hr => first | (go_simp; done) | (go_simp; rfl)); intro gb118 hg w21 hbox hb; have n0_ := Aside0.mk (below_step (b_ HB) hb); have n1_ := Aside0.mk (hbox); have n2_ := Aside0.mk ((by rw [hg]; exact (below_size (b_ HB)) : w.heap.size ≤ gb118)); have n3_ := n2_; clear HB; have HB := n0_; have BK118 := n1_; have GW118 := n2_; have GE118 := n3_; clear n0_ n1_ n2_ n3_; clear hb hbox hg) | ((with_reducible refine gate_dst (N := 3) rfl ?_); refine box_event ?hg (N := 3) ?hd (cs := #[.slice A1_0 l1_0.length c1_0]) (t := 24) ?hr ?_; (case hd => rfl); (case hg => rfl); (case hr => first | (go_simp; done) | (go_simp; rfl)); intro gb119 hg w22 hbox hb; have n0_ := Aside0.mk (blk_below (k_ BK118) hb); have n1_ := Aside0.mk (below_step (b_ HB) hb); have n2_ := Aside0.mk (hbox); have n3_ := Aside0.mk ((by rw [hg]; exact (below_size (b_ HB)) : w.heap.size ≤ gb119)); have n4_ := n3_; have n5_ := Aside0.mk ((by rw [hg]; exact Nat.ne_of_lt (blk_lt (k_ BK118)) : gb118 ≠ gb119)); have n6_ := Aside0.mk ((by rw [hg]; exact Nat.ne_of_gt (blk_lt (k_ BK118)) : gb119 ≠ gb118)); clear BK118; clear HB; have BK118 := n0_; have HB := n1_; have BK119 := n2_; have GW119 := n3_; have GE119 := n4_; have NB118_119 := n5_; have NB119_118 := n6_; clear n0_ n1_ n2_ n3_ n4_ n5_ n6_; clear hb hbox hg; have hnb23 := NB118_119.out; have hnc23 := NB119_118.out; have hcz24_0 : w22.cell? ⟨gb118, 0, none⟩ = some (.slice A0_0 l0_0.length c0_0) := (blk_cell BK118.out 0).trans rfl; have hfz24_0 := blk_frozen BK118.out 0; have hcz25_0 : w22.cell? ⟨gb119, 0, none⟩ = some (.slice A1_0 l1_0.length c1_0) := (blk_cell BK119.out 0).trans rfl; have hfz25_0 := blk_frozen BK119.out 0)))
    go_ret
    exact ⟨by first | rfl | (simp [errW_none, errW_some] <;> rfl) | (simp [*, errW_none, errW_some] <;> rfl), b_ HB⟩
  rw [if_pos c3] at H
  have c3b0 : ((l0_0.length : Int) == (l1_0.length : Int)) = true := beq_iff_eq.mpr c3
  have c3b1 : ((l0_0.length : Int) != (l1_0.length : Int)) = false := bne_eq_false_iff_eq.mpr c3
  have c3b2 : (l0_0.length == l1_0.length) = true := by first | simpa using c3 | (simp at c3 ⊢; omega)
  clear c3
  have H' := Aside0.mk H
  clear H
  go_enter Tryd.func17, Tryd.ntmps17
  go_wp2_with (first | ((with_reducible refine gate_dst (N := 2) rfl ?_); refine box_event ?hg (N := 2) ?hd (cs := #[.slice A0_0 l0_0.length c0_0]) (t := 24) ?hr ?_; (case hd => rfl); (case hg => rfl); (case hr => first | (go_simp; done) | (go_simp; rfl)); intro gb118 hg w4 hbox hb; have n0_ := Aside0.mk (below_step (b_ HB) hb); have n1_ := Aside0.mk (hbox); have n2_ := Aside0.mk ((by rw [hg]; exact (below_size (b_ HB)) : w.heap.size ≤ gb118)); have n3_ := n2_; clear HB; have HB := n0_; have BK118 := n1_; have GW118 := n2_; have GE118 := n3_; clear n0_ n1_ n2_ n3_; clear hb hbox hg) | ((with_reducible refine gate_dst (N := 3) rfl ?_); refine box_event ?hg (N := 3) ?hd (cs := #[.slice A1_0 l1_0.length c1_0]) (t := 24) ?hr ?_; (case hd => rfl); (case hg => rfl); (case hr => first | (go_simp; done) | (go_simp; rfl)); intro gb119 hg w5 hbox hb; have n0_ := Aside0.mk (blk_below (k_ BK118) hb); have n1_ := Aside0.mk (below_step (b_ HB) hb); have n2_ := Aside0.mk (hbox); have n3_ := Aside0.mk ((by rw [hg]; exact (below_size (b_ HB)) : w.heap.size ≤ gb119)); have n4_ := n3_; have n5_ := Aside0.mk ((by rw [hg]; exact Nat.ne_of_lt (blk_lt (k_ BK118)) : gb118 ≠ gb119)); have n6_ := Aside0.mk ((by rw [hg]; exact Nat.ne_of_gt (blk_lt (k_ BK118)) : gb119 ≠ gb118)); clear BK118; clear HB; have BK118 := n0_; have HB := n1_; have BK119 := n2_; have GW119 := n3_; have GE119 := n4_; have NB118_119 := n5_; have NB119_118 := n6_; clear n0_ n1_ n2_ n3_ n4_ n5_ n6_; clear hb hbox hg; have hnb6 := NB118_119.out; have hnc6 := NB119_118.out; have hcz7_0 : w5.cell? ⟨gb118, 0, none⟩ = some (.slice A0_0 l0_0.length c0_0) := (blk_cell BK118.out 0).trans rfl; have hfz7_0 := blk_frozen BK118.out 0; have hcz8_0 : w5.cell? ⟨gb119, 0, none⟩ = some (.slice A1_0 l1_0.length c1_0) := (blk_cell BK119.out 0).trans rfl; have hfz8_0 := blk_frozen BK119.out 0))
  repeat (go_quiet (first | ((with_reducible refine gate_dst (N := 2) rfl ?_); refine box_event ?hg (N := 2) ?hd (cs := #[.slice A0_0 l0_0.length c0_0]) (t := 24) ?hr ?_; (case hd => rfl); (case hg => rfl); (case hr => first | (go_simp; done) | (go_simp; rfl)); intro gb118 hg w4 hbox hb; have n0_ := Aside0.mk (below_step (b_ HB) hb); have n1_ := Aside0.mk (hbox); have n2_ := Aside0.mk ((by rw [hg]; exact (below_size (b_ HB)) : w.heap.size ≤ gb118)); have n3_ := n2_; clear HB; have HB := n0_; have BK118 := n1_; have GW118 := n2_; have GE118 := n3_; clear n0_ n1_ n2_ n3_; clear hb hbox hg) | ((with_reducible refine gate_dst (N := 3) rfl ?_); refine box_event ?hg (N := 3) ?hd (cs := #[.slice A1_0 l1_0.length c1_0]) (t := 24) ?hr ?_; (case hd => rfl); (case hg => rfl); (case hr => first | (go_simp; done) | (go_simp; rfl)); intro gb119 hg w5 hbox hb; have n0_ := Aside0.mk (blk_below (k_ BK118) hb); have n1_ := Aside0.mk (below_step (b_ HB) hb); have n2_ := Aside0.mk (hbox); have n3_ := Aside0.mk ((by rw [hg]; exact (below_size (b_ HB)) : w.heap.size ≤ gb119)); have n4_ := n3_; have n5_ := Aside0.mk ((by rw [hg]; exact Nat.ne_of_lt (blk_lt (k_ BK118)) : gb118 ≠ gb119)); have n6_ := Aside0.mk ((by rw [hg]; exact Nat.ne_of_gt (blk_lt (k_ BK118)) : gb119 ≠ gb118)); clear BK118; clear HB; have BK118 := n0_; have HB := n1_; have BK119 := n2_; have GW119 := n3_; have GE119 := n4_; have NB118_119 := n5_; have NB119_118 := n6_; clear n0_ n1_ n2_ n3_ n4_ n5_ n6_; clear hb hbox hg; have hnb6 := NB118_119.out; have hnc6 := NB119_118.out; have hcz7_0 : w5.cell? ⟨gb118, 0, none⟩ = some (.slice A0_0 l0_0.length c0_0) := (blk_cell BK118.out 0).trans rfl; have hfz7_0 := blk_frozen BK118.out 0; have hcz8_0 : w5.cell? ⟨gb119, 0, none⟩ = some (.slice A1_0 l1_0.length c1_0) := (blk_cell BK119.out 0).trans rfl; have hfz8_0 := blk_frozen BK119.out 0)); try go_wp2_with (first | ((with_reducible refine gate_dst (N := 2) rfl ?_); refine box_event ?hg (N := 2) ?hd (cs := #[.slice A0_0 l0_0.length c0_0]) (t := 24) ?hr ?_; (case hd => rfl); (case hg => rfl); (case hr => first | (go_simp; done) | (go_simp; rfl)); intro gb118 hg w4 hbox hb; have n0_ := Aside0.mk (below_step (b_ HB) hb); have n1_ := Aside0.mk (hbox); have n2_ := Aside0.mk ((by rw [hg]; exact (below_size (b_ HB)) : w.heap.size ≤ gb118)); have n3_ := n2_; clear HB; have HB := n0_; have BK118 := n1_; have GW118 := n2_; have GE118 := n3_; clear n0_ n1_ n2_ n3_; clear hb hbox hg) | ((with_reducible refine gate_dst (N := 3) rfl ?_); refine box_event ?hg (N := 3) ?hd (cs := #[.slice A1_0 l1_0.length c1_0]) (t := 24) ?hr ?_; (case hd => rfl); (case hg => rfl); (case hr => first | (go_simp; done) | (go_simp; rfl)); intro gb119 hg w5 hbox hb; have n0_ := Aside0.mk (blk_below (k_ BK118) hb); have n1_ := Aside0.mk (below_step (b_ HB) hb); have n2_ := Aside0.mk (hbox); have n3_ := Aside0.mk ((by rw [hg]; exact (below_size (b_ HB)) : w.heap.size ≤ gb119)); have n4_ := n3_; have n5_ := Aside0.mk ((by rw [hg]; exact Nat.ne_of_lt (blk_lt (k_ BK118)) : gb118 ≠ gb119)); have n6_ := Aside0.mk ((by rw [hg]; exact Nat.ne_of_gt (blk_lt (k_ BK118)) : gb119 ≠ gb118)); clear BK118; clear HB; have BK118 := n0_; have HB := n1_; have BK119 := n2_; have GW119 := n3_; have GE119 := n4_; have NB118_119 := n5_; have NB119_118 := n6_; clear n0_ n1_ n2_ n3_ n4_ n5_ n6_; clear hb hbox hg; have hnb6 := NB118_119.out; have hnc6 := NB119_118.out; have hcz7_0 : w5.cell? ⟨gb118, 0, none⟩ = some (.slice A0_0 l0_0.length c0_0) := (blk_cell BK118.out 0).trans rfl; have hfz7_0 := blk_frozen BK118.out 0; have hcz8_0 : w5.cell? ⟨gb119, 0, none⟩ = some (.slice A1_0 l1_0.length c1_0) := (blk_cell BK119.out 0).trans rfl; have hfz8_0 := blk_frozen BK119.out 0)))
  go_loopg [5] k (fun kq v5 w' => ∃ (x5_1 : Int), v5 = .int .i64 x5_1 ∧ Aside0 (chalklineref04_Same.l0 kq x5_1 l0_0 l1_0 = some r) ∧ Aside0 (kq ≤ k) ∧ Aside0 (w'.heap[gb118]? = some (.cells #[(.slice A0_0 l0_0.length c0_0)] 24 (0, 0))) ∧ Aside0 (w'.heap[gb119]? = some (.cells #[(.slice A1_0 l1_0.length c1_0)] 24 (0, 0))) ∧ Aside0 (Below w.heap.size w w'))
  case atStart => exact ⟨(0), (by first | rfl | (simp; done) | (simp [*]; done)), H', ⟨Nat.le_refl _⟩, ⟨k_ BK118⟩, ⟨k_ BK119⟩, ⟨b_ HB⟩⟩
  case round =>
    clear H'
    (try clear c3); (try clear c3b0); (try clear c3b1); (try clear c3b2); (try clear hcz7_0); (try clear hcz8_0); (try clear hfz7_0); (try clear hfz8_0)
    obtain ⟨x5_1, rfl, HA, HK1, BK118, BK119, HB⟩ := hrel
    cases gk with
    | zero => exact absurd HA.out (by simp [chalklineref04_Same.l0])
    | succ k1 =>
      have H := HA.out
      clear HA
      simp only [chalklineref04_Same.l0] at H
      by_cases c9 : x5_1 < (l0_0.length : Int)
      rotate_left
      · rw [if_neg c9] at H
        have c9b0 : decide (x5_1 < (l0_0.length : Int)) = false := decide_eq_false c9
        clear c9
        obtain rfl := Option.some.inj H
        have hnb19 := NB118_119.out
        have hnc19 := NB119_118.out
        have hcz20_0 : wr.cell? ⟨gb118, 0, none⟩ = some (.slice A0_0 l0_0.length c0_0) := (blk_cell BK118.out 0).trans rfl
        have hfz20_0 := blk_frozen BK118.out 0
        go_wp2
        repeat (go_quiet (fail); try go_wp2)
        go_ret
        exact ⟨by first | rfl | (simp [errW_none, errW_some] <;> rfl) | (simp [*, errW_none, errW_some] <;> rfl), b_ HB⟩
      rw [if_pos c9] at H
      have c9b0 : decide (x5_1 < (l0_0.length : Int)) = true := decide_eq_true c9
      clear c9
      by_cases c10 : 0 ≤ x5_1
      rotate_left
      · rw [if_neg c10] at H
        exact absurd H (by simp)
      rw [if_pos c10] at H
      have c10b0 : decide (0 ≤ x5_1) = true := decide_eq_true c10
      clear c10
      by_cases c11 : x5_1 < (l1_0.length : Int)
      rotate_left
      · rw [if_neg c11] at H
        exact absurd H (by simp)
      rw [if_pos c11] at H
      have c11b0 : decide (x5_1 < (l1_0.length : Int)) = true := decide_eq_true c11
      clear c11
      by_cases c12 : (!(((rd_T55 l0_0 x5_1).f0) == ((rd_T55 l1_0 x5_1).f0)) || (!(((rd_T55 l0_0 x5_1).f1) == ((rd_T55 l1_0 x5_1).f1)))) = true
      · rw [if_pos c12] at H
        have c12b0 : (!(((rd_T55 l0_0 x5_1).f0) == ((rd_T55 l1_0 x5_1).f0)) || (!(((rd_T55 l0_0 x5_1).f1) == ((rd_T55 l1_0 x5_1).f1)))) = true := c12
        clear c12
        obtain rfl := Option.some.inj H
        have hnb13 := NB118_119.out
        have hnc13 := NB119_118.out
        have hcz14_0 : wr.cell? ⟨gb118, 0, none⟩ = some (.slice A0_0 l0_0.length c0_0) := (blk_cell BK118.out 0).trans rfl
        have hfz14_0 := blk_frozen BK118.out 0
        have p120 : 0 ≤ (x5_1 : Int) := of_decide_eq_true (by first | (with_reducible assumption) | assumption)
        have q120 : x5_1 < (l0_0.length : Int) := of_decide_eq_true (by first | (with_reducible assumption) | assumption)
        obtain ⟨ad120, e120, hx120_0, hx120_1⟩ := at_T55 HR0_0.out x5_1 p120 q120
        cases e120
        replace hx120_0 := (HB.out.cell (World.block_lt_of_cell? w _ hx120_0)).trans hx120_0
        replace hx120_1 := (HB.out.cell (World.block_lt_of_cell? w _ hx120_1)).trans hx120_1
        replace p120 := eq_true p120
        replace q120 := eq_true q120
        have hcz15_0 : wr.cell? ⟨gb119, 0, none⟩ = some (.slice A1_0 l1_0.length c1_0) := (blk_cell BK119.out 0).trans rfl
        have hfz15_0 := blk_frozen BK119.out 0
        have p121 : 0 ≤ (x5_1 : Int) := of_decide_eq_true (by first | (with_reducible assumption) | assumption)
        have q121 : x5_1 < (l1_0.length : Int) := of_decide_eq_true (by first | (with_reducible assumption) | assumption)
        obtain ⟨ad121, e121, hx121_0, hx121_1⟩ := at_T55 HR1_0.out x5_1 p121 q121
        cases e121
        replace hx121_0 := (HB.out.cell (World.block_lt_of_cell? w _ hx121_0)).trans hx121_0
        replace hx121_1 := (HB.out.cell (World.block_lt_of_cell? w _ hx121_1)).trans hx121_1
        replace p121 := eq_true p121
        replace q121 := eq_true q121
        go_wp2
        repeat (go_quiet (fail); try go_wp2)
        go_ret
        exact ⟨by first | rfl | (simp [errW_none, errW_some] <;> rfl) | (simp [*, errW_none, errW_some] <;> rfl), b_ HB⟩
      rw [if_neg c12] at H
      have c12b0 : (!(((rd_T55 l0_0 x5_1).f0) == ((rd_T55 l1_0 x5_1).f0)) || (!(((rd_T55 l0_0 x5_1).f1) == ((rd_T55 l1_0 x5_1).f1)))) = false := by simpa using c12
      clear c12
      have H' := Aside0.mk H
      clear H
      have hnb16 := NB118_119.out
      have hnc16 := NB119_118.out
      have hcz17_0 : wr.cell? ⟨gb118, 0, none⟩ = some (.slice A0_0 l0_0.length c0_0) := (blk_cell BK118.out 0).trans rfl
      have hfz17_0 := blk_frozen BK118.out 0
      have p120 : 0 ≤ (x5_1 : Int) := of_decide_eq_true (by first | (with_reducible assumption) | assumption)
      have q120 : x5_1 < (l0_0.length : Int) := of_decide_eq_true (by first | (with_reducible assumption) | assumption)
      obtain ⟨ad120, e120, hx120_0, hx120_1⟩ := at_T55 HR0_0.out x5_1 p120 q120
      cases e120
      replace hx120_0 := (HB.out.cell (World.block_lt_of_cell? w _ hx120_0)).trans hx120_0
      replace hx120_1 := (HB.out.cell (World.block_lt_of_cell? w _ hx120_1)).trans hx120_1
      replace p120 := eq_true p120
      replace q120 := eq_true q120
      have hcz18_0 : wr.cell? ⟨gb119, 0, none⟩ = some (.slice A1_0 l1_0.length c1_0) := (blk_cell BK119.out 0).trans rfl
      have hfz18_0 := blk_frozen BK119.out 0
      have p121 : 0 ≤ (x5_1 : Int) := of_decide_eq_true (by first | (with_reducible assumption) | assumption)
      have q121 : x5_1 < (l1_0.length : Int) := of_decide_eq_true (by first | (with_reducible assumption) | assumption)
      obtain ⟨ad121, e121, hx121_0, hx121_1⟩ := at_T55 HR1_0.out x5_1 p121 q121
      cases e121
      replace hx121_0 := (HB.out.cell (World.block_lt_of_cell? w _ hx121_0)).trans hx121_0
      replace hx121_1 := (HB.out.cell (World.block_lt_of_cell? w _ hx121_1)).trans hx121_1
      replace p121 := eq_true p121
      replace q121 := eq_true q121
      go_wp2
      repeat (go_quiet (fail); try go_wp2)
      go_roundg k1
      case measure => have := HK1.out; omega
      case rel => exact ⟨(wrap64 (x5_1 + 1)), (by first | rfl | (simp; done) | (simp [*]; done)), H', ⟨by have := HK1.out; omega⟩, ⟨k_ BK118⟩, ⟨k_ BK119⟩, ⟨b_ HB⟩⟩
end Go.Proofs.YtjdajlnigiicaaaDoor.S
end
section
namespace Go.Proofs.YtjdajlnigiicaaaDoor.S
open Go.RowKit Go.Proofs.YtjdajlnigiicaaaDoorW.PrintWords Go.Proofs.YtjdajlnigiicaaaDoorW.PrintLast Go.Proofs.YtjdajlnigiicaaaDoorW.PrintMore
attribute [local go_sem] max2_int min2_int max_two min_two max_three min_three max_four min_four   -- for this text's walks alone
set_option linter.unusedVariables false
set_option linter.unusedSimpArgs false
def slices_Clone_byte.f (l0 : List Int) : Option (List Int) := if l0.length < 140737488355328 then some l0 else none
set_option maxHeartbeats 8000000 in
set_option maxRecDepth 100000 in
theorem slices_Clone_byte.calls (A0 : Option Addr) (c0 : Nat) (l0 : List Int) (r : List Int) (w : World) (hr0 : Kd.C (Kd.int .u8) w A0 l0.length l0) (hc0 : l0.length ≤ c0) (h : slices_Clone_byte.f l0 = some r) :
    Calls Tryd.prog 58 #[.slice A0 l0.length c0] w fun e w' => ∃ v0_ : Value, e = .returned (v0_) ∧ Kd.R (Kd.int .u8) 5 w' w.heap.size (fun _ => True) v0_ r ∧ Below w.heap.size w w' := by
  unfold slices_Clone_byte.f at h
  split at h
  case isFalse => cases h
  case isTrue hlim =>
  obtain rfl := Option.some.inj h
  have hnil := fun w => Lib.run_eql_slice_nil (P := Tryd.prog) w 26 5 A0 l0.length c0 0 0 Tryd.underlying26
  cases A0 with
  | none =>
    have h0 : l0 = [] := by
      rcases l0 with _ | ⟨x, l⟩
      · rfl
      · obtain ⟨ad, e, _⟩ := hr0.2.2 (by simp)
        cases e
    subst h0
    clear hr0 hlim hc0 h
    simp only [List.length_nil, Option.isNone_none] at hnil
    go_enter Tryd.func58, Tryd.ntmps58
    go_wp2
    go_ret
    exact ⟨_, rfl, Kd.R_nil _ _ _ _ _, Below.refl _ _⟩
  | some ad =>
    simp only [Option.isNone_some] at hnil
    have HR0 := Aside0.mk hr0
    have HC0 := Aside0.mk hc0
    have HL := Aside0.mk hlim
    clear hr0 hc0 hlim h
    have HB := Aside0.mk (Below.refl w.heap.size w)
    go_enter Tryd.func58, Tryd.ntmps58
    go_wp2_with (first | ((with_reducible refine gate_dst (N := 5) rfl ?_); refine Kd.R_lit (Kd.int .u8) _ 5 ?hg (N := 5) ?hd (xs := ([] : List Int)) (inner := []) (ok := fun _ => True) (okp := fun _ => True) ?hr ?hp (fun _ hk => hk) trivial (Below.refl _ _) (Nat.le_refl _) (by simp) ?_; (case hd => rfl); (case hg => rfl); (case hr => first | (go_simp; done) | (go_simp; rfl)); (case hp => exact (Reps.none _ _)); intro v123 w3 ho4 hb hg_ hnew_; clear hg_ hnew_; have HO124 := Aside0.mk ho4; replace HB := Aside0.mk (below_step HB.out hb); clear hb ho4) | ((with_reducible refine gate_builtin (b := .append) (xs := #[.tmp 5, .tmp 6]) rfl ?_); at_builtin; refine Kd.R_append_rows (Kd.int .u8) (w0 := w) w.heap.size rfl (.tmp 5) (.tmp 6) 26 5 (.int .u8 0) 1 rfl Tryd.underlying26 info5 rfl (by decide) (by omega) v123 [] l0 _ _ _ (fun _ => True) (fun _ => False) rfl rfl ?aO ?aR (fun _ _ h => h) (fun _ h => h.elim) ?aF ?aB ?aS ?aL ?_; (case aR => exact Kd.C_below HR0.out HB.out); (case aB => exact HB.out); (case aF => exact (fun _ _ => trivial)); (case aO => exact HO124.out); (case aS => exact (below_size HB.out)); (case aL => have := HL.out; simp; omega); intro v126 w5 ho hb hg hat; replace HB := Aside0.mk hb; have HO127 := Aside0.mk ho; clear HO124; clear ho hb hg hat))
    go_ret
    exact ⟨_, rfl, HO127.out, HB.out⟩
def grpN (u : Nat) : List Int := if 127 < u then ((u : Int) % 128 + 128) :: grpN (u / 128) else [(u : Int)]
termination_by u
decreasing_by omega
theorem u8_top {x : Int} (h0 : 0 ≤ x) (h1 : x < 256) : Go.bits .or .u8 x 128 = x % 128 + 128 := by
  obtain ⟨a, rfl⟩ := Int.eq_ofNat_of_zero_le h0
  have ha : a < 256 := by omega
  have := (bits_nat .u8 8 (by decide) wraps_u8 a 128 ha (by decide)).2
  rw [show ((128 : Nat) : Int) = 128 from rfl] at this
  rw [this]
  have h : ∀ b : Fin 256, (b.1 ||| 128) = b.1 % 128 + 128 := by decide +kernel
  have h2 : a ||| 128 = a % 128 + 128 := h ⟨a, ha⟩
  rw [h2]
  omega
section
attribute [local go_sem] Oper.semAt_some
set_option maxRecDepth 100000 in
set_option maxHeartbeats 2000000 in
theorem groups1_iter (n : Nat) (hn : 1 ≤ n) (Bu u : Nat) (hu : u < 18446744073709551616) (w : World) (hB : w.heap[Bu]? = some (.cells #[.int .u64 u] 110 (0, 0))) :
    IterE Fence.wide n Tryd.prog 84 #[.pointer (some ⟨Bu, 0, none⟩)] (fun c : Int => #[.int .u8 c]) (fun A B => B.heap[Bu]? = A.heap[Bu]?) (fun _ A B => ∃ v, B = A.setCell ⟨Bu, 0, none⟩ v) (grpN u) w := by
  intro l J Jx W hW hJE hY h0
  have hB1 := blk_below hB hW
  have HY := Aside0.mk hY
  have HE := Aside0.mk hJE
  clear hY hJE hB hW w
  refine callsIn_of_wp Tryd.func84 rfl trivial ?_ rfl
  simp only [Tryd.ntmps84, List.size_toArray, List.length_cons, List.length_nil, Nat.reduceAdd, Nat.reduceSub, Array.replicate_succ, Array.replicate_zero, List.push_toArray, List.append_toArray, List.nil_append, List.cons_append]
  gi_wp2
  gi_loopg [] u (fun v wr => ∃ pre : List Int, Aside0 (v < 18446744073709551616) ∧ Aside0 (grpN u = pre ++ grpN v) ∧ Aside0 (wr.heap[Bu]? = some (.cells #[.int .u64 v] 110 (0, 0))) ∧ Aside0 (J pre wr))
  case atStart => exact ⟨[], ⟨hu⟩, ⟨rfl⟩, ⟨hB1⟩, ⟨h0⟩⟩
  case round =>
    obtain ⟨pre, HV, HG, HBk, HJ⟩ := hrel
    have hc0 : wr.cell? ⟨Bu, 0, none⟩ = some (.int .u64 gk) := (blk_cell HBk.out 0).trans rfl
    have hf0 := blk_frozen HBk.out 0
    by_cases hlt : 127 < gk
    rotate_left
    · have hd : decide ((127 : Int) < (gk : Int)) = false := decide_eq_false (by omega)
      have hd2 : decide (127 < gk) = false := decide_eq_false hlt
      have hd3 : decide ((gk : Int) < 128) = true := decide_eq_true (by omega)
      have hd4 : decide (gk < 128) = true := decide_eq_true (by omega)
      obtain ⟨fn, tmps, assign, body, hy, hR⟩ := HY.out pre (gk : Int) wr HJ.out (by rw [HG.out, grpN.eq_1 gk, if_neg hlt]; exact ⟨[], by simp⟩)
      have HR := Aside0.mk hR
      clear hR
      have e1 : (gk : Int) % 256 = gk := by omega
      gi_wp2
      refine ⟨fun _ _ => trivial, ?_⟩
      gi_wp2
      refine HR.out.mono ?_
      rintro e W3 (⟨rfl, hJ3, hk3⟩ | ⟨rfl, hx3, hk3⟩)
      · have HJ3 := Aside0.mk hJ3
        clear hJ3 hk3 e1 hd hd2 hd3 hd4 hc0 hf0 hy
        gi_wp2
        go_end0
        refine ⟨⟨_, rfl⟩, .inl ?_⟩
        rw [HG.out, grpN.eq_1 gk, if_neg hlt]
        exact HJ3.out
      · have HX3 := Aside0.mk hx3
        clear hx3 hk3 e1 hd hd2 hd3 hd4 hc0 hf0 hy
        gi_wp2
        go_end0
        exact ⟨⟨_, rfl⟩, .inr ⟨_, HX3.out⟩⟩
    have hd : decide ((127 : Int) < (gk : Int)) = true := decide_eq_true (by omega)
    have hd2 : decide (127 < gk) = true := decide_eq_true hlt
    obtain ⟨fn, tmps, assign, body, hy, hR⟩ := HY.out pre ((gk : Int) % 128 + 128) wr HJ.out (by rw [HG.out, grpN.eq_1 gk, if_pos hlt]; exact ⟨grpN (gk / 128), by simp⟩)
    have HR := Aside0.mk hR
    clear hR
    have e1 : Go.bits .or .u8 ((gk : Int) % 256) 128 = (gk : Int) % 128 + 128 := by rw [u8_top (by omega) (by omega)]; omega
    gi_wp2
    refine HR.out.mono ?_
    rintro e W3 (⟨rfl, hJ3, hk3⟩ | ⟨rfl, hx3, hk3⟩)
    · have HB3 := Aside0.mk (hk3.trans HBk.out)
      have HJ3 := Aside0.mk hJ3
      have hc3 : W3.cell? ⟨Bu, 0, none⟩ = some (.int .u64 gk) := (blk_cell HB3.out 0).trans rfl
      have hf3 := blk_frozen HB3.out 0
      clear hJ3 hk3 e1 hd hd2 hc0 hf0 hy
      gi_wp2
      gi_roundg (gk / 128)
      case measure => omega
      case rel => exact ⟨pre ++ [(gk : Int) % 128 + 128], ⟨by have := HV.out; omega⟩, ⟨by rw [HG.out, grpN.eq_1 gk, if_pos hlt]; simp⟩, ⟨blk_put HB3.out 0 _ (by simp)⟩, ⟨HE.out _ _ _ HJ3.out ⟨_, rfl⟩⟩⟩
    · have HB3 := Aside0.mk (hk3.trans HBk.out)
      have HX3 := Aside0.mk hx3
      have hc3 : W3.cell? ⟨Bu, 0, none⟩ = some (.int .u64 gk) := (blk_cell HB3.out 0).trans rfl
      have hd3 : decide ((gk : Int) < 128) = false := decide_eq_false (by omega)
      have hd4 : decide (gk < 128) = false := decide_eq_false (by omega)
      clear hx3 hk3 e1 hd hd2 hc0 hf0 hy
      gi_wp2
      go_end0
      exact ⟨⟨_, rfl⟩, .inr ⟨_, HX3.out⟩⟩
end
def zz (n : Int) : Nat := if 0 ≤ n then (2 * n).toNat else (-2 * n - 1).toNat
theorem zz_eq (n : Int) (h0 : -9223372036854775808 ≤ n) (h1 : n ≤ 9223372036854775807) : Go.bits .xor .u64 (IntKind.u64.wrap (IntKind.u64.wrap n * 2)) (IntKind.u64.wrap (n / 9223372036854775808)) = (zz n : Int) := by
  have hw : ∀ x : Int, IntKind.u64.wrap x = x % 18446744073709551616 := fun x => by simp [IntKind.wrap, IntKind.bits, IntKind.signed]
  have hx : ∀ a b : Nat, Go.bits .xor .u64 (a : Int) (b : Int) = ((a ^^^ b : Nat) % 18446744073709551616 : Int) := fun a b => by
    simp only [Go.bits, BitVec.ofInt_natCast, BitVec.toNat_xor, BitVec.toNat_ofNat, hw]
    have : (a % 2 ^ IntKind.u64.bits) ^^^ (b % 2 ^ IntKind.u64.bits) = (a ^^^ b) % 2 ^ IntKind.u64.bits := by rw [Nat.xor_mod_two_pow]
    rw [this]
    simp [IntKind.bits]
  by_cases hn : 0 ≤ n
  · obtain ⟨m, rfl⟩ := Int.eq_ofNat_of_zero_le hn
    have e1 : IntKind.u64.wrap (IntKind.u64.wrap (m : Int) * 2) = ((2 * m : Nat) : Int) := by rw [hw, hw]; omega
    have e2 : IntKind.u64.wrap ((m : Int) / 9223372036854775808) = ((0 : Nat) : Int) := by rw [hw]; omega
    rw [e1, e2, hx, Nat.xor_zero]
    unfold zz
    rw [if_pos hn]
    omega
  have e1 : IntKind.u64.wrap (IntKind.u64.wrap n * 2) = ((18446744073709551616 + 2 * n).toNat : Int) := by rw [hw, hw]; omega
  have e2 : IntKind.u64.wrap (n / 9223372036854775808) = ((18446744073709551615 : Nat) : Int) := by rw [hw]; omega
  rw [e1, e2, hx]
  have e3 : (18446744073709551616 + 2 * n).toNat ^^^ 18446744073709551615 = 18446744073709551615 - (18446744073709551616 + 2 * n).toNat := by
    have hlt : (18446744073709551616 + 2 * n).toNat < 2 ^ 64 := by omega
    have h2 := BitVec.toNat_not (x := (BitVec.ofNat 64 (18446744073709551616 + 2 * n).toNat))
    have h3 := BitVec.toNat_xor (BitVec.ofNat 64 (18446744073709551616 + 2 * n).toNat) (BitVec.allOnes 64)
    rw [BitVec.xor_allOnes, h2, BitVec.toNat_ofNat, BitVec.toNat_allOnes, Nat.mod_eq_of_lt hlt] at h3
    exact h3.symm
  rw [e3]
  unfold zz
  rw [if_neg hn]
  omega
theorem zz_lt (n : Int) (h0 : -9223372036854775808 ≤ n) (h1 : n ≤ 9223372036854775807) : zz n < 18446744073709551616 := by unfold zz; split <;> omega
set_option maxRecDepth 100000 in
set_option maxHeartbeats 1000000 in
theorem groups_calls (n : Int) (h0 : -9223372036854775808 ≤ n) (h1 : n ≤ 9223372036854775807) (w : World) :
    Calls Tryd.prog 59 #[.int .i64 n] w fun e w' => e = .returned (.func (.func 84) #[] #[.pointer (some ⟨w.heap.size, 0, none⟩)]) ∧ w' = w.alloc (.cells #[.int .u64 (zz n)] 110) := by
  go_enter Tryd.func59, Tryd.ntmps59
  go_wp2
  go_ret
  exact ⟨rfl, by rw [zz_eq n h0 h1]⟩
def octet_PutInt.f (l0 : List Int) (a1 : Int) : Option (List Int) := if l0.length < 140737488355300 ∧ -9223372036854775808 ≤ a1 ∧ a1 ≤ 9223372036854775807 then some (l0 ++ grpN (zz a1)) else none
theorem grpN_len (u : Nat) (k : Nat) (h : u < 128 ^ k) (hk : 0 < k) : (grpN u).length ≤ k := by
  induction k generalizing u with
  | zero => omega
  | succ k ih =>
    rw [grpN.eq_1]
    split
    · have : u / 128 < 128 ^ k := by rw [Nat.pow_succ] at h; omega
      rcases Nat.eq_zero_or_pos k with hz | hz
      · subst hz; simp at this; omega
      · have := ih (u / 128) this hz
        simp; omega
    · simp
def PInv (w : World) (gb Bu : Nat) (l : List Int) (W : World) : Prop :=
  Below w.heap.size w W ∧ (∃ A c, W.heap[gb]? = some (.cells #[.slice A l.length c] 26 (0, 0)) ∧ Kd.R (Kd.int .u8) 5 W w.heap.size (fun _ => True) (.slice A l.length c) l) ∧ (∃ u, W.heap[Bu]? = some (.cells #[u] 110 (0, 0)))
theorem PInv.turn {w W W' : World} {gb Bu B : Nat} {l : List Int} {row : Option Nat} (h : PInv w gb Bu l W) (hB : w.heap.size ≤ B) (hg : W.grownBy W' row) (hr : ∀ r, row = some r → B ≤ r ∧ ∃ o : Obj, W.heap[r]? = some o ∧ o.isCells = false) : PInv w gb Bu l W' := by
  obtain ⟨h1, ⟨A, c, h2, h3⟩, u, h4⟩ := h
  have hr' := fun r e => (hr r e).2
  exact ⟨below_kept h1 hg hB hr, ⟨A, c, blk_kept h2 hg hr', Kd.R_keptRow h3 hg hr'⟩, u, blk_kept h4 hg hr'⟩
theorem PInv.own {w : World} {gb Bu B : Nat} (l : List Int) (hB : w.heap.size ≤ B) : OwnFrom B (fun (pre : List Int) W => PInv w gb Bu (l ++ pre) W) :=
  fun _ _ _ _ h hg hr => h.turn hB hg hr
theorem PInv.num {w W : World} {gb Bu : Nat} {l : List Int} (h : PInv w gb Bu l W) (hb : w.heap.size ≤ Bu) (hne : gb ≠ Bu) (v : Value) : PInv w gb Bu l (W.setCell ⟨Bu, 0, none⟩ v) := by
  obtain ⟨h1, ⟨A, c, h2, h3⟩, u, h4⟩ := h
  exact ⟨below_set h1 hb, ⟨A, c, blk_far h2 hne _, Kd.R_set h3 h4 (by decide) 0 _⟩, v, blk_put h4 0 _ rfl⟩
section
attribute [local go_sem] Oper.semAt_some
set_option maxHeartbeats 8000000 in
set_option maxRecDepth 100000 in
theorem octet_PutInt.calls (A0 : Option Addr) (c0 : Nat) (l0 : List Int) (a1 : Int) (r : List Int) (w : World) (hr0 : Kd.C (Kd.int .u8) w A0 l0.length l0) (hc0 : l0.length ≤ c0) (h : octet_PutInt.f l0 a1 = some r) :
    Calls Tryd.prog 35 #[.slice A0 l0.length c0, .int .i64 a1] w fun e w' => ∃ v0_ : Value, e = .returned (v0_) ∧ Kd.R (Kd.int .u8) 5 w' w.heap.size (fun _ => True) v0_ r ∧ Below w.heap.size w w' := by
  unfold octet_PutInt.f at h
  split at h
  case isFalse => cases h
  case isTrue hlim =>
  obtain rfl := Option.some.inj h
  clear h
  have HR0 := Aside0.mk hr0
  have HC0 := Aside0.mk hc0
  have HL := Aside0.mk hlim
  have HCl := Aside0.mk (show slices_Clone_byte.f l0 = some l0 from if_pos (by omega))
  have HZ := Aside0.mk (zz_lt a1 hlim.2.1 hlim.2.2)
  have HG := Aside0.mk (grpN_len (zz a1) 10 (by have := HZ.out; omega) (by omega))
  clear hr0 hc0 hlim
  refine calls_of_marks Tryd.func35 rfl ?_
  simp only [Tryd.ntmps35, List.size_toArray, List.length_cons, List.length_nil, Nat.reduceAdd, Nat.reduceSub, Array.replicate_succ, Array.replicate_zero, List.push_toArray, List.append_toArray, List.nil_append, List.cons_append]
  go_upto_block 0 with (first | ((with_reducible refine gate_dst (N := 2) rfl ?_); refine box_event ?hg (N := 2) ?hd (cs := #[.slice A0 l0.length c0]) (t := 26) ?hr ?_; (case hd => rfl); (case hg => rfl); (case hr => first | (go_simp; done) | (go_simp; rfl)); intro gb hg w1 hbox hb; have GE := Aside0.mk (show gb = w.heap.size from hg); have HB := Aside0.mk hb; have BK := Aside0.mk hbox; have hz0 : w1.cell? ⟨gb, 0, none⟩ = some (.slice A0 l0.length c0) := (blk_cell hbox 0).trans rfl; clear hb hbox hg) | ((with_reducible refine gate_dst (N := 7) rfl ?_); refine goesL_ (some 7) rfl rfl Tryd.func58 (by kernel_rfl) rfl #[.slice A0 l0.length c0] rfl (by (try simp only [List.map_toArray, List.map_cons, List.map_nil]); first | done | rfl) ?_; refine (slices_Clone_byte.calls _ _ l0 l0 _ ?side1 ?side2 HCl.out).mono ?_; (case side1 => exact Kd.C_below HR0.out HB.out); (case side2 => exact HC0.out); rintro e w2 ⟨v0, rfl, ho, hb⟩; refine ⟨_, rfl, ?_⟩; clear hz0; replace BK := Aside0.mk (blk_below BK.out hb); have HO := Aside0.mk (Kd.R_lower ho (below_size HB.out)); replace HB := Aside0.mk (below_step HB.out hb); obtain ⟨A, c, eA⟩ := Kd.R_slice HO.out; subst eA; have hz0 : w2.cell? ⟨gb, 0, none⟩ = some (.slice A0 l0.length c0) := (blk_cell BK.out 0).trans rfl; have hf0 := blk_frozen BK.out 0; clear ho hb) | (go_at_call 59; refine (groups_calls a1 HL.out.2.1 HL.out.2.2 _).mono ?_; rintro e w3 ⟨rfl, rfl⟩))
  have HPW := Aside0.mk (show PInv w gb w2.heap.size l0 ((w2.setCell ⟨gb, 0, none⟩ (.slice A l0.length c)).alloc (.cells #[.int .u64 (zz a1)] 110)) from by
    have b1 := blk_put BK.out 0 (.slice A l0.length c) rfl
    refine ⟨below_alloc (below_set HB.out (Nat.le_of_eq GE.out.symm)) _, ⟨A, c, blk_alloc b1 _, Kd.R_alloc (Kd.R_set HO.out BK.out (by decide) 0 _) _⟩, .int .u64 (zz a1), ?_⟩
    have := blk_new (w2.setCell ⟨gb, 0, none⟩ (.slice A l0.length c)) (.cells #[.int .u64 (zz a1)] 110)
    simpa using this)
  have HBu := Aside0.mk (show ((w2.setCell ⟨gb, 0, none⟩ (.slice A l0.length c)).alloc (.cells #[.int .u64 (zz a1)] 110)).heap[w2.heap.size]? = some (.cells #[.int .u64 (zz a1)] 110 (0, 0)) by
    have := blk_new (w2.setCell ⟨gb, 0, none⟩ (.slice A l0.length c)) (.cells #[.int .u64 (zz a1)] 110)
    simpa using this)
  have HNe := Aside0.mk (show gb ≠ w2.heap.size by have := blk_lt BK.out; omega)
  have HGe := Aside0.mk (below_size HB.out)
  clear BK HO HB hz0 hf0
  generalize (w2.setCell ⟨gb, 0, none⟩ (.slice A l0.length c)).alloc (.cells #[.int .u64 (zz a1)] 110) = W0 at HPW HBu ⊢
  generalize w2.heap.size = Bu at HPW HBu HNe HGe ⊢
  go_wp2
  refine wpIn_wide.1 (wpIn_rangeFunc_E (n := 9) rfl (by decide) (gf := 84) (lb := #[.pointer (some ⟨Bu, 0, none⟩)]) rfl trivial (fun args w => enters_ Tryd.func84 (by kernel_rfl) rfl args w) (groups1_iter 8 (by decide) Bu (zz a1) HZ.out W0 HBu.out)
    (fun h k => k.trans h) (fun V l o o' hl _ _ _ => World.putObj_heap_other (by have := blk_lt HBu.out; omega)) (fun _ X Y h => by obtain ⟨v, rfl⟩ := h; exact KeepsOthers.setCell _ _ _) (Below.refl _ _) (fun _ => rfl)
    (fun pre W => PInv w gb Bu (l0 ++ pre) W) (fun _ _ _ => False) (fun pre X Y hi h => by obtain ⟨v, rfl⟩ := h; exact hi.num HGe.out HNe.out v) (PInv.own l0 (by have := HPW.out.1.size; exact this)) (fun _ _ _ _ _ h => h.elim) (by rw [List.append_nil]; exact HPW.out)
    (fun x => { tmps := #[.slice A0 l0.length c0, .int .i64 a1, .pointer (some ⟨gb, 0, none⟩), undef, .slice none 0 0, .int .u8 x, .slice A0 l0.length c0, .slice A l0.length c, .int .i64 a1, .func (.func 84) #[] #[.pointer (some ⟨Bu, 0, none⟩)], .int .u8 x, undef, undef, undef, undef, undef], defers := [] }) ?assign ?body ?done ?stop)
  case assign =>
    intro l x W K hK
    gi_wp2
    exact hK
  case body =>
    intro l pre x W hi hpre
    obtain ⟨HB, ⟨A', c', BK, HO⟩, u, BU⟩ := hi
    have HB := Aside0.mk HB
    have BK := Aside0.mk BK
    have HO := Aside0.mk HO
    have BU := Aside0.mk BU
    have HPre := Aside0.mk hpre.length_le
    have HLen := Aside0.mk (show ((l0 ++ pre).length + 1) * 1 ≤ 140737488355328 by have := HL.out; have := HG.out; have := HPre.out; rw [List.length_append] at *; simp at *; omega)
    clear hpre
    have hz0 : W.cell? ⟨gb, 0, none⟩ = some (.slice A' (l0 ++ pre).length c') := (blk_cell BK.out 0).trans rfl
    generalize hll : l0 ++ pre = ll at *
    have HLL := Aside0.mk hll
    clear hll
    gi_wp2_with (first | (gi_at_builtin; refine Kd.R_appendIn (Kd.int .u8) (w0 := w) w.heap.size rfl (.tmp 11) (.tmp 13) 26 5 (.int .u8 0) 1 rfl Tryd.underlying26 info5 rfl (by decide) (by omega) (.slice A' ll.length c') ll x [.int .u8 x] (fun _ => True) (fun _ => False) rfl (by first | (go_simp; done) | (go_simp; rfl)) ?aP (fun _ hk => hk.elim) (fun _ _ => trivial) HO.out HB.out (below_size HB.out) HLen.out ?_; (case aP => exact rfl); intro v1 w1 ho hb hg hat; have BK1 := Aside0.mk (blk_grown BK.out hg (Kd.R_ne HO.out BK.out (by decide))); have BU1 := Aside0.mk (blk_grown BU.out hg (Kd.R_ne HO.out BU.out (by decide))); have HO1 := Aside0.mk ho; have HB1 := Aside0.mk hb; have HK1 := Aside0.mk (KeepsOthers.of_grownBy hg (fun j o e ho => by obtain ⟨cs, hcs⟩ := Kd.R_typed HO.out j e; rw [hcs] at ho; cases ho; rfl)); obtain ⟨A1, c1, e1⟩ := Kd.R_slice ho; subst e1; have hz1 : w1.cell? ⟨gb, 0, none⟩ = some (.slice A' ll.length c') := (blk_cell BK1.out 0).trans rfl; have hf1 := blk_frozen BK1.out 0; clear hz0 ho hb hg hat))
    refine ⟨(HK1.out.trans (KeepsOthers.setCell _ _ _)).from _, ?_, ?_⟩
    · exact (blk_far BU1.out (Ne.symm HNe.out) _).trans BU.out.symm
    · show PInv w gb Bu (l0 ++ (pre ++ [x])) _
      rw [← List.append_assoc, HLL.out]
      have el : (ll ++ [x]).length = ll.length + 1 := by simp
      rw [el] at HO1
      unfold PInv
      rw [el]
      exact ⟨below_set HB1.out (Nat.le_of_eq GE.out.symm), ⟨A1, c1, blk_put BK1.out 0 _ rfl, Kd.R_set HO1.out BK1.out (by decide) 0 _⟩, _, blk_far BU1.out (Ne.symm HNe.out) _⟩
  case done =>
    intro D W hD hi hK
    obtain ⟨HB, ⟨A', c', BK, HO⟩, u, BU⟩ := hi
    have HO' := Aside0.mk HO
    have HB' := Aside0.mk HB
    have hz0 : W.cell? ⟨gb, 0, none⟩ = some (.slice A' (l0 ++ grpN (zz a1)).length c') := (blk_cell BK 0).trans rfl
    have HK := Aside0.mk hK
    have HD := Aside0.mk (Nat.le_trans HPW.out.1.size hD)
    clear hK hD BK HO BU HB
    generalize hll : l0 ++ grpN (zz a1) = ll at *
    have HLL := Aside0.mk hll
    clear hll
    go_wp2
    have hT : ∀ r, some D = some r → ∃ o : Obj, W.heap[r]? = some o ∧ o.isCells = false := fun r e => by cases e; exact ⟨_, HK.out, rfl⟩
    refine post_marks1 rfl HK.out (results_tmp rfl _ _ _) ⟨_, rfl, ?_, ?_⟩
    · rw [HLL.out]
      exact Kd.R_keptRow HO'.out (grownBy_putObj' W D (.deferred none)) hT
    · exact below_kept HB'.out (grownBy_putObj' W D (.deferred none)) (Nat.le_refl _) (fun r e => ⟨by cases e; exact HD.out, hT r e⟩)
  case stop =>
    intro D c pre W _ h _
    exact h.elim
end
end Go.Proofs.YtjdajlnigiicaaaDoor.S
end
section
namespace Go.Proofs.YtjdajlnigiicaaaDoor.S
open Go.RowKit Go.Proofs.YtjdajlnigiicaaaDoorW.PrintWords Go.Proofs.YtjdajlnigiicaaaDoorW.PrintLast Go.Proofs.YtjdajlnigiicaaaDoorW.PrintMore
attribute [local go_sem] max2_int min2_int max_two min_two max_three min_three max_four min_four   -- for this text's walks alone
set_option linter.unusedVariables false
set_option linter.unusedSimpArgs false
def week_Put.l0 : Nat → List Int → List (S55) → Int → Int → Option (List Int)
  | 0, _, _, _, _ => none
  | k + 1, x0, x13, x14, x15 => if x15 < x14 then (if 0 ≤ x15 then (if x15 < (x13.length : Int) then ((octet_PutInt.f x0 ((rd_T55 x13 x15).f0)).bind fun t128 => ((octet_PutInt.f t128 ((rd_T55 x13 x15).f1)).bind fun t131 => (week_Put.l0 k t131 x13 x14 (wrap64 (x15 + 1))))) else (none)) else (none)) else (some x0)
def week_Put.f (k : Nat) (l0 : List Int) (l1_0 : List (S55)) : Option (List Int) := (octet_PutInt.f l0 (l1_0.length : Int)).bind fun t123 => (week_Put.l0 k t123 l1_0 (l1_0.length : Int) 0)
def week_Put.T5 : Bool × List (List Nat × List Nat) := (true, [([], []), ([], []), ([1], [1]), ([0, 2], [0, 2]), ([], []), ([4], [4]), ([3, 5, 3], [3, 5]), ([6, 6, 0, 1, 2, 3, 4, 5, 6], [0, 6])])
def week_Put.B5 : List Nat := [0, 0, 2, 7, 0, 16, 63, 127]
theorem week_Put.tab5 : rtab .any (opsOf Tryd.f18 5) = week_Put.T5 := by kernel_rfl
theorem week_Put.bits5 : waitsOk week_Put.T5.2 week_Put.B5 = true := by kernel_rfl
set_option maxHeartbeats 8000000 in
set_option maxRecDepth 100000 in
theorem week_Put.calls (k : Nat) (A0 : Option Addr) (c0 : Nat) (l0 : List Int) (A1_0 : Option Addr) (c1_0 : Nat) (l1_0 : List (S55)) (r : List Int) (w : World) (hr0 : Kd.C (Kd.int .u8) w A0 l0.length l0) (hc0 : l0.length ≤ c0) (hr1_0 : Kd.C k55 w A1_0 l1_0.length l1_0) (hc1_0 : l1_0.length ≤ c1_0) (h : week_Put.f k l0 l1_0 = some r) :
    Calls Tryd.prog 18 #[.slice A0 l0.length c0, .agg #[.slice A1_0 l1_0.length c1_0]] w fun e w' => ∃ v0_ : Value, e = .returned (v0_) ∧ Kd.R (Kd.int .u8) 5 w' w.heap.size (fun _ => True) v0_ r ∧ Below w.heap.size w w' := by
  have hu24 := Tryd.underlying24
  have hu55 := Tryd.underlying55
  have HR0 := Aside0.mk hr0
  have HC0 := Aside0.mk hc0
  clear hr0 hc0
  have HR1_0 := Aside0.mk hr1_0
  have HC1_0 := Aside0.mk hc1_0
  clear hr1_0 hc1_0
  have HB := Aside0.mk (Below.refl w.heap.size w)
  have H : ((octet_PutInt.f l0 (l1_0.length : Int)).bind fun t123 => (week_Put.l0 k t123 l1_0 (l1_0.length : Int) 0)) = some r := h
  clear h
  replace H := Option.bind_eq_some_iff.mp H
  obtain ⟨t123, A30, H⟩ := H
  replace H : (week_Put.l0 k t123 l1_0 (l1_0.length : Int) 0) = some r := H
  have A3 := Aside0.mk A30
  clear A30
  have H' := Aside0.mk H
  clear H
  go_enter Tryd.func18, Tryd.ntmps18
  go_wp2_with (first | ((with_reducible refine gate_dst (N := 3) rfl ?_); refine box_event ?hg (N := 3) ?hd (cs := #[.slice A1_0 l1_0.length c1_0]) (t := 24) ?hr ?_; (case hd => rfl); (case hg => rfl); (case hr => first | (go_simp; done) | (go_simp; rfl)); intro gb122 hg w4 hbox hb; have n0_ := Aside0.mk (below_step (b_ HB) hb); have n1_ := Aside0.mk (hbox); have n2_ := Aside0.mk ((by rw [hg]; exact (below_size (b_ HB)) : w.heap.size ≤ gb122)); have n3_ := n2_; clear HB; have HB := n0_; have BK122 := n1_; have GW122 := n2_; have GE122 := n3_; clear n0_ n1_ n2_ n3_; clear hb hbox hg; have hcz5_0 : w4.cell? ⟨gb122, 0, none⟩ = some (.slice A1_0 l1_0.length c1_0) := (blk_cell BK122.out 0).trans rfl; have hfz5_0 := blk_frozen BK122.out 0) | ((with_reducible refine gate_callee (f := 35) rfl ?_); refine goesL_ (some 11) rfl rfl Tryd.func35 (by kernel_rfl) rfl #[.slice A0 l0.length c0, .int .i64 (l1_0.length : Int)] rfl (by (try simp only [List.map_toArray, List.map_cons, List.map_nil]); first | done | rfl | (simp only [List.length_drop, List.length_take]; rfl)) ?_; (with_reducible refine (octet_PutInt.calls _ _ l0 (l1_0.length : Int) t123 _ ?side1 ?side2 A3.out).mono ?_); (case side1 => repeat (first | exact (Kd.C_below HR0.out HB.out) | (with_reducible refine Kd.C_alloc ?_ _) | (with_reducible refine Kd.C_drewN ?_ _) | (with_reducible refine Kd.C_drew ?_))); (case side2 => exact HC0.out); rintro e w6 ⟨v124, rfl, ho0, hb⟩; refine ⟨_, rfl, ?_⟩; have n0_ := Aside0.mk (Kd.R_lower ho0 (below_size (b_ HB))); have n1_ := Aside0.mk (blk_below (k_ BK122) hb); have n2_ := Aside0.mk (below_step (b_ HB) hb); clear BK122; clear HB; have HO125 := n0_; have BK122 := n1_; have HB := n2_; clear n0_ n1_ n2_; (try clear hb); (try clear hb2); (try clear hk); (try clear hi); (try clear ho0); have hcz7_0 : w6.cell? ⟨gb122, 0, none⟩ = some (.slice A1_0 l1_0.length c1_0) := (blk_cell BK122.out 0).trans rfl; have hfz7_0 := blk_frozen BK122.out 0))
  go_loopg [0, 15] k (fun kq v0 v15 w' => ∃ (x0_1 : List Int) (x15_1 : Int), v15 = .int .i64 x15_1 ∧ Aside0 (week_Put.l0 kq x0_1 l1_0 (l1_0.length : Int) x15_1 = some r) ∧ Aside0 (kq ≤ k) ∧ Aside0 (Kd.R (Kd.int .u8) 5 w' w.heap.size (fun _ => True) v0 x0_1) ∧ Aside0 (w'.heap[gb122]? = some (.cells #[(.slice A1_0 l1_0.length c1_0)] 24 (0, 0))) ∧ Aside0 (Below w.heap.size w w'))
  case atStart => exact ⟨(t123), (0), (by first | rfl | (simp; done) | (simp [*]; done)), H', ⟨Nat.le_refl _⟩, ⟨by (with_reducible repeat (first | apply Kd.R_alloc | apply Kd.R_drewN | apply Kd.R_drew)); exact HO125.out⟩, ⟨k_ BK122⟩, ⟨b_ HB⟩⟩
  case round =>
    clear H'
    (try clear hcz5_0); (try clear hcz7_0); (try clear hfz5_0); (try clear hfz7_0)
    obtain ⟨x0_1, x15_1, rfl, HA, HK1, HO_0, BK122, HB⟩ := hrel
    cases gk with
    | zero => exact absurd HA.out (by simp [week_Put.l0])
    | succ k1 =>
      have H := HA.out
      clear HA
      simp only [week_Put.l0] at H
      by_cases c8 : x15_1 < (l1_0.length : Int)
      rotate_left
      · rw [if_neg c8] at H
        have c8b0 : decide (x15_1 < (l1_0.length : Int)) = false := decide_eq_false c8
        clear c8
        obtain rfl := Option.some.inj H
        go_wp2
        go_ret
        exact ⟨_, by first | rfl | (simp [errW_none, errW_some] <;> rfl) | (simp [*, errW_none, errW_some] <;> rfl), by (with_reducible repeat (first | apply Kd.R_alloc | apply Kd.R_drewN | apply Kd.R_drew)); exact HO_0.out, b_ HB⟩
      rw [if_pos c8] at H
      have c8b0 : decide (x15_1 < (l1_0.length : Int)) = true := decide_eq_true c8
      clear c8
      by_cases c9 : 0 ≤ x15_1
      rotate_left
      · rw [if_neg c9] at H
        exact absurd H (by simp)
      rw [if_pos c9] at H
      have c9b0 : decide (0 ≤ x15_1) = true := decide_eq_true c9
      clear c9
      by_cases c10 : x15_1 < (l1_0.length : Int)
      rotate_left
      · rw [if_neg c10] at H
        exact absurd H (by simp)
      rw [if_pos c10] at H
      have c10b0 : decide (x15_1 < (l1_0.length : Int)) = true := decide_eq_true c10
      clear c10
      replace H := Option.bind_eq_some_iff.mp H
      obtain ⟨t128, A110, H⟩ := H
      replace H : ((octet_PutInt.f t128 ((rd_T55 l1_0 x15_1).f1)).bind fun t131 => (week_Put.l0 k1 t131 l1_0 (l1_0.length : Int) (wrap64 (x15_1 + 1)))) = some r := H
      have A11 := Aside0.mk A110
      clear A110
      replace H := Option.bind_eq_some_iff.mp H
      obtain ⟨t131, A120, H⟩ := H
      replace H : (week_Put.l0 k1 t131 l1_0 (l1_0.length : Int) (wrap64 (x15_1 + 1))) = some r := H
      have A12 := Aside0.mk A120
      clear A120
      have H' := Aside0.mk H
      clear H
      have p126 : 0 ≤ (x15_1 : Int) := of_decide_eq_true (by first | (with_reducible assumption) | assumption)
      have q126 : x15_1 < (l1_0.length : Int) := of_decide_eq_true (by first | (with_reducible assumption) | assumption)
      obtain ⟨ad126, e126, hx126_0, hx126_1⟩ := at_T55 HR1_0.out x15_1 p126 q126
      cases e126
      replace hx126_0 := (HB.out.cell (World.block_lt_of_cell? w _ hx126_0)).trans hx126_0
      replace hx126_1 := (HB.out.cell (World.block_lt_of_cell? w _ hx126_1)).trans hx126_1
      replace p126 := eq_true p126
      replace q126 := eq_true q126
      try go_wp2_with (first | ((with_reducible refine gate_dst (N := 6) rfl ?_); refine box_event ?hg (N := 6) ?hd (cs := #[.int .i64 0, .int .i64 0]) (t := 55) ?hr ?_; (case hd => rfl); (case hg => rfl); (case hr => first | (go_simp; done) | (go_simp; rfl)); intro gb127 hg w13 hbox hb; have n0_ := Aside0.mk (Kd.R_below (r_ HO_0) hb); have n1_ := Aside0.mk (blk_below (k_ BK122) hb); have n2_ := Aside0.mk (below_step (b_ HB) hb); have n3_ := Aside0.mk (hbox); have n4_ := Aside0.mk ((by rw [hg]; exact (below_size (b_ HB)) : w.heap.size ≤ gb127)); have n5_ := n4_; have n6_ := Aside0.mk ((by rw [hg]; exact Nat.ne_of_lt (blk_lt (k_ BK122)) : gb122 ≠ gb127)); have n7_ := Aside0.mk ((by rw [hg]; exact Nat.ne_of_gt (blk_lt (k_ BK122)) : gb127 ≠ gb122)); clear HO_0; clear BK122; clear HB; have HO_0 := n0_; have BK122 := n1_; have HB := n2_; have BK127 := n3_; have GW127 := n4_; have GE127 := n5_; have NB122_127 := n6_; have NB127_122 := n7_; clear n0_ n1_ n2_ n3_ n4_ n5_ n6_ n7_; clear hb hbox hg; have hnb14 := NB127_122.out; have hnc14 := NB122_127.out; have hcz15_0 : w13.cell? ⟨gb127, 0, none⟩ = some (.int .i64 0) := (blk_cell BK127.out 0).trans rfl; have hcz15_1 : w13.cell? ⟨gb127, 1, none⟩ = some (.int .i64 0) := (blk_cell BK127.out 1).trans rfl; have hfz15_0 := blk_frozen BK127.out 0; have hfz15_1 := blk_frozen BK127.out 1))
      have n0_ : Aside0 (Kd.R (Kd.int .u8) 5 ((w13.setCell ⟨gb127, 0, none⟩ (.int .i64 ((rd_T55 l1_0 x15_1).f0))).setCell ⟨gb127, 1, none⟩ (.int .i64 ((rd_T55 l1_0 x15_1).f1))) w.heap.size (fun _ => True) u0 x0_1) := ⟨by (with_reducible repeat (first | apply Kd.R_alloc | apply Kd.R_drewN | apply Kd.R_drew)); exact Kd.R_mono (Kd.R_far (p := ⟨gb127, 1, none⟩) (Kd.R_far (p := ⟨gb127, 0, none⟩) (Kd.R_types HO_0.out BK127.out (by decide)) (fun _ hk => hk.2) (.int .i64 ((rd_T55 l1_0 x15_1).f0))) (fun _ hk => hk.2) (.int .i64 ((rd_T55 l1_0 x15_1).f1))) (fun _ hk => trivial)⟩
      have n1_ : Aside0 (((w13.setCell ⟨gb127, 0, none⟩ (.int .i64 ((rd_T55 l1_0 x15_1).f0))).setCell ⟨gb127, 1, none⟩ (.int .i64 ((rd_T55 l1_0 x15_1).f1))).heap[gb122]? = some (.cells #[.slice (some ad126) l1_0.length c1_0] 24 (0, 0))) := ⟨by (with_reducible repeat (first | refine blk_drewN ?_ _ | refine blk_drew ?_ | refine blk_alloc ?_ _)); refine blk_far ?_ NB122_127.out _; (with_reducible repeat (first | refine blk_drewN ?_ _ | refine blk_drew ?_ | refine blk_alloc ?_ _)); refine blk_far ?_ NB122_127.out _; (with_reducible repeat (first | refine blk_drewN ?_ _ | refine blk_drew ?_ | refine blk_alloc ?_ _)); exact BK122.out⟩
      have n2_ : Aside0 (((w13.setCell ⟨gb127, 0, none⟩ (.int .i64 ((rd_T55 l1_0 x15_1).f0))).setCell ⟨gb127, 1, none⟩ (.int .i64 ((rd_T55 l1_0 x15_1).f1))).heap[gb127]? = some (.cells #[.int .i64 ((rd_T55 l1_0 x15_1).f0), .int .i64 ((rd_T55 l1_0 x15_1).f1)] 55 (0, 0))) := ⟨by (with_reducible repeat (first | refine blk_drewN ?_ _ | refine blk_drew ?_ | refine blk_alloc ?_ _)); refine blk_put (cs := #[.int .i64 ((rd_T55 l1_0 x15_1).f0), .int .i64 0]) ?_ 1 _ rfl; (with_reducible repeat (first | refine blk_drewN ?_ _ | refine blk_drew ?_ | refine blk_alloc ?_ _)); refine blk_put (cs := #[.int .i64 0, .int .i64 0]) ?_ 0 _ rfl; (with_reducible repeat (first | refine blk_drewN ?_ _ | refine blk_drew ?_ | refine blk_alloc ?_ _)); exact BK127.out⟩
      have n3_ : Aside0 (Below w.heap.size w ((w13.setCell ⟨gb127, 0, none⟩ (.int .i64 ((rd_T55 l1_0 x15_1).f0))).setCell ⟨gb127, 1, none⟩ (.int .i64 ((rd_T55 l1_0 x15_1).f1)))) := ⟨b_ HB⟩
      (try clear HO_0); (try clear BK122); (try clear BK127); (try clear HB)
      generalize ((w13.setCell ⟨gb127, 0, none⟩ (.int .i64 ((rd_T55 l1_0 x15_1).f0))).setCell ⟨gb127, 1, none⟩ (.int .i64 ((rd_T55 l1_0 x15_1).f1))) = w16 at n0_ n1_ n2_ n3_ ⊢
      have HO_0 := n0_; have BK122 := n1_; have BK127 := n2_; have HB := n3_
      clear n0_ n1_ n2_ n3_
      have n0_ := Aside0.mk (Kd.R_drew HO_0.out)
      have n1_ := Aside0.mk (blk_drew BK122.out)
      have n2_ := Aside0.mk (blk_drew BK127.out)
      have n3_ := Aside0.mk (below_drew1 HB.out)
      clear HO_0 BK122 BK127 HB
      have HO_0 := n0_; have BK122 := n1_; have BK127 := n2_; have HB := n3_
      clear n0_ n1_ n2_ n3_
      obtain ⟨Ao18, co18, eo18⟩ := Kd.R_slice HO_0.out
      (first | subst eo18 | (injection eo18 with f1_ f2_ f3_; have f4_ := f1_.symm; have f5_ := f3_.symm; clear f1_ f2_ f3_; subst f4_; subst f5_))
      refine start_ (n := 8) (S := fun w' => w'.cell? ⟨gb127, 0, none⟩ = some (.int .i64 ((rd_T55 l1_0 x15_1).f0)) ∧ w'.cell? ⟨gb127, 1, none⟩ = some (.int .i64 ((rd_T55 l1_0 x15_1).f1))) (ds := []) #[false, false, false, false, false, false, false, false] (by kernel_rfl) rfl rfl ⟨(blk_cell BK127.out 0).trans rfl, (blk_cell BK127.out 1).trans rfl⟩ (fun hHeld => ?_); refine with_tabW week_Put.tab5 week_Put.bits5 (fun HT_ HW_ => ?_)
      generalize w16.drew = w17 at HO_0 BK122 BK127 HB hHeld ⊢
      refine pure_ (i := 0) (N := some 19) (v := ?_) (a' := ?_) #[true, false, false, false, false, false, false, false] rfl rfl (any_of HT_.out (by kernel_rfl)) (fun _ _ _ h => h) (Or.inl ⟨by rfl, ?_⟩) ?_ ?_
      rotate_left
      · intro w'
        go_simp
        with_reducible rfl
      rotate_left
      · simp only [Act.put, List.setIfInBounds_toArray, List.set_cons_zero, List.set_cons_succ, i64_w, i32_w]
        rfl
      refine pure_ (i := 1) (N := some 20) (v := ?_) (a' := ?_) #[true, true, false, false, false, false, false, false] rfl rfl (any_of HT_.out (by kernel_rfl)) (fun _ _ _ h => h) (Or.inl ⟨by rfl, ?_⟩) ?_ ?_
      rotate_left
      · intro w'
        go_simp
        with_reducible rfl
      rotate_left
      · simp only [Act.put, List.setIfInBounds_toArray, List.set_cons_zero, List.set_cons_succ, i64_w, i32_w]
        rfl
      refine pure_ (i := 4) (N := some 23) (v := ?_) (a' := ?_) #[true, true, false, false, true, false, false, false] rfl rfl (any_of HT_.out (by kernel_rfl)) (fun _ _ _ h => h) (Or.inl ⟨by rfl, ?_⟩) ?_ ?_
      rotate_left
      · intro w'
        go_simp
        with_reducible rfl
      rotate_left
      · simp only [Act.put, List.setIfInBounds_toArray, List.set_cons_zero, List.set_cons_succ, i64_w, i32_w]
        rfl
      refine take_ (i := 2) (N := some 21) (v := ?_) (a' := ?_) #[true, true, true, false, true, false, false, false] rfl rfl (take_ofW HT_.out HW_.out (by kernel_rfl)) (fun _ _ _ h => h) (Or.inl ⟨by rfl, ?_⟩) hHeld ?_ ?_
      rotate_left
      · rintro w' ⟨s0, s1⟩
        go_simp
        with_reducible rfl
      rotate_left
      · simp only [Act.put, List.setIfInBounds_toArray, List.set_cons_zero, List.set_cons_succ, i64_w, i32_w]
        rfl
      refine take_ (i := 5) (N := some 24) (v := ?_) (a' := ?_) #[true, true, true, false, true, true, false, false] rfl rfl (take_ofW HT_.out HW_.out (by kernel_rfl)) (fun _ _ _ h => h) (Or.inl ⟨by rfl, ?_⟩) hHeld ?_ ?_
      rotate_left
      · rintro w' ⟨s0, s1⟩
        go_simp
        with_reducible rfl
      rotate_left
      · simp only [Act.put, List.setIfInBounds_toArray, List.set_cons_zero, List.set_cons_succ, i64_w, i32_w]
        rfl
      refine one_ (i := 3) (N := some 22) #[true, true, true, true, true, true, false, false] rfl rfl (one_of HT_.out (by kernel_rfl)) (by decide) (fun K hK => ?_)
      refine goes_ Tryd.func35 (by kernel_rfl) rfl #[.slice Ao18 x0_1.length co18, .int .i64 ((rd_T55 l1_0 x15_1).f0)] (by rfl) rfl rfl (by (try simp only [List.map_toArray, List.map_cons, List.map_nil]); first | done | rfl | (simp only [List.length_drop, List.length_take]; rfl)) ?_
      with_reducible refine (octet_PutInt.calls _ _ x0_1 ((rd_T55 l1_0 x15_1).f0) t128 _ ?side1 ?side2 A11.out).mono ?_
      (case side1 => repeat (first | exact (Kd.R_reads' HO_0.out).2.2 | (with_reducible refine Kd.C_alloc ?_ _) | (with_reducible refine Kd.C_drewN ?_ _) | (with_reducible refine Kd.C_drew ?_)))
      (case side2 => exact (Kd.R_reads' HO_0.out).2.1)
      rintro e w19 ⟨v129, rfl, ho0, hb⟩
      refine ⟨_, rfl, ?_⟩
      have n0_ := Aside0.mk (Kd.R_elder' (r_ HO_0) (Kd.R_base ho0) hb)
      have n1_ := Aside0.mk (Kd.R_lower (Kd.R_new' ho0 (Kd.R_lt (r_ HO_0))) (below_size (b_ HB)))
      have n2_ := Aside0.mk (blk_below (k_ BK122) hb)
      have n3_ := Aside0.mk (blk_below (k_ BK127) hb)
      have n4_ := Aside0.mk (below_step (b_ HB) hb)
      clear HO_0 BK122 BK127 HB
      have HO_0 := n0_; have HO130 := n1_; have BK122 := n2_; have BK127 := n3_; have HB := n4_
      clear n0_ n1_ n2_ n3_ n4_
      (try clear hb); (try clear hb2); (try clear hk); (try clear hi); (try clear ho0)
      obtain ⟨Ao20, co20, eo20⟩ := Kd.R_slice HO130.out
      (first | subst eo20 | (injection eo20 with f1_ f2_ f3_; have f4_ := f1_.symm; have f5_ := f3_.symm; clear f1_ f2_ f3_; subst f4_; subst f5_))
      refine hK.out _ _ ⟨(blk_cell BK127.out 0).trans rfl, (blk_cell BK127.out 1).trans rfl⟩ (fun hHeld => ?_)
      clear hK K
      refine norm_ (a' := ?_) ?_ ?_
      rotate_left
      · show Act.put _ (some 22) _ = _
        simp only [Act.put, List.setIfInBounds_toArray, List.set_cons_zero, List.set_cons_succ, i64_w, i32_w]
        rfl
      refine one_ (i := 6) (N := some 25) #[true, true, true, true, true, true, true, false] rfl rfl (one_of HT_.out (by kernel_rfl)) (by decide) (fun K hK => ?_)
      refine goes_ Tryd.func35 (by kernel_rfl) rfl #[.slice Ao20 t128.length co20, .int .i64 ((rd_T55 l1_0 x15_1).f1)] (by rfl) rfl rfl (by (try simp only [List.map_toArray, List.map_cons, List.map_nil]); first | done | rfl | (simp only [List.length_drop, List.length_take]; rfl)) ?_
      with_reducible refine (octet_PutInt.calls _ _ t128 ((rd_T55 l1_0 x15_1).f1) t131 _ ?side1 ?side2 A12.out).mono ?_
      (case side1 => repeat (first | exact (Kd.R_reads' HO130.out).2.2 | (with_reducible refine Kd.C_alloc ?_ _) | (with_reducible refine Kd.C_drewN ?_ _) | (with_reducible refine Kd.C_drew ?_)))
      (case side2 => exact (Kd.R_reads' HO130.out).2.1)
      rintro e w21 ⟨v132, rfl, ho0, hb⟩
      refine ⟨_, rfl, ?_⟩
      have n0_ := Aside0.mk (Kd.R_elder' (r_ HO_0) (Kd.R_base ho0) hb)
      have n1_ := Aside0.mk (Kd.R_elder' (r_ HO130) (Kd.R_base ho0) hb)
      have n2_ := Aside0.mk (Kd.R_lower (Kd.R_new' (Kd.R_new' ho0 (Kd.R_lt (r_ HO_0))) (Kd.R_lt (r_ HO130))) (below_size (b_ HB)))
      have n3_ := Aside0.mk (blk_below (k_ BK122) hb)
      have n4_ := Aside0.mk (blk_below (k_ BK127) hb)
      have n5_ := Aside0.mk (below_step (b_ HB) hb)
      clear HO_0 HO130 BK122 BK127 HB
      have HO_0 := n0_; have HO130 := n1_; have HO133 := n2_; have BK122 := n3_; have BK127 := n4_; have HB := n5_
      clear n0_ n1_ n2_ n3_ n4_ n5_
      (try clear hb); (try clear hb2); (try clear hk); (try clear hi); (try clear ho0)
      refine hK.out _ _ ⟨(blk_cell BK127.out 0).trans rfl, (blk_cell BK127.out 1).trans rfl⟩ (fun hHeld => ?_)
      clear hK K
      refine norm_ (a' := ?_) ?_ ?_
      rotate_left
      · show Act.put _ (some 25) _ = _
        simp only [Act.put, List.setIfInBounds_toArray, List.set_cons_zero, List.set_cons_succ, i64_w, i32_w]
        rfl
      refine pure_ (i := 7) (N := some 0) (v := ?_) (a' := ?_) #[true, true, true, true, true, true, true, true] rfl rfl (any_of HT_.out (by kernel_rfl)) (fun _ _ _ h => h) (Or.inl ⟨by rfl, ?_⟩) ?_ ?_
      rotate_left
      · intro w'
        go_simp
        with_reducible rfl
      rotate_left
      · simp only [Act.put, List.setIfInBounds_toArray, List.set_cons_zero, List.set_cons_succ, i64_w, i32_w]
        rfl
      refine done_ (done_of HT_.out (by kernel_rfl)) ?_
      try go_wp2
      go_roundg k1
      case measure => have := HK1.out; omega
      case rel => exact ⟨(t131), (wrap64 (x15_1 + 1)), (by first | rfl | (simp; done) | (simp [*]; done)), H', ⟨by have := HK1.out; omega⟩, ⟨by (with_reducible repeat (first | apply Kd.R_alloc | apply Kd.R_drewN | apply Kd.R_drew)); exact Kd.R_mono HO133.out (fun _ hk => trivial)⟩, ⟨k_ BK122⟩, ⟨b_ HB⟩⟩
end Go.Proofs.YtjdajlnigiicaaaDoor.S
end
section
namespace Go.Proofs.YtjdajlnigiicaaaDoor.S
open Go.RowKit Go.Proofs.YtjdajlnigiicaaaDoorW.PrintWords Go.Proofs.YtjdajlnigiicaaaDoorW.PrintLast Go.Proofs.YtjdajlnigiicaaaDoorW.PrintMore
attribute [local go_sem] max2_int min2_int max_two min_two max_three min_three max_four min_four   -- for this text's walks alone
set_option linter.unusedVariables false
set_option linter.unusedSimpArgs false
def school_within.f (a0 : Int) (a1 : Int) : Option (Bool) := if a0 ≥ 0 then (some (decide (a0 ≤ a1))) else (some false)
set_option maxHeartbeats 8000000 in
set_option maxRecDepth 100000 in
theorem school_within.calls (a0 : Int) (a1 : Int) (r : Bool) (w : World) (h : school_within.f a0 a1 = some r) :
    Calls Tryd.prog 47 #[.int .i64 a0, .int .i64 a1] w fun e w' => e = .returned (.bool r) ∧ Drawn0 w w' := by
  have H : (if a0 ≥ 0 then (some (decide (a0 ≤ a1))) else (some false)) = some r := h
  clear h
  by_cases c3 : a0 ≥ 0
  rotate_left
  · rw [if_neg c3] at H
    have c3b0 : decide (0 ≤ a0) = false := decide_eq_false c3
    clear c3
    obtain rfl := Option.some.inj H
    go_enter Tryd.func47, Tryd.ntmps47
    go_wp2
    go_ret
    exact ⟨by first | rfl | (simp; done) | (simp [*]; done), by repeat (first | exact Drawn0.refl _ | apply Drawn0.step)⟩
  rw [if_pos c3] at H
  have c3b0 : decide (0 ≤ a0) = true := decide_eq_true c3
  clear c3
  obtain rfl := Option.some.inj H
  go_enter Tryd.func47, Tryd.ntmps47
  go_wp2
  go_ret
  exact ⟨by first | rfl | (simp; done) | (simp [*]; done), by repeat (first | exact Drawn0.refl _ | apply Drawn0.step)⟩
end Go.Proofs.YtjdajlnigiicaaaDoor.S
end
section
namespace Go.Proofs.YtjdajlnigiicaaaDoor.S
open Go.RowKit Go.Proofs.YtjdajlnigiicaaaDoorW.PrintWords Go.Proofs.YtjdajlnigiicaaaDoorW.PrintLast Go.Proofs.YtjdajlnigiicaaaDoorW.PrintMore
attribute [local go_sem] max2_int min2_int max_two min_two max_three min_three max_four min_four   -- for this text's walks alone
set_option linter.unusedVariables false
set_option linter.unusedSimpArgs false
def school_places.l0 : Nat → Int → Int → List Int → Int → Int → Option (Bool)
  | 0, _, _, _, _, _ => none
  | k + 1, x1, x5, x8, x9, x10 => if x10 < x9 then (if 0 ≤ x10 then (if x10 < (x8.length : Int) then (if (rd x8 x10) ≤ x5 then (some false) else (if (rd x8 x10) ≥ x1 then (some false) else (school_places.l0 k x1 (rd x8 x10) x8 x9 (wrap64 (x10 + 1))))) else (none)) else (none)) else (some true)
def school_places.f (k : Nat) (l0 : List Int) (a1 : Int) : Option (Bool) := school_places.l0 k a1 (-1) l0 (l0.length : Int) 0
set_option maxHeartbeats 8000000 in
set_option maxRecDepth 100000 in
theorem school_places.calls (k : Nat) (A0 : Option Addr) (c0 : Nat) (l0 : List Int) (a1 : Int) (r : Bool) (w : World) (hr0 : Kd.C (Kd.int .i64) w A0 l0.length l0) (hc0 : l0.length ≤ c0) (h : school_places.f k l0 a1 = some r) :
    Calls Tryd.prog 49 #[.slice A0 l0.length c0, .int .i64 a1] w fun e w' => e = .returned (.bool r) ∧ Drawn0 w w' := by
  have HR0 := Aside0.mk hr0
  have HC0 := Aside0.mk hc0
  clear hr0 hc0
  have H : (school_places.l0 k a1 (-1) l0 (l0.length : Int) 0) = some r := h
  clear h
  have H' := Aside0.mk H
  clear H
  go_enter Tryd.func49, Tryd.ntmps49
  go_wp2
  go_loopg [5, 10] k (fun kq v5 v10 w' => ∃ (x5_1 : Int) (x10_1 : Int), v5 = .int .i64 x5_1 ∧ v10 = .int .i64 x10_1 ∧ Aside0 (school_places.l0 kq a1 x5_1 l0 (l0.length : Int) x10_1 = some r) ∧ Aside0 (kq ≤ k) ∧ Drawn0 w w')
  case atStart => exact ⟨((-1)), (0), (by first | rfl | (simp; done) | (simp [*]; done)), (by first | rfl | (simp; done) | (simp [*]; done)), H', ⟨Nat.le_refl _⟩, by repeat (first | exact Drawn0.refl _ | apply Drawn0.step)⟩
  case round =>
    clear H'
    obtain ⟨x5_1, x10_1, rfl, rfl, HA, HK1, ⟨m1, rfl⟩⟩ := hrel
    cases gk with
    | zero => exact absurd HA.out (by simp [school_places.l0])
    | succ k1 =>
      have H := HA.out
      clear HA
      simp only [school_places.l0] at H
      by_cases c3 : x10_1 < (l0.length : Int)
      rotate_left
      · rw [if_neg c3] at H
        have c3b0 : decide (x10_1 < (l0.length : Int)) = false := decide_eq_false c3
        clear c3
        obtain rfl := Option.some.inj H
        go_wp2
        go_ret
        exact ⟨by first | rfl | (simp; done) | (simp [*]; done), by repeat (first | exact Drawn0.refl _ | apply Drawn0.step)⟩
      rw [if_pos c3] at H
      have c3b0 : decide (x10_1 < (l0.length : Int)) = true := decide_eq_true c3
      clear c3
      by_cases c4 : 0 ≤ x10_1
      rotate_left
      · rw [if_neg c4] at H
        exact absurd H (by simp)
      rw [if_pos c4] at H
      have c4b0 : decide (0 ≤ x10_1) = true := decide_eq_true c4
      clear c4
      by_cases c5 : x10_1 < (l0.length : Int)
      rotate_left
      · rw [if_neg c5] at H
        exact absurd H (by simp)
      rw [if_pos c5] at H
      have c5b0 : decide (x10_1 < (l0.length : Int)) = true := decide_eq_true c5
      clear c5
      by_cases c6 : (rd l0 x10_1) ≤ x5_1
      · rw [if_pos c6] at H
        have c6b0 : decide ((rd l0 x10_1) ≤ x5_1) = true := decide_eq_true c6
        clear c6
        obtain rfl := Option.some.inj H
        have p137 : 0 ≤ (x10_1 : Int) := of_decide_eq_true (by first | (with_reducible assumption) | assumption)
        have q137 : x10_1 < (l0.length : Int) := of_decide_eq_true (by first | (with_reducible assumption) | assumption)
        obtain ⟨ad137, e137, hx137_0⟩ := Kd.at_int HR0.out x10_1 p137 q137
        cases e137
        replace p137 := eq_true p137
        replace q137 := eq_true q137
        go_wp2
        go_ret
        exact ⟨by first | rfl | (simp; done) | (simp [*]; done), by repeat (first | exact Drawn0.refl _ | apply Drawn0.step)⟩
      rw [if_neg c6] at H
      have c6b0 : decide ((rd l0 x10_1) ≤ x5_1) = false := decide_eq_false c6
      clear c6
      by_cases c7 : (rd l0 x10_1) ≥ a1
      · rw [if_pos c7] at H
        have c7b0 : decide (a1 ≤ (rd l0 x10_1)) = true := decide_eq_true c7
        clear c7
        obtain rfl := Option.some.inj H
        have p137 : 0 ≤ (x10_1 : Int) := of_decide_eq_true (by first | (with_reducible assumption) | assumption)
        have q137 : x10_1 < (l0.length : Int) := of_decide_eq_true (by first | (with_reducible assumption) | assumption)
        obtain ⟨ad137, e137, hx137_0⟩ := Kd.at_int HR0.out x10_1 p137 q137
        cases e137
        replace p137 := eq_true p137
        replace q137 := eq_true q137
        go_wp2
        go_ret
        exact ⟨by first | rfl | (simp; done) | (simp [*]; done), by repeat (first | exact Drawn0.refl _ | apply Drawn0.step)⟩
      rw [if_neg c7] at H
      have c7b0 : decide (a1 ≤ (rd l0 x10_1)) = false := decide_eq_false c7
      clear c7
      have H' := Aside0.mk H
      clear H
      have p137 : 0 ≤ (x10_1 : Int) := of_decide_eq_true (by first | (with_reducible assumption) | assumption)
      have q137 : x10_1 < (l0.length : Int) := of_decide_eq_true (by first | (with_reducible assumption) | assumption)
      obtain ⟨ad137, e137, hx137_0⟩ := Kd.at_int HR0.out x10_1 p137 q137
      cases e137
      replace p137 := eq_true p137
      replace q137 := eq_true q137
      go_wp2
      go_roundg k1
      case measure => have := HK1.out; omega
      case rel => exact ⟨(rd l0 x10_1), (wrap64 (x10_1 + 1)), (by first | rfl | (simp; done) | (simp [*]; done)), (by first | rfl | (simp; done) | (simp [*]; done)), H', ⟨by have := HK1.out; omega⟩, by repeat (first | exact Drawn0.refl _ | apply Drawn0.step)⟩
end Go.Proofs.YtjdajlnigiicaaaDoor.S
end
section
namespace Go.Proofs.YtjdajlnigiicaaaDoor.S
open Go.RowKit Go.Proofs.YtjdajlnigiicaaaDoorW.PrintWords Go.Proofs.YtjdajlnigiicaaaDoorW.PrintLast Go.Proofs.YtjdajlnigiicaaaDoorW.PrintMore
set_option linter.unusedVariables false
set_option linter.unusedSimpArgs false
def PredOn {α : Type} (d : Kd α) (g : Nat) (caps : Array Value) (p : α → Bool) (w : World) : Prop :=
  ∀ (W : World) (x : α) (cs : List Value), Below w.heap.size w W → d.K W x cs → Calls Tryd.prog g (#[.agg cs.toArray] ++ caps) W fun e W' => e = .returned (.bool (p x)) ∧ Below W.heap.size W W'
def idxOf {α : Type} (p : α → Bool) : List α → Int → Int
  | [], _ => -1
  | x :: l, i => if p x then i else idxOf p l (i + 1)
theorem idxOf_any {α : Type} (p : α → Bool) : ∀ (l : List α) (i : Int), 0 ≤ i → decide (0 ≤ idxOf p l i) = l.any p
  | [], _, _ => rfl
  | x :: l, i, h => by
    by_cases hp : p x = true
    · simp [idxOf, hp, h]
    · have := idxOf_any p l (i + 1) (by omega)
      simp [idxOf, hp]
      simpa using this
section
variable {P : Program} {ops : Array Oper} {Q : Exit → Act → World → Prop}
theorem goesG_ {rest : List Oper} {oi : Oper} {a : Act} {w : World} (N : Option Tmp) (hd : oi.dst = N) (hg : oi.guard = none) {f : FuncId} {xs : Array Operand} {ts : Array TypeId} (eg : ∀ args w, (callFunc f args).run P w = .ok (.enter f args) w) (args caps all : Array Value) (hall : args ++ caps = all)
    {t : Tmp} (hop : oi.op = .call { callee := .value (.tmp t), args := xs, argTypes := ts }) (hval : a.eval (.tmp t) = .func (.func f) #[] caps) (hargs : xs.map a.eval = args)
    (h : Calls P f all w fun e w' => ∃ v, e = .returned v ∧ wpList P ops Q rest (a.put N v) w') : wpList P ops Q (oi :: rest) a w := by
  refine wpList_plain hg fun K hK => ?_
  subst hall
  have he := eg (args ++ caps) w
  have hrun : (execOp a.eval oi).run P w = .ok (.enter f (args ++ caps)) w := by
    unfold execOp
    simp [hop, resolve, Deferred.ofValue, invoke, hval, hargs, he]
  unfold Oper.wp
  rw [hrun, Oper.upon_enter]
  refine h.mono fun e w'' hh => ?_
  obtain ⟨v, rfl, hk⟩ := hh
  subst hd
  exact hK _ _ hk
end
set_option maxHeartbeats 4000000 in
set_option maxRecDepth 100000 in
theorem idx_Room.calls (g : Nat) (caps : Array Value) (p : S91 → Bool) (eg : ∀ args w, (callFunc g args).run Tryd.prog w = .ok (.enter g args) w) (A0 : Option Addr) (c0 : Nat) (l0 : List S91) (w : World) (hr0 : Kd.C k91 w A0 l0.length l0) (hc0 : l0.length ≤ c0) (hp : PredOn k91 g caps p w) :
    Calls Tryd.prog 79 #[.slice A0 l0.length c0, .func (.func g) #[] caps] w fun e w' => e = .returned (.int .i64 (idxOf p l0 0)) ∧ Below w.heap.size w w' := by
  have hu := Tryd.underlying91
  have HR0 := Aside0.mk hr0
  have HC0 := Aside0.mk hc0
  have HP := Aside0.mk hp
  have EG := Aside0.mk eg
  have HL := Aside0.mk hr0.2.1
  clear hr0 hc0 hp eg
  go_enter Tryd.func79, Tryd.ntmps79
  go_wp2
  go_loopg [8] l0.length (fun kq v8 w' => ∃ i : Int, v8 = .int .i64 i ∧ Aside0 (0 ≤ i ∧ i + kq = l0.length ∧ idxOf p l0 0 = idxOf p (l0.drop i.toNat) i) ∧ Aside0 (Below w.heap.size w w'))
  case atStart => exact ⟨0, rfl, ⟨by omega, by omega, rfl⟩, ⟨Below.refl _ _⟩⟩
  case round =>
    obtain ⟨i, rfl, HI, HB⟩ := hrel
    cases gk with
    | zero =>
      have d1 : decide (i < (l0.length : Int)) = false := decide_eq_false (by have := HI.out.2.1; omega)
      have HE := Aside0.mk (show idxOf p l0 0 = -1 by rw [HI.out.2.2, List.drop_of_length_le (by have := HI.out.2.1; omega)]; rfl)
      go_wp2
      go_ret
      exact ⟨by rw [HE.out]; rfl, HB.out⟩
    | succ k1 =>
      have d1 : decide (i < (l0.length : Int)) = true := decide_eq_true (by have := HI.out.2.1; omega)
      have p1 : (0 ≤ i) = True := eq_true HI.out.1
      have q1 : (i < (l0.length : Int)) = True := eq_true (by have := HI.out.2.1; omega)
      obtain ⟨ad, A3, c3, e_, z0, z1, z2, z3, l3, C3⟩ := at_T91 (Kd.C_below HR0.out HB.out) i HI.out.1 (by have := HI.out.2.1; omega)
      subst e_
      have HD := Aside0.mk (show l0.drop i.toNat = (rd_T91 l0 i) :: l0.drop (i + 1).toNat by
        have hi : i.toNat < l0.length := by have := HI.out; omega
        rw [List.drop_eq_getElem_cons hi]
        unfold rd_T91
        rw [List.getD_eq_getElem?_getD, List.getElem?_eq_getElem hi, show (i + 1).toNat = i.toNat + 1 by have := HI.out; omega]
        rfl)
      cases hpx : p (rd_T91 l0 i) with
      | true =>
        have hcall := HP.out wr _ [.string (rd_T91 l0 i).f0, .int .i64 (rd_T91 l0 i).f1, .int .i64 (rd_T91 l0 i).f2, .slice A3 (rd_T91 l0 i).f3.length c3] HB.out (k91_mk wr (rd_T91 l0 i) l3 C3)
        rw [hpx] at hcall
        have HCall := Aside0.mk hcall
        clear hcall l3 C3
        go_wp2_with ((with_reducible refine gate_dst (N := 16) rfl ?_); refine goesG_ (some 16) rfl rfl EG.out #[.agg #[.string (rd_T91 l0 i).f0, .int .i64 (rd_T91 l0 i).f1, .int .i64 (rd_T91 l0 i).f2, .slice A3 (rd_T91 l0 i).f3.length c3]] caps _ rfl (t := 11) rfl (by first | rfl | (go_simp; done) | (go_simp; rfl)) (by (try simp only [List.map_toArray, List.map_cons, List.map_nil]); first | done | rfl) ?_; refine HCall.out.mono ?_; rintro e w2 ⟨rfl, hb⟩; refine ⟨_, rfl, ?_⟩; replace HB := Aside0.mk (below_step HB.out hb); clear hb)
        go_ret
        exact ⟨by rw [HI.out.2.2, HD.out]; simp only [idxOf, hpx, if_true]; rfl, HB.out⟩
      | false =>
        have EW := Aside0.mk (show wrap64 (i + 1) = i + 1 by have := HI.out; have := HL.out; unfold wrap64; omega)
        have hcall := HP.out wr _ [.string (rd_T91 l0 i).f0, .int .i64 (rd_T91 l0 i).f1, .int .i64 (rd_T91 l0 i).f2, .slice A3 (rd_T91 l0 i).f3.length c3] HB.out (k91_mk wr (rd_T91 l0 i) l3 C3)
        rw [hpx] at hcall
        have HCall := Aside0.mk hcall
        clear hcall l3 C3
        go_wp2_with ((with_reducible refine gate_dst (N := 16) rfl ?_); refine goesG_ (some 16) rfl rfl EG.out #[.agg #[.string (rd_T91 l0 i).f0, .int .i64 (rd_T91 l0 i).f1, .int .i64 (rd_T91 l0 i).f2, .slice A3 (rd_T91 l0 i).f3.length c3]] caps _ rfl (t := 11) rfl (by first | rfl | (go_simp; done) | (go_simp; rfl)) (by (try simp only [List.map_toArray, List.map_cons, List.map_nil]); first | done | rfl) ?_; refine HCall.out.mono ?_; rintro e w2 ⟨rfl, hb⟩; refine ⟨_, rfl, ?_⟩; replace HB := Aside0.mk (below_step HB.out hb); clear hb)
        go_roundg k1
        case measure => omega
        case rel => exact ⟨wrap64 (i + 1), rfl, by rw [EW.out]; exact ⟨by have := HI.out; omega, by have := HI.out; omega, by rw [HI.out.2.2, HD.out]; simp [idxOf, hpx]⟩, HB⟩
set_option maxHeartbeats 4000000 in
set_option maxRecDepth 100000 in
theorem any_Room.calls (g : Nat) (caps : Array Value) (p : S91 → Bool) (eg : ∀ args w, (callFunc g args).run Tryd.prog w = .ok (.enter g args) w) (A0 : Option Addr) (c0 : Nat) (l0 : List S91) (w : World) (hr0 : Kd.C k91 w A0 l0.length l0) (hc0 : l0.length ≤ c0) (hp : PredOn k91 g caps p w) :
    Calls Tryd.prog 53 #[.slice A0 l0.length c0, .func (.func g) #[] caps] w fun e w' => e = .returned (.bool (l0.any p)) ∧ Below w.heap.size w w' := by
  have HE := Aside0.mk (idxOf_any p l0 0 (by omega))
  have HC := Aside0.mk (idx_Room.calls g caps p eg A0 c0 l0 w hr0 hc0 hp)
  clear hr0 hc0 hp eg
  generalize l0.any p = b at HE ⊢
  generalize idxOf p l0 0 = j at HE HC
  have he := HE.out
  go_enter Tryd.func53, Tryd.ntmps53
  go_wp2_with (go_at_call 79; refine HC.out.mono ?_; rintro e w' ⟨rfl, hb⟩)
  go_ret
  exact ⟨rfl, hb⟩
set_option maxHeartbeats 4000000 in
set_option maxRecDepth 100000 in
theorem idx_Person.calls (g : Nat) (caps : Array Value) (p : S95 → Bool) (eg : ∀ args w, (callFunc g args).run Tryd.prog w = .ok (.enter g args) w) (A0 : Option Addr) (c0 : Nat) (l0 : List S95) (w : World) (hr0 : Kd.C k95 w A0 l0.length l0) (hc0 : l0.length ≤ c0) (hp : PredOn k95 g caps p w) :
    Calls Tryd.prog 80 #[.slice A0 l0.length c0, .func (.func g) #[] caps] w fun e w' => e = .returned (.int .i64 (idxOf p l0 0)) ∧ Below w.heap.size w w' := by
  have hu := Tryd.underlying95
  have HR0 := Aside0.mk hr0
  have HC0 := Aside0.mk hc0
  have HP := Aside0.mk hp
  have EG := Aside0.mk eg
  have HL := Aside0.mk hr0.2.1
  clear hr0 hc0 hp eg
  go_enter Tryd.func80, Tryd.ntmps80
  go_wp2
  go_loopg [8] l0.length (fun kq v8 w' => ∃ i : Int, v8 = .int .i64 i ∧ Aside0 (0 ≤ i ∧ i + kq = l0.length ∧ idxOf p l0 0 = idxOf p (l0.drop i.toNat) i) ∧ Aside0 (Below w.heap.size w w'))
  case atStart => exact ⟨0, rfl, ⟨by omega, by omega, rfl⟩, ⟨Below.refl _ _⟩⟩
  case round =>
    obtain ⟨i, rfl, HI, HB⟩ := hrel
    cases gk with
    | zero =>
      have d1 : decide (i < (l0.length : Int)) = false := decide_eq_false (by have := HI.out.2.1; omega)
      have HE := Aside0.mk (show idxOf p l0 0 = -1 by rw [HI.out.2.2, List.drop_of_length_le (by have := HI.out.2.1; omega)]; rfl)
      go_wp2
      go_ret
      exact ⟨by rw [HE.out]; rfl, HB.out⟩
    | succ k1 =>
      have d1 : decide (i < (l0.length : Int)) = true := decide_eq_true (by have := HI.out.2.1; omega)
      have p1 : (0 ≤ i) = True := eq_true HI.out.1
      have q1 : (i < (l0.length : Int)) = True := eq_true (by have := HI.out.2.1; omega)
      obtain ⟨ad, A1, c1, e_, z0, z1, l1, C1⟩ := at_T95 (Kd.C_below HR0.out HB.out) i HI.out.1 (by have := HI.out.2.1; omega)
      subst e_
      have HD := Aside0.mk (show l0.drop i.toNat = (rd_T95 l0 i) :: l0.drop (i + 1).toNat by
        have hi : i.toNat < l0.length := by have := HI.out; omega
        rw [List.drop_eq_getElem_cons hi]
        unfold rd_T95
        rw [List.getD_eq_getElem?_getD, List.getElem?_eq_getElem hi, show (i + 1).toNat = i.toNat + 1 by have := HI.out; omega]
        rfl)
      cases hpx : p (rd_T95 l0 i) with
      | true =>
        have hcall := HP.out wr _ [.string (rd_T95 l0 i).f0, .slice A1 (rd_T95 l0 i).f1.length c1] HB.out (k95_mk wr (rd_T95 l0 i) l1 C1)
        rw [hpx] at hcall
        have HCall := Aside0.mk hcall
        clear hcall l1 C1
        go_wp2_with ((with_reducible refine gate_dst (N := 16) rfl ?_); refine goesG_ (some 16) rfl rfl EG.out #[.agg #[.string (rd_T95 l0 i).f0, .slice A1 (rd_T95 l0 i).f1.length c1]] caps _ rfl (t := 11) rfl (by first | rfl | (go_simp; done) | (go_simp; rfl)) (by (try simp only [List.map_toArray, List.map_cons, List.map_nil]); first | done | rfl) ?_; refine HCall.out.mono ?_; rintro e w2 ⟨rfl, hb⟩; refine ⟨_, rfl, ?_⟩; replace HB := Aside0.mk (below_step HB.out hb); clear hb)
        go_ret
        exact ⟨by rw [HI.out.2.2, HD.out]; simp only [idxOf, hpx, if_true]; rfl, HB.out⟩
      | false =>
        have EW := Aside0.mk (show wrap64 (i + 1) = i + 1 by have := HI.out; have := HL.out; unfold wrap64; omega)
        have hcall := HP.out wr _ [.string (rd_T95 l0 i).f0, .slice A1 (rd_T95 l0 i).f1.length c1] HB.out (k95_mk wr (rd_T95 l0 i) l1 C1)
        rw [hpx] at hcall
        have HCall := Aside0.mk hcall
        clear hcall l1 C1
        go_wp2_with ((with_reducible refine gate_dst (N := 16) rfl ?_); refine goesG_ (some 16) rfl rfl EG.out #[.agg #[.string (rd_T95 l0 i).f0, .slice A1 (rd_T95 l0 i).f1.length c1]] caps _ rfl (t := 11) rfl (by first | rfl | (go_simp; done) | (go_simp; rfl)) (by (try simp only [List.map_toArray, List.map_cons, List.map_nil]); first | done | rfl) ?_; refine HCall.out.mono ?_; rintro e w2 ⟨rfl, hb⟩; refine ⟨_, rfl, ?_⟩; replace HB := Aside0.mk (below_step HB.out hb); clear hb)
        go_roundg k1
        case measure => omega
        case rel => exact ⟨wrap64 (i + 1), rfl, by rw [EW.out]; exact ⟨by have := HI.out; omega, by have := HI.out; omega, by rw [HI.out.2.2, HD.out]; simp [idxOf, hpx]⟩, HB⟩
set_option maxHeartbeats 4000000 in
set_option maxRecDepth 100000 in
theorem any_Person.calls (g : Nat) (caps : Array Value) (p : S95 → Bool) (eg : ∀ args w, (callFunc g args).run Tryd.prog w = .ok (.enter g args) w) (A0 : Option Addr) (c0 : Nat) (l0 : List S95) (w : World) (hr0 : Kd.C k95 w A0 l0.length l0) (hc0 : l0.length ≤ c0) (hp : PredOn k95 g caps p w) :
    Calls Tryd.prog 54 #[.slice A0 l0.length c0, .func (.func g) #[] caps] w fun e w' => e = .returned (.bool (l0.any p)) ∧ Below w.heap.size w w' := by
  have HE := Aside0.mk (idxOf_any p l0 0 (by omega))
  have HC := Aside0.mk (idx_Person.calls g caps p eg A0 c0 l0 w hr0 hc0 hp)
  clear hr0 hc0 hp eg
  generalize l0.any p = b at HE ⊢
  generalize idxOf p l0 0 = j at HE HC
  have he := HE.out
  go_enter Tryd.func54, Tryd.ntmps54
  go_wp2_with (go_at_call 80; refine HC.out.mono ?_; rintro e w' ⟨rfl, hb⟩)
  go_ret
  exact ⟨rfl, hb⟩
set_option maxHeartbeats 4000000 in
set_option maxRecDepth 100000 in
theorem idx_Group.calls (g : Nat) (caps : Array Value) (p : S98 → Bool) (eg : ∀ args w, (callFunc g args).run Tryd.prog w = .ok (.enter g args) w) (A0 : Option Addr) (c0 : Nat) (l0 : List S98) (w : World) (hr0 : Kd.C k98 w A0 l0.length l0) (hc0 : l0.length ≤ c0) (hp : PredOn k98 g caps p w) :
    Calls Tryd.prog 81 #[.slice A0 l0.length c0, .func (.func g) #[] caps] w fun e w' => e = .returned (.int .i64 (idxOf p l0 0)) ∧ Below w.heap.size w w' := by
  have hu := Tryd.underlying98
  have HR0 := Aside0.mk hr0
  have HC0 := Aside0.mk hc0
  have HP := Aside0.mk hp
  have EG := Aside0.mk eg
  have HL := Aside0.mk hr0.2.1
  clear hr0 hc0 hp eg
  go_enter Tryd.func81, Tryd.ntmps81
  go_wp2
  go_loopg [8] l0.length (fun kq v8 w' => ∃ i : Int, v8 = .int .i64 i ∧ Aside0 (0 ≤ i ∧ i + kq = l0.length ∧ idxOf p l0 0 = idxOf p (l0.drop i.toNat) i) ∧ Aside0 (Below w.heap.size w w'))
  case atStart => exact ⟨0, rfl, ⟨by omega, by omega, rfl⟩, ⟨Below.refl _ _⟩⟩
  case round =>
    obtain ⟨i, rfl, HI, HB⟩ := hrel
    cases gk with
    | zero =>
      have d1 : decide (i < (l0.length : Int)) = false := decide_eq_false (by have := HI.out.2.1; omega)
      have HE := Aside0.mk (show idxOf p l0 0 = -1 by rw [HI.out.2.2, List.drop_of_length_le (by have := HI.out.2.1; omega)]; rfl)
      go_wp2
      go_ret
      exact ⟨by rw [HE.out]; rfl, HB.out⟩
    | succ k1 =>
      have d1 : decide (i < (l0.length : Int)) = true := decide_eq_true (by have := HI.out.2.1; omega)
      have p1 : (0 ≤ i) = True := eq_true HI.out.1
      have q1 : (i < (l0.length : Int)) = True := eq_true (by have := HI.out.2.1; omega)
      obtain ⟨ad, e_, z0, z1⟩ := at_T98 (Kd.C_below HR0.out HB.out) i HI.out.1 (by have := HI.out.2.1; omega)
      subst e_
      have HD := Aside0.mk (show l0.drop i.toNat = (rd_T98 l0 i) :: l0.drop (i + 1).toNat by
        have hi : i.toNat < l0.length := by have := HI.out; omega
        rw [List.drop_eq_getElem_cons hi]
        unfold rd_T98
        rw [List.getD_eq_getElem?_getD, List.getElem?_eq_getElem hi, show (i + 1).toNat = i.toNat + 1 by have := HI.out; omega]
        rfl)
      cases hpx : p (rd_T98 l0 i) with
      | true =>
        have hcall := HP.out wr _ [.string (rd_T98 l0 i).f0, .int .i64 (rd_T98 l0 i).f1] HB.out (k98_mk wr (rd_T98 l0 i))
        rw [hpx] at hcall
        have HCall := Aside0.mk hcall
        clear hcall
        go_wp2_with ((with_reducible refine gate_dst (N := 16) rfl ?_); refine goesG_ (some 16) rfl rfl EG.out #[.agg #[.string (rd_T98 l0 i).f0, .int .i64 (rd_T98 l0 i).f1]] caps _ rfl (t := 11) rfl (by first | rfl | (go_simp; done) | (go_simp; rfl)) (by (try simp only [List.map_toArray, List.map_cons, List.map_nil]); first | done | rfl) ?_; refine HCall.out.mono ?_; rintro e w2 ⟨rfl, hb⟩; refine ⟨_, rfl, ?_⟩; replace HB := Aside0.mk (below_step HB.out hb); clear hb)
        go_ret
        exact ⟨by rw [HI.out.2.2, HD.out]; simp only [idxOf, hpx, if_true]; rfl, HB.out⟩
      | false =>
        have EW := Aside0.mk (show wrap64 (i + 1) = i + 1 by have := HI.out; have := HL.out; unfold wrap64; omega)
        have hcall := HP.out wr _ [.string (rd_T98 l0 i).f0, .int .i64 (rd_T98 l0 i).f1] HB.out (k98_mk wr (rd_T98 l0 i))
        rw [hpx] at hcall
        have HCall := Aside0.mk hcall
        clear hcall
        go_wp2_with ((with_reducible refine gate_dst (N := 16) rfl ?_); refine goesG_ (some 16) rfl rfl EG.out #[.agg #[.string (rd_T98 l0 i).f0, .int .i64 (rd_T98 l0 i).f1]] caps _ rfl (t := 11) rfl (by first | rfl | (go_simp; done) | (go_simp; rfl)) (by (try simp only [List.map_toArray, List.map_cons, List.map_nil]); first | done | rfl) ?_; refine HCall.out.mono ?_; rintro e w2 ⟨rfl, hb⟩; refine ⟨_, rfl, ?_⟩; replace HB := Aside0.mk (below_step HB.out hb); clear hb)
        go_roundg k1
        case measure => omega
        case rel => exact ⟨wrap64 (i + 1), rfl, by rw [EW.out]; exact ⟨by have := HI.out; omega, by have := HI.out; omega, by rw [HI.out.2.2, HD.out]; simp [idxOf, hpx]⟩, HB⟩
set_option maxHeartbeats 4000000 in
set_option maxRecDepth 100000 in
theorem any_Group.calls (g : Nat) (caps : Array Value) (p : S98 → Bool) (eg : ∀ args w, (callFunc g args).run Tryd.prog w = .ok (.enter g args) w) (A0 : Option Addr) (c0 : Nat) (l0 : List S98) (w : World) (hr0 : Kd.C k98 w A0 l0.length l0) (hc0 : l0.length ≤ c0) (hp : PredOn k98 g caps p w) :
    Calls Tryd.prog 55 #[.slice A0 l0.length c0, .func (.func g) #[] caps] w fun e w' => e = .returned (.bool (l0.any p)) ∧ Below w.heap.size w w' := by
  have HE := Aside0.mk (idxOf_any p l0 0 (by omega))
  have HC := Aside0.mk (idx_Group.calls g caps p eg A0 c0 l0 w hr0 hc0 hp)
  clear hr0 hc0 hp eg
  generalize l0.any p = b at HE ⊢
  generalize idxOf p l0 0 = j at HE HC
  have he := HE.out
  go_enter Tryd.func55, Tryd.ntmps55
  go_wp2_with (go_at_call 81; refine HC.out.mono ?_; rintro e w' ⟨rfl, hb⟩)
  go_ret
  exact ⟨rfl, hb⟩
set_option maxHeartbeats 4000000 in
set_option maxRecDepth 100000 in
theorem idx_Lesson.calls (g : Nat) (caps : Array Value) (p : S101 → Bool) (eg : ∀ args w, (callFunc g args).run Tryd.prog w = .ok (.enter g args) w) (A0 : Option Addr) (c0 : Nat) (l0 : List S101) (w : World) (hr0 : Kd.C k101 w A0 l0.length l0) (hc0 : l0.length ≤ c0) (hp : PredOn k101 g caps p w) :
    Calls Tryd.prog 82 #[.slice A0 l0.length c0, .func (.func g) #[] caps] w fun e w' => e = .returned (.int .i64 (idxOf p l0 0)) ∧ Below w.heap.size w w' := by
  have hu := Tryd.underlying101
  have HR0 := Aside0.mk hr0
  have HC0 := Aside0.mk hc0
  have HP := Aside0.mk hp
  have EG := Aside0.mk eg
  have HL := Aside0.mk hr0.2.1
  clear hr0 hc0 hp eg
  go_enter Tryd.func82, Tryd.ntmps82
  go_wp2
  go_loopg [8] l0.length (fun kq v8 w' => ∃ i : Int, v8 = .int .i64 i ∧ Aside0 (0 ≤ i ∧ i + kq = l0.length ∧ idxOf p l0 0 = idxOf p (l0.drop i.toNat) i) ∧ Aside0 (Below w.heap.size w w'))
  case atStart => exact ⟨0, rfl, ⟨by omega, by omega, rfl⟩, ⟨Below.refl _ _⟩⟩
  case round =>
    obtain ⟨i, rfl, HI, HB⟩ := hrel
    cases gk with
    | zero =>
      have d1 : decide (i < (l0.length : Int)) = false := decide_eq_false (by have := HI.out.2.1; omega)
      have HE := Aside0.mk (show idxOf p l0 0 = -1 by rw [HI.out.2.2, List.drop_of_length_le (by have := HI.out.2.1; omega)]; rfl)
      go_wp2
      go_ret
      exact ⟨by rw [HE.out]; rfl, HB.out⟩
    | succ k1 =>
      have d1 : decide (i < (l0.length : Int)) = true := decide_eq_true (by have := HI.out.2.1; omega)
      have p1 : (0 ≤ i) = True := eq_true HI.out.1
      have q1 : (i < (l0.length : Int)) = True := eq_true (by have := HI.out.2.1; omega)
      obtain ⟨ad, A1, c1, A2, c2, e_, z0, z1, z2, l1, C1, l2, C2⟩ := at_T101 (Kd.C_below HR0.out HB.out) i HI.out.1 (by have := HI.out.2.1; omega)
      subst e_
      have HD := Aside0.mk (show l0.drop i.toNat = (rd_T101 l0 i) :: l0.drop (i + 1).toNat by
        have hi : i.toNat < l0.length := by have := HI.out; omega
        rw [List.drop_eq_getElem_cons hi]
        unfold rd_T101
        rw [List.getD_eq_getElem?_getD, List.getElem?_eq_getElem hi, show (i + 1).toNat = i.toNat + 1 by have := HI.out; omega]
        rfl)
      cases hpx : p (rd_T101 l0 i) with
      | true =>
        have hcall := HP.out wr _ [.string (rd_T101 l0 i).f0, .slice A1 (rd_T101 l0 i).f1.length c1, .slice A2 (rd_T101 l0 i).f2.length c2] HB.out (k101_mk wr (rd_T101 l0 i) l1 C1 l2 C2)
        rw [hpx] at hcall
        have HCall := Aside0.mk hcall
        clear hcall l1 C1 l2 C2
        go_wp2_with ((with_reducible refine gate_dst (N := 16) rfl ?_); refine goesG_ (some 16) rfl rfl EG.out #[.agg #[.string (rd_T101 l0 i).f0, .slice A1 (rd_T101 l0 i).f1.length c1, .slice A2 (rd_T101 l0 i).f2.length c2]] caps _ rfl (t := 11) rfl (by first | rfl | (go_simp; done) | (go_simp; rfl)) (by (try simp only [List.map_toArray, List.map_cons, List.map_nil]); first | done | rfl) ?_; refine HCall.out.mono ?_; rintro e w2 ⟨rfl, hb⟩; refine ⟨_, rfl, ?_⟩; replace HB := Aside0.mk (below_step HB.out hb); clear hb)
        go_ret
        exact ⟨by rw [HI.out.2.2, HD.out]; simp only [idxOf, hpx, if_true]; rfl, HB.out⟩
      | false =>
        have EW := Aside0.mk (show wrap64 (i + 1) = i + 1 by have := HI.out; have := HL.out; unfold wrap64; omega)
        have hcall := HP.out wr _ [.string (rd_T101 l0 i).f0, .slice A1 (rd_T101 l0 i).f1.length c1, .slice A2 (rd_T101 l0 i).f2.length c2] HB.out (k101_mk wr (rd_T101 l0 i) l1 C1 l2 C2)
        rw [hpx] at hcall
        have HCall := Aside0.mk hcall
        clear hcall l1 C1 l2 C2
        go_wp2_with ((with_reducible refine gate_dst (N := 16) rfl ?_); refine goesG_ (some 16) rfl rfl EG.out #[.agg #[.string (rd_T101 l0 i).f0, .slice A1 (rd_T101 l0 i).f1.length c1, .slice A2 (rd_T101 l0 i).f2.length c2]] caps _ rfl (t := 11) rfl (by first | rfl | (go_simp; done) | (go_simp; rfl)) (by (try simp only [List.map_toArray, List.map_cons, List.map_nil]); first | done | rfl) ?_; refine HCall.out.mono ?_; rintro e w2 ⟨rfl, hb⟩; refine ⟨_, rfl, ?_⟩; replace HB := Aside0.mk (below_step HB.out hb); clear hb)
        go_roundg k1
        case measure => omega
        case rel => exact ⟨wrap64 (i + 1), rfl, by rw [EW.out]; exact ⟨by have := HI.out; omega, by have := HI.out; omega, by rw [HI.out.2.2, HD.out]; simp [idxOf, hpx]⟩, HB⟩
set_option maxHeartbeats 4000000 in
set_option maxRecDepth 100000 in
theorem any_Lesson.calls (g : Nat) (caps : Array Value) (p : S101 → Bool) (eg : ∀ args w, (callFunc g args).run Tryd.prog w = .ok (.enter g args) w) (A0 : Option Addr) (c0 : Nat) (l0 : List S101) (w : World) (hr0 : Kd.C k101 w A0 l0.length l0) (hc0 : l0.length ≤ c0) (hp : PredOn k101 g caps p w) :
    Calls Tryd.prog 56 #[.slice A0 l0.length c0, .func (.func g) #[] caps] w fun e w' => e = .returned (.bool (l0.any p)) ∧ Below w.heap.size w w' := by
  have HE := Aside0.mk (idxOf_any p l0 0 (by omega))
  have HC := Aside0.mk (idx_Lesson.calls g caps p eg A0 c0 l0 w hr0 hc0 hp)
  clear hr0 hc0 hp eg
  generalize l0.any p = b at HE ⊢
  generalize idxOf p l0 0 = j at HE HC
  have he := HE.out
  go_enter Tryd.func56, Tryd.ntmps56
  go_wp2_with (go_at_call 82; refine HC.out.mono ?_; rintro e w' ⟨rfl, hb⟩)
  go_ret
  exact ⟨rfl, hb⟩
set_option maxHeartbeats 4000000 in
set_option maxRecDepth 100000 in
theorem idx_Place.calls (g : Nat) (caps : Array Value) (p : S55 → Bool) (eg : ∀ args w, (callFunc g args).run Tryd.prog w = .ok (.enter g args) w) (A0 : Option Addr) (c0 : Nat) (l0 : List S55) (w : World) (hr0 : Kd.C k55 w A0 l0.length l0) (hc0 : l0.length ≤ c0) (hp : PredOn k55 g caps p w) :
    Calls Tryd.prog 61 #[.slice A0 l0.length c0, .func (.func g) #[] caps] w fun e w' => e = .returned (.int .i64 (idxOf p l0 0)) ∧ Below w.heap.size w w' := by
  have hu := Tryd.underlying55
  have HR0 := Aside0.mk hr0
  have HC0 := Aside0.mk hc0
  have HP := Aside0.mk hp
  have EG := Aside0.mk eg
  have HL := Aside0.mk hr0.2.1
  clear hr0 hc0 hp eg
  go_enter Tryd.func61, Tryd.ntmps61
  go_wp2
  go_loopg [8] l0.length (fun kq v8 w' => ∃ i : Int, v8 = .int .i64 i ∧ Aside0 (0 ≤ i ∧ i + kq = l0.length ∧ idxOf p l0 0 = idxOf p (l0.drop i.toNat) i) ∧ Aside0 (Below w.heap.size w w'))
  case atStart => exact ⟨0, rfl, ⟨by omega, by omega, rfl⟩, ⟨Below.refl _ _⟩⟩
  case round =>
    obtain ⟨i, rfl, HI, HB⟩ := hrel
    cases gk with
    | zero =>
      have d1 : decide (i < (l0.length : Int)) = false := decide_eq_false (by have := HI.out.2.1; omega)
      have HE := Aside0.mk (show idxOf p l0 0 = -1 by rw [HI.out.2.2, List.drop_of_length_le (by have := HI.out.2.1; omega)]; rfl)
      go_wp2
      go_ret
      exact ⟨by rw [HE.out]; rfl, HB.out⟩
    | succ k1 =>
      have d1 : decide (i < (l0.length : Int)) = true := decide_eq_true (by have := HI.out.2.1; omega)
      have p1 : (0 ≤ i) = True := eq_true HI.out.1
      have q1 : (i < (l0.length : Int)) = True := eq_true (by have := HI.out.2.1; omega)
      obtain ⟨ad, e_, z0, z1⟩ := at_T55 (Kd.C_below HR0.out HB.out) i HI.out.1 (by have := HI.out.2.1; omega)
      subst e_
      have HD := Aside0.mk (show l0.drop i.toNat = (rd_T55 l0 i) :: l0.drop (i + 1).toNat by
        have hi : i.toNat < l0.length := by have := HI.out; omega
        rw [List.drop_eq_getElem_cons hi]
        unfold rd_T55
        rw [List.getD_eq_getElem?_getD, List.getElem?_eq_getElem hi, show (i + 1).toNat = i.toNat + 1 by have := HI.out; omega]
        rfl)
      cases hpx : p (rd_T55 l0 i) with
      | true =>
        have hcall := HP.out wr _ [.int .i64 (rd_T55 l0 i).f0, .int .i64 (rd_T55 l0 i).f1] HB.out (k55_mk wr (rd_T55 l0 i))
        rw [hpx] at hcall
        have HCall := Aside0.mk hcall
        clear hcall
        go_wp2_with ((with_reducible refine gate_dst (N := 16) rfl ?_); refine goesG_ (some 16) rfl rfl EG.out #[.agg #[.int .i64 (rd_T55 l0 i).f0, .int .i64 (rd_T55 l0 i).f1]] caps _ rfl (t := 11) rfl (by first | rfl | (go_simp; done) | (go_simp; rfl)) (by (try simp only [List.map_toArray, List.map_cons, List.map_nil]); first | done | rfl) ?_; refine HCall.out.mono ?_; rintro e w2 ⟨rfl, hb⟩; refine ⟨_, rfl, ?_⟩; replace HB := Aside0.mk (below_step HB.out hb); clear hb)
        go_ret
        exact ⟨by rw [HI.out.2.2, HD.out]; simp only [idxOf, hpx, if_true]; rfl, HB.out⟩
      | false =>
        have EW := Aside0.mk (show wrap64 (i + 1) = i + 1 by have := HI.out; have := HL.out; unfold wrap64; omega)
        have hcall := HP.out wr _ [.int .i64 (rd_T55 l0 i).f0, .int .i64 (rd_T55 l0 i).f1] HB.out (k55_mk wr (rd_T55 l0 i))
        rw [hpx] at hcall
        have HCall := Aside0.mk hcall
        clear hcall
        go_wp2_with ((with_reducible refine gate_dst (N := 16) rfl ?_); refine goesG_ (some 16) rfl rfl EG.out #[.agg #[.int .i64 (rd_T55 l0 i).f0, .int .i64 (rd_T55 l0 i).f1]] caps _ rfl (t := 11) rfl (by first | rfl | (go_simp; done) | (go_simp; rfl)) (by (try simp only [List.map_toArray, List.map_cons, List.map_nil]); first | done | rfl) ?_; refine HCall.out.mono ?_; rintro e w2 ⟨rfl, hb⟩; refine ⟨_, rfl, ?_⟩; replace HB := Aside0.mk (below_step HB.out hb); clear hb)
        go_roundg k1
        case measure => omega
        case rel => exact ⟨wrap64 (i + 1), rfl, by rw [EW.out]; exact ⟨by have := HI.out; omega, by have := HI.out; omega, by rw [HI.out.2.2, HD.out]; simp [idxOf, hpx]⟩, HB⟩
set_option maxHeartbeats 4000000 in
set_option maxRecDepth 100000 in
theorem any_Place.calls (g : Nat) (caps : Array Value) (p : S55 → Bool) (eg : ∀ args w, (callFunc g args).run Tryd.prog w = .ok (.enter g args) w) (A0 : Option Addr) (c0 : Nat) (l0 : List S55) (w : World) (hr0 : Kd.C k55 w A0 l0.length l0) (hc0 : l0.length ≤ c0) (hp : PredOn k55 g caps p w) :
    Calls Tryd.prog 44 #[.slice A0 l0.length c0, .func (.func g) #[] caps] w fun e w' => e = .returned (.bool (l0.any p)) ∧ Below w.heap.size w w' := by
  have HE := Aside0.mk (idxOf_any p l0 0 (by omega))
  have HC := Aside0.mk (idx_Place.calls g caps p eg A0 c0 l0 w hr0 hc0 hp)
  clear hr0 hc0 hp eg
  generalize l0.any p = b at HE ⊢
  generalize idxOf p l0 0 = j at HE HC
  have he := HE.out
  go_enter Tryd.func44, Tryd.ntmps44
  go_wp2_with (go_at_call 61; refine HC.out.mono ?_; rintro e w' ⟨rfl, hb⟩)
  go_ret
  exact ⟨rfl, hb⟩
end Go.Proofs.YtjdajlnigiicaaaDoor.S
end
section
namespace Go.Proofs.YtjdajlnigiicaaaDoor.S
open Go.RowKit Go.Proofs.YtjdajlnigiicaaaDoorW.PrintWords Go.Proofs.YtjdajlnigiicaaaDoorW.PrintLast Go.Proofs.YtjdajlnigiicaaaDoorW.PrintMore
set_option linter.unusedVariables false
set_option linter.unusedSimpArgs false
def inB (a m : Int) : Bool := decide (0 ≤ a ∧ a ≤ m)
theorem within_eq (a m : Int) : school_within.f a m = some (inB a m) := by
  unfold school_within.f inB
  by_cases h : a ≥ 0
  · rw [if_pos h]; simp only [Option.some.injEq, decide_eq_decide]; omega
  · rw [if_neg h]; simp only [Option.some.injEq]; rw [eq_comm, decide_eq_false_iff_not]; omega
def placesGo (n : Int) : Int → List Int → Bool
  | _, [] => true
  | last, x :: l => if x ≤ last ∨ x ≥ n then false else placesGo n x l
def placesB (l : List Int) (n : Int) : Bool := placesGo n (-1) l
theorem places_loop (l : List Int) (n : Int) (hl : l.length ≤ 9223372036854775807) : ∀ (s : List Int) (i k : Nat) (last : Int), l.drop i = s → s.length < k → school_places.l0 k n last l (l.length : Int) (i : Int) = some (placesGo n last s) := by
  intro s
  induction s with
  | nil =>
    intro i k last hd hk
    obtain ⟨k, rfl⟩ : ∃ m, k = m + 1 := ⟨k - 1, by omega⟩
    have hi : l.length ≤ i := by have := congrArg List.length hd; simp at this; omega
    simp only [school_places.l0]
    rw [if_neg (by omega)]
    rfl
  | cons x s ih =>
    intro i k last hd hk
    obtain ⟨k, rfl⟩ : ∃ m, k = m + 1 := ⟨k - 1, by simp at hk; omega⟩
    have hi : i < l.length := by
      rcases Nat.lt_or_ge i l.length with h | h
      · exact h
      · rw [List.drop_of_length_le h] at hd; cases hd
    have hx : rd l (i : Int) = x := by
      have := List.drop_eq_getElem_cons hi
      rw [hd] at this
      injection this with h1 h2
      unfold rd
      rw [List.getD_eq_getElem?_getD]
      simp [List.getElem?_eq_getElem hi, h1]
    have hs : l.drop (i + 1) = s := by
      have := List.drop_eq_getElem_cons hi
      rw [hd] at this
      injection this with h1 h2
      exact h2.symm
    have hw : wrap64 ((i : Int) + 1) = ((i + 1 : Nat) : Int) := by unfold wrap64; omega
    simp only [school_places.l0]
    rw [if_pos (by omega), if_pos (by omega), if_pos (by omega), hx]
    simp only [placesGo]
    by_cases h1 : x ≤ last
    · rw [if_pos h1, if_pos (Or.inl h1)]
    · rw [if_neg h1]
      by_cases h2 : x ≥ n
      · rw [if_pos h2, if_pos (Or.inr h2)]
      · rw [if_neg h2, if_neg (by omega), hw]
        exact ih (i + 1) k x hs (by simp at hk; omega)
theorem places_eq (l : List Int) (n : Int) (hl : l.length ≤ 9223372036854775807) : school_places.f (l.length + 1) l n = some (placesB l n) := places_loop l n hl l 0 _ _ rfl (by omega)
def roomBad (n : Int) (x : S91) : Bool := !inB x.f1 7 || !inB x.f2 1000 || !placesB x.f3 n
set_option maxHeartbeats 8000000 in
set_option maxRecDepth 100000 in
theorem roomBad_pred (Bs : Nat) (n : Int) (w : World) (hCBs : w.heap[Bs]? = some (.cells #[.int .i64 n] 3 (0, 0))) : PredOn k91 48 #[.pointer (some ⟨Bs, 0, none⟩)] (roomBad n) w := by
  intro W x cs_ hW hK
  obtain ⟨A3, c3, rfl, l3, C3⟩ := k91_open hK
  have hu := Tryd.underlying91
  have HCBs0 := Aside0.mk (blk_below hCBs hW)
  have HL3 := Aside0.mk l3
  have HR3 := Aside0.mk C3
  clear l3 C3
  show Calls Tryd.prog 48 #[.agg #[.string x.f0, .int .i64 x.f1, .int .i64 x.f2, .slice A3 x.f3.length c3], .pointer (some ⟨Bs, 0, none⟩)] W _
  cases h0 : inB x.f1 7 <;> cases h1 : inB x.f2 1000 <;> cases h2 : placesB x.f3 n
  all_goals
    go_enter Tryd.func48, Tryd.ntmps48
    go_wp2_with (first | ((with_reducible refine gate_dst (N := 2) rfl ?_); refine box_event ?hg (N := 2) ?hd (cs := #[.string x.f0, .int .i64 x.f1, .int .i64 x.f2, .slice A3 x.f3.length c3]) (t := 91) ?hr ?_; (case hd => rfl); (case hg => rfl); (case hr => first | (go_simp; done) | (go_simp; rfl)); intro gb hg w1 hbox hb; have zb0 : w1.cell? ⟨gb, 0, none⟩ = some (.string x.f0) := (blk_cell hbox 0).trans rfl; have zb1 : w1.cell? ⟨gb, 1, none⟩ = some (.int .i64 x.f1) := (blk_cell hbox 1).trans rfl; have zb2 : w1.cell? ⟨gb, 2, none⟩ = some (.int .i64 x.f2) := (blk_cell hbox 2).trans rfl; have zb3 : w1.cell? ⟨gb, 3, none⟩ = some (.slice A3 x.f3.length c3) := (blk_cell hbox 3).trans rfl;  have HB := Aside0.mk hb; have HCBs := Aside0.mk (blk_below HCBs0.out hb); have zcBs : w1.cell? ⟨Bs, 0, none⟩ = some (.int .i64 n) := (blk_cell HCBs.out 0).trans rfl; clear hb hbox hg) | (go_at_call 47; refine (school_within.calls _ _ _ _ (within_eq _ _)).mono ?_; rintro e w' ⟨rfl, ⟨nd, rfl⟩⟩) | ((with_reducible refine gate_callee (f := 49) rfl ?_); (try (refine gate_guard (by rfl) ?_; dsimp only)); refine goesL_ (some 18) rfl rfl Tryd.func49 (by kernel_rfl) rfl #[.slice A3 x.f3.length c3, .int .i64 n] rfl (by (try simp only [List.map_toArray, List.map_cons, List.map_nil]); first | done | rfl) ?_; refine (school_places.calls (x.f3.length + 1) _ _ x.f3 n _ _ ?side1 ?side2 (places_eq _ _ HR3.out.2.1)).mono ?_; (case side1 => repeat (first | exact Kd.C_below HR3.out HB.out | (with_reducible refine Kd.C_drewN ?_ _) | (with_reducible refine Kd.C_drew ?_))); (case side2 => exact HL3.out); rintro e w' ⟨rfl, ⟨nd, rfl⟩⟩; refine ⟨_, rfl, ?_⟩))
    go_ret
    exact ⟨by simp [roomBad, h0, h1, h2], by repeat (first | (with_reducible first | exact HB.out | apply pw_below_drewN | apply below_drew1) | exact HB.out)⟩
def personBad (n : Int) (x : S95) : Bool := !placesB x.f1 n
set_option maxHeartbeats 8000000 in
set_option maxRecDepth 100000 in
theorem personBad_pred (Bs : Nat) (n : Int) (w : World) (hCBs : w.heap[Bs]? = some (.cells #[.int .i64 n] 3 (0, 0))) : PredOn k95 50 #[.pointer (some ⟨Bs, 0, none⟩)] (personBad n) w := by
  intro W x cs_ hW hK
  obtain ⟨A1, c1, rfl, l1, C1⟩ := k95_open hK
  have hu := Tryd.underlying95
  have HCBs0 := Aside0.mk (blk_below hCBs hW)
  have HL1 := Aside0.mk l1
  have HR1 := Aside0.mk C1
  clear l1 C1
  show Calls Tryd.prog 50 #[.agg #[.string x.f0, .slice A1 x.f1.length c1], .pointer (some ⟨Bs, 0, none⟩)] W _
  cases h0 : placesB x.f1 n
  all_goals
    go_enter Tryd.func50, Tryd.ntmps50
    go_wp2_with (first | ((with_reducible refine gate_dst (N := 2) rfl ?_); refine box_event ?hg (N := 2) ?hd (cs := #[.string x.f0, .slice A1 x.f1.length c1]) (t := 95) ?hr ?_; (case hd => rfl); (case hg => rfl); (case hr => first | (go_simp; done) | (go_simp; rfl)); intro gb hg w1 hbox hb; have zb0 : w1.cell? ⟨gb, 0, none⟩ = some (.string x.f0) := (blk_cell hbox 0).trans rfl; have zb1 : w1.cell? ⟨gb, 1, none⟩ = some (.slice A1 x.f1.length c1) := (blk_cell hbox 1).trans rfl;  have HB := Aside0.mk hb; have HCBs := Aside0.mk (blk_below HCBs0.out hb); have zcBs : w1.cell? ⟨Bs, 0, none⟩ = some (.int .i64 n) := (blk_cell HCBs.out 0).trans rfl; clear hb hbox hg) | ((with_reducible refine gate_callee (f := 49) rfl ?_); (try (refine gate_guard (by rfl) ?_; dsimp only)); refine goesL_ (some 7) rfl rfl Tryd.func49 (by kernel_rfl) rfl #[.slice A1 x.f1.length c1, .int .i64 n] rfl (by (try simp only [List.map_toArray, List.map_cons, List.map_nil]); first | done | rfl) ?_; refine (school_places.calls (x.f1.length + 1) _ _ x.f1 n _ _ ?side1 ?side2 (places_eq _ _ HR1.out.2.1)).mono ?_; (case side1 => repeat (first | exact Kd.C_below HR1.out HB.out | (with_reducible refine Kd.C_drewN ?_ _) | (with_reducible refine Kd.C_drew ?_))); (case side2 => exact HL1.out); rintro e w' ⟨rfl, ⟨nd, rfl⟩⟩; refine ⟨_, rfl, ?_⟩))
    go_ret
    exact ⟨by simp [personBad, h0], by repeat (first | (with_reducible first | exact HB.out | apply pw_below_drewN | apply below_drew1) | exact HB.out)⟩
def groupBad (x : S98) : Bool := !inB x.f1 1000
set_option maxHeartbeats 8000000 in
set_option maxRecDepth 100000 in
theorem groupBad_pred  (w : World)  : PredOn k98 51 #[] (groupBad) w := by
  intro W x cs_ hW hK
  obtain rfl := k98_open hK
  have hu := Tryd.underlying98
  show Calls Tryd.prog 51 #[.agg #[.string x.f0, .int .i64 x.f1]] W _
  cases h0 : inB x.f1 1000
  all_goals
    go_enter Tryd.func51, Tryd.ntmps51
    go_wp2_with (first | ((with_reducible refine gate_dst (N := 1) rfl ?_); refine box_event ?hg (N := 1) ?hd (cs := #[.string x.f0, .int .i64 x.f1]) (t := 98) ?hr ?_; (case hd => rfl); (case hg => rfl); (case hr => first | (go_simp; done) | (go_simp; rfl)); intro gb hg w1 hbox hb; have zb0 : w1.cell? ⟨gb, 0, none⟩ = some (.string x.f0) := (blk_cell hbox 0).trans rfl; have zb1 : w1.cell? ⟨gb, 1, none⟩ = some (.int .i64 x.f1) := (blk_cell hbox 1).trans rfl;  have HB := Aside0.mk hb; clear hb hbox hg) | (go_at_call 47; refine (school_within.calls _ _ _ _ (within_eq _ _)).mono ?_; rintro e w' ⟨rfl, ⟨nd, rfl⟩⟩))
    go_ret
    exact ⟨by simp [groupBad, h0], by repeat (first | (with_reducible first | exact HB.out | apply pw_below_drewN | apply below_drew1) | exact HB.out)⟩
def lessonBad (n m : Int) (x : S101) : Bool := !placesB x.f1 n || !placesB x.f2 m
set_option maxHeartbeats 8000000 in
set_option maxRecDepth 100000 in
theorem lessonBad_pred (Bp Bg : Nat) (n m : Int) (w : World) (hCBp : w.heap[Bp]? = some (.cells #[.int .i64 n] 3 (0, 0))) (hCBg : w.heap[Bg]? = some (.cells #[.int .i64 m] 3 (0, 0))) : PredOn k101 52 #[.pointer (some ⟨Bp, 0, none⟩), .pointer (some ⟨Bg, 0, none⟩)] (lessonBad n m) w := by
  intro W x cs_ hW hK
  obtain ⟨A1, c1, A2, c2, rfl, l1, C1, l2, C2⟩ := k101_open hK
  have hu := Tryd.underlying101
  have HCBp0 := Aside0.mk (blk_below hCBp hW)
  have HCBg0 := Aside0.mk (blk_below hCBg hW)
  have HL1 := Aside0.mk l1
  have HR1 := Aside0.mk C1
  clear l1 C1
  have HL2 := Aside0.mk l2
  have HR2 := Aside0.mk C2
  clear l2 C2
  show Calls Tryd.prog 52 #[.agg #[.string x.f0, .slice A1 x.f1.length c1, .slice A2 x.f2.length c2], .pointer (some ⟨Bp, 0, none⟩), .pointer (some ⟨Bg, 0, none⟩)] W _
  cases h0 : placesB x.f1 n <;> cases h1 : placesB x.f2 m
  all_goals
    go_enter Tryd.func52, Tryd.ntmps52
    go_wp2_with (first | ((with_reducible refine gate_dst (N := 3) rfl ?_); refine box_event ?hg (N := 3) ?hd (cs := #[.string x.f0, .slice A1 x.f1.length c1, .slice A2 x.f2.length c2]) (t := 101) ?hr ?_; (case hd => rfl); (case hg => rfl); (case hr => first | (go_simp; done) | (go_simp; rfl)); intro gb hg w1 hbox hb; have zb0 : w1.cell? ⟨gb, 0, none⟩ = some (.string x.f0) := (blk_cell hbox 0).trans rfl; have zb1 : w1.cell? ⟨gb, 1, none⟩ = some (.slice A1 x.f1.length c1) := (blk_cell hbox 1).trans rfl; have zb2 : w1.cell? ⟨gb, 2, none⟩ = some (.slice A2 x.f2.length c2) := (blk_cell hbox 2).trans rfl;  have HB := Aside0.mk hb; have HCBp := Aside0.mk (blk_below HCBp0.out hb); have zcBp : w1.cell? ⟨Bp, 0, none⟩ = some (.int .i64 n) := (blk_cell HCBp.out 0).trans rfl; have HCBg := Aside0.mk (blk_below HCBg0.out hb); have zcBg : w1.cell? ⟨Bg, 0, none⟩ = some (.int .i64 m) := (blk_cell HCBg.out 0).trans rfl; clear hb hbox hg) | ((with_reducible refine gate_callee (f := 49) rfl ?_); (try (refine gate_guard (by rfl) ?_; dsimp only)); refine goesL_ (some 8) rfl rfl Tryd.func49 (by kernel_rfl) rfl #[.slice A1 x.f1.length c1, .int .i64 n] rfl (by (try simp only [List.map_toArray, List.map_cons, List.map_nil]); first | done | rfl) ?_; refine (school_places.calls (x.f1.length + 1) _ _ x.f1 n _ _ ?side1 ?side2 (places_eq _ _ HR1.out.2.1)).mono ?_; (case side1 => repeat (first | exact Kd.C_below HR1.out HB.out | (with_reducible refine Kd.C_drewN ?_ _) | (with_reducible refine Kd.C_drew ?_))); (case side2 => exact HL1.out); rintro e w' ⟨rfl, ⟨nd, rfl⟩⟩; refine ⟨_, rfl, ?_⟩) | ((with_reducible refine gate_callee (f := 49) rfl ?_); (try (refine gate_guard (by rfl) ?_; dsimp only)); refine goesL_ (some 14) rfl rfl Tryd.func49 (by kernel_rfl) rfl #[.slice A2 x.f2.length c2, .int .i64 m] rfl (by (try simp only [List.map_toArray, List.map_cons, List.map_nil]); first | done | rfl) ?_; refine (school_places.calls (x.f2.length + 1) _ _ x.f2 m _ _ ?side1 ?side2 (places_eq _ _ HR2.out.2.1)).mono ?_; (case side1 => repeat (first | exact Kd.C_below HR2.out HB.out | (with_reducible refine Kd.C_drewN ?_ _) | (with_reducible refine Kd.C_drew ?_))); (case side2 => exact HL2.out); rintro e w' ⟨rfl, ⟨nd, rfl⟩⟩; refine ⟨_, rfl, ?_⟩))
    go_ret
    exact ⟨by simp [lessonBad, h0, h1], by repeat (first | (with_reducible first | exact HB.out | apply pw_below_drewN | apply below_drew1) | exact HB.out)⟩
end Go.Proofs.YtjdajlnigiicaaaDoor.S
end
section
namespace Go.Proofs.YtjdajlnigiicaaaDoor.S
open Go.RowKit Go.Proofs.YtjdajlnigiicaaaDoorW.PrintWords Go.Proofs.YtjdajlnigiicaaaDoorW.PrintLast Go.Proofs.YtjdajlnigiicaaaDoorW.PrintMore
set_option linter.unusedVariables false
set_option linter.unusedSimpArgs false
def l144_ren : Go.Shelf.Ren := ⟨fun | 144 => 78 | 143 => 88 | 219 => 91 | 217 => 93 | 225 => 94 | 224 => 95 | 267 => 96 | 266 => 101 | 314 => 102 | n => n, fun | 9 => 9 | 4 => 4 | 3 => 3 | 5 => 5 | 46 => 111 | 146 => 156 | 51 => 155 | n => n, fun | 1 => 0 | n => n⟩
theorem l144 : Go.Proofs.Lays.n144 Tryd.prog l144_ren := { mixed := by kernel_rfl, f143 := Tryd.func88.trans (congrArg some (by kernel_rfl)), f144 := Tryd.func78.trans (congrArg some (by kernel_rfl)), f217 := Tryd.func93.trans (congrArg some (by kernel_rfl)), f219 := Tryd.func91.trans (congrArg some (by kernel_rfl)), f224 := Tryd.func95.trans (congrArg some (by kernel_rfl)), f225 := Tryd.func94.trans (congrArg some (by kernel_rfl)), f266 := Tryd.func101.trans (congrArg some (by kernel_rfl)), f267 := Tryd.func96.trans (congrArg some (by kernel_rfl)), f314 := Tryd.func102.trans (congrArg some (by kernel_rfl)), t3 := Tryd.underlying3, a3 := Tryd.isAgg3, z3 := Tryd.sizeOf3, v3 := Tryd.zeroValue3, t4 := Tryd.underlying4, a4 := Tryd.isAgg4, z4 := Tryd.sizeOf4, v4 := Tryd.zeroValue4, t5 := Tryd.underlying5, a5 := Tryd.isAgg5, z5 := Tryd.sizeOf5, v5 := Tryd.zeroValue5, t9 := Tryd.underlying9, a9 := Tryd.isAgg9, z9 := Tryd.sizeOf9, v9 := Tryd.zeroValue9, t46 := Tryd.underlying111, a46 := Tryd.isAgg111, z46 := Tryd.sizeOf111, v46 := Tryd.zeroValue111, t51 := Tryd.underlying155, a51 := Tryd.isAgg155, z51 := Tryd.sizeOf155, v51 := Tryd.zeroValue155, t146 := Tryd.underlying156, a146 := Tryd.isAgg156, z146 := Tryd.sizeOf156, v146 := Tryd.zeroValue156, g1 := by kernel_rfl }
def l17_ren : Go.Shelf.Ren := ⟨fun | 17 => 77 | 15 => 87 | 20 => 90 | n => n, fun | 9 => 9 | 23 => 134 | 4 => 4 | 3 => 3 | 0 => 0 | 21 => 21 | n => n, fun | n => n⟩
theorem l17 : Go.Proofs.LaysGw.n17 Tryd.prog l17_ren := { mixed := by kernel_rfl, f15 := Tryd.func87.trans (congrArg some (by kernel_rfl)), f17 := Tryd.func77.trans (congrArg some (by kernel_rfl)), f20 := Tryd.func90.trans (congrArg some (by kernel_rfl)), t0 := Tryd.underlying0, a0 := Tryd.isAgg0, z0 := Tryd.sizeOf0, v0 := Tryd.zeroValue0, i0 := by kernel_rfl, t3 := Tryd.underlying3, a3 := Tryd.isAgg3, z3 := Tryd.sizeOf3, v3 := Tryd.zeroValue3, i3 := by kernel_rfl, t4 := Tryd.underlying4, a4 := Tryd.isAgg4, z4 := Tryd.sizeOf4, v4 := Tryd.zeroValue4, i4 := by kernel_rfl, t9 := Tryd.underlying9, a9 := Tryd.isAgg9, z9 := Tryd.sizeOf9, v9 := Tryd.zeroValue9, i9 := by kernel_rfl, t21 := Tryd.underlying21, a21 := Tryd.isAgg21, z21 := Tryd.sizeOf21, v21 := Tryd.zeroValue21, i21 := by kernel_rfl, t23 := Tryd.underlying134, a23 := Tryd.isAgg134, z23 := Tryd.sizeOf134, v23 := Tryd.zeroValue134, i23 := by kernel_rfl }
end Go.Proofs.YtjdajlnigiicaaaDoor.S
end
