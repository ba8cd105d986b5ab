/- weekBijection_holds: part 4 of the proof: the plain functions, the walks of the program's functions and the laws about them. Conditions: those that each theorem states. -/
import Derived.OrdersIn
import Derived.Test.YtjdajlnigiicaaaDoorBijection1
import Derived.Test.YtjdajlnigiicaaaDoorBijection2
import Derived.Test.YtjdajlnigiicaaaDoorBijection3
section
namespace Go.Proofs.YtjdajlnigiicaaaDoor.S
open Go.RowKit Go.Proofs.YtjdajlnigiicaaaDoorW.PrintWords Go.Proofs.YtjdajlnigiicaaaDoorW.PrintLast Go.Proofs.YtjdajlnigiicaaaDoorW.PrintMore
set_option linter.unusedVariables false
set_option linter.unusedSimpArgs false
def isP (a : List Bool) (v : Int) : Bool := decide (v < a.length) && rdOf false a v
set_option maxHeartbeats 8000000 in
set_option maxRecDepth 100000 in
theorem is_calls (ga : Nat) (A1 : Option Addr) (c1 : Nat) (l1 : List Bool) (w : World) (hr1 : Kd.bool.C w A1 l1.length l1) (hA : w.heap[ga]? = some (.cells #[.slice A1 l1.length c1] 46 (0, 0))) (W : World) (v : Int) (hW : Below w.heap.size w W) (h0 : 0 ≤ v) :
    Calls Tryd.prog 38 (#[.int .i64 v] ++ #[.pointer (some ⟨ga, 0, none⟩)]) W fun e W' => e = .returned (.bool (isP l1 v)) ∧ Below W.heap.size W W' := by
  have HR1 := Aside0.mk (Kd.C_below hr1 hW)
  have za : W.cell? ⟨ga, 0, none⟩ = some (.slice A1 l1.length c1) := (blk_cell (blk_below hA hW) 0).trans rfl
  clear hr1 hA hW
  show Calls Tryd.prog 38 #[.int .i64 v, .pointer (some ⟨ga, 0, none⟩)] W _
  by_cases h : v < l1.length
  · have d1 : decide (v < (l1.length : Int)) = true := decide_eq_true h
    have p1 : (0 ≤ v) = True := eq_true h0
    have q1 : (v < (l1.length : Int)) = True := eq_true h
    obtain ⟨ad, rfl, z0⟩ := Kd.at_bool HR1.out v h0 h
    have HE := Aside0.mk (show isP l1 v = rdOf false l1 v by simp [isP, h])
    clear h h0
    go_enter Tryd.func38, Tryd.ntmps38
    go_wp2
    go_ret
    exact ⟨by rw [HE.out]; rfl, Below.refl _ _⟩
  · have d1 : decide (v < (l1.length : Int)) = false := decide_eq_false h
    have HE := Aside0.mk (show isP l1 v = false by simp [isP, d1])
    clear h h0
    go_enter Tryd.func38, Tryd.ntmps38
    go_wp2
    go_ret
    exact ⟨by rw [HE.out]; rfl, Below.refl _ _⟩
set_option maxHeartbeats 8000000 in
set_option maxRecDepth 100000 in
theorem of_At (gs gl : Nat) (A0_0 : Option Addr) (c0_0 : Nat) (l0_0 : List S87) (A0_1 : Option Addr) (c0_1 : Nat) (l0_1 : List S91) (A0_2 : Option Addr) (c0_2 : Nat) (l0_2 : List S95) (A0_3 : Option Addr) (c0_3 : Nat) (l0_3 : List S98) (A0_4 : Option Addr) (c0_4 : Nat) (l0_4 : List S101) (lesson : Int) (w : World) (hr0_0 : Kd.C k87 w A0_0 l0_0.length l0_0) (hc0_0 : l0_0.length ≤ c0_0) (hr0_1 : Kd.C k91 w A0_1 l0_1.length l0_1) (hc0_1 : l0_1.length ≤ c0_1) (hr0_2 : Kd.C k95 w A0_2 l0_2.length l0_2) (hc0_2 : l0_2.length ≤ c0_2) (hr0_3 : Kd.C k98 w A0_3 l0_3.length l0_3) (hc0_3 : l0_3.length ≤ c0_3) (hr0_4 : Kd.C k101 w A0_4 l0_4.length l0_4) (hc0_4 : l0_4.length ≤ c0_4) (hS : w.heap[gs]? = some (.cells #[.slice A0_0 l0_0.length c0_0, .slice A0_1 l0_1.length c0_1, .slice A0_2 l0_2.length c0_2, .slice A0_3 l0_3.length c0_3, .slice A0_4 l0_4.length c0_4] 45 (0, 0))) (hL : w.heap[gl]? = some (.cells #[.int .i64 lesson] 3 (0, 0)))
    (W : World) (n r : Int) (hW : Below w.heap.size w W) (h : week_At.f l0_0 l0_1 l0_2 l0_3 l0_4 lesson n = some r) : Calls Tryd.prog 40 (#[.int .i64 n] ++ #[.pointer (some ⟨gs, 0, none⟩), .pointer (some ⟨gl, 0, none⟩)]) W fun e W' => e = .returned (.int .i64 r) ∧ Below W.heap.size W W' := by
  have hu := Tryd.underlying45
  have HR0_0 := Aside0.mk hr0_0
  have HC0_0 := Aside0.mk hc0_0
  clear hr0_0 hc0_0
  have HR0_1 := Aside0.mk hr0_1
  have HC0_1 := Aside0.mk hc0_1
  clear hr0_1 hc0_1
  have HR0_2 := Aside0.mk hr0_2
  have HC0_2 := Aside0.mk hc0_2
  clear hr0_2 hc0_2
  have HR0_3 := Aside0.mk hr0_3
  have HC0_3 := Aside0.mk hc0_3
  clear hr0_3 hc0_3
  have HR0_4 := Aside0.mk hr0_4
  have HC0_4 := Aside0.mk hc0_4
  clear hr0_4 hc0_4
  have HB := Aside0.mk hW
  have BS := Aside0.mk (blk_below hS hW)
  have BL := Aside0.mk (blk_below hL hW)
  have HA := Aside0.mk h
  have zl : W.cell? ⟨gl, 0, none⟩ = some (.int .i64 lesson) := (blk_cell BL.out 0).trans rfl
  have zs0 : W.cell? ⟨gs, 0, none⟩ = some (.slice A0_0 l0_0.length c0_0) := (blk_cell BS.out 0).trans rfl; have zs1 : W.cell? ⟨gs, 1, none⟩ = some (.slice A0_1 l0_1.length c0_1) := (blk_cell BS.out 1).trans rfl; have zs2 : W.cell? ⟨gs, 2, none⟩ = some (.slice A0_2 l0_2.length c0_2) := (blk_cell BS.out 2).trans rfl; have zs3 : W.cell? ⟨gs, 3, none⟩ = some (.slice A0_3 l0_3.length c0_3) := (blk_cell BS.out 3).trans rfl; have zs4 : W.cell? ⟨gs, 4, none⟩ = some (.slice A0_4 l0_4.length c0_4) := (blk_cell BS.out 4).trans rfl
  clear hS hL hW h
  show Calls Tryd.prog 40 #[.int .i64 n, .pointer (some ⟨gs, 0, none⟩), .pointer (some ⟨gl, 0, none⟩)] W _
  go_enter Tryd.func40, Tryd.ntmps40
  go_wp2_with (go_at_call 29; refine (week_At.calls _ _ l0_0 _ _ l0_1 _ _ l0_2 _ _ l0_3 _ _ l0_4 _ _ _ _ (Kd.C_below HR0_0.out HB.out) HC0_0.out (Kd.C_below HR0_1.out HB.out) HC0_1.out (Kd.C_below HR0_2.out HB.out) HC0_2.out (Kd.C_below HR0_3.out HB.out) HC0_3.out (Kd.C_below HR0_4.out HB.out) HC0_4.out HA.out).mono ?_; rintro e w2 ⟨rfl, hb⟩)
  go_ret
  exact ⟨rfl, hb⟩
set_option maxHeartbeats 8000000 in
set_option maxRecDepth 100000 in
theorem of_In (gs gl : Nat) (A0_0 : Option Addr) (c0_0 : Nat) (l0_0 : List S87) (A0_1 : Option Addr) (c0_1 : Nat) (l0_1 : List S91) (A0_2 : Option Addr) (c0_2 : Nat) (l0_2 : List S95) (A0_3 : Option Addr) (c0_3 : Nat) (l0_3 : List S98) (A0_4 : Option Addr) (c0_4 : Nat) (l0_4 : List S101) (lesson : Int) (w : World) (hr0_0 : Kd.C k87 w A0_0 l0_0.length l0_0) (hc0_0 : l0_0.length ≤ c0_0) (hr0_1 : Kd.C k91 w A0_1 l0_1.length l0_1) (hc0_1 : l0_1.length ≤ c0_1) (hr0_2 : Kd.C k95 w A0_2 l0_2.length l0_2) (hc0_2 : l0_2.length ≤ c0_2) (hr0_3 : Kd.C k98 w A0_3 l0_3.length l0_3) (hc0_3 : l0_3.length ≤ c0_3) (hr0_4 : Kd.C k101 w A0_4 l0_4.length l0_4) (hc0_4 : l0_4.length ≤ c0_4) (hS : w.heap[gs]? = some (.cells #[.slice A0_0 l0_0.length c0_0, .slice A0_1 l0_1.length c0_1, .slice A0_2 l0_2.length c0_2, .slice A0_3 l0_3.length c0_3, .slice A0_4 l0_4.length c0_4] 45 (0, 0))) (hL : w.heap[gl]? = some (.cells #[.int .i64 lesson] 3 (0, 0)))
    (W : World) (n r : Int) (hW : Below w.heap.size w W) (h : week_In.f l0_0 l0_1 l0_2 l0_3 l0_4 lesson n = some r) : Calls Tryd.prog 41 (#[.int .i64 n] ++ #[.pointer (some ⟨gs, 0, none⟩), .pointer (some ⟨gl, 0, none⟩)]) W fun e W' => e = .returned (.int .i64 r) ∧ Below W.heap.size W W' := by
  have hu := Tryd.underlying45
  have HR0_0 := Aside0.mk hr0_0
  have HC0_0 := Aside0.mk hc0_0
  clear hr0_0 hc0_0
  have HR0_1 := Aside0.mk hr0_1
  have HC0_1 := Aside0.mk hc0_1
  clear hr0_1 hc0_1
  have HR0_2 := Aside0.mk hr0_2
  have HC0_2 := Aside0.mk hc0_2
  clear hr0_2 hc0_2
  have HR0_3 := Aside0.mk hr0_3
  have HC0_3 := Aside0.mk hc0_3
  clear hr0_3 hc0_3
  have HR0_4 := Aside0.mk hr0_4
  have HC0_4 := Aside0.mk hc0_4
  clear hr0_4 hc0_4
  have HB := Aside0.mk hW
  have BS := Aside0.mk (blk_below hS hW)
  have BL := Aside0.mk (blk_below hL hW)
  have HA := Aside0.mk h
  have zl : W.cell? ⟨gl, 0, none⟩ = some (.int .i64 lesson) := (blk_cell BL.out 0).trans rfl
  have zs0 : W.cell? ⟨gs, 0, none⟩ = some (.slice A0_0 l0_0.length c0_0) := (blk_cell BS.out 0).trans rfl; have zs1 : W.cell? ⟨gs, 1, none⟩ = some (.slice A0_1 l0_1.length c0_1) := (blk_cell BS.out 1).trans rfl; have zs2 : W.cell? ⟨gs, 2, none⟩ = some (.slice A0_2 l0_2.length c0_2) := (blk_cell BS.out 2).trans rfl; have zs3 : W.cell? ⟨gs, 3, none⟩ = some (.slice A0_3 l0_3.length c0_3) := (blk_cell BS.out 3).trans rfl; have zs4 : W.cell? ⟨gs, 4, none⟩ = some (.slice A0_4 l0_4.length c0_4) := (blk_cell BS.out 4).trans rfl
  clear hS hL hW h
  show Calls Tryd.prog 41 #[.int .i64 n, .pointer (some ⟨gs, 0, none⟩), .pointer (some ⟨gl, 0, none⟩)] W _
  go_enter Tryd.func41, Tryd.ntmps41
  go_wp2_with (go_at_call 30; refine (week_In.calls _ _ l0_0 _ _ l0_1 _ _ l0_2 _ _ l0_3 _ _ l0_4 _ _ _ _ (Kd.C_below HR0_0.out HB.out) HC0_0.out (Kd.C_below HR0_1.out HB.out) HC0_1.out (Kd.C_below HR0_2.out HB.out) HC0_2.out (Kd.C_below HR0_3.out HB.out) HC0_3.out (Kd.C_below HR0_4.out HB.out) HC0_4.out HA.out).mono ?_; rintro e w2 ⟨rfl, hb⟩)
  go_ret
  exact ⟨rfl, hb⟩
def atV (x : S45) (lesson n : Int) : Int := lesson * x.f0.length + n + 1
def inV (x : S45) (lesson n : Int) : Int := x.f4.length * x.f0.length + lesson * x.f1.length + n + 1
theorem mul_small {a b m k : Int} (h0 : 0 ≤ a) (h1 : a ≤ m) (h2 : 0 ≤ b) (h3 : b ≤ k) : 0 ≤ a * b ∧ a * b ≤ m * k := ⟨Int.mul_nonneg h0 h2, Int.mul_le_mul h1 h3 h2 (by omega)⟩
theorem at_eq (x : S45) (h4 : x.f4.length ≤ 1000000) (h0 : x.f0.length ≤ 1000000) (lesson n : Int) (a0 : 0 ≤ lesson) (a1 : lesson < x.f4.length) (b0 : 0 ≤ n) (b1 : n < x.f0.length) : week_At.f x.f0 x.f1 x.f2 x.f3 x.f4 lesson n = some (atV x lesson n) ∧ 0 ≤ atV x lesson n := by
  have hm := mul_small (m := 1000000) (k := 1000000) a0 (by omega) (by omega : (0 : Int) ≤ x.f0.length) (by omega)
  unfold week_At.f atV
  rw [wwithin_eq, wwithin_eq]
  simp only [inW, Option.bind_some, a0, a1, b0, b1, and_self, decide_true, if_true]
  generalize lesson * (x.f0.length : Int) = m at hm
  refine ⟨?_, by omega⟩
  simp only [Option.some.injEq]
  unfold wrap64
  omega
theorem in_eq (x : S45) (h4 : x.f4.length ≤ 1000000) (h0 : x.f0.length ≤ 1000000) (hr : x.f1.length ≤ 1000000) (lesson n : Int) (a0 : 0 ≤ lesson) (a1 : lesson < x.f4.length) (b0 : 0 ≤ n) (b1 : n < x.f1.length) : week_In.f x.f0 x.f1 x.f2 x.f3 x.f4 lesson n = some (inV x lesson n) ∧ 0 ≤ inV x lesson n := by
  have hm := mul_small (m := 1000000) (k := 1000000) a0 (by omega) (by omega : (0 : Int) ≤ x.f1.length) (by omega)
  have hm2 := mul_small (m := 1000000) (k := 1000000) (by omega : (0 : Int) ≤ x.f4.length) (by omega) (by omega : (0 : Int) ≤ x.f0.length) (by omega)
  unfold week_In.f inV
  rw [wwithin_eq, wwithin_eq]
  simp only [inW, Option.bind_some, a0, a1, b0, b1, and_self, decide_true, if_true]
  generalize lesson * (x.f1.length : Int) = m at hm
  generalize (x.f4.length : Int) * (x.f0.length : Int) = m2 at hm2
  refine ⟨?_, by omega⟩
  simp only [Option.some.injEq]
  unfold wrap64
  omega
def ofGo (x : S45) (a : List Bool) : Nat → Option (List S55)
  | 0 => some []
  | k + 1 => (ofGo x a k).bind fun l => if ((onlyP (fun n => isP a (atV x k n)) x.f0.length).2 == 1 && (onlyP (fun n => isP a (inV x k n)) x.f1.length).2 == 1) = true then some (l ++ [⟨(onlyP (fun n => isP a (atV x k n)) x.f0.length).1, (onlyP (fun n => isP a (inV x k n)) x.f1.length).1⟩]) else none
theorem ofGo_len (x : S45) (a : List Bool) : ∀ (k : Nat) (l : List S55), ofGo x a k = some l → l.length = k
  | 0, l, h => by simp only [ofGo, Option.some.injEq] at h; subst h; rfl
  | k + 1, l, h => by
    simp only [ofGo, Option.bind_eq_some_iff] at h
    obtain ⟨l', h1, h2⟩ := h
    split at h2
    · obtain rfl := Option.some.inj h2
      simp [ofGo_len x a k l' h1]
    · cases h2
theorem ofGo_none (x : S45) (a : List Bool) (k : Nat) (h : ofGo x a k = none) : ∀ j, ofGo x a (k + j) = none
  | 0 => h
  | j + 1 => by
    show ofGo x a ((k + j) + 1) = none
    simp only [ofGo, ofGo_none x a k h j, Option.bind_none]
def ofW (x : S45) (a : List Bool) : List S55 × Int := if checkS x ≠ 0 then ([], checkS x) else match ofGo x a x.f4.length with | none => ([], 40) | some l => (l, 0)
def week_Of.f (l0_0 : List S87) (l0_1 : List S91) (l0_2 : List S95) (l0_3 : List S98) (l0_4 : List S101) (a : List Bool) : Option (List S55 × Int) := if fitsB ⟨l0_0, l0_1, l0_2, l0_3, l0_4⟩ = true then some (ofW ⟨l0_0, l0_1, l0_2, l0_3, l0_4⟩ a) else none
theorem checkS_zero (x : S45) (h : checkS x = 0) : x.f0.length ≤ 50 ∧ x.f1.length ≤ 32 ∧ x.f4.length ≤ 64 := by
  unfold checkS at h
  repeat (split at h; · simp at h)
  all_goals omega
end Go.Proofs.YtjdajlnigiicaaaDoor.S
end
section
namespace Go.Proofs.YtjdajlnigiicaaaDoor.S
open Go.RowKit Go.Proofs.YtjdajlnigiicaaaDoorW.PrintWords Go.Proofs.YtjdajlnigiicaaaDoorW.PrintLast Go.Proofs.YtjdajlnigiicaaaDoorW.PrintMore
set_option linter.unusedVariables false
set_option linter.unusedSimpArgs false
set_option maxHeartbeats 16000000 in
set_option maxRecDepth 100000 in
theorem week_Of.calls (A0_0 : Option Addr) (c0_0 : Nat) (l0_0 : List S87) (A0_1 : Option Addr) (c0_1 : Nat) (l0_1 : List S91) (A0_2 : Option Addr) (c0_2 : Nat) (l0_2 : List S95) (A0_3 : Option Addr) (c0_3 : Nat) (l0_3 : List S98) (A0_4 : Option Addr) (c0_4 : Nat) (l0_4 : List S101) (A1 : Option Addr) (c1 : Nat) (l1 : List Bool) (r1 : List S55) (r2 : Int) (w : World) (hr0_0 : Kd.C k87 w A0_0 l0_0.length l0_0) (hc0_0 : l0_0.length ≤ c0_0) (hr0_1 : Kd.C k91 w A0_1 l0_1.length l0_1) (hc0_1 : l0_1.length ≤ c0_1) (hr0_2 : Kd.C k95 w A0_2 l0_2.length l0_2) (hc0_2 : l0_2.length ≤ c0_2) (hr0_3 : Kd.C k98 w A0_3 l0_3.length l0_3) (hc0_3 : l0_3.length ≤ c0_3) (hr0_4 : Kd.C k101 w A0_4 l0_4.length l0_4) (hc0_4 : l0_4.length ≤ c0_4) (hr1 : Kd.bool.C w A1 l1.length l1) (hc1 : l1.length ≤ c1) (hV : VOk w) (h : week_Of.f l0_0 l0_1 l0_2 l0_3 l0_4 l1 = some (r1, r2)) :
    Calls Tryd.prog 22 #[(.agg #[.slice A0_0 l0_0.length c0_0, .slice A0_1 l0_1.length c0_1, .slice A0_2 l0_2.length c0_2, .slice A0_3 l0_3.length c0_3, .slice A0_4 l0_4.length c0_4]), .slice A1 l1.length c1] w fun e w' => ∃ v0_ : Value, e = .returned (.tuple #[.agg #[v0_], .int .i64 r2]) ∧ Kd.R k55 55 w' w.heap.size (fun _ => True) v0_ r1 ∧ Below w.heap.size w w' := by
  have hu := Tryd.underlying45
  have huw := Tryd.underlying24
  have hup := Tryd.underlying55
  unfold week_Of.f at h
  split at h
  case isFalse => cases h
  case isTrue hf =>
  have hr := Option.some.inj h
  have HF := Aside0.mk (show school_Check.f l0_0 l0_1 l0_2 l0_3 l0_4 = some (checkS ⟨l0_0, l0_1, l0_2, l0_3, l0_4⟩) from if_pos hf)
  have HV := Aside0.mk hV
  clear h hf hV
  have HR0_0 := Aside0.mk hr0_0
  have HC0_0 := Aside0.mk hc0_0
  clear hr0_0 hc0_0
  have HR0_1 := Aside0.mk hr0_1
  have HC0_1 := Aside0.mk hc0_1
  clear hr0_1 hc0_1
  have HR0_2 := Aside0.mk hr0_2
  have HC0_2 := Aside0.mk hc0_2
  clear hr0_2 hc0_2
  have HR0_3 := Aside0.mk hr0_3
  have HC0_3 := Aside0.mk hc0_3
  clear hr0_3 hc0_3
  have HR0_4 := Aside0.mk hr0_4
  have HC0_4 := Aside0.mk hc0_4
  clear hr0_4 hc0_4
  have HR1 := Aside0.mk hr1
  have HC1 := Aside0.mk hc1
  clear hr1 hc1
  by_cases h0 : checkS ⟨l0_0, l0_1, l0_2, l0_3, l0_4⟩ = 0
  · have hln := checkS_zero _ h0
    dsimp only at hln
    have HLn := Aside0.mk hln
    clear hln
    rw [h0] at HF
    unfold ofW at hr
    rw [if_neg (by rw [h0]; simp)] at hr
    have HR := Aside0.mk hr
    clear hr h0
    go_enter Tryd.func22, Tryd.ntmps22
    go_upto_block 0 with (first | ((with_reducible refine gate_dst (N := 2) rfl ?_); refine box_event ?hg (N := 2) ?hd (cs := #[.slice A0_0 l0_0.length c0_0, .slice A0_1 l0_1.length c0_1, .slice A0_2 l0_2.length c0_2, .slice A0_3 l0_3.length c0_3, .slice A0_4 l0_4.length c0_4]) (t := 45) ?hr ?_; (case hd => rfl); (case hg => rfl); (case hr => first | (go_simp; done) | (go_simp; rfl)); intro gs hgs w1 hbox hb; have HB := Aside0.mk hb; have BS := Aside0.mk hbox; clear hb hbox hgs) | ((with_reducible refine gate_dst (N := 3) rfl ?_); refine box_event ?hg (N := 3) ?hd (cs := #[.slice A1 l1.length c1]) (t := 46) ?hr ?_; (case hd => rfl); (case hg => rfl); (case hr => first | (go_simp; done) | (go_simp; rfl)); intro ga hga w2 hbox hb; have BA := Aside0.mk hbox; replace BS := Aside0.mk (blk_below BS.out hb); replace HB := Aside0.mk (below_step HB.out hb); clear hb hbox hga) | ((with_reducible refine gate_dst (N := 4) rfl ?_); refine box_event ?hg (N := 4) ?hd (cs := #[.slice none 0 0]) (t := 24) ?hr ?_; (case hd => rfl); (case hg => rfl); (case hr => first | (go_simp; done) | (go_simp; rfl)); intro gq hgk w3 hbox hb; have HGK := Aside0.mk (show w.heap.size ≤ gq from hgk ▸ HB.out.size); have BK := Aside0.mk hbox; replace BS := Aside0.mk (blk_below BS.out hb); replace BA := Aside0.mk (blk_below BA.out hb); replace HB := Aside0.mk (below_step HB.out hb); clear hb hbox hgk; have zs0 : w3.cell? ⟨gs, 0, none⟩ = some (.slice A0_0 l0_0.length c0_0) := (blk_cell BS.out 0).trans rfl; have zs1 : w3.cell? ⟨gs, 1, none⟩ = some (.slice A0_1 l0_1.length c0_1) := (blk_cell BS.out 1).trans rfl; have zs2 : w3.cell? ⟨gs, 2, none⟩ = some (.slice A0_2 l0_2.length c0_2) := (blk_cell BS.out 2).trans rfl; have zs3 : w3.cell? ⟨gs, 3, none⟩ = some (.slice A0_3 l0_3.length c0_3) := (blk_cell BS.out 3).trans rfl; have zs4 : w3.cell? ⟨gs, 4, none⟩ = some (.slice A0_4 l0_4.length c0_4) := (blk_cell BS.out 4).trans rfl) | (go_at_call 26; refine (school_Check.calls _ _ l0_0 _ _ l0_1 _ _ l0_2 _ _ l0_3 _ _ l0_4 _ _ (Kd.C_below HR0_0.out HB.out) HC0_0.out (Kd.C_below HR0_1.out HB.out) HC0_1.out (Kd.C_below HR0_2.out HB.out) HC0_2.out (Kd.C_below HR0_3.out HB.out) HC0_3.out (Kd.C_below HR0_4.out HB.out) HC0_4.out (HV.out.below HB.out) HF.out).mono ?_; rintro e w4 ⟨rfl, hb⟩; clear zs0 zs1 zs2 zs3 zs4; replace BS := Aside0.mk (blk_below BS.out hb); replace BA := Aside0.mk (blk_below BA.out hb); replace BK := Aside0.mk (blk_below BK.out hb); replace HB := Aside0.mk (below_step HB.out hb); clear hb; have zs0 : w4.cell? ⟨gs, 0, none⟩ = some (.slice A0_0 l0_0.length c0_0) := (blk_cell BS.out 0).trans rfl; have zs1 : w4.cell? ⟨gs, 1, none⟩ = some (.slice A0_1 l0_1.length c0_1) := (blk_cell BS.out 1).trans rfl; have zs2 : w4.cell? ⟨gs, 2, none⟩ = some (.slice A0_2 l0_2.length c0_2) := (blk_cell BS.out 2).trans rfl; have zs3 : w4.cell? ⟨gs, 3, none⟩ = some (.slice A0_3 l0_3.length c0_3) := (blk_cell BS.out 3).trans rfl; have zs4 : w4.cell? ⟨gs, 4, none⟩ = some (.slice A0_4 l0_4.length c0_4) := (blk_cell BS.out 4).trans rfl; have zk : w4.cell? ⟨gq, 0, none⟩ = some (.slice none 0 0) := (blk_cell BK.out 0).trans rfl; have zkf := blk_frozen BK.out 0) | ((with_reducible refine gate_dst (N := 24) rfl ?_); refine Kd.R_make k55 (w0 := w) w.heap.size 55 rfl (N := 24) rfl 22 (.tmp 23) (.tmp 23) rfl (l0_4.length : Int) rfl rfl Tryd.underlying22 (.agg #[(.int .i64 0), (.int .i64 0)]) 16 info55 rfl (by decide) (by decide) z55 (ok := fun _ => True) (okp := fun _ => True) (k55_mkM _ _ _ _) (fun _ _ => trivial) trivial (by omega) (by have := HLn.out; omega) HB.out (below_size HB.out) ?_; intro v1 w5 ho hb hg hat; have HO := Aside0.mk ho; have BS5 := Aside0.mk (blk_grown BS.out hg (by simp)); have BA5 := Aside0.mk (blk_grown BA.out hg (by simp)); have BK5 := Aside0.mk (blk_grown BK.out hg (by simp)); clear BS BA BK; have BS := BS5; have BA := BA5; have BK := BK5; clear BS5 BA5 BK5; replace HB := Aside0.mk hb; obtain ⟨Ao, co, eo⟩ := Kd.R_slice ho; subst eo; clear zs0 zs1 zs2 zs3 zs4; clear zk zkf ho hb hg hat; have zs0 : w5.cell? ⟨gs, 0, none⟩ = some (.slice A0_0 l0_0.length c0_0) := (blk_cell BS.out 0).trans rfl; have zs1 : w5.cell? ⟨gs, 1, none⟩ = some (.slice A0_1 l0_1.length c0_1) := (blk_cell BS.out 1).trans rfl; have zs2 : w5.cell? ⟨gs, 2, none⟩ = some (.slice A0_2 l0_2.length c0_2) := (blk_cell BS.out 2).trans rfl; have zs3 : w5.cell? ⟨gs, 3, none⟩ = some (.slice A0_3 l0_3.length c0_3) := (blk_cell BS.out 3).trans rfl; have zs4 : w5.cell? ⟨gs, 4, none⟩ = some (.slice A0_4 l0_4.length c0_4) := (blk_cell BS.out 4).trans rfl) | ((with_reducible refine gate_dst (N := 8) rfl ?_); refine var_event ?hg (N := 8) ?hd ?hg2 ?hn2 (z := #[.slice none 0 0]) (cs := #[.slice Ao (List.replicate (l0_4.length : Int).toNat z55).length co]) (T := 24) ?hr ?hs ?_; (case hg => rfl); (case hd => rfl); (case hg2 => rfl); (case hn2 => rfl); (case hr => first | (go_simp; done) | (go_simp; rfl)); (case hs => first | (go_simp; done) | (go_simp; rfl)); intro gw hgw w6 hbox hb; have HGWs := Aside0.mk (show w.heap.size ≤ gw from hgw ▸ HB.out.size); have HGW := Aside0.mk (show gq ≠ gw from fun e => by have := blk_lt BK.out; omega); have BW := Aside0.mk hbox; replace HO := Aside0.mk (Kd.R_below HO.out hb); replace BS := Aside0.mk (blk_below BS.out hb); replace BA := Aside0.mk (blk_below BA.out hb); replace BK := Aside0.mk (blk_below BK.out hb); replace HB := Aside0.mk (below_step HB.out hb); clear zs0 zs1 zs2 zs3 zs4; clear hb hbox hgw; have zs0 : w6.cell? ⟨gs, 0, none⟩ = some (.slice A0_0 l0_0.length c0_0) := (blk_cell BS.out 0).trans rfl; have zs1 : w6.cell? ⟨gs, 1, none⟩ = some (.slice A0_1 l0_1.length c0_1) := (blk_cell BS.out 1).trans rfl; have zs2 : w6.cell? ⟨gs, 2, none⟩ = some (.slice A0_2 l0_2.length c0_2) := (blk_cell BS.out 2).trans rfl; have zs3 : w6.cell? ⟨gs, 3, none⟩ = some (.slice A0_3 l0_3.length c0_3) := (blk_cell BS.out 3).trans rfl; have zs4 : w6.cell? ⟨gs, 4, none⟩ = some (.slice A0_4 l0_4.length c0_4) := (blk_cell BS.out 4).trans rfl; have zw : w6.cell? ⟨gw, 0, none⟩ = some (.slice Ao (List.replicate (l0_4.length : Int).toNat z55).length co) := (blk_cell BW.out 0).trans rfl))
    have HGW0 := Aside0.mk (show w.heap.size ≤ gw from HGWs.out)
    go_wp2
    go_loopg [29] l0_4.length (fun kq v29 wr => ∃ (i : Nat) (pre : List S55), v29 = .int .i64 i ∧ Aside0 (i + kq = l0_4.length ∧ ofGo ⟨l0_0, l0_1, l0_2, l0_3, l0_4⟩ l1 i = some pre) ∧ Aside0 (Kd.R k55 55 wr w.heap.size (fun _ => True) (.slice Ao l0_4.length co) (pre ++ List.replicate kq z55)) ∧ Aside0 (Below w.heap.size w wr) ∧ Aside0 (wr.heap[gs]? = some (.cells #[.slice A0_0 l0_0.length c0_0, .slice A0_1 l0_1.length c0_1, .slice A0_2 l0_2.length c0_2, .slice A0_3 l0_3.length c0_3, .slice A0_4 l0_4.length c0_4] 45 (0, 0))) ∧ Aside0 (wr.heap[ga]? = some (.cells #[.slice A1 l1.length c1] 46 (0, 0))) ∧ Aside0 (wr.heap[gq]? = some (.cells #[.slice none 0 0] 24 (0, 0))) ∧ Aside0 (wr.heap[gw]? = some (.cells #[.slice Ao l0_4.length co] 24 (0, 0))))
    case atStart => exact ⟨0, [], rfl, ⟨by omega, rfl⟩, by simpa using HO, HB, BS, BA, BK, by simpa using BW⟩
    case round =>
      clear HO HB BS BA BK BW zs0 zs1 zs2 zs3 zs4 zw
      obtain ⟨i, pre, rfl, HI, HO, HB, BS, BA, BK, BW⟩ := hrel
      have hpl := ofGo_len _ _ _ _ HI.out.2
      have HPL := Aside0.mk hpl
      clear hpl
      cases gk with
      | zero =>
        have d1 : decide ((i : Int) < (l0_4.length : Int)) = false := decide_eq_false (by have := HI.out.1; omega)
        have d2 : decide (i < l0_4.length) = false := decide_eq_false (by have := HI.out.1; omega)
        have HE := Aside0.mk (show (pre, (0 : Int)) = (r1, r2) by
          have h := HR.out
          have hi : i = l0_4.length := by have := HI.out.1; omega
          have h2 := HI.out.2
          rw [hi] at h2
          simp only [h2] at h
          exact h)
        have zw : wr.cell? ⟨gw, 0, none⟩ = some (.slice Ao l0_4.length co) := (blk_cell BW.out 0).trans rfl
        have zq : wr.cell? ⟨gq, 0, none⟩ = some (.slice none 0 0) := (blk_cell BK.out 0).trans rfl
        have zqf := blk_frozen BK.out 0
        go_wp2
        have hE := HE.out
        obtain ⟨rfl, rfl⟩ := Prod.mk.inj hE
        refine bodyPost_ret (results_ct rfl _ _ gq 24 #[.slice Ao l0_4.length co] (0, 0) _ rfl (blk_put BK.out 0 _ rfl) huw rfl rfl) rfl ?_
        refine ⟨_, rfl, ?_, below_set HB.out HGK.out⟩
        have := Kd.R_set HO.out BK.out (by decide) 0 (.slice Ao l0_4.length co)
        simpa using this
      | succ k1 =>
        have d1 : decide ((i : Int) < (l0_4.length : Int)) = true := decide_eq_true (by have := HI.out.1; omega)
        have p1 : (0 ≤ (i : Int)) = True := eq_true (by omega)
        have q1 : ((i : Int) < (l0_4.length : Int)) = True := eq_true (by have := HI.out.1; omega)
        have d2 : decide (i < l0_4.length) = true := decide_eq_true (by have := HI.out.1; omega)
        have q2 : (i < l0_4.length) = True := eq_true (by have := HI.out.1; omega)
        have hlen : (pre ++ List.replicate (k1 + 1) z55).length = l0_4.length := by have := HPL.out; have := HI.out.1; simp; omega
        obtain ⟨g, cap, hsl, hbg, hlt, cells, hcells⟩ := Kd.R_form HO.out (by rw [hlen]; have := HI.out.1; omega)
        rw [hlen] at hsl
        injection hsl with e1 e2 e3
        subst e1
        subst e3
        have HG := Aside0.mk (And.intro hbg (show g ≠ gw ∧ g ≠ gq ∧ g ≠ gs ∧ g ≠ ga from ⟨blk_ne hcells BW.out (by decide), blk_ne hcells BK.out (by decide), blk_ne hcells BS.out (by decide), blk_ne hcells BA.out (by decide)⟩))
        clear hbg hlt hcells hlen
        have hAt := fun (n : Int) (b0 : 0 ≤ n) (b1 : n < l0_0.length) => at_eq ⟨l0_0, l0_1, l0_2, l0_3, l0_4⟩ (by have := HLn.out; dsimp only; omega) (by have := HLn.out; dsimp only; omega) i n (by omega) (by have := HI.out.1; dsimp only; omega) b0 b1
        have hIn := fun (n : Int) (b0 : 0 ≤ n) (b1 : n < l0_1.length) => in_eq ⟨l0_0, l0_1, l0_2, l0_3, l0_4⟩ (by have := HLn.out; dsimp only; omega) (by have := HLn.out; dsimp only; omega) (by have := HLn.out; dsimp only; omega) i n (by omega) (by have := HI.out.1; dsimp only; omega) b0 b1
        have HAt := Aside0.mk hAt
        have HIn := Aside0.mk hIn
        clear hAt hIn
        obtain ⟨s1, m1, hs1⟩ : ∃ s m, onlyP (fun n => isP l1 (atV ⟨l0_0, l0_1, l0_2, l0_3, l0_4⟩ i n)) l0_0.length = (s, m) := ⟨_, _, rfl⟩
        obtain ⟨s2, m2, hs2⟩ : ∃ s m, onlyP (fun n => isP l1 (inV ⟨l0_0, l0_1, l0_2, l0_3, l0_4⟩ i n)) l0_1.length = (s, m) := ⟨_, _, rfl⟩
        have HO1 := Aside0.mk hs1
        have HO2 := Aside0.mk hs2
        have hgo : ofGo ⟨l0_0, l0_1, l0_2, l0_3, l0_4⟩ l1 (i + 1) = if (m1 == 1 && m2 == 1) = true then some (pre ++ [⟨s1, s2⟩]) else none := by
          simp only [ofGo, HI.out.2, Option.bind_some, hs1, hs2]
        clear hs1 hs2
        have zw : wr.cell? ⟨gw, 0, none⟩ = some (.slice (some ⟨g, 0, none⟩) l0_4.length co) := (blk_cell BW.out 0).trans rfl
        have zq : wr.cell? ⟨gq, 0, none⟩ = some (.slice none 0 0) := (blk_cell BK.out 0).trans rfl
        have zqf := blk_frozen BK.out 0
        have zs0 : wr.cell? ⟨gs, 0, none⟩ = some (.slice A0_0 l0_0.length c0_0) := (blk_cell BS.out 0).trans rfl; have zs1 : wr.cell? ⟨gs, 1, none⟩ = some (.slice A0_1 l0_1.length c0_1) := (blk_cell BS.out 1).trans rfl; have zs2 : wr.cell? ⟨gs, 2, none⟩ = some (.slice A0_2 l0_2.length c0_2) := (blk_cell BS.out 2).trans rfl; have zs3 : wr.cell? ⟨gs, 3, none⟩ = some (.slice A0_3 l0_3.length c0_3) := (blk_cell BS.out 3).trans rfl; have zs4 : wr.cell? ⟨gs, 4, none⟩ = some (.slice A0_4 l0_4.length c0_4) := (blk_cell BS.out 4).trans rfl
        obtain ⟨b1, hb1⟩ : ∃ b, (m1 == 1) = b := ⟨_, rfl⟩
        obtain ⟨b2, hb2⟩ : ∃ b, (m2 == 1) = b := ⟨_, rfl⟩
        rw [hb1, hb2] at hgo
        have HB1 := Aside0.mk hb1
        have HB2 := Aside0.mk hb2
        clear hb1 hb2
        cases b1 with
        | false =>
          have HE := Aside0.mk (show (([] : List S55), (40 : Int)) = (r1, r2) by
            have h := HR.out
            have hn : ofGo ⟨l0_0, l0_1, l0_2, l0_3, l0_4⟩ l1 (i + 1) = none := by rw [hgo]; simp
            have h2 := ofGo_none _ _ _ hn k1
            rw [show i + 1 + k1 = l0_4.length by have := HI.out.1; omega] at h2
            simp only [h2] at h
            exact h)
          clear hgo
          go_wp2_with (first | ((with_reducible refine gate_dst (N := 9) rfl ?_); refine var_event ?hg (N := 9) ?hd ?hg2 ?hn2 (z := #[.int .i64 0]) (cs := #[.int .i64 i]) (T := 3) ?hr ?hs ?_; (case hg => rfl); (case hd => rfl); (case hg2 => rfl); (case hn2 => rfl); (case hr => first | (go_simp; done) | (go_simp; rfl)); (case hs => first | (go_simp; done) | (go_simp; rfl)); intro gl hgl w7 hbox hb; have BL := Aside0.mk hbox; clear hbox hgl; replace HO := Aside0.mk (Kd.R_below HO.out hb); replace BS := Aside0.mk (blk_below BS.out hb); replace BA := Aside0.mk (blk_below BA.out hb); replace BK := Aside0.mk (blk_below BK.out hb); replace BW := Aside0.mk (blk_below BW.out hb); replace HB := Aside0.mk (below_step HB.out hb); clear zs0 zs1 zs2 zs3 zs4 zw zq zqf hb; have zs0 : w7.cell? ⟨gs, 0, none⟩ = some (.slice A0_0 l0_0.length c0_0) := (blk_cell BS.out 0).trans rfl; have zs1 : w7.cell? ⟨gs, 1, none⟩ = some (.slice A0_1 l0_1.length c0_1) := (blk_cell BS.out 1).trans rfl; have zs2 : w7.cell? ⟨gs, 2, none⟩ = some (.slice A0_2 l0_2.length c0_2) := (blk_cell BS.out 2).trans rfl; have zs3 : w7.cell? ⟨gs, 3, none⟩ = some (.slice A0_3 l0_3.length c0_3) := (blk_cell BS.out 3).trans rfl; have zs4 : w7.cell? ⟨gs, 4, none⟩ = some (.slice A0_4 l0_4.length c0_4) := (blk_cell BS.out 4).trans rfl; have zl : w7.cell? ⟨gl, 0, none⟩ = some (.int .i64 i) := (blk_cell BL.out 0).trans rfl; have zw : w7.cell? ⟨gw, 0, none⟩ = some (.slice (some ⟨g, 0, none⟩) l0_4.length co) := (blk_cell BW.out 0).trans rfl; have zq : w7.cell? ⟨gq, 0, none⟩ = some (.slice none 0 0) := (blk_cell BK.out 0).trans rfl; have zqf := blk_frozen BK.out 0) | ((with_reducible refine gate_dst (N := 38) rfl ?_); refine goesL_ (some 38) rfl rfl Tryd.func39 (by kernel_rfl) rfl #[.int .i64 l0_0.length, .func (.func 40) #[] #[.pointer (some ⟨gs, 0, none⟩), .pointer (some ⟨gl, 0, none⟩)], .func (.func 38) #[] #[.pointer (some ⟨ga, 0, none⟩)]] rfl (by (try simp only [List.map_toArray, List.map_cons, List.map_nil]); first | done | rfl) ?_; have hxx := (week_only.nat 40 38 #[.pointer (some ⟨gs, 0, none⟩), .pointer (some ⟨gl, 0, none⟩)] #[.pointer (some ⟨ga, 0, none⟩)] (fun n => atV ⟨l0_0, l0_1, l0_2, l0_3, l0_4⟩ i n) (fun n => isP l1 (atV ⟨l0_0, l0_1, l0_2, l0_3, l0_4⟩ i n)) l0_0.length (by have := HLn.out; omega) s1 m1 HO1.out _ HB1.out (fun args w => enters_ Tryd.func40 (by kernel_rfl) rfl args w) (fun args w => enters_ Tryd.func38 (by kernel_rfl) rfl args w) _ (fun W n hW b0 b1 => of_At gs gl _ _ l0_0 _ _ l0_1 _ _ l0_2 _ _ l0_3 _ _ l0_4 _ _ (Kd.C_below HR0_0.out HB.out) HC0_0.out (Kd.C_below HR0_1.out HB.out) HC0_1.out (Kd.C_below HR0_2.out HB.out) HC0_2.out (Kd.C_below HR0_3.out HB.out) HC0_3.out (Kd.C_below HR0_4.out HB.out) HC0_4.out BS.out BL.out W n _ hW (HAt.out n b0 b1).1) (fun W n hW b0 b1 => is_calls ga A1 c1 l1 _ (Kd.C_below HR1.out HB.out) BA.out W _ hW (HAt.out n b0 b1).2)); refine hxx.mono ?_; clear hxx; rintro e w8 ⟨rfl, hb⟩; refine ⟨_, rfl, ?_⟩; clear zl; replace BL := Aside0.mk (blk_below BL.out hb); replace HO := Aside0.mk (Kd.R_below HO.out hb); replace BS := Aside0.mk (blk_below BS.out hb); replace BA := Aside0.mk (blk_below BA.out hb); replace BK := Aside0.mk (blk_below BK.out hb); replace BW := Aside0.mk (blk_below BW.out hb); replace HB := Aside0.mk (below_step HB.out hb); clear zs0 zs1 zs2 zs3 zs4 zw zq zqf hb; have zs0 : w8.cell? ⟨gs, 0, none⟩ = some (.slice A0_0 l0_0.length c0_0) := (blk_cell BS.out 0).trans rfl; have zs1 : w8.cell? ⟨gs, 1, none⟩ = some (.slice A0_1 l0_1.length c0_1) := (blk_cell BS.out 1).trans rfl; have zs2 : w8.cell? ⟨gs, 2, none⟩ = some (.slice A0_2 l0_2.length c0_2) := (blk_cell BS.out 2).trans rfl; have zs3 : w8.cell? ⟨gs, 3, none⟩ = some (.slice A0_3 l0_3.length c0_3) := (blk_cell BS.out 3).trans rfl; have zs4 : w8.cell? ⟨gs, 4, none⟩ = some (.slice A0_4 l0_4.length c0_4) := (blk_cell BS.out 4).trans rfl; have zl : w8.cell? ⟨gl, 0, none⟩ = some (.int .i64 i) := (blk_cell BL.out 0).trans rfl; have zw : w8.cell? ⟨gw, 0, none⟩ = some (.slice (some ⟨g, 0, none⟩) l0_4.length co) := (blk_cell BW.out 0).trans rfl; have zq : w8.cell? ⟨gq, 0, none⟩ = some (.slice none 0 0) := (blk_cell BK.out 0).trans rfl; have zqf := blk_frozen BK.out 0) | ((with_reducible refine gate_dst (N := 47) rfl ?_); refine goesL_ (some 47) rfl rfl Tryd.func39 (by kernel_rfl) rfl #[.int .i64 l0_1.length, .func (.func 41) #[] #[.pointer (some ⟨gs, 0, none⟩), .pointer (some ⟨gl, 0, none⟩)], .func (.func 38) #[] #[.pointer (some ⟨ga, 0, none⟩)]] rfl (by (try simp only [List.map_toArray, List.map_cons, List.map_nil]); first | done | rfl) ?_; have hxx := (week_only.nat 41 38 #[.pointer (some ⟨gs, 0, none⟩), .pointer (some ⟨gl, 0, none⟩)] #[.pointer (some ⟨ga, 0, none⟩)] (fun n => inV ⟨l0_0, l0_1, l0_2, l0_3, l0_4⟩ i n) (fun n => isP l1 (inV ⟨l0_0, l0_1, l0_2, l0_3, l0_4⟩ i n)) l0_1.length (by have := HLn.out; omega) s2 m2 HO2.out _ HB2.out (fun args w => enters_ Tryd.func41 (by kernel_rfl) rfl args w) (fun args w => enters_ Tryd.func38 (by kernel_rfl) rfl args w) _ (fun W n hW b0 b1 => of_In gs gl _ _ l0_0 _ _ l0_1 _ _ l0_2 _ _ l0_3 _ _ l0_4 _ _ (Kd.C_below HR0_0.out HB.out) HC0_0.out (Kd.C_below HR0_1.out HB.out) HC0_1.out (Kd.C_below HR0_2.out HB.out) HC0_2.out (Kd.C_below HR0_3.out HB.out) HC0_3.out (Kd.C_below HR0_4.out HB.out) HC0_4.out BS.out BL.out W n _ hW (HIn.out n b0 b1).1) (fun W n hW b0 b1 => is_calls ga A1 c1 l1 _ (Kd.C_below HR1.out HB.out) BA.out W _ hW (HIn.out n b0 b1).2)); refine hxx.mono ?_; clear hxx; rintro e w9 ⟨rfl, hb⟩; refine ⟨_, rfl, ?_⟩; clear zl; replace BL := Aside0.mk (blk_below BL.out hb); replace HO := Aside0.mk (Kd.R_below HO.out hb); replace BS := Aside0.mk (blk_below BS.out hb); replace BA := Aside0.mk (blk_below BA.out hb); replace BK := Aside0.mk (blk_below BK.out hb); replace BW := Aside0.mk (blk_below BW.out hb); replace HB := Aside0.mk (below_step HB.out hb); clear zs0 zs1 zs2 zs3 zs4 zw zq zqf hb; have zs0 : w9.cell? ⟨gs, 0, none⟩ = some (.slice A0_0 l0_0.length c0_0) := (blk_cell BS.out 0).trans rfl; have zs1 : w9.cell? ⟨gs, 1, none⟩ = some (.slice A0_1 l0_1.length c0_1) := (blk_cell BS.out 1).trans rfl; have zs2 : w9.cell? ⟨gs, 2, none⟩ = some (.slice A0_2 l0_2.length c0_2) := (blk_cell BS.out 2).trans rfl; have zs3 : w9.cell? ⟨gs, 3, none⟩ = some (.slice A0_3 l0_3.length c0_3) := (blk_cell BS.out 3).trans rfl; have zs4 : w9.cell? ⟨gs, 4, none⟩ = some (.slice A0_4 l0_4.length c0_4) := (blk_cell BS.out 4).trans rfl; have zl : w9.cell? ⟨gl, 0, none⟩ = some (.int .i64 i) := (blk_cell BL.out 0).trans rfl; have zw : w9.cell? ⟨gw, 0, none⟩ = some (.slice (some ⟨g, 0, none⟩) l0_4.length co) := (blk_cell BW.out 0).trans rfl; have zq : w9.cell? ⟨gq, 0, none⟩ = some (.slice none 0 0) := (blk_cell BK.out 0).trans rfl; have zqf := blk_frozen BK.out 0))
          have hE := HE.out
          obtain ⟨rfl, rfl⟩ := Prod.mk.inj hE
          refine bodyPost_ret (results_ct rfl _ _ gq 24 #[.slice none 0 0] (0, 0) _ rfl (blk_put BK.out 0 _ rfl) huw rfl rfl) rfl ?_
          exact ⟨_, rfl, Kd.R_nil _ _ _ _ _, below_set HB.out HGK.out⟩
        | true =>
          cases b2 with
          | false =>
            have HE := Aside0.mk (show (([] : List S55), (40 : Int)) = (r1, r2) by
              have h := HR.out
              have hn : ofGo ⟨l0_0, l0_1, l0_2, l0_3, l0_4⟩ l1 (i + 1) = none := by rw [hgo]; simp
              have h2 := ofGo_none _ _ _ hn k1
              rw [show i + 1 + k1 = l0_4.length by have := HI.out.1; omega] at h2
              simp only [h2] at h
              exact h)
            clear hgo
            go_wp2_with (first | ((with_reducible refine gate_dst (N := 9) rfl ?_); refine var_event ?hg (N := 9) ?hd ?hg2 ?hn2 (z := #[.int .i64 0]) (cs := #[.int .i64 i]) (T := 3) ?hr ?hs ?_; (case hg => rfl); (case hd => rfl); (case hg2 => rfl); (case hn2 => rfl); (case hr => first | (go_simp; done) | (go_simp; rfl)); (case hs => first | (go_simp; done) | (go_simp; rfl)); intro gl hgl w7 hbox hb; have BL := Aside0.mk hbox; clear hbox hgl; replace HO := Aside0.mk (Kd.R_below HO.out hb); replace BS := Aside0.mk (blk_below BS.out hb); replace BA := Aside0.mk (blk_below BA.out hb); replace BK := Aside0.mk (blk_below BK.out hb); replace BW := Aside0.mk (blk_below BW.out hb); replace HB := Aside0.mk (below_step HB.out hb); clear zs0 zs1 zs2 zs3 zs4 zw zq zqf hb; have zs0 : w7.cell? ⟨gs, 0, none⟩ = some (.slice A0_0 l0_0.length c0_0) := (blk_cell BS.out 0).trans rfl; have zs1 : w7.cell? ⟨gs, 1, none⟩ = some (.slice A0_1 l0_1.length c0_1) := (blk_cell BS.out 1).trans rfl; have zs2 : w7.cell? ⟨gs, 2, none⟩ = some (.slice A0_2 l0_2.length c0_2) := (blk_cell BS.out 2).trans rfl; have zs3 : w7.cell? ⟨gs, 3, none⟩ = some (.slice A0_3 l0_3.length c0_3) := (blk_cell BS.out 3).trans rfl; have zs4 : w7.cell? ⟨gs, 4, none⟩ = some (.slice A0_4 l0_4.length c0_4) := (blk_cell BS.out 4).trans rfl; have zl : w7.cell? ⟨gl, 0, none⟩ = some (.int .i64 i) := (blk_cell BL.out 0).trans rfl; have zw : w7.cell? ⟨gw, 0, none⟩ = some (.slice (some ⟨g, 0, none⟩) l0_4.length co) := (blk_cell BW.out 0).trans rfl; have zq : w7.cell? ⟨gq, 0, none⟩ = some (.slice none 0 0) := (blk_cell BK.out 0).trans rfl; have zqf := blk_frozen BK.out 0) | ((with_reducible refine gate_dst (N := 38) rfl ?_); refine goesL_ (some 38) rfl rfl Tryd.func39 (by kernel_rfl) rfl #[.int .i64 l0_0.length, .func (.func 40) #[] #[.pointer (some ⟨gs, 0, none⟩), .pointer (some ⟨gl, 0, none⟩)], .func (.func 38) #[] #[.pointer (some ⟨ga, 0, none⟩)]] rfl (by (try simp only [List.map_toArray, List.map_cons, List.map_nil]); first | done | rfl) ?_; have hxx := (week_only.nat 40 38 #[.pointer (some ⟨gs, 0, none⟩), .pointer (some ⟨gl, 0, none⟩)] #[.pointer (some ⟨ga, 0, none⟩)] (fun n => atV ⟨l0_0, l0_1, l0_2, l0_3, l0_4⟩ i n) (fun n => isP l1 (atV ⟨l0_0, l0_1, l0_2, l0_3, l0_4⟩ i n)) l0_0.length (by have := HLn.out; omega) s1 m1 HO1.out _ HB1.out (fun args w => enters_ Tryd.func40 (by kernel_rfl) rfl args w) (fun args w => enters_ Tryd.func38 (by kernel_rfl) rfl args w) _ (fun W n hW b0 b1 => of_At gs gl _ _ l0_0 _ _ l0_1 _ _ l0_2 _ _ l0_3 _ _ l0_4 _ _ (Kd.C_below HR0_0.out HB.out) HC0_0.out (Kd.C_below HR0_1.out HB.out) HC0_1.out (Kd.C_below HR0_2.out HB.out) HC0_2.out (Kd.C_below HR0_3.out HB.out) HC0_3.out (Kd.C_below HR0_4.out HB.out) HC0_4.out BS.out BL.out W n _ hW (HAt.out n b0 b1).1) (fun W n hW b0 b1 => is_calls ga A1 c1 l1 _ (Kd.C_below HR1.out HB.out) BA.out W _ hW (HAt.out n b0 b1).2)); refine hxx.mono ?_; clear hxx; rintro e w8 ⟨rfl, hb⟩; refine ⟨_, rfl, ?_⟩; clear zl; replace BL := Aside0.mk (blk_below BL.out hb); replace HO := Aside0.mk (Kd.R_below HO.out hb); replace BS := Aside0.mk (blk_below BS.out hb); replace BA := Aside0.mk (blk_below BA.out hb); replace BK := Aside0.mk (blk_below BK.out hb); replace BW := Aside0.mk (blk_below BW.out hb); replace HB := Aside0.mk (below_step HB.out hb); clear zs0 zs1 zs2 zs3 zs4 zw zq zqf hb; have zs0 : w8.cell? ⟨gs, 0, none⟩ = some (.slice A0_0 l0_0.length c0_0) := (blk_cell BS.out 0).trans rfl; have zs1 : w8.cell? ⟨gs, 1, none⟩ = some (.slice A0_1 l0_1.length c0_1) := (blk_cell BS.out 1).trans rfl; have zs2 : w8.cell? ⟨gs, 2, none⟩ = some (.slice A0_2 l0_2.length c0_2) := (blk_cell BS.out 2).trans rfl; have zs3 : w8.cell? ⟨gs, 3, none⟩ = some (.slice A0_3 l0_3.length c0_3) := (blk_cell BS.out 3).trans rfl; have zs4 : w8.cell? ⟨gs, 4, none⟩ = some (.slice A0_4 l0_4.length c0_4) := (blk_cell BS.out 4).trans rfl; have zl : w8.cell? ⟨gl, 0, none⟩ = some (.int .i64 i) := (blk_cell BL.out 0).trans rfl; have zw : w8.cell? ⟨gw, 0, none⟩ = some (.slice (some ⟨g, 0, none⟩) l0_4.length co) := (blk_cell BW.out 0).trans rfl; have zq : w8.cell? ⟨gq, 0, none⟩ = some (.slice none 0 0) := (blk_cell BK.out 0).trans rfl; have zqf := blk_frozen BK.out 0) | ((with_reducible refine gate_dst (N := 47) rfl ?_); refine goesL_ (some 47) rfl rfl Tryd.func39 (by kernel_rfl) rfl #[.int .i64 l0_1.length, .func (.func 41) #[] #[.pointer (some ⟨gs, 0, none⟩), .pointer (some ⟨gl, 0, none⟩)], .func (.func 38) #[] #[.pointer (some ⟨ga, 0, none⟩)]] rfl (by (try simp only [List.map_toArray, List.map_cons, List.map_nil]); first | done | rfl) ?_; have hxx := (week_only.nat 41 38 #[.pointer (some ⟨gs, 0, none⟩), .pointer (some ⟨gl, 0, none⟩)] #[.pointer (some ⟨ga, 0, none⟩)] (fun n => inV ⟨l0_0, l0_1, l0_2, l0_3, l0_4⟩ i n) (fun n => isP l1 (inV ⟨l0_0, l0_1, l0_2, l0_3, l0_4⟩ i n)) l0_1.length (by have := HLn.out; omega) s2 m2 HO2.out _ HB2.out (fun args w => enters_ Tryd.func41 (by kernel_rfl) rfl args w) (fun args w => enters_ Tryd.func38 (by kernel_rfl) rfl args w) _ (fun W n hW b0 b1 => of_In gs gl _ _ l0_0 _ _ l0_1 _ _ l0_2 _ _ l0_3 _ _ l0_4 _ _ (Kd.C_below HR0_0.out HB.out) HC0_0.out (Kd.C_below HR0_1.out HB.out) HC0_1.out (Kd.C_below HR0_2.out HB.out) HC0_2.out (Kd.C_below HR0_3.out HB.out) HC0_3.out (Kd.C_below HR0_4.out HB.out) HC0_4.out BS.out BL.out W n _ hW (HIn.out n b0 b1).1) (fun W n hW b0 b1 => is_calls ga A1 c1 l1 _ (Kd.C_below HR1.out HB.out) BA.out W _ hW (HIn.out n b0 b1).2)); refine hxx.mono ?_; clear hxx; rintro e w9 ⟨rfl, hb⟩; refine ⟨_, rfl, ?_⟩; clear zl; replace BL := Aside0.mk (blk_below BL.out hb); replace HO := Aside0.mk (Kd.R_below HO.out hb); replace BS := Aside0.mk (blk_below BS.out hb); replace BA := Aside0.mk (blk_below BA.out hb); replace BK := Aside0.mk (blk_below BK.out hb); replace BW := Aside0.mk (blk_below BW.out hb); replace HB := Aside0.mk (below_step HB.out hb); clear zs0 zs1 zs2 zs3 zs4 zw zq zqf hb; have zs0 : w9.cell? ⟨gs, 0, none⟩ = some (.slice A0_0 l0_0.length c0_0) := (blk_cell BS.out 0).trans rfl; have zs1 : w9.cell? ⟨gs, 1, none⟩ = some (.slice A0_1 l0_1.length c0_1) := (blk_cell BS.out 1).trans rfl; have zs2 : w9.cell? ⟨gs, 2, none⟩ = some (.slice A0_2 l0_2.length c0_2) := (blk_cell BS.out 2).trans rfl; have zs3 : w9.cell? ⟨gs, 3, none⟩ = some (.slice A0_3 l0_3.length c0_3) := (blk_cell BS.out 3).trans rfl; have zs4 : w9.cell? ⟨gs, 4, none⟩ = some (.slice A0_4 l0_4.length c0_4) := (blk_cell BS.out 4).trans rfl; have zl : w9.cell? ⟨gl, 0, none⟩ = some (.int .i64 i) := (blk_cell BL.out 0).trans rfl; have zw : w9.cell? ⟨gw, 0, none⟩ = some (.slice (some ⟨g, 0, none⟩) l0_4.length co) := (blk_cell BW.out 0).trans rfl; have zq : w9.cell? ⟨gq, 0, none⟩ = some (.slice none 0 0) := (blk_cell BK.out 0).trans rfl; have zqf := blk_frozen BK.out 0))
            have hE := HE.out
            obtain ⟨rfl, rfl⟩ := Prod.mk.inj hE
            refine bodyPost_ret (results_ct rfl _ _ gq 24 #[.slice none 0 0] (0, 0) _ rfl (blk_put BK.out 0 _ rfl) huw rfl rfl) rfl ?_
            exact ⟨_, rfl, Kd.R_nil _ _ _ _ _, below_set HB.out HGK.out⟩
          | true =>
            have HGo := Aside0.mk (show ofGo ⟨l0_0, l0_1, l0_2, l0_3, l0_4⟩ l1 (i + 1) = some (pre ++ [⟨s1, s2⟩]) by rw [hgo]; rfl)
            clear hgo
            go_wp2_with (first | ((with_reducible refine gate_dst (N := 9) rfl ?_); refine var_event ?hg (N := 9) ?hd ?hg2 ?hn2 (z := #[.int .i64 0]) (cs := #[.int .i64 i]) (T := 3) ?hr ?hs ?_; (case hg => rfl); (case hd => rfl); (case hg2 => rfl); (case hn2 => rfl); (case hr => first | (go_simp; done) | (go_simp; rfl)); (case hs => first | (go_simp; done) | (go_simp; rfl)); intro gl hgl w7 hbox hb; have BL := Aside0.mk hbox; clear hbox hgl; replace HO := Aside0.mk (Kd.R_below HO.out hb); replace BS := Aside0.mk (blk_below BS.out hb); replace BA := Aside0.mk (blk_below BA.out hb); replace BK := Aside0.mk (blk_below BK.out hb); replace BW := Aside0.mk (blk_below BW.out hb); replace HB := Aside0.mk (below_step HB.out hb); clear zs0 zs1 zs2 zs3 zs4 zw zq zqf hb; have zs0 : w7.cell? ⟨gs, 0, none⟩ = some (.slice A0_0 l0_0.length c0_0) := (blk_cell BS.out 0).trans rfl; have zs1 : w7.cell? ⟨gs, 1, none⟩ = some (.slice A0_1 l0_1.length c0_1) := (blk_cell BS.out 1).trans rfl; have zs2 : w7.cell? ⟨gs, 2, none⟩ = some (.slice A0_2 l0_2.length c0_2) := (blk_cell BS.out 2).trans rfl; have zs3 : w7.cell? ⟨gs, 3, none⟩ = some (.slice A0_3 l0_3.length c0_3) := (blk_cell BS.out 3).trans rfl; have zs4 : w7.cell? ⟨gs, 4, none⟩ = some (.slice A0_4 l0_4.length c0_4) := (blk_cell BS.out 4).trans rfl; have zl : w7.cell? ⟨gl, 0, none⟩ = some (.int .i64 i) := (blk_cell BL.out 0).trans rfl; have zw : w7.cell? ⟨gw, 0, none⟩ = some (.slice (some ⟨g, 0, none⟩) l0_4.length co) := (blk_cell BW.out 0).trans rfl; have zq : w7.cell? ⟨gq, 0, none⟩ = some (.slice none 0 0) := (blk_cell BK.out 0).trans rfl; have zqf := blk_frozen BK.out 0) | ((with_reducible refine gate_dst (N := 38) rfl ?_); refine goesL_ (some 38) rfl rfl Tryd.func39 (by kernel_rfl) rfl #[.int .i64 l0_0.length, .func (.func 40) #[] #[.pointer (some ⟨gs, 0, none⟩), .pointer (some ⟨gl, 0, none⟩)], .func (.func 38) #[] #[.pointer (some ⟨ga, 0, none⟩)]] rfl (by (try simp only [List.map_toArray, List.map_cons, List.map_nil]); first | done | rfl) ?_; have hxx := (week_only.nat 40 38 #[.pointer (some ⟨gs, 0, none⟩), .pointer (some ⟨gl, 0, none⟩)] #[.pointer (some ⟨ga, 0, none⟩)] (fun n => atV ⟨l0_0, l0_1, l0_2, l0_3, l0_4⟩ i n) (fun n => isP l1 (atV ⟨l0_0, l0_1, l0_2, l0_3, l0_4⟩ i n)) l0_0.length (by have := HLn.out; omega) s1 m1 HO1.out _ HB1.out (fun args w => enters_ Tryd.func40 (by kernel_rfl) rfl args w) (fun args w => enters_ Tryd.func38 (by kernel_rfl) rfl args w) _ (fun W n hW b0 b1 => of_At gs gl _ _ l0_0 _ _ l0_1 _ _ l0_2 _ _ l0_3 _ _ l0_4 _ _ (Kd.C_below HR0_0.out HB.out) HC0_0.out (Kd.C_below HR0_1.out HB.out) HC0_1.out (Kd.C_below HR0_2.out HB.out) HC0_2.out (Kd.C_below HR0_3.out HB.out) HC0_3.out (Kd.C_below HR0_4.out HB.out) HC0_4.out BS.out BL.out W n _ hW (HAt.out n b0 b1).1) (fun W n hW b0 b1 => is_calls ga A1 c1 l1 _ (Kd.C_below HR1.out HB.out) BA.out W _ hW (HAt.out n b0 b1).2)); refine hxx.mono ?_; clear hxx; rintro e w8 ⟨rfl, hb⟩; refine ⟨_, rfl, ?_⟩; clear zl; replace BL := Aside0.mk (blk_below BL.out hb); replace HO := Aside0.mk (Kd.R_below HO.out hb); replace BS := Aside0.mk (blk_below BS.out hb); replace BA := Aside0.mk (blk_below BA.out hb); replace BK := Aside0.mk (blk_below BK.out hb); replace BW := Aside0.mk (blk_below BW.out hb); replace HB := Aside0.mk (below_step HB.out hb); clear zs0 zs1 zs2 zs3 zs4 zw zq zqf hb; have zs0 : w8.cell? ⟨gs, 0, none⟩ = some (.slice A0_0 l0_0.length c0_0) := (blk_cell BS.out 0).trans rfl; have zs1 : w8.cell? ⟨gs, 1, none⟩ = some (.slice A0_1 l0_1.length c0_1) := (blk_cell BS.out 1).trans rfl; have zs2 : w8.cell? ⟨gs, 2, none⟩ = some (.slice A0_2 l0_2.length c0_2) := (blk_cell BS.out 2).trans rfl; have zs3 : w8.cell? ⟨gs, 3, none⟩ = some (.slice A0_3 l0_3.length c0_3) := (blk_cell BS.out 3).trans rfl; have zs4 : w8.cell? ⟨gs, 4, none⟩ = some (.slice A0_4 l0_4.length c0_4) := (blk_cell BS.out 4).trans rfl; have zl : w8.cell? ⟨gl, 0, none⟩ = some (.int .i64 i) := (blk_cell BL.out 0).trans rfl; have zw : w8.cell? ⟨gw, 0, none⟩ = some (.slice (some ⟨g, 0, none⟩) l0_4.length co) := (blk_cell BW.out 0).trans rfl; have zq : w8.cell? ⟨gq, 0, none⟩ = some (.slice none 0 0) := (blk_cell BK.out 0).trans rfl; have zqf := blk_frozen BK.out 0) | ((with_reducible refine gate_dst (N := 47) rfl ?_); refine goesL_ (some 47) rfl rfl Tryd.func39 (by kernel_rfl) rfl #[.int .i64 l0_1.length, .func (.func 41) #[] #[.pointer (some ⟨gs, 0, none⟩), .pointer (some ⟨gl, 0, none⟩)], .func (.func 38) #[] #[.pointer (some ⟨ga, 0, none⟩)]] rfl (by (try simp only [List.map_toArray, List.map_cons, List.map_nil]); first | done | rfl) ?_; have hxx := (week_only.nat 41 38 #[.pointer (some ⟨gs, 0, none⟩), .pointer (some ⟨gl, 0, none⟩)] #[.pointer (some ⟨ga, 0, none⟩)] (fun n => inV ⟨l0_0, l0_1, l0_2, l0_3, l0_4⟩ i n) (fun n => isP l1 (inV ⟨l0_0, l0_1, l0_2, l0_3, l0_4⟩ i n)) l0_1.length (by have := HLn.out; omega) s2 m2 HO2.out _ HB2.out (fun args w => enters_ Tryd.func41 (by kernel_rfl) rfl args w) (fun args w => enters_ Tryd.func38 (by kernel_rfl) rfl args w) _ (fun W n hW b0 b1 => of_In gs gl _ _ l0_0 _ _ l0_1 _ _ l0_2 _ _ l0_3 _ _ l0_4 _ _ (Kd.C_below HR0_0.out HB.out) HC0_0.out (Kd.C_below HR0_1.out HB.out) HC0_1.out (Kd.C_below HR0_2.out HB.out) HC0_2.out (Kd.C_below HR0_3.out HB.out) HC0_3.out (Kd.C_below HR0_4.out HB.out) HC0_4.out BS.out BL.out W n _ hW (HIn.out n b0 b1).1) (fun W n hW b0 b1 => is_calls ga A1 c1 l1 _ (Kd.C_below HR1.out HB.out) BA.out W _ hW (HIn.out n b0 b1).2)); refine hxx.mono ?_; clear hxx; rintro e w9 ⟨rfl, hb⟩; refine ⟨_, rfl, ?_⟩; clear zl; replace BL := Aside0.mk (blk_below BL.out hb); replace HO := Aside0.mk (Kd.R_below HO.out hb); replace BS := Aside0.mk (blk_below BS.out hb); replace BA := Aside0.mk (blk_below BA.out hb); replace BK := Aside0.mk (blk_below BK.out hb); replace BW := Aside0.mk (blk_below BW.out hb); replace HB := Aside0.mk (below_step HB.out hb); clear zs0 zs1 zs2 zs3 zs4 zw zq zqf hb; have zs0 : w9.cell? ⟨gs, 0, none⟩ = some (.slice A0_0 l0_0.length c0_0) := (blk_cell BS.out 0).trans rfl; have zs1 : w9.cell? ⟨gs, 1, none⟩ = some (.slice A0_1 l0_1.length c0_1) := (blk_cell BS.out 1).trans rfl; have zs2 : w9.cell? ⟨gs, 2, none⟩ = some (.slice A0_2 l0_2.length c0_2) := (blk_cell BS.out 2).trans rfl; have zs3 : w9.cell? ⟨gs, 3, none⟩ = some (.slice A0_3 l0_3.length c0_3) := (blk_cell BS.out 3).trans rfl; have zs4 : w9.cell? ⟨gs, 4, none⟩ = some (.slice A0_4 l0_4.length c0_4) := (blk_cell BS.out 4).trans rfl; have zl : w9.cell? ⟨gl, 0, none⟩ = some (.int .i64 i) := (blk_cell BL.out 0).trans rfl; have zw : w9.cell? ⟨gw, 0, none⟩ = some (.slice (some ⟨g, 0, none⟩) l0_4.length co) := (blk_cell BW.out 0).trans rfl; have zq : w9.cell? ⟨gq, 0, none⟩ = some (.slice none 0 0) := (blk_cell BK.out 0).trans rfl; have zqf := blk_frozen BK.out 0) | ((with_reducible refine gate_store (t := 55) (p := 63) (v := .tmp 62) rfl ?_); obtain ⟨cc, hcl, hcM, hcc, hcf⟩ := Kd.R_elem HO.out z55 (i : Int) (by omega) (by have := HI.out.1; omega); refine Kd.R_store k55 (w0 := w) w.heap.size rfl rfl 55 (.tmp 63) (.tmp 62) rfl 55 (i : Int) 0 _ (⟨s1, s2⟩ : S55) (.agg #[.int .i64 s1, .int .i64 s2]) [.int .i64 s1, .int .i64 s2] cc (fun _ => True) (fun k => k ≠ g) rfl (by simp; rfl) rfl rfl (by kernel_rfl) (by simp [Value.oneCell']) HO.out (by omega) (by have := HI.out.1; omega) hcl hcc (Nat.le_refl 2) (by have hc2 : cc.length = 2 := hcl; simpa [List.drop_of_length_le, hc2] using k55_mkM w9 w.heap.size (fun k => k ≠ g) (⟨s1, s2⟩ : S55)) (fun k hk => ⟨trivial, hk⟩) HB.out ?_; intro w10 ho hb hg; clear zs0 zs1 zs2 zs3 zs4 zw zq zqf zl; have HO10 := Aside0.mk ho; have HG10 := Aside0.mk hg; have HB10 := Aside0.mk hb; clear ho hb hg hcl hcM hcc hcf))
            go_roundg k1
            case measure => omega
            case rel =>
              have hset : (pre ++ List.replicate (k1 + 1) z55).set (i : Int).toNat (⟨s1, s2⟩ : S55) = (pre ++ [⟨s1, s2⟩]) ++ List.replicate k1 z55 := by
                have h1 := HPL.out
                subst h1
                simp [List.set_append_right, List.replicate_succ]
              refine ⟨i + 1, pre ++ [⟨s1, s2⟩], ?_, ⟨by have := HI.out.1; omega, HGo.out⟩, ⟨by rw [← hset]; exact HO10.out⟩, HB10, ⟨blk_grown BS.out HG10.out (by intro e; cases e; exact HG.out.2.2.2.1 rfl)⟩, ⟨blk_grown BA.out HG10.out (by intro e; cases e; exact HG.out.2.2.2.2 rfl)⟩, ⟨blk_grown BK.out HG10.out (by intro e; cases e; exact HG.out.2.2.1 rfl)⟩, ⟨blk_grown BW.out HG10.out (by intro e; cases e; exact HG.out.2.1 rfl)⟩⟩
              have : wrap64 ((i : Int) + 1) = ((i + 1 : Nat) : Int) := by have := HI.out.1; have := HLn.out; unfold wrap64; omega
              rw [this]
  · have HR := Aside0.mk (show (([] : List S55), checkS ⟨l0_0, l0_1, l0_2, l0_3, l0_4⟩) = (r1, r2) by rw [← hr]; unfold ofW; rw [if_pos h0])
    have n0 : (checkS ⟨l0_0, l0_1, l0_2, l0_3, l0_4⟩ == 0) = false := by simpa using h0
    have n3 : decide (checkS ⟨l0_0, l0_1, l0_2, l0_3, l0_4⟩ = 0) = false := decide_eq_false h0
    have n4 : (checkS ⟨l0_0, l0_1, l0_2, l0_3, l0_4⟩ != 0) = true := by simpa using h0
    clear hr h0
    generalize checkS ⟨l0_0, l0_1, l0_2, l0_3, l0_4⟩ = cs at *
    go_enter Tryd.func22, Tryd.ntmps22
    go_wp2_with (first | ((with_reducible refine gate_dst (N := 2) rfl ?_); refine box_event ?hg (N := 2) ?hd (cs := #[.slice A0_0 l0_0.length c0_0, .slice A0_1 l0_1.length c0_1, .slice A0_2 l0_2.length c0_2, .slice A0_3 l0_3.length c0_3, .slice A0_4 l0_4.length c0_4]) (t := 45) ?hr ?_; (case hd => rfl); (case hg => rfl); (case hr => first | (go_simp; done) | (go_simp; rfl)); intro gs hgs w1 hbox hb; have HB := Aside0.mk hb; have BS := Aside0.mk hbox; clear hb hbox hgs) | ((with_reducible refine gate_dst (N := 3) rfl ?_); refine box_event ?hg (N := 3) ?hd (cs := #[.slice A1 l1.length c1]) (t := 46) ?hr ?_; (case hd => rfl); (case hg => rfl); (case hr => first | (go_simp; done) | (go_simp; rfl)); intro ga hga w2 hbox hb; have BA := Aside0.mk hbox; replace BS := Aside0.mk (blk_below BS.out hb); replace HB := Aside0.mk (below_step HB.out hb); clear hb hbox hga) | ((with_reducible refine gate_dst (N := 4) rfl ?_); refine box_event ?hg (N := 4) ?hd (cs := #[.slice none 0 0]) (t := 24) ?hr ?_; (case hd => rfl); (case hg => rfl); (case hr => first | (go_simp; done) | (go_simp; rfl)); intro gq hgk w3 hbox hb; have HGK := Aside0.mk (show w.heap.size ≤ gq from hgk ▸ HB.out.size); have BK := Aside0.mk hbox; replace BS := Aside0.mk (blk_below BS.out hb); replace BA := Aside0.mk (blk_below BA.out hb); replace HB := Aside0.mk (below_step HB.out hb); clear hb hbox hgk; have zs0 : w3.cell? ⟨gs, 0, none⟩ = some (.slice A0_0 l0_0.length c0_0) := (blk_cell BS.out 0).trans rfl; have zs1 : w3.cell? ⟨gs, 1, none⟩ = some (.slice A0_1 l0_1.length c0_1) := (blk_cell BS.out 1).trans rfl; have zs2 : w3.cell? ⟨gs, 2, none⟩ = some (.slice A0_2 l0_2.length c0_2) := (blk_cell BS.out 2).trans rfl; have zs3 : w3.cell? ⟨gs, 3, none⟩ = some (.slice A0_3 l0_3.length c0_3) := (blk_cell BS.out 3).trans rfl; have zs4 : w3.cell? ⟨gs, 4, none⟩ = some (.slice A0_4 l0_4.length c0_4) := (blk_cell BS.out 4).trans rfl) | (go_at_call 26; refine (school_Check.calls _ _ l0_0 _ _ l0_1 _ _ l0_2 _ _ l0_3 _ _ l0_4 _ _ (Kd.C_below HR0_0.out HB.out) HC0_0.out (Kd.C_below HR0_1.out HB.out) HC0_1.out (Kd.C_below HR0_2.out HB.out) HC0_2.out (Kd.C_below HR0_3.out HB.out) HC0_3.out (Kd.C_below HR0_4.out HB.out) HC0_4.out (HV.out.below HB.out) HF.out).mono ?_; rintro e w4 ⟨rfl, hb⟩; clear zs0 zs1 zs2 zs3 zs4; replace BS := Aside0.mk (blk_below BS.out hb); replace BA := Aside0.mk (blk_below BA.out hb); replace BK := Aside0.mk (blk_below BK.out hb); replace HB := Aside0.mk (below_step HB.out hb); clear hb; have zs0 : w4.cell? ⟨gs, 0, none⟩ = some (.slice A0_0 l0_0.length c0_0) := (blk_cell BS.out 0).trans rfl; have zs1 : w4.cell? ⟨gs, 1, none⟩ = some (.slice A0_1 l0_1.length c0_1) := (blk_cell BS.out 1).trans rfl; have zs2 : w4.cell? ⟨gs, 2, none⟩ = some (.slice A0_2 l0_2.length c0_2) := (blk_cell BS.out 2).trans rfl; have zs3 : w4.cell? ⟨gs, 3, none⟩ = some (.slice A0_3 l0_3.length c0_3) := (blk_cell BS.out 3).trans rfl; have zs4 : w4.cell? ⟨gs, 4, none⟩ = some (.slice A0_4 l0_4.length c0_4) := (blk_cell BS.out 4).trans rfl; have zk : w4.cell? ⟨gq, 0, none⟩ = some (.slice none 0 0) := (blk_cell BK.out 0).trans rfl; have zkf := blk_frozen BK.out 0))
    have hR := HR.out
    obtain ⟨rfl, rfl⟩ := Prod.mk.inj hR
    refine bodyPost_ret (results_ct rfl _ _ gq 24 #[.slice none 0 0] (0, 0) _ rfl (blk_put BK.out 0 _ rfl) huw rfl rfl) rfl ?_
    exact ⟨_, rfl, Kd.R_nil _ _ _ _ _, below_set HB.out HGK.out⟩
end Go.Proofs.YtjdajlnigiicaaaDoor.S
end
section
namespace Go.Proofs.YtjdajlnigiicaaaDoor.S
open Go.RowKit Go.Proofs.YtjdajlnigiicaaaDoorW.PrintWords Go.Proofs.YtjdajlnigiicaaaDoorW.PrintLast Go.Proofs.YtjdajlnigiicaaaDoorW.PrintMore
set_option linter.unusedVariables false
set_option linter.unusedSimpArgs false
def pcells : List S55 → List Value
  | [] => []
  | p :: l => .int .i64 p.f0 :: .int .i64 p.f1 :: pcells l
theorem pcells_len : ∀ l : List S55, (pcells l).length = l.length * 2
  | [] => rfl
  | p :: l => by simp [pcells, pcells_len l]; omega
theorem pcells_app : ∀ a b : List S55, pcells (a ++ b) = pcells a ++ pcells b
  | [], _ => rfl
  | p :: a, b => by simp [pcells, pcells_app a b]
theorem pcells_get0 (a : List S55) (p : S55) (b : List S55) : (pcells (a ++ p :: b))[a.length * 2]? = some (.int .i64 p.f0) := by
  rw [pcells_app, List.getElem?_append_right (by rw [pcells_len]; omega), pcells_len]
  simp [pcells]
theorem pcells_get1 (a : List S55) (p : S55) (b : List S55) : (pcells (a ++ p :: b))[a.length * 2 + 1]? = some (.int .i64 p.f1) := by
  rw [pcells_app, List.getElem?_append_right (by rw [pcells_len]; omega), pcells_len]
  simp [pcells]
theorem pcells_set0 (a : List S55) (p : S55) (b : List S55) (v : Int) : (pcells (a ++ p :: b)).toArray.setIfInBounds (a.length * 2) (.int .i64 v) = (pcells (a ++ ⟨v, p.f1⟩ :: b)).toArray := by
  rw [List.setIfInBounds_toArray, pcells_app, List.set_append_right _ _ (by rw [pcells_len]; omega), pcells_len, pcells_app]
  simp [pcells]
theorem pcells_set1 (a : List S55) (p : S55) (b : List S55) (v : Int) : (pcells (a ++ p :: b)).toArray.setIfInBounds (a.length * 2 + 1) (.int .i64 v) = (pcells (a ++ ⟨p.f0, v⟩ :: b)).toArray := by
  rw [List.setIfInBounds_toArray, pcells_app, List.set_append_right _ _ (by rw [pcells_len]; omega), pcells_len, pcells_app]
  simp [pcells]
theorem pcells_reps (w : World) (base : Nat) (ok : Nat → Prop) (l : List S55) : Reps (k55.M w base ok) 2 l (pcells l) := by
    refine ⟨pcells_len l, fun j p hj => ?_⟩
    obtain ⟨hlt, rfl⟩ := List.getElem?_eq_some_iff.1 hj
    have e : l = l.take j ++ l[j] :: l.drop (j + 1) := by rw [List.getElem_cons_drop, List.take_append_drop]
    have hc : (((pcells l).drop (j * 2)).take 2) = [.int .i64 (l[j]).f0, .int .i64 (l[j]).f1] := by
      have hm : (l.take j).length = j := by rw [List.length_take]; omega
      have : pcells l = pcells (l.take j) ++ pcells (l[j] :: l.drop (j + 1)) := by rw [← pcells_app, ← e]
      rw [this, List.drop_append, pcells_len, hm]
      simp [pcells, List.drop_eq_nil_of_le, pcells_len, hm]
    rw [hc]
    exact k55_mkM w base ok _
theorem R_of_blk {W : World} {g base : Nat} {ok : Nat → Prop} {l : List S55} (h : W.heap[g]? = some (.cells (pcells l).toArray 55 (0, 0))) (hb : base ≤ g) (hl : l.length ≤ maxLen) (hok : ok g) :
    k55.R 55 W base ok (.slice (some ⟨g, 0, none⟩) l.length l.length) l :=
  ⟨fun k hk => by have : g = k := by simpa [Value.ownBlock] using hk
                  exact this ▸ hok, pcells l, ⟨pcells_len l, .inr ⟨g, l.length, (pcells l).toArray, rfl, hb, h, Nat.le_refl _, hl, by simp [pcells_len]; rfl, by
    have : l.length * k55.sz = (pcells l).length := by rw [pcells_len]; rfl
    rw [this]
    simp⟩⟩, pcells_reps _ _ _ l⟩
theorem C_of_blk {W : World} {g : Nat} {l : List S55} (h : W.heap[g]? = some (.cells (pcells l).toArray 55 (0, 0))) (hl : l.length ≤ 9223372036854775807) :
    k55.C W (some ⟨g, 0, none⟩) l.length l := by
  refine ⟨rfl, hl, fun _ => ⟨⟨g, 0, none⟩, rfl, fun j p hj => ?_⟩⟩
  obtain ⟨hlt, rfl⟩ := List.getElem?_eq_some_iff.1 hj
  have e : l = l.take j ++ l[j] :: l.drop (j + 1) := by rw [List.getElem_cons_drop, List.take_append_drop]
  have hm : (l.take j).length = j := by rw [List.length_take]; omega
  refine ⟨[.int .i64 (l[j]).f0, .int .i64 (l[j]).f1], rfl, k55_mk W _, fun i u hi => ?_⟩
  have h0 := pcells_get0 (l.take j) l[j] (l.drop (j + 1))
  have h1 := pcells_get1 (l.take j) l[j] (l.drop (j + 1))
  rw [← e, hm] at h0 h1
  have hz : (⟨g, 0, none⟩ : Addr).add (j * k55.sz + i) = ⟨g, j * 2 + i, none⟩ := by
    show (⟨g, 0, none⟩ : Addr).add (j * 2 + i) = _
    simp [Addr.add]
    omega
  rw [hz, blk_cell h]
  match i, hi with
  | 0, hi => rw [← hi]; simpa using h0
  | 1, hi => rw [← hi]; simpa using h1
  | (i + 2), hi => simp at hi
theorem made_blk (k : Nat) : madeCells #[.int .i64 0, .int .i64 0] (k * 2) = (pcells (List.replicate k ⟨0, 0⟩)).toArray := by
  have h : ∀ k, (List.range (k * 2)).map (fun i => (#[Value.int .i64 0, Value.int .i64 0] : Array Value)[i % 2]!) = pcells (List.replicate k ⟨0, 0⟩) := by
    intro k
    have hc : ∀ i, (#[Value.int .i64 0, Value.int .i64 0] : Array Value)[i % 2]! = .int .i64 0 := fun i => by
      rcases Nat.mod_two_eq_zero_or_one i with h | h <;> rw [h] <;> rfl
    simp only [hc, List.map_const']
    induction k with
    | zero => rfl
    | succ k ih =>
      rw [List.replicate_succ, pcells, ← ih, List.length_range, List.length_range, show (k + 1) * 2 = k * 2 + 1 + 1 by omega, List.replicate_succ, List.replicate_succ]
  unfold madeCells
  apply Array.ext'
  simpa using h k
end Go.Proofs.YtjdajlnigiicaaaDoor.S
end
section
namespace Go.Proofs.YtjdajlnigiicaaaDoor.S
open Go.RowKit Go.Proofs.YtjdajlnigiicaaaDoorW.PrintWords Go.Proofs.YtjdajlnigiicaaaDoorW.PrintLast Go.Proofs.YtjdajlnigiicaaaDoorW.PrintMore
set_option linter.unusedVariables false
set_option linter.unusedSimpArgs false
def bumpP (ns nr : Int) (p : S55) : S55 × Bool :=
  if p.f1 + 1 < nr then (⟨p.f0, p.f1 + 1⟩, false) else if p.f0 + 1 < ns then (⟨p.f0 + 1, 0⟩, false) else (⟨0, 0⟩, true)
def nextW (ns nr : Int) : List S55 → Option (List S55)
  | [] => none
  | p :: l => match nextW ns nr l with
    | some l' => some (p :: l')
    | none => if (bumpP ns nr p).2 = true then none else some ((bumpP ns nr p).1 :: List.replicate l.length ⟨0, 0⟩)
def placesAll (ns nr : Nat) : List S55 := (List.range ns).flatMap fun (s : Nat) => (List.range nr).map fun (r : Nat) => (⟨(s : Int), (r : Int)⟩ : S55)
def allW (ns nr : Nat) : Nat → List (List S55)
  | 0 => [[]]
  | k + 1 => (placesAll ns nr).flatMap fun p => (allW ns nr k).map fun l => p :: l
def RunW (ns nr : Int) : List (List S55) → Prop
  | [] => False
  | [l] => nextW ns nr l = none
  | l :: l' :: r => nextW ns nr l = some l' ∧ RunW ns nr (l' :: r)
theorem run_glue (ns nr : Int) (f : List S55 → List S55) (z : List S55) (zs : List (List S55)) (hz : RunW ns nr (z :: zs)) :
    ∀ (ys : List (List S55)) (l : List S55), RunW ns nr (l :: ys) → (∀ a b, nextW ns nr a = some b → nextW ns nr (f a) = some (f b)) → (∀ a, a ∈ l :: ys → nextW ns nr a = none → nextW ns nr (f a) = some z) → RunW ns nr ((f l :: ys.map f) ++ z :: zs)
  | [], l, hr, _, he => ⟨he l (by simp) hr, hz⟩
  | y :: ys, l, hr, hs, he => by
    obtain ⟨h1, h2⟩ := hr
    exact ⟨hs _ _ h1, run_glue ns nr f z zs hz ys y h2 hs (fun a ha => he a (by simp [List.mem_cons.1 ha]))⟩
theorem next_cons (ns nr : Int) (p : S55) (a b : List S55) (h : nextW ns nr a = some b) : nextW ns nr (p :: a) = some (p :: b) := by simp [nextW, h]
theorem next_turn (ns nr : Int) (p q : S55) (a : List S55) (h : nextW ns nr a = none) (hb : bumpP ns nr p = (q, false)) : nextW ns nr (p :: a) = some (q :: List.replicate a.length ⟨0, 0⟩) := by simp [nextW, h, hb]
theorem next_end (ns nr : Int) (p q : S55) (a : List S55) (h : nextW ns nr a = none) (hb : bumpP ns nr p = (q, true)) : nextW ns nr (p :: a) = none := by simp [nextW, h, hb]
def RunP (ns nr : Int) : List S55 → Prop
  | [] => False
  | [p] => (bumpP ns nr p).2 = true
  | p :: q :: r => bumpP ns nr p = (q, false) ∧ RunP ns nr (q :: r)
theorem run_map_end (ns nr : Int) (p q : S55) (hb : bumpP ns nr p = (q, true)) : ∀ (ys : List (List S55)) (l : List S55), RunW ns nr (l :: ys) → RunW ns nr ((p :: l) :: ys.map (p :: ·))
  | [], l, hr => next_end ns nr p q l hr hb
  | y :: ys, l, hr => ⟨next_cons ns nr p l y hr.1, run_map_end ns nr p q hb ys y hr.2⟩
theorem run_more (ns nr : Int) (k : Nat) (ws : List (List S55)) (hw : RunW ns nr (List.replicate k ⟨0, 0⟩ :: ws)) (hl : ∀ a ∈ List.replicate k ⟨0, 0⟩ :: ws, a.length = k) :
    ∀ (ps : List S55), RunP ns nr ps → RunW ns nr (ps.flatMap fun p => (List.replicate k ⟨0, 0⟩ :: ws).map fun l => p :: l)
  | [p], h => by
    obtain ⟨q, hq⟩ : ∃ q, bumpP ns nr p = (q, true) := ⟨(bumpP ns nr p).1, by rw [← show (bumpP ns nr p).2 = true from h]⟩
    simpa using run_map_end ns nr p q hq ws _ hw
  | p :: q :: r, h => by
    have ih := run_more ns nr k ws hw hl (q :: r) h.2
    rw [List.flatMap_cons, List.map_cons] at ih
    have := run_glue ns nr (p :: ·) (q :: List.replicate k ⟨0, 0⟩) (ws.map (q :: ·) ++ (r.flatMap fun p => (List.replicate k ⟨0, 0⟩ :: ws).map fun l => p :: l)) (by simpa using ih) ws (List.replicate k ⟨0, 0⟩) hw (fun a b hab => next_cons ns nr p a b hab) (fun a ha hn => by rw [next_turn ns nr p q a hn h.1, hl a ha])
    simpa using this
theorem runP_row (ns nr s : Nat) (rest : List S55) (h : (rest = [] ∧ s + 1 = ns) ∨ (∃ R, rest = ⟨((s + 1 : Nat) : Int), 0⟩ :: R ∧ s + 1 < ns ∧ RunP ns nr rest)) :
    ∀ (m r0 : Nat), r0 + m + 1 = nr → RunP ns nr ((List.range' r0 (m + 1)).map (fun (r : Nat) => (⟨(s : Int), (r : Int)⟩ : S55)) ++ rest)
  | 0, r0, hr => by
    rcases h with ⟨rfl, hs⟩ | ⟨R, rfl, hs, hR⟩
    · show (bumpP ns nr (⟨(s : Int), (r0 : Int)⟩ : S55)).2 = true
      unfold bumpP
      rw [if_neg (by dsimp only; omega), if_neg (by dsimp only; omega)]
    · refine ⟨?_, hR⟩
      unfold bumpP
      rw [if_neg (by dsimp only; omega), if_pos (by dsimp only; omega)]
      simp
  | m + 1, r0, hr => by
    have ih := runP_row ns nr s rest h m (r0 + 1) (by omega)
    refine ⟨?_, ih⟩
    unfold bumpP
    rw [if_pos (by dsimp only; omega)]
    simp
theorem runP_rows (ns nr : Nat) (hr : 0 < nr) : ∀ (m s0 : Nat), s0 + m + 1 = ns → RunP ns nr ((List.range' s0 (m + 1)).flatMap fun (s : Nat) => (List.range nr).map fun (r : Nat) => (⟨(s : Int), (r : Int)⟩ : S55))
  | 0, s0, h => by
    obtain ⟨m, rfl⟩ : ∃ m, nr = m + 1 := ⟨nr - 1, by omega⟩
    have := runP_row ns (m + 1) s0 [] (.inl ⟨rfl, by omega⟩) m 0 (by omega)
    rw [List.append_nil, ← List.range_eq_range'] at this
    simpa using this
  | m + 1, s0, h => by
    obtain ⟨k, rfl⟩ : ∃ k, nr = k + 1 := ⟨nr - 1, by omega⟩
    have ih := runP_rows ns (k + 1) hr m (s0 + 1) (by omega)
    obtain ⟨R, hR⟩ : ∃ R, ((List.range' (s0 + 1) (m + 1)).flatMap fun (s : Nat) => (List.range (k + 1)).map fun (r : Nat) => (⟨(s : Int), (r : Int)⟩ : S55)) = ⟨((s0 + 1 : Nat) : Int), 0⟩ :: R := ⟨_, by rw [List.range'_succ, List.flatMap_cons, List.range_succ_eq_map]; rfl⟩
    have h2 := runP_row ns (k + 1) s0 _ (.inr ⟨R, hR, by omega, ih⟩) k 0 (by omega)
    rw [← List.range_eq_range'] at h2
    rw [List.range'_succ, List.flatMap_cons]
    exact h2
theorem runP_all (ns nr : Nat) (hs : 0 < ns) (hr : 0 < nr) : RunP ns nr (placesAll ns nr) := by
  obtain ⟨m, rfl⟩ : ∃ m, ns = m + 1 := ⟨ns - 1, by omega⟩
  have := runP_rows (m + 1) nr hr m 0 (by omega)
  rwa [← List.range_eq_range'] at this
theorem allW_len (ns nr : Nat) : ∀ k, ∀ a ∈ allW ns nr k, a.length = k
  | 0, a, h => by simp [allW] at h; subst h; rfl
  | k + 1, a, h => by
    simp only [allW, List.mem_flatMap, List.mem_map] at h
    obtain ⟨p, _, l, hl, rfl⟩ := h
    simp [allW_len ns nr k l hl]
theorem allW_head (ns nr : Nat) (hs : 0 < ns) (hr : 0 < nr) : ∀ k, ∃ r, allW ns nr k = List.replicate k ⟨0, 0⟩ :: r
  | 0 => ⟨[], rfl⟩
  | k + 1 => by
    obtain ⟨r, h⟩ := allW_head ns nr hs hr k
    obtain ⟨m, rfl⟩ : ∃ m, ns = m + 1 := ⟨ns - 1, by omega⟩
    obtain ⟨q, rfl⟩ : ∃ q, nr = q + 1 := ⟨nr - 1, by omega⟩
    obtain ⟨R, hR⟩ : ∃ R, placesAll (m + 1) (q + 1) = ⟨0, 0⟩ :: R := ⟨_, by unfold placesAll; rw [List.range_succ_eq_map (n := m), List.flatMap_cons, List.range_succ_eq_map (n := q)]; rfl⟩
    exact ⟨_, by simp only [allW, hR, List.flatMap_cons, h, List.map_cons, List.cons_append]; rfl⟩
theorem allW_run (ns nr : Nat) (hs : 0 < ns) (hr : 0 < nr) : ∀ k, RunW ns nr (allW ns nr k)
  | 0 => rfl
  | k + 1 => by
    obtain ⟨r, h⟩ := allW_head ns nr hs hr k
    have ih := allW_run ns nr hs hr k
    have hl := allW_len ns nr k
    rw [h] at ih hl
    have := run_more ns nr k r ih hl (placesAll ns nr) (runP_all ns nr hs hr)
    unfold allW
    rw [h]
    exact this
end Go.Proofs.YtjdajlnigiicaaaDoor.S
end
section
namespace Go.Proofs.YtjdajlnigiicaaaDoorW.PrintMore
open Go.RowKit
section
variable {F : Fence} {n : Nat} {P : Program}
def IterN {α : Type} (F : Fence) (n : Nat) (P : Program) (g : Nat) (lb : Array Value) (N : Nat) (encs : α → Array Value) (Rep : α → World → Prop) (Kp : World → World → Prop) (E : List α → World → World → Prop) (xs : List α) (w : World) : Prop :=
  ∀ (l : Nat) (J Jx : List α → World → Prop) (W : World), Below w.heap.size w W → W.heap.size = N → (∀ pre A B, J pre A → E pre A B → J pre B) →
    (∀ pre x W1, J pre W1 → Rep x W1 → pre ++ [x] <+: xs → YieldAt F (n - 1) P l (encs x) W1 fun e W' =>
      (e = .returned (.bool true) ∧ J (pre ++ [x]) W' ∧ Kp W1 W') ∨ (e = .returned (.bool false) ∧ Jx (pre ++ [x]) W' ∧ Kp W1 W')) →
    J [] W →
    CallsIn F n P g (#[.func (.yield l) #[] #[]] ++ lb) W fun e W' => (∃ v, e = .returned v) ∧ (J xs W' ∨ (∃ pre, Jx pre W'))
theorem wpIn_rangeFunc_N {α : Type} {g : Operand} {ps : Array Tmp} {assign body : Code} {Q : Exit → Act → World → Prop} {a : Act} {w : World}
    (hro : F.round = none) (h1 : 1 ≤ n) {gf : Nat} {lb : Array Value} (hg : a.eval g = .func (.func gf) #[] lb) (hFg : F.fn gf) (eg : ∀ args w, (callFunc gf args).run P w = .ok (.enter gf args) w)
    {encs : α → Array Value} {Kp : World → World → Prop} {E : List α → World → World → Prop} {ys : List α} {w0 : World} {Rep : α → World → Prop} (hseq : IterN F (n - 1) P gf lb (w.heap.size + 1 + 1) encs Rep Kp E ys w0) (hRep : ∀ x W l o', w.heap.size ≤ l → l < w.heap.size + 1 + 1 → Rep x W → Rep x (W.putObj l o'))
    (hKt : ∀ {A B C : World}, Kp A B → Kp B C → Kp A C) (hKb : ∀ (W : World) (l : Nat) (o o' : Obj), w.heap.size ≤ l → W.heap[l]? = some o → o.isCells = false → o.isWalk = false → Kp W (W.putObj l o')) (hE : ∀ pre A B, E pre A B → KeepsOthers A B) (hb0 : Below w0.heap.size w0 w) (hps : ∀ x, (encs x).size = ps.size)
    (I : List α → World → Prop) (Ix : Code → List α → World → Prop) (hIE : ∀ pre A B, I pre A → E pre A B → I pre B) (hI : OwnFrom w.heap.size I) (hIx : ∀ c, OwnFrom w.heap.size (Ix c)) (h0 : I [] w) (a₁ : α → Act)
    (hassign : ∀ (l : Nat) (x : α) (W : World) (K : Act → World → Prop), K (a₁ x) W →
      assign.wpIn (F.inRound l) (n - 1 - 1) P (Exit.then K (fun _ _ _ => False)) { tmps := (ps.zip (encs x)).foldl (fun t (p, v) => t.setIfInBounds p v) a.tmps, defers := [] } W)
    (hbody : ∀ (l : Nat) (pre : List α) (x : α) (W : World), I pre W → Rep x W → pre ++ [x] <+: ys → body.wpIn (F.inRound l) (n - 1 - 1) P (ownPostE w.heap.size Kp I Ix (pre ++ [x]) W) (a₁ x) W)
    (hdone : ∀ (D : Nat) (W : World), w.heap.size ≤ D → I ys W → W.heap[D]? = some (.deferred (some [])) → Q .normal { a with defers := { target := .collected D, args := #[] } :: a.defers } W)
    (hstop : ∀ (D : Nat) (c : Code) (pre : List α) (W : World), w.heap.size ≤ D → Ix c pre W → W.heap[D]? = some (.deferred (some [])) → c.wpIn F n P Q { a with defers := { target := .collected D, args := #[] } :: a.defers } W) :
    (Code.rangeFunc g ps assign body).wpIn F n P Q a w := by
  refine wpIn_rangeFunc ?_
  intro fn hfn
  rw [hro]
  obtain ⟨rec, hrec⟩ : ∃ rec : LoopState → Option Code → Loop, rec = fun st pe => { state := st, pending := pe, fn, tmps := a.tmps, params := ps, assign, body, defers := w.heap.size } := ⟨_, rfl⟩
  obtain ⟨W1, hW1⟩ : ∃ W1, (w.alloc (.deferred (some []))).alloc (.loop (rec .ready none)) = W1 := ⟨_, rfl⟩
  have hL1 : W1.heap[w.heap.size + 1]? = some (.loop (rec .ready none)) := by
    rw [← hW1]; have := World.alloc_heap_new (w.alloc (.deferred (some []))) (.loop (rec .ready none)); rwa [World.size_alloc] at this
  have hK1 : W1.heap[w.heap.size]? = some (.deferred (some [])) := by
    rw [← hW1]; exact (Below.heap_alloc _ _ _ (by simp)).trans (World.alloc_heap_new w _)
  have hI1 : I [] W1 := by rw [← hW1]; exact hI.alloc _ (hI.alloc _ h0)
  have hb1 : Below w0.heap.size w0 W1 := by
    rw [← hW1]; exact hb0.trans ((((Below.refl _ w).alloc (Nat.le_refl _) _).alloc (by simp) _).mono hb0.size)
  refine ⟨w.heap.size + 1, [{ target := .collected w.heap.size, args := #[] }], W1, { target := .fn (.func gf) lb, args := #[.func (.yield (w.heap.size + 1)) #[] #[]] }, W1, gf,
    #[.func (.yield (w.heap.size + 1)) #[] #[]] ++ lb, W1, ?_, ?_, ?_, ?_, fun _ => h1, ?_⟩
  · rw [← hW1, hrec]; exact run_enterLoop_outer _ _ _ _ _
  · simp only [resolve, hg]
    simp [go_sem]
  · intro f' hf'; simp [Target.leads] at hf'; subst hf'; exact hFg
  · simp [invoke, go_sem, eg]
  · refine (hseq (w.heap.size + 1)
      (fun pre W => I pre W ∧ W.heap[w.heap.size + 1]? = some (.loop (rec .ready none)) ∧ W.heap[w.heap.size]? = some (.deferred (some [])))
      (fun pre W => ∃ c, Ix c pre W ∧ W.heap[w.heap.size + 1]? = some (.loop (rec .done (some c))) ∧ W.heap[w.heap.size]? = some (.deferred (some [])))
      W1 hb1 (by rw [← hW1]; simp)
      (fun s A B hs he => ⟨hIE s A B hs.1 he, (hE s A B he).same _ _ hs.2.1 rfl, (hE s A B he).same _ _ hs.2.2 rfl⟩)
      ?_ ⟨hI1, hL1, hK1⟩).mono ?_
    · rintro pre x W ⟨hi, hl, hk⟩ hrep hlen
      have hlt : w.heap.size + 1 < W.heap.size := (Array.getElem?_eq_some_iff.1 hl).1
      have hy := run_yield (P := P) (args := encs x) hl (by rw [hrec]; exact hps x)
      rw [hrec] at hy
      refine ⟨fn, _, assign, body, hy, roundIn_of_wpIn hfn (hassign _ x W _ ⟨_, run_beginRound hl (by rw [hrec]), ?_⟩)⟩
      have hl2 : (W.putObj (w.heap.size + 1) (.loop { rec .ready none with state := .busy })).heap[w.heap.size + 1]? = some (.loop { rec .ready none with state := .busy }) := World.putObj_heap_same hlt
      have hk2 : (W.putObj (w.heap.size + 1) (.loop { rec .ready none with state := .busy })).heap[w.heap.size]? = some (.deferred (some [])) := (World.putObj_heap_other (by omega)).trans hk
      have hw2 : Kp W (W.putObj (w.heap.size + 1) (.loop { rec .ready none with state := .busy })) := hKb _ _ _ _ (by omega) hl rfl rfl
      refine wpIn_mono (hbody _ pre x _ (hI.putObj _ hi (by omega) hl rfl) (hRep _ _ _ _ (by omega) (by omega) hrep) hlen) ?_
      have fin : ∀ (jump : Option Code) (W3 : World), KeepsFrom w.heap.size (W.putObj (w.heap.size + 1) (.loop { rec .ready none with state := .busy })) W3 →
          (Instr.endRound (w.heap.size + 1) jump).run P W3 = .ok (.bool jump.isNone) (W3.putObj (w.heap.size + 1) (.loop (rec (if jump.isNone then .ready else .done) jump))) ∧
          W3.heap[w.heap.size + 1]? = some (.loop { rec .ready none with state := .busy }) ∧
          (W3.putObj (w.heap.size + 1) (.loop (rec (if jump.isNone then .ready else .done) jump))).heap[w.heap.size + 1]? = some (.loop (rec (if jump.isNone then .ready else .done) jump)) ∧
          (W3.putObj (w.heap.size + 1) (.loop (rec (if jump.isNone then .ready else .done) jump))).heap[w.heap.size]? = some (.deferred (some [])) := fun jump W3 hk3 => by
        have hl3 := hk3.same _ _ (by omega) hl2 rfl
        have := run_endRound (P := P) jump hl3
        rw [hrec] at this ⊢
        exact ⟨this, by rw [hrec] at hl3; exact hl3, World.putObj_heap_same (Array.getElem?_eq_some_iff.1 hl3).1, (World.putObj_heap_other (by omega)).trans (hk3.same _ _ (Nat.le_refl _) hk2 rfl)⟩
      rintro e a3 W3 hp
      cases e with
      | normal =>
        obtain ⟨hk3, hkp3, hi3⟩ := hp
        obtain ⟨hr, hl3, hl4, hk4⟩ := fin none W3 hk3
        exact ⟨_, _, hr, .inl ⟨rfl, ⟨hI.putObj _ hi3 (by omega) hl3 rfl, hl4, hk4⟩, hKt (hKt hw2 hkp3) (hKb _ _ _ _ (by omega) hl3 rfl rfl)⟩⟩
      | ret =>
        obtain ⟨hk3, hkp3, hi3⟩ := hp
        obtain ⟨hr, hl3, hl4, hk4⟩ := fin (some .ret) W3 hk3
        exact ⟨_, _, hr, .inr ⟨rfl, ⟨.ret, (hIx _).putObj _ hi3 (by omega) hl3 rfl, hl4, hk4⟩, hKt (hKt hw2 hkp3) (hKb _ _ _ _ (by omega) hl3 rfl rfl)⟩⟩
      | exit id =>
        obtain ⟨hk3, hkp3, hi3⟩ := hp
        obtain ⟨hr, hl3, hl4, hk4⟩ := fin (some (.exit id)) W3 hk3
        exact ⟨_, _, hr, .inr ⟨rfl, ⟨.exit id, (hIx _).putObj _ hi3 (by omega) hl3 rfl, hl4, hk4⟩, hKt (hKt hw2 hkp3) (hKb _ _ _ _ (by omega) hl3 rfl rfl)⟩⟩
      | goto t =>
        obtain ⟨hk3, hkp3, hi3⟩ := hp
        obtain ⟨hr, hl3, hl4, hk4⟩ := fin (some (.goto t)) W3 hk3
        exact ⟨_, _, hr, .inr ⟨rfl, ⟨.goto t, (hIx _).putObj _ hi3 (by omega) hl3 rfl, hl4, hk4⟩, hKt (hKt hw2 hkp3) (hKb _ _ _ _ (by omega) hl3 rfl rfl)⟩⟩
      | panic ch => exact hp.elim
      | outgrown => exact hp.elim
    · rintro e W2 ⟨⟨v, rfl⟩, (⟨hi, hl, hk⟩ | ⟨pre, c, hi, hl, hk⟩)⟩
      · exact ⟨none, _, by have := run_endLoop (P := P) hl (by rw [hrec]; simp); rw [hrec] at this; exact this, hdone _ _ (Nat.le_refl _) (hI.putObj _ hi (by omega) hl rfl) ((World.putObj_heap_other (by omega)).trans hk)⟩
      · exact ⟨some c, _, by have := run_endLoop (P := P) hl (by rw [hrec]; simp); rw [hrec] at this; exact this, hstop _ c pre _ (Nat.le_refl _) ((hIx c).putObj _ hi (by omega) hl rfl) ((World.putObj_heap_other (by omega)).trans hk)⟩
end
end Go.Proofs.YtjdajlnigiicaaaDoorW.PrintMore
end
section
namespace Go.Proofs.YtjdajlnigiicaaaDoor.S
open Go.RowKit Go.Proofs.YtjdajlnigiicaaaDoorW.PrintWords Go.Proofs.YtjdajlnigiicaaaDoorW.PrintLast Go.Proofs.YtjdajlnigiicaaaDoorW.PrintMore
set_option linter.unusedVariables false
set_option linter.unusedSimpArgs false
theorem nextW_at (ns nr : Int) : ∀ (a : List S55) (p q : S55) (b : List S55), nextW ns nr b = none → bumpP ns nr p = (q, false) → nextW ns nr (a ++ p :: b) = some (a ++ q :: List.replicate b.length ⟨0, 0⟩)
  | [], p, q, b, h, hb => next_turn ns nr p q b h hb
  | x :: a, p, q, b, h, hb => next_cons ns nr x _ _ (nextW_at ns nr a p q b h hb)
theorem grown_put (W : World) (b i : Nat) (v : Value) : W.grownBy (W.setCell ⟨b, i, none⟩ v) (some b) :=
  ⟨rfl, rfl, rfl, by simp [World.setCell], fun k _ hne => Below.heap_setCell W ⟨b, i, none⟩ v k (fun e => hne (by rw [e]))⟩
theorem grown_drew (W : World) (b : Nat) : W.grownBy W.drew (some b) := ⟨rfl, rfl, rfl, Nat.le_refl _, fun _ _ _ => rfl⟩
theorem is_cells {W : World} {g t : Nat} {cs : Array Value} (h : W.heap[g]? = some (.cells cs t (0, 0))) : ∀ o, W.heap[g]? = some o → o.isCells = true := fun o ho => by rw [h] at ho; cases ho; rfl
theorem run_next (ns nr : Int) : ∀ (pre : List (List S55)) (x : List S55) (rest : List (List S55)), RunW ns nr (pre ++ x :: rest) → nextW ns nr x = rest.head?
  | [], x, [], h => h
  | [], x, y :: r, h => h.1
  | [z], x, rest, h => run_next ns nr [] x rest h.2
  | z :: y :: pre, x, rest, h => run_next ns nr (y :: pre) x rest h.2
def inPl (ns nr : Int) (p : S55) : Prop := 0 ≤ p.f0 ∧ p.f0 < ns ∧ 0 ≤ p.f1 ∧ p.f1 < nr
theorem placesAll_mem (ns nr : Nat) (p : S55) : p ∈ placesAll ns nr ↔ inPl ns nr p := by
  unfold placesAll inPl
  simp only [List.mem_flatMap, List.mem_map, List.mem_range]
  constructor
  · rintro ⟨s, hs, r, hr, rfl⟩
    dsimp only
    omega
  · rintro ⟨h0, h1, h2, h3⟩
    refine ⟨p.f0.toNat, by omega, p.f1.toNat, by omega, ?_⟩
    cases p
    dsimp only at *
    congr 1 <;> omega
theorem allW_mem (ns nr : Nat) : ∀ (k : Nat) (a : List S55), a ∈ allW ns nr k ↔ a.length = k ∧ ∀ p ∈ a, inPl ns nr p
  | 0, a => by
    simp only [allW, List.mem_singleton]
    constructor
    · rintro rfl; exact ⟨rfl, fun p h => by cases h⟩
    · rintro ⟨h, _⟩; exact List.length_eq_zero_iff.1 h
  | k + 1, a => by
    simp only [allW, List.mem_flatMap, List.mem_map, placesAll_mem, allW_mem ns nr k]
    constructor
    · rintro ⟨p, hp, l, ⟨h1, h2⟩, rfl⟩
      refine ⟨by simp [h1], fun q hq => ?_⟩
      rcases List.mem_cons.1 hq with rfl | hq
      · exact hp
      · exact h2 q hq
    · rintro ⟨h1, h2⟩
      cases a with
      | nil => simp at h1
      | cons p l => exact ⟨p, h2 p (by simp), l, ⟨by simpa using h1, fun q hq => h2 q (by simp [hq])⟩, rfl⟩
section
attribute [local go_sem] Oper.semAt_some
set_option maxRecDepth 100000 in
set_option maxHeartbeats 4000000 in
theorem weeks1_iter (n : Nat) (hn : 1 ≤ n) (gs : Nat) (A0_0 : Option Addr) (c0_0 : Nat) (A0_1 : Option Addr) (c0_1 : Nat) (A0_2 : Option Addr) (n0_2 c0_2 : Nat) (A0_3 : Option Addr) (n0_3 c0_3 : Nat) (A0_4 : Option Addr) (c0_4 : Nat) (ns nr k N : Nat) (hs : 0 < ns) (hr : 0 < nr) (hs1 : ns ≤ 1000000) (hr1 : nr ≤ 1000000) (hk : k ≤ 1000000) (w : World)
    (hS : w.heap[gs]? = some (.cells #[.slice A0_0 ns c0_0, .slice A0_1 nr c0_1, .slice A0_2 n0_2 c0_2, .slice A0_3 n0_3 c0_3, .slice A0_4 k c0_4] 45 (0, 0))) (hgs : gs ≠ N) :
    IterN Fence.wide n Tryd.prog 83 #[.pointer (some ⟨gs, 0, none⟩)] N (fun _ : List S55 => #[.slice (some ⟨N, 0, none⟩) k k]) (fun x W => W.heap[N]? = some (.cells (pcells x).toArray 55 (0, 0)))
      (fun A B : World => ∀ (g : Nat) (cs : Array Value) (t : TypeId), t = 55 ∨ t = 45 → A.heap[g]? = some (.cells cs t (0, 0)) → B.heap[g]? = some (.cells cs t (0, 0))) (fun _ (A B : World) => A.grownBy B (some N) ∧ ∀ o, A.heap[N]? = some o → o.isCells = true) (allW ns nr k) w := by
  intro l J Jx W hW hN hJE hY h0
  have BS := Aside0.mk (blk_below hS hW)
  have HY := Aside0.mk hY
  have HE := Aside0.mk hJE
  have HN := Aside0.mk hN
  have H0 := Aside0.mk h0
  clear hY hJE hS hW h0
  have hu := Tryd.underlying45
  have zs0 : W.cell? ⟨gs, 0, none⟩ = some (.slice A0_0 ns c0_0) := (blk_cell BS.out 0).trans rfl
  have zs1 : W.cell? ⟨gs, 1, none⟩ = some (.slice A0_1 nr c0_1) := (blk_cell BS.out 1).trans rfl
  have zs4 : W.cell? ⟨gs, 4, none⟩ = some (.slice A0_4 k c0_4) := (blk_cell BS.out 4).trans rfl
  obtain ⟨i1, hi1, hi2, hi3, hi4⟩ := info_parts info55
  have hmk : ∀ W : World, (Instr.makeSlice 22 (.int .i64 (k : Int)) (.int .i64 (k : Int))).run Tryd.prog W = .ok (.slice (some ⟨W.heap.size, 0, none⟩) k k) (W.alloc (.cells (pcells (List.replicate k ⟨0, 0⟩)).toArray 55)) := fun W => by
    have h := run_make (P := Tryd.prog) W 22 55 i1 _ Tryd.underlying22 hi1 hi2 .i64 .i64 (k : Int) (k : Int) (by omega) (by omega) (by rw [hi4]; omega) (by omega)
    rw [hi3] at h
    simp only [Int.toNat_natCast] at h
    rw [h, ← made_blk]
    rfl
  clear hi1 hi2 hi3 hi4 
  refine callsIn_of_wp Tryd.func83 rfl trivial ?_ rfl
  simp only [Tryd.ntmps83, List.size_toArray, List.length_cons, List.length_nil, Nat.reduceAdd, Nat.reduceSub, Array.replicate_succ, Array.replicate_zero, List.push_toArray, List.append_toArray, List.nil_append, List.cons_append]
  gi_wp2
  have hrun := allW_run ns nr hs hr k
  have hlen := allW_len ns nr k
  have hmem := fun a h => ((allW_mem ns nr k a).1 h).2
  obtain ⟨r0, hhead⟩ := allW_head ns nr hs hr k
  have HX := Aside0.mk (And.intro hrun (And.intro hlen (And.intro hmem hhead)))
  have HK := Aside0.mk (And.intro hs (And.intro hr (And.intro hs1 (And.intro hr1 hk))))
  have BS1 := Aside0.mk (blk_alloc BS.out (.cells (pcells (List.replicate k ⟨0, 0⟩)).toArray 55))
  have BN1 := Aside0.mk (show (W.alloc (.cells (pcells (List.replicate k ⟨0, 0⟩)).toArray 55)).heap[N]? = some (.cells (pcells (List.replicate k ⟨0, 0⟩)).toArray 55 (0, 0)) from hN ▸ blk_new W _)
  have J1 := Aside0.mk (HE.out _ _ _ H0.out ⟨World.grownBy_alloc W (.cells (pcells (List.replicate k ⟨0, 0⟩)).toArray 55) (some N), fun o ho => by have := (Array.getElem?_eq_some_iff.1 ho).1; omega⟩)
  generalize W.alloc (.cells (pcells (List.replicate k ⟨0, 0⟩)).toArray 55) = W1 at *
  have hgN := hgs
  try simp only [hN]
  clear hrun hlen hmem hmk zs0 zs1 zs4 BS H0 HN hs hr hs1 hr1 hk hhead hgs
  generalize hA : allW ns nr k = ys at *
  gi_loopg [] ys.length (fun q wr => Aside0 (∃ pre x rest, ys = pre ++ x :: rest ∧ q = rest.length + 1 ∧ J pre wr ∧ wr.heap[N]? = some (.cells (pcells x).toArray 55 (0, 0))) ∧ Aside0 (wr.heap[gs]? = some (.cells #[.slice A0_0 ns c0_0, .slice A0_1 nr c0_1, .slice A0_2 n0_2 c0_2, .slice A0_3 n0_3 c0_3, .slice A0_4 k c0_4] 45 (0, 0))))
  case atStart =>
    exact ⟨⟨[], _, r0, HX.out.2.2.2, by rw [HX.out.2.2.2]; rfl, J1.out, BN1.out⟩, BS1⟩
  case round =>
    clear BN1 BS1 J1 W1
    obtain ⟨⟨pre, x, rest, hys, hq, hJ, hN1⟩, BS⟩ := hrel
    have BN := Aside0.mk hN1
    have HQ := Aside0.mk (And.intro hys hq)
    obtain ⟨fn, tmps, assign, body, hy, hR⟩ := HY.out pre x wr hJ hN1 (by rw [hys]; exact ⟨rest, by simp⟩)
    have HR := Aside0.mk hR
    have HJ := Aside0.mk hJ
    clear hR hys hq hJ hN1
    gi_wp2
    refine HR.out.mono ?_
    rintro e W3 (⟨rfl, hJ3, hk3⟩ | ⟨rfl, hx3, hk3⟩)
    case inr =>
      have HX3 := Aside0.mk hx3
      clear hx3 hk3 hy
      gi_wp2
      refine bodyPost_ret (results_none rfl _ _ _) rfl ?_
      exact ⟨⟨_, rfl⟩, .inr ⟨_, HX3.out⟩⟩
    case inl =>
      have BN3 := Aside0.mk (hk3 _ _ _ (.inl rfl) BN.out)
      have BS3 := Aside0.mk (hk3 _ _ _ (.inr rfl) BS.out)
      have HJ3 := Aside0.mk hJ3
      have hxl : x.length = k := HX.out.2.1 x (by rw [HQ.out.1]; simp)
      have HXL := Aside0.mk hxl
      have HNX := Aside0.mk (run_next ns nr pre x rest (by rw [← HQ.out.1]; exact HX.out.1))
      have HXM := Aside0.mk (HX.out.2.2.1 x (by rw [HQ.out.1]; simp))
      clear hJ3 hk3 hy HR HJ BN BS hxl
      have ek : wrap64 ((k : Int) - 1) = (k : Int) - 1 := by have := HK.out; unfold wrap64; omega
      gi_wp2
      gi_loopg [4] k (fun q v4 wr => ∃ m : Int, v4 = .int .i64 m ∧ Aside0 (∃ a b, x = a ++ b ∧ nextW ns nr b = none ∧ m = (a.length : Int) - 1 ∧ q = a.length ∧ wr.heap[N]? = some (.cells (pcells (a ++ List.replicate b.length ⟨0, 0⟩)).toArray 55 (0, 0))) ∧ Aside0 (J (pre ++ [x]) wr) ∧ Aside0 (wr.heap[gs]? = some (.cells #[.slice A0_0 ns c0_0, .slice A0_1 nr c0_1, .slice A0_2 n0_2 c0_2, .slice A0_3 n0_3 c0_3, .slice A0_4 k c0_4] 45 (0, 0))))
      case atStart => exact ⟨_, rfl, ⟨x, [], by simp, rfl, by rw [HXL.out]; exact ek, HXL.out.symm, by simpa using BN3.out⟩, HJ3, BS3⟩
      case round =>
        clear BN3 BS3 HJ3 W3 ek
        obtain ⟨m, rfl, ⟨a, b, hx, hb, hm, hq, hN⟩, HJ, BS⟩ := hrel
        rcases List.eq_nil_or_concat a with rfl | ⟨a', p, rfl⟩
        · have e1 : decide (m ≥ 0) = false := decide_eq_false (by simp at hm; omega)
          have e2 : decide (m < 0) = true := decide_eq_true (by simp at hm; omega)
          have HE1 := Aside0.mk (show ys = pre ++ [x] by
            have h1 := HNX.out
            have h2 := HQ.out.1
            rw [show x = b by simpa using hx, hb] at h1
            cases rest with
            | nil => exact h2
            | cons y r => simp at h1)
          clear hx hb hm hq hN
          gi_wp2
          refine bodyPost_ret (results_none rfl _ _ _) rfl ?_
          exact ⟨⟨_, rfl⟩, .inl (by rw [hA, HE1.out]; exact HJ.out)⟩
        · have e1 : decide (m ≥ 0) = true := decide_eq_true (by simp at hm; omega)
          have hj : m = a'.length := by simp at hm; omega
          have hpx : inPl ns nr p := HXM.out p (by rw [hx]; simp)
          have hjk : a'.length < k := by have := HXL.out; rw [hx] at this; simp at this; omega
          have hbl : b.length + a'.length + 1 = k := by have := HXL.out; rw [hx] at this; simp at this; omega
          have BN := Aside0.mk (show wr.heap[N]? = some (.cells (pcells (a' ++ p :: List.replicate b.length ⟨0, 0⟩)).toArray 55 (0, 0)) from by rw [hN]; simp)
          have HP := Aside0.mk (And.intro hj (And.intro hjk (And.intro hbl (And.intro hb hpx))))
          have HXX := Aside0.mk (show x = a' ++ p :: b by rw [hx]; simp)
          have HQ1 := Aside0.mk (show gk = a'.length + 1 by rw [hq]; simp)
          clear hm hx hb hq hN hpx hbl
          have z1 : wr.cell? ⟨N, m.toNat * 2 + 1, none⟩ = some (.int .i64 p.f1) := (blk_cell BN.out _).trans (by rw [hj, Int.toNat_natCast, List.getElem?_toArray]; exact pcells_get1 _ _ _)
          have f1 := blk_frozen BN.out (m.toNat * 2 + 1)
          have p9 := eq_true (show 0 ≤ m by omega)
          have q9 := eq_true (show m < (k : Int) by omega)
          have ew : wrap64 (p.f1 + 1) = p.f1 + 1 := by have := HK.out; have := HP.out.2.2.2.2; unfold inPl at this; unfold wrap64; omega
          have ev : wrap64 (p.f0 + 1) = p.f0 + 1 := by have := HK.out; have := HP.out.2.2.2.2; unfold inPl at this; unfold wrap64; omega
          have em : wrap64 (m - 1) = m - 1 := by have := HK.out; unfold wrap64; omega
          have em0 : decide (m < 0) = false := decide_eq_false (by omega)
          clear hj hjk
          gi_upto_region 6 with (fail)
          have BNW2 := Aside0.mk (show (wr.setCell ⟨N, m.toNat * 2 + 1, none⟩ (.int .i64 (p.f1 + 1))).heap[N]? = some (.cells (pcells (a' ++ ⟨p.f0, p.f1 + 1⟩ :: List.replicate b.length ⟨0, 0⟩)).toArray 55 (0, 0)) from blk_put BN.out _ _ (by rw [HP.out.1, Int.toNat_natCast]; exact pcells_set1 _ _ _ _))
          have BSW2 := Aside0.mk (show (wr.setCell ⟨N, m.toNat * 2 + 1, none⟩ (.int .i64 (p.f1 + 1))).heap[gs]? = some (.cells #[.slice A0_0 ns c0_0, .slice A0_1 nr c0_1, .slice A0_2 n0_2 c0_2, .slice A0_3 n0_3 c0_3, .slice A0_4 k c0_4] 45 (0, 0)) from blk_far BS.out hgN _)
          have HJW2 := Aside0.mk (HE.out _ _ _ HJ.out ⟨grown_put wr N (m.toNat * 2 + 1) (.int .i64 (p.f1 + 1)), is_cells BN.out⟩)
          generalize wr.setCell ⟨N, m.toNat * 2 + 1, none⟩ (.int .i64 (p.f1 + 1)) = W2 at *
          (try clear z0); (try clear z1); (try clear f0); (try clear f1); (try clear zs0); (try clear zs1)
          clear BN BS HJ
          have z0 : W2.cell? ⟨N, m.toNat * 2, none⟩ = some (.int .i64 p.f0) := (blk_cell BNW2.out _).trans (by rw [HP.out.1, Int.toNat_natCast, List.getElem?_toArray]; exact pcells_get0 _ _ _)
          have z1 : W2.cell? ⟨N, m.toNat * 2 + 1, none⟩ = some (.int .i64 (p.f1 + 1)) := (blk_cell BNW2.out _).trans (by rw [HP.out.1, Int.toNat_natCast, List.getElem?_toArray]; exact pcells_get1 _ _ _)
          have f0 := blk_frozen BNW2.out (m.toNat * 2)
          have f1 := blk_frozen BNW2.out (m.toNat * 2 + 1)
          have zs0 : W2.cell? ⟨gs, 0, none⟩ = some (.slice A0_0 ns c0_0) := (blk_cell BSW2.out 0).trans rfl
          have zs1 : W2.cell? ⟨gs, 1, none⟩ = some (.slice A0_1 nr c0_1) := (blk_cell BSW2.out 1).trans rfl
          by_cases d1 : p.f1 + 1 < (nr : Int)
          · have HBP := Aside0.mk (show bumpP ns nr p = (⟨p.f0, p.f1 + 1⟩, false) by unfold bumpP; rw [if_pos d1])
            have d2 : decide (p.f1 + 1 < (nr : Int)) = true := decide_eq_true d1
            clear d1
            have HR2 := Aside0.mk (show ∃ r, rest = (a' ++ ⟨p.f0, p.f1 + 1⟩ :: List.replicate b.length ⟨0, 0⟩) :: r by
              have h1 := HNX.out
              rw [HXX.out, nextW_at ns nr a' p ⟨p.f0, p.f1 + 1⟩ b HP.out.2.2.2.1 HBP.out] at h1
              cases rest with
              | nil => simp at h1
              | cons y r => exact ⟨r, by simp at h1; rw [h1]⟩)
            gi_region
            gi_wp2
            obtain ⟨r, hrest⟩ := HR2.out
            gi_roundg (r.length + 1)
            case measure => have h1 := HQ.out.2; rw [hrest] at h1; simp at h1; omega
            case rel => exact ⟨⟨pre ++ [x], _, r, by rw [HQ.out.1, hrest]; simp, rfl, HE.out _ _ _ HJW2.out ⟨grown_drew W2 N, is_cells BNW2.out⟩, blk_drew BNW2.out⟩, ⟨blk_drew BSW2.out⟩⟩
          · have d2 : decide (p.f1 + 1 < (nr : Int)) = false := decide_eq_false d1
            have D1 := Aside0.mk d1
            clear d1
            gi_region
            gi_upto_region 7 with (fail)
            have BNW3 := Aside0.mk (blk_drew BNW2.out)
            have BSW3 := Aside0.mk (blk_drew BSW2.out)
            have HJW3 := Aside0.mk (HE.out _ _ _ HJW2.out ⟨grown_drew W2 N, is_cells BNW2.out⟩)
            generalize W2.drew = W3 at *
            (try clear z0); (try clear z1); (try clear f0); (try clear f1); (try clear zs0); (try clear zs1)
            clear BNW2 BSW2 HJW2
            have z0 : W3.cell? ⟨N, m.toNat * 2, none⟩ = some (.int .i64 p.f0) := (blk_cell BNW3.out _).trans (by rw [HP.out.1, Int.toNat_natCast, List.getElem?_toArray]; exact pcells_get0 _ _ _)
            have z1 : W3.cell? ⟨N, m.toNat * 2 + 1, none⟩ = some (.int .i64 (p.f1 + 1)) := (blk_cell BNW3.out _).trans (by rw [HP.out.1, Int.toNat_natCast, List.getElem?_toArray]; exact pcells_get1 _ _ _)
            have f0 := blk_frozen BNW3.out (m.toNat * 2)
            have f1 := blk_frozen BNW3.out (m.toNat * 2 + 1)
            have zs0 : W3.cell? ⟨gs, 0, none⟩ = some (.slice A0_0 ns c0_0) := (blk_cell BSW3.out 0).trans rfl
            have zs1 : W3.cell? ⟨gs, 1, none⟩ = some (.slice A0_1 nr c0_1) := (blk_cell BSW3.out 1).trans rfl
            gi_upto_region 8 with (fail)
            have BNW4 := Aside0.mk (show (W3.setCell ⟨N, m.toNat * 2 + 1, none⟩ (.int .i64 0)).heap[N]? = some (.cells (pcells (a' ++ ⟨p.f0, 0⟩ :: List.replicate b.length ⟨0, 0⟩)).toArray 55 (0, 0)) from blk_put BNW3.out _ _ (by rw [HP.out.1, Int.toNat_natCast]; exact pcells_set1 _ _ _ _))
            have BSW4 := Aside0.mk (show (W3.setCell ⟨N, m.toNat * 2 + 1, none⟩ (.int .i64 0)).heap[gs]? = some (.cells #[.slice A0_0 ns c0_0, .slice A0_1 nr c0_1, .slice A0_2 n0_2 c0_2, .slice A0_3 n0_3 c0_3, .slice A0_4 k c0_4] 45 (0, 0)) from blk_far BSW3.out hgN _)
            have HJW4 := Aside0.mk (HE.out _ _ _ HJW3.out ⟨grown_put W3 N (m.toNat * 2 + 1) (.int .i64 0), is_cells BNW3.out⟩)
            generalize W3.setCell ⟨N, m.toNat * 2 + 1, none⟩ (.int .i64 0) = W4 at *
            (try clear z0); (try clear z1); (try clear f0); (try clear f1); (try clear zs0); (try clear zs1)
            clear BNW3 BSW3 HJW3
            have z0 : W4.cell? ⟨N, m.toNat * 2, none⟩ = some (.int .i64 p.f0) := (blk_cell BNW4.out _).trans (by rw [HP.out.1, Int.toNat_natCast, List.getElem?_toArray]; exact pcells_get0 _ _ _)
            have z1 : W4.cell? ⟨N, m.toNat * 2 + 1, none⟩ = some (.int .i64 0) := (blk_cell BNW4.out _).trans (by rw [HP.out.1, Int.toNat_natCast, List.getElem?_toArray]; exact pcells_get1 _ _ _)
            have f0 := blk_frozen BNW4.out (m.toNat * 2)
            have f1 := blk_frozen BNW4.out (m.toNat * 2 + 1)
            have zs0 : W4.cell? ⟨gs, 0, none⟩ = some (.slice A0_0 ns c0_0) := (blk_cell BSW4.out 0).trans rfl
            have zs1 : W4.cell? ⟨gs, 1, none⟩ = some (.slice A0_1 nr c0_1) := (blk_cell BSW4.out 1).trans rfl
            gi_upto_region 9 with (fail)
            have BNW5 := Aside0.mk (show (W4.setCell ⟨N, m.toNat * 2, none⟩ (.int .i64 (p.f0 + 1))).heap[N]? = some (.cells (pcells (a' ++ ⟨p.f0 + 1, 0⟩ :: List.replicate b.length ⟨0, 0⟩)).toArray 55 (0, 0)) from blk_put BNW4.out _ _ (by rw [HP.out.1, Int.toNat_natCast]; exact pcells_set0 _ _ _ _))
            have BSW5 := Aside0.mk (show (W4.setCell ⟨N, m.toNat * 2, none⟩ (.int .i64 (p.f0 + 1))).heap[gs]? = some (.cells #[.slice A0_0 ns c0_0, .slice A0_1 nr c0_1, .slice A0_2 n0_2 c0_2, .slice A0_3 n0_3 c0_3, .slice A0_4 k c0_4] 45 (0, 0)) from blk_far BSW4.out hgN _)
            have HJW5 := Aside0.mk (HE.out _ _ _ HJW4.out ⟨grown_put W4 N (m.toNat * 2) (.int .i64 (p.f0 + 1)), is_cells BNW4.out⟩)
            generalize W4.setCell ⟨N, m.toNat * 2, none⟩ (.int .i64 (p.f0 + 1)) = W5 at *
            (try clear z0); (try clear z1); (try clear f0); (try clear f1); (try clear zs0); (try clear zs1)
            clear BNW4 BSW4 HJW4
            have z0 : W5.cell? ⟨N, m.toNat * 2, none⟩ = some (.int .i64 (p.f0 + 1)) := (blk_cell BNW5.out _).trans (by rw [HP.out.1, Int.toNat_natCast, List.getElem?_toArray]; exact pcells_get0 _ _ _)
            have z1 : W5.cell? ⟨N, m.toNat * 2 + 1, none⟩ = some (.int .i64 0) := (blk_cell BNW5.out _).trans (by rw [HP.out.1, Int.toNat_natCast, List.getElem?_toArray]; exact pcells_get1 _ _ _)
            have f0 := blk_frozen BNW5.out (m.toNat * 2)
            have f1 := blk_frozen BNW5.out (m.toNat * 2 + 1)
            have zs0 : W5.cell? ⟨gs, 0, none⟩ = some (.slice A0_0 ns c0_0) := (blk_cell BSW5.out 0).trans rfl
            have zs1 : W5.cell? ⟨gs, 1, none⟩ = some (.slice A0_1 nr c0_1) := (blk_cell BSW5.out 1).trans rfl
            by_cases d3 : p.f0 + 1 < (ns : Int)
            · have HBP := Aside0.mk (show bumpP ns nr p = (⟨p.f0 + 1, 0⟩, false) by unfold bumpP; rw [if_neg D1.out, if_pos d3])
              have d4 : decide (p.f0 + 1 < (ns : Int)) = true := decide_eq_true d3
              clear d3
              have HR2 := Aside0.mk (show ∃ r, rest = (a' ++ ⟨p.f0 + 1, 0⟩ :: List.replicate b.length ⟨0, 0⟩) :: r by
                have h1 := HNX.out
                rw [HXX.out, nextW_at ns nr a' p ⟨p.f0 + 1, 0⟩ b HP.out.2.2.2.1 HBP.out] at h1
                cases rest with
                | nil => simp at h1
                | cons y r => exact ⟨r, by simp at h1; rw [h1]⟩)
              gi_region
              gi_wp2
              obtain ⟨r, hrest⟩ := HR2.out
              gi_roundg (r.length + 1)
              case measure => have h1 := HQ.out.2; rw [hrest] at h1; simp at h1; omega
              case rel => exact ⟨⟨pre ++ [x], _, r, by rw [HQ.out.1, hrest]; simp, rfl, HE.out _ _ _ HJW5.out ⟨grown_drew W5 N, is_cells BNW5.out⟩, blk_drew BNW5.out⟩, ⟨blk_drew BSW5.out⟩⟩
            · have HBP := Aside0.mk (show bumpP ns nr p = (⟨0, 0⟩, true) by unfold bumpP; rw [if_neg D1.out, if_neg d3])
              have d4 : decide (p.f0 + 1 < (ns : Int)) = false := decide_eq_false d3
              clear d3
              gi_region
              gi_upto_region 10 with (fail)
              have BNW6 := Aside0.mk (blk_drew BNW5.out)
              have BSW6 := Aside0.mk (blk_drew BSW5.out)
              have HJW6 := Aside0.mk (HE.out _ _ _ HJW5.out ⟨grown_drew W5 N, is_cells BNW5.out⟩)
              generalize W5.drew = W6 at *
              (try clear z0); (try clear z1); (try clear f0); (try clear f1); (try clear zs0); (try clear zs1)
              clear BNW5 BSW5 HJW5
              have z0 : W6.cell? ⟨N, m.toNat * 2, none⟩ = some (.int .i64 (p.f0 + 1)) := (blk_cell BNW6.out _).trans (by rw [HP.out.1, Int.toNat_natCast, List.getElem?_toArray]; exact pcells_get0 _ _ _)
              have z1 : W6.cell? ⟨N, m.toNat * 2 + 1, none⟩ = some (.int .i64 0) := (blk_cell BNW6.out _).trans (by rw [HP.out.1, Int.toNat_natCast, List.getElem?_toArray]; exact pcells_get1 _ _ _)
              have f0 := blk_frozen BNW6.out (m.toNat * 2)
              have f1 := blk_frozen BNW6.out (m.toNat * 2 + 1)
              have zs0 : W6.cell? ⟨gs, 0, none⟩ = some (.slice A0_0 ns c0_0) := (blk_cell BSW6.out 0).trans rfl
              have zs1 : W6.cell? ⟨gs, 1, none⟩ = some (.slice A0_1 nr c0_1) := (blk_cell BSW6.out 1).trans rfl
              gi_upto_region 4 with (fail)
              have BNW7 := Aside0.mk (show (W6.setCell ⟨N, m.toNat * 2, none⟩ (.int .i64 0)).heap[N]? = some (.cells (pcells (a' ++ ⟨0, 0⟩ :: List.replicate b.length ⟨0, 0⟩)).toArray 55 (0, 0)) from blk_put BNW6.out _ _ (by rw [HP.out.1, Int.toNat_natCast]; exact pcells_set0 _ _ _ _))
              have BSW7 := Aside0.mk (show (W6.setCell ⟨N, m.toNat * 2, none⟩ (.int .i64 0)).heap[gs]? = some (.cells #[.slice A0_0 ns c0_0, .slice A0_1 nr c0_1, .slice A0_2 n0_2 c0_2, .slice A0_3 n0_3 c0_3, .slice A0_4 k c0_4] 45 (0, 0)) from blk_far BSW6.out hgN _)
              have HJW7 := Aside0.mk (HE.out _ _ _ HJW6.out ⟨grown_put W6 N (m.toNat * 2) (.int .i64 0), is_cells BNW6.out⟩)
              generalize W6.setCell ⟨N, m.toNat * 2, none⟩ (.int .i64 0) = W7 at *
              (try clear z0); (try clear z1); (try clear f0); (try clear f1); (try clear zs0); (try clear zs1)
              clear BNW6 BSW6 HJW6
              have z0 : W7.cell? ⟨N, m.toNat * 2, none⟩ = some (.int .i64 0) := (blk_cell BNW7.out _).trans (by rw [HP.out.1, Int.toNat_natCast, List.getElem?_toArray]; exact pcells_get0 _ _ _)
              have z1 : W7.cell? ⟨N, m.toNat * 2 + 1, none⟩ = some (.int .i64 0) := (blk_cell BNW7.out _).trans (by rw [HP.out.1, Int.toNat_natCast, List.getElem?_toArray]; exact pcells_get1 _ _ _)
              have f0 := blk_frozen BNW7.out (m.toNat * 2)
              have f1 := blk_frozen BNW7.out (m.toNat * 2 + 1)
              have zs0 : W7.cell? ⟨gs, 0, none⟩ = some (.slice A0_0 ns c0_0) := (blk_cell BSW7.out 0).trans rfl
              have zs1 : W7.cell? ⟨gs, 1, none⟩ = some (.slice A0_1 nr c0_1) := (blk_cell BSW7.out 1).trans rfl
              gi_wp2
              gi_roundg a'.length
              case measure => have := HQ1.out; omega
              case rel =>
                refine ⟨m - 1, by first | rfl | rw [em], ⟨a', p :: b, HXX.out, next_end ns nr p ⟨0, 0⟩ b HP.out.2.2.2.1 HBP.out, by rw [HP.out.1], rfl, ?_⟩, HJW7, BSW7⟩
                simpa [List.replicate_succ] using BNW7.out
end
end Go.Proofs.YtjdajlnigiicaaaDoor.S
end
section
namespace Go.Proofs.YtjdajlnigiicaaaDoorW.PrintMore
open Go.RowKit
def ordersOf (md : Region.Mode) (ops : Array Oper) : Nat → Array Bool → List (List Nat)
  | 0, _ => [[]]
  | fuel + 1, listed => match Region.ready md ops listed with
    | [] => [[]]
    | r :: rs => (r :: rs).flatMap fun i => (ordersOf md ops fuel (listed.setIfInBounds i true)).map (i :: ·)
theorem linearise_mem (md : Region.Mode) (ops : Array Oper) : ∀ (fuel t : Nat) (listed : Array Bool), Region.linearise.go md ops fuel t listed [] ∈ ordersOf md ops fuel listed
  | 0, t, listed => by simp [Region.linearise.go, ordersOf]
  | fuel + 1, t, listed => by
    simp only [Region.linearise.go]
    change (match (Region.ready md ops listed)[t % (Region.ready md ops listed).length]? with
      | some i => Region.linearise.go md ops fuel (t / (Region.ready md ops listed).length) (listed.setIfInBounds i true) [i]
      | none => [].reverse) ∈ _
    unfold ordersOf
    cases hr : Region.ready md ops listed with
    | nil => simp
    | cons r rs =>
      cases hi : (r :: rs)[t % (r :: rs).length]? with
      | none =>
        have hlt : t % (r :: rs).length < (r :: rs).length := Nat.mod_lt _ (by simp)
        simp at hi
        simp at hlt
        omega
      | some i =>
        simp only []
        rw [linearise_go_acc, List.reverse_singleton, List.singleton_append]
        exact List.mem_flatMap.2 ⟨i, List.mem_of_getElem? hi, List.mem_map.2 ⟨_, linearise_mem md ops fuel _ _, rfl⟩⟩
section
variable {F : Fence} {n : Nat} {P : Program} {ops : Array Oper} {Q : Exit → Act → World → Prop}
theorem wpOpsIn_list : ∀ o : List Nat, wpOpsIn F n P ops Q o = wpListIn F n P ops Q (o.filterMap (ops[·]?))
  | [] => by funext a w; simp [wpOpsIn, wpListIn]
  | i :: rest => by
    funext a w
    cases h : ops[i]? with
    | none => simp [wpOpsIn, h, wpOpsIn_list rest]
    | some o => simp [wpOpsIn, h, wpOpsIn_list rest, wpListIn]
theorem wpIn_region_orders {id : Nat} {a : Act} {w : World} (hm : P.follows .mixedOrders = true) (L : List (List Nat)) (hL : ordersOf .any ops ops.size (Array.replicate ops.size false) = L)
    (h : ∀ o ∈ L, wpListIn F n P ops Q (o.filterMap (ops[·]?)) a w.drew) : (Code.region id ops true).wpIn F n P Q a w :=
  wpIn_region_draw fun t => by
    simp only [Region.schedule, hm, Bool.true_or, if_true]
    have h1 := h _ (hL ▸ linearise_mem .any ops ops.size t (Array.replicate ops.size false))
    rw [← wpOpsIn_list] at h1
    exact h1
end
end Go.Proofs.YtjdajlnigiicaaaDoorW.PrintMore
end
section
namespace Go.Proofs.YtjdajlnigiicaaaDoor.S
open Go.RowKit Go.Proofs.YtjdajlnigiicaaaDoorW.PrintWords Go.Proofs.YtjdajlnigiicaaaDoorW.PrintLast Go.Proofs.YtjdajlnigiicaaaDoorW.PrintMore
set_option linter.unusedVariables false
set_option linter.unusedSimpArgs false
theorem results_ct1 {P : Program} {fn : Func} {p u : Tmp} {ty e : TypeId} (h : fn.results = #[.cell p ty, .tmp u]) (tmps : Array Value) (w : World) (g : Nat) (v : Value) (hu : P.underlying ty = some (.slice e))
    (hp : tmps.getD p undef = .pointer (some ⟨g, 0, none⟩)) (hg : w.cell? ⟨g, 0, none⟩ = some v) :
    (results fn tmps).run P w = .ok (.tuple #[v, tmps.getD u undef]) w := by
  have hp' : tmps[p]?.getD undef = .pointer (some ⟨g, 0, none⟩) := by simpa using hp
  simp [results, h, hp', asAddr, loadVar, isAgg, run_underlying hu, hg]
theorem post_marks0 {P : Program} {fn : Func} {R : Ending → World → Prop} {a : Act} {W : World} {v : Value} (hd : a.defers = []) (hv : (results fn a.tmps).run P W = .ok v W) (h : R (.returned v) W) : bodyPostM Fence.wide 9 P fn R .ret a W := by
  show LeavesInM Fence.wide 9 P fn a.tmps R a.defers .returning W
  rw [hd]
  exact ⟨v, hv, h⟩
section
variable {P : Program} {ops : Array Oper} {rest : List Oper} {o : Oper} {a : Act} {Q : Exit → Act → World → Prop} {F : Fence} {n : Nat}
theorem Kd.S_appendIn {α : Type} (d : Kd α) {w0 W : World} (base : Nat) (hgd : o.guard = none) (s x : Operand) (t e : TypeId) (z : Value) (bytes : Nat)
    (ho : o.op = .call { callee := .builtin .append, args := #[s, x], argTypes := #[t, t] })
    (ht : P.underlying t = some (.slice e)) (hinfo : (P.info? e).map (fun i => (i.zero, i.size, i.bytes)) = some (some z, d.sz, bytes)) (hz : z.cells.size = d.sz) (hs0 : 0 < d.sz) (hb0 : 0 < bytes)
    (v : Value) (xs : List α) (p : α) (cs : List Value) (ok okp : Nat → Prop) (hs : a.eval s = v) (hx : a.eval x = .slice (some ⟨W.heap.size, 0, none⟩) 1 1) (hp : d.M W base okp p cs) (hokp : ∀ k, okp k → ok k ∧ some k ≠ v.ownBlock) (hfresh : ∀ k, W.heap.size ≤ k → ok k)
    (HO : Kd.S d e W base (fun k => ok k ∧ ¬ okp k) v xs) (HB : Below base w0 W) (hbase : base ≤ W.heap.size) (hl : (xs.length + 1) * bytes ≤ 140737488355328)
    (h : ∀ v1 w1, Kd.S d e w1 base ok v1 (xs ++ [p]) → Below base w0 w1 → W.grownBy w1 v.ownBlock → (v1.ownBlock = v.ownBlock ∨ ∃ b, v1.ownBlock = some b ∧ W.heap.size ≤ b) → wpListIn F n P ops Q rest (a.put o.dst v1) w1) :
    wpListIn F n P ops Q (o :: rest) a (W.alloc (.cells cs.toArray e)) := by
  obtain ⟨f, hf, hR⟩ := Kd.S_tag HO xs.length okp (fun _ hk h2 => h2.2 hk)
  refine Kd.R_appendIn (Kd.tag f d) base hgd s x t e z bytes ho ht hinfo hz hs0 hb0 v xs.zipIdx (p, xs.length) cs ok okp hs hx (d.M_mono (fun k hk => ⟨hk, hf k hk⟩) hp) hokp hfresh (Kd.R_mono hR (fun _ hk => hk.1)) HB hbase (by rw [List.length_zipIdx]; exact hl) ?_
  intro v1 w1 hr
  rw [← Kd.zip_snoc] at hr
  exact h v1 w1 ⟨f, hr⟩
theorem Kd.S_keptRow {α : Type} {d : Kd α} {e base : Nat} {ok : Nat → Prop} {v : Value} {xs : List α} {W W' : World} {row : Option Nat} (h : Kd.S d e W base ok v xs) (hg : W.grownBy W' row) (hr : ∀ r, row = some r → ∃ o : Obj, W.heap[r]? = some o ∧ o.isCells = false) : Kd.S d e W' base ok v xs := by
  obtain ⟨f, h⟩ := h
  exact ⟨f, Kd.R_keptRow h hg hr⟩
end
theorem keeps_below {W W' : World} (h : Below W.heap.size W W') : KeepsOthers W W' := ⟨h.size, fun k o hk _ => (h.block k (Array.getElem?_eq_some_iff.1 hk).1).trans hk⟩
def leftW (d : Int) : Nat → Int → Int
  | 0, m => m
  | k + 1, m => leftW d k (m / d)
def allP (x : S45) (most : Int) : List (List S55) × Int := if checkS x ≠ 0 then ([], checkS x) else if most < 0 then ([], 1) else if leftW ((x.f0.length : Int) * x.f1.length) x.f4.length most = 0 then ([], 2) else (allW x.f0.length x.f1.length x.f4.length, 0)
def week_All.f (l0_0 : List S87) (l0_1 : List S91) (l0_2 : List S95) (l0_3 : List S98) (l0_4 : List S101) (most : Int) : Option (List S24 × Int) := if fitsB ⟨l0_0, l0_1, l0_2, l0_3, l0_4⟩ = true ∧ most ≤ 9223372036854775807 ∧ (allP ⟨l0_0, l0_1, l0_2, l0_3, l0_4⟩ most).1.length ≤ 1000000000000 then some ((allP ⟨l0_0, l0_1, l0_2, l0_3, l0_4⟩ most).1.map S24.mk, (allP ⟨l0_0, l0_1, l0_2, l0_3, l0_4⟩ most).2) else none
theorem checkS_pos (x : S45) (h : checkS x = 0) : 0 < x.f0.length ∧ 0 < x.f1.length := by
  unfold checkS at h
  repeat (split at h; · simp at h)
  all_goals omega
set_option maxHeartbeats 8000000 in
set_option maxRecDepth 100000 in
theorem weeks_calls (V : Array Value) (hV : V.size = 5) (w : World) : Calls Tryd.prog 57 #[.agg V] w fun e w' => e = .returned (.func (.func 83) #[] #[.pointer (some ⟨w.heap.size, 0, none⟩)]) ∧ w' = w.alloc (.cells V 45) := by
  have hu := Tryd.underlying45
  go_enter Tryd.func57, Tryd.ntmps57
  go_wp2
  go_ret
  exact ⟨rfl, by simp⟩
def AInv (w : World) (gq N : Nat) (l : List S24) (W : World) : Prop :=
  Below w.heap.size w W ∧ ∃ (A : Option Addr) (c : Nat), W.heap[gq]? = some (.cells #[.slice A l.length c] 61 (0, 0)) ∧ Kd.S k24 24 W w.heap.size (fun k => k ≠ N) (.slice A l.length c) l
theorem AInv.turn {w W W' : World} {gq N B : Nat} {l : List S24} {row : Option Nat} (h : AInv w gq N l W) (hB : w.heap.size ≤ B) (hg : W.grownBy W' row) (hr : ∀ r, row = some r → B ≤ r ∧ ∃ o : Obj, W.heap[r]? = some o ∧ o.isCells = false) : AInv w gq N l W' := by
  obtain ⟨h1, A, c, h2, h3⟩ := h
  have hr' := fun r e => (hr r e).2
  exact ⟨below_kept h1 hg hB hr, A, c, blk_kept h2 hg hr', Kd.S_keptRow h3 hg hr'⟩
theorem AInv.own {w : World} {gq N B : Nat} (f : List (List S55) → List S24) (hB : w.heap.size ≤ B) : OwnFrom B (fun (pre : List (List S55)) W => AInv w gq N (f pre) W) :=
  fun _ _ _ _ h hg hr => h.turn hB hg hr
theorem AInv.step {w W W' : World} {gq N : Nat} {l : List S24} (h : AInv w gq N l W) (hq : gq ≠ N) (hN : w.heap.size ≤ N) (hg : W.grownBy W' (some N)) : AInv w gq N l W' := by
  obtain ⟨h1, A, c, h2, h3⟩ := h
  exact ⟨h1.grown hg h1.size (fun k e => by cases e; exact hN), A, c, blk_grown h2 hg (by simpa using hq), Kd.S_grown h3 hg (fun k hk => by simpa using hk)⟩
section
attribute [local go_sem] Oper.semAt_some
set_option maxHeartbeats 16000000 in
set_option maxRecDepth 100000 in
theorem week_All.calls (A0_0 : Option Addr) (c0_0 : Nat) (l0_0 : List S87) (A0_1 : Option Addr) (c0_1 : Nat) (l0_1 : List S91) (A0_2 : Option Addr) (c0_2 : Nat) (l0_2 : List S95) (A0_3 : Option Addr) (c0_3 : Nat) (l0_3 : List S98) (A0_4 : Option Addr) (c0_4 : Nat) (l0_4 : List S101) (a1 : Int) (r1 : List S24) (r2 : Int) (w : World) (hr0_0 : Kd.C k87 w A0_0 l0_0.length l0_0) (hc0_0 : l0_0.length ≤ c0_0) (hr0_1 : Kd.C k91 w A0_1 l0_1.length l0_1) (hc0_1 : l0_1.length ≤ c0_1) (hr0_2 : Kd.C k95 w A0_2 l0_2.length l0_2) (hc0_2 : l0_2.length ≤ c0_2) (hr0_3 : Kd.C k98 w A0_3 l0_3.length l0_3) (hc0_3 : l0_3.length ≤ c0_3) (hr0_4 : Kd.C k101 w A0_4 l0_4.length l0_4) (hc0_4 : l0_4.length ≤ c0_4) (hV : VOk w) (h : week_All.f l0_0 l0_1 l0_2 l0_3 l0_4 a1 = some (r1, r2)) :
    Calls Tryd.prog 27 #[(.agg #[.slice A0_0 l0_0.length c0_0, .slice A0_1 l0_1.length c0_1, .slice A0_2 l0_2.length c0_2, .slice A0_3 l0_3.length c0_3, .slice A0_4 l0_4.length c0_4]), .int .i64 a1] w fun e w' => ∃ v0_ : Value, e = .returned (.tuple #[v0_, .int .i64 r2]) ∧ Kd.S k24 24 w' w.heap.size (fun _ => True) v0_ r1 ∧ Below w.heap.size w w' := by
  have hu := Tryd.underlying45
  unfold week_All.f at h
  split at h
  case isFalse => cases h
  case isTrue hf =>
  have hr := Option.some.inj h
  have HF := Aside0.mk (show school_Check.f l0_0 l0_1 l0_2 l0_3 l0_4 = some (checkS ⟨l0_0, l0_1, l0_2, l0_3, l0_4⟩) from if_pos hf.1)
  have HV := Aside0.mk hV
  have HLim := Aside0.mk hf.2
  clear h hf hV
  have HR0_0 := Aside0.mk hr0_0
  have HC0_0 := Aside0.mk hc0_0
  clear hr0_0 hc0_0
  have HR0_1 := Aside0.mk hr0_1
  have HC0_1 := Aside0.mk hc0_1
  clear hr0_1 hc0_1
  have HR0_2 := Aside0.mk hr0_2
  have HC0_2 := Aside0.mk hc0_2
  clear hr0_2 hc0_2
  have HR0_3 := Aside0.mk hr0_3
  have HC0_3 := Aside0.mk hc0_3
  clear hr0_3 hc0_3
  have HR0_4 := Aside0.mk hr0_4
  have HC0_4 := Aside0.mk hc0_4
  clear hr0_4 hc0_4
  by_cases h0 : checkS ⟨l0_0, l0_1, l0_2, l0_3, l0_4⟩ = 0
  · have HLn := Aside0.mk (And.intro (checkS_zero ⟨l0_0, l0_1, l0_2, l0_3, l0_4⟩ h0) (checkS_pos ⟨l0_0, l0_1, l0_2, l0_3, l0_4⟩ h0))
    unfold allP at hr HLim
    rw [if_neg (by simpa using h0)] at hr HLim
    rw [h0] at HF
    clear h0
    dsimp only at hr HLim HLn
    by_cases h1 : a1 < 0
    · rw [if_pos h1] at hr
      have HR := Aside0.mk hr
      have d1 : decide (a1 < 0) = true := decide_eq_true h1
      clear hr h1
      go_enter Tryd.func27, Tryd.ntmps27
      go_wp2_with (first | ((with_reducible refine gate_dst (N := 2) rfl ?_); refine box_event ?hg (N := 2) ?hd (cs := #[.slice A0_0 l0_0.length c0_0, .slice A0_1 l0_1.length c0_1, .slice A0_2 l0_2.length c0_2, .slice A0_3 l0_3.length c0_3, .slice A0_4 l0_4.length c0_4]) (t := 45) ?hr ?_; (case hd => rfl); (case hg => rfl); (case hr => first | (go_simp; done) | (go_simp; rfl)); intro gs hgs w1 hbox hb; have HB := Aside0.mk hb; have BS := Aside0.mk hbox; clear hb hbox hgs) | ((with_reducible refine gate_dst (N := 4) rfl ?_); refine box_event ?hg (N := 4) ?hd (cs := #[.slice none 0 0]) (t := 61) ?hr ?_; (case hd => rfl); (case hg => rfl); (case hr => first | (go_simp; done) | (go_simp; rfl)); intro gq hgk w2 hbox hb; have HGK := Aside0.mk (show w.heap.size ≤ gq from hgk ▸ HB.out.size); have BK := Aside0.mk hbox; replace BS := Aside0.mk (blk_below BS.out hb); replace HB := Aside0.mk (below_step HB.out hb); clear hb hbox hgk; have zs0 : w2.cell? ⟨gs, 0, none⟩ = some (.slice A0_0 l0_0.length c0_0) := (blk_cell BS.out 0).trans rfl; have zs1 : w2.cell? ⟨gs, 1, none⟩ = some (.slice A0_1 l0_1.length c0_1) := (blk_cell BS.out 1).trans rfl; have zs2 : w2.cell? ⟨gs, 2, none⟩ = some (.slice A0_2 l0_2.length c0_2) := (blk_cell BS.out 2).trans rfl; have zs3 : w2.cell? ⟨gs, 3, none⟩ = some (.slice A0_3 l0_3.length c0_3) := (blk_cell BS.out 3).trans rfl; have zs4 : w2.cell? ⟨gs, 4, none⟩ = some (.slice A0_4 l0_4.length c0_4) := (blk_cell BS.out 4).trans rfl) | (go_at_call 26; refine (school_Check.calls _ _ l0_0 _ _ l0_1 _ _ l0_2 _ _ l0_3 _ _ l0_4 _ _ (Kd.C_below HR0_0.out HB.out) HC0_0.out (Kd.C_below HR0_1.out HB.out) HC0_1.out (Kd.C_below HR0_2.out HB.out) HC0_2.out (Kd.C_below HR0_3.out HB.out) HC0_3.out (Kd.C_below HR0_4.out HB.out) HC0_4.out (HV.out.below HB.out) HF.out).mono ?_; rintro e w3 ⟨rfl, hb⟩; clear zs0 zs1 zs2 zs3 zs4; replace BS := Aside0.mk (blk_below BS.out hb); replace BK := Aside0.mk (blk_below BK.out hb); replace HB := Aside0.mk (below_step HB.out hb); clear hb; have zs0 : w3.cell? ⟨gs, 0, none⟩ = some (.slice A0_0 l0_0.length c0_0) := (blk_cell BS.out 0).trans rfl; have zs1 : w3.cell? ⟨gs, 1, none⟩ = some (.slice A0_1 l0_1.length c0_1) := (blk_cell BS.out 1).trans rfl; have zs2 : w3.cell? ⟨gs, 2, none⟩ = some (.slice A0_2 l0_2.length c0_2) := (blk_cell BS.out 2).trans rfl; have zs3 : w3.cell? ⟨gs, 3, none⟩ = some (.slice A0_3 l0_3.length c0_3) := (blk_cell BS.out 3).trans rfl; have zs4 : w3.cell? ⟨gs, 4, none⟩ = some (.slice A0_4 l0_4.length c0_4) := (blk_cell BS.out 4).trans rfl; have zk : w3.cell? ⟨gq, 0, none⟩ = some (.slice none 0 0) := (blk_cell BK.out 0).trans rfl; have zkf := blk_frozen BK.out 0))
      have hR := HR.out
      obtain ⟨rfl, rfl⟩ := Prod.mk.inj hR
      refine bodyPost_ret (results_ct1 rfl _ _ gq _ Tryd.underlying61 rfl ((blk_cell (blk_put BK.out 0 _ rfl) 0).trans rfl)) rfl ?_
      exact ⟨_, rfl, Kd.S_nil _ _ _ _ _, below_set HB.out HGK.out⟩
    · rw [if_neg h1] at hr HLim
      have d1 : decide (a1 < 0) = false := decide_eq_false h1
      have HP1 := Aside0.mk h1
      have HR := Aside0.mk hr
      clear hr h1
      refine calls_of_marks Tryd.func27 rfl ?_
      simp only [Tryd.ntmps27, List.size_toArray, List.length_cons, List.length_nil, Nat.reduceAdd, Nat.reduceSub, Array.replicate_succ, Array.replicate_zero, List.push_toArray, List.append_toArray, List.nil_append, List.cons_append]
      go_wp2_with (first | ((with_reducible refine gate_dst (N := 2) rfl ?_); refine box_event ?hg (N := 2) ?hd (cs := #[.slice A0_0 l0_0.length c0_0, .slice A0_1 l0_1.length c0_1, .slice A0_2 l0_2.length c0_2, .slice A0_3 l0_3.length c0_3, .slice A0_4 l0_4.length c0_4]) (t := 45) ?hr ?_; (case hd => rfl); (case hg => rfl); (case hr => first | (go_simp; done) | (go_simp; rfl)); intro gs hgs w1 hbox hb; have HB := Aside0.mk hb; have BS := Aside0.mk hbox; clear hb hbox hgs) | ((with_reducible refine gate_dst (N := 4) rfl ?_); refine box_event ?hg (N := 4) ?hd (cs := #[.slice none 0 0]) (t := 61) ?hr ?_; (case hd => rfl); (case hg => rfl); (case hr => first | (go_simp; done) | (go_simp; rfl)); intro gq hgk w2 hbox hb; have HGK := Aside0.mk (show w.heap.size ≤ gq from hgk ▸ HB.out.size); have BK := Aside0.mk hbox; replace BS := Aside0.mk (blk_below BS.out hb); replace HB := Aside0.mk (below_step HB.out hb); clear hb hbox hgk; have zs0 : w2.cell? ⟨gs, 0, none⟩ = some (.slice A0_0 l0_0.length c0_0) := (blk_cell BS.out 0).trans rfl; have zs1 : w2.cell? ⟨gs, 1, none⟩ = some (.slice A0_1 l0_1.length c0_1) := (blk_cell BS.out 1).trans rfl; have zs2 : w2.cell? ⟨gs, 2, none⟩ = some (.slice A0_2 l0_2.length c0_2) := (blk_cell BS.out 2).trans rfl; have zs3 : w2.cell? ⟨gs, 3, none⟩ = some (.slice A0_3 l0_3.length c0_3) := (blk_cell BS.out 3).trans rfl; have zs4 : w2.cell? ⟨gs, 4, none⟩ = some (.slice A0_4 l0_4.length c0_4) := (blk_cell BS.out 4).trans rfl) | (go_at_call 26; refine (school_Check.calls _ _ l0_0 _ _ l0_1 _ _ l0_2 _ _ l0_3 _ _ l0_4 _ _ (Kd.C_below HR0_0.out HB.out) HC0_0.out (Kd.C_below HR0_1.out HB.out) HC0_1.out (Kd.C_below HR0_2.out HB.out) HC0_2.out (Kd.C_below HR0_3.out HB.out) HC0_3.out (Kd.C_below HR0_4.out HB.out) HC0_4.out (HV.out.below HB.out) HF.out).mono ?_; rintro e w3 ⟨rfl, hb⟩; clear zs0 zs1 zs2 zs3 zs4; replace BS := Aside0.mk (blk_below BS.out hb); replace BK := Aside0.mk (blk_below BK.out hb); replace HB := Aside0.mk (below_step HB.out hb); clear hb; have zs0 : w3.cell? ⟨gs, 0, none⟩ = some (.slice A0_0 l0_0.length c0_0) := (blk_cell BS.out 0).trans rfl; have zs1 : w3.cell? ⟨gs, 1, none⟩ = some (.slice A0_1 l0_1.length c0_1) := (blk_cell BS.out 1).trans rfl; have zs2 : w3.cell? ⟨gs, 2, none⟩ = some (.slice A0_2 l0_2.length c0_2) := (blk_cell BS.out 2).trans rfl; have zs3 : w3.cell? ⟨gs, 3, none⟩ = some (.slice A0_3 l0_3.length c0_3) := (blk_cell BS.out 3).trans rfl; have zs4 : w3.cell? ⟨gs, 4, none⟩ = some (.slice A0_4 l0_4.length c0_4) := (blk_cell BS.out 4).trans rfl; have zk : w3.cell? ⟨gq, 0, none⟩ = some (.slice none 0 0) := (blk_cell BK.out 0).trans rfl; have zkf := blk_frozen BK.out 0))
      have hm := mul_small (a := (l0_0.length : Int)) (b := (l0_1.length : Int)) (m := 50) (k := 32) (by omega) (by have := HLn.out; omega) (by omega) (by have := HLn.out; omega)
      have hm1 : 0 < (l0_0.length : Int) * (l0_1.length : Int) := Int.mul_pos (by have := HLn.out; omega) (by have := HLn.out; omega)
      obtain ⟨D, hD⟩ : ∃ D, (l0_0.length : Int) * (l0_1.length : Int) = D := ⟨_, rfl⟩
      rw [hD] at hm hm1
      have ED : wrap64 D = D := by unfold wrap64; omega
      have hd0 : ¬ D = 0 := by omega
      have HD := Aside0.mk (And.intro hm hm1)
      clear hm hm1
      go_loopg [6, 19] l0_4.length (fun q v6 v19 w' => ∃ i m : Int, v6 = .int .i64 m ∧ v19 = .int .i64 i ∧ Aside0 (i + q = l0_4.length ∧ 0 ≤ i ∧ 0 ≤ m ∧ m ≤ 9223372036854775807 ∧ leftW D q m = leftW D l0_4.length a1) ∧ w' = w3)
      case atStart => exact ⟨_, _, rfl, rfl, ⟨by omega, by omega, by have := HP1.out; omega, by have := HLim.out; omega, rfl⟩, rfl⟩
      case round =>
        obtain ⟨i, m, rfl, rfl, HI, rfl⟩ := hrel
        cases gk with
        | zero =>
          have e1 : decide (i < (l0_4.length : Int)) = false := decide_eq_false (by have := HI.out; omega)
          have hml : leftW D l0_4.length a1 = m := HI.out.2.2.2.2.symm
          by_cases m0 : m = 0
          · have m1 : (m == 0) = true := beq_iff_eq.mpr m0
            have HR2 := Aside0.mk (show ([], 2) = (r1, r2) by
              have := HR.out
              rw [hD, hml, if_pos m0] at this
              exact this)
            clear hml m0
            go_wp2
            have hR := HR2.out
            obtain ⟨rfl, rfl⟩ := Prod.mk.inj hR
            refine post_marks0 rfl (results_ct1 rfl _ _ gq _ Tryd.underlying61 rfl ((blk_cell (blk_put BK.out 0 _ rfl) 0).trans rfl)) ?_
            exact ⟨_, rfl, Kd.S_nil _ _ _ _ _, below_set HB.out HGK.out⟩
          · have m1 : (m == 0) = false := beq_eq_false_iff_ne.2 m0
            have HR2 := Aside0.mk (show ((allW l0_0.length l0_1.length l0_4.length).map S24.mk, 0) = (r1, r2) by
              have := HR.out
              rw [hD, hml, if_neg m0] at this
              exact this)
            have HL2 := Aside0.mk (show (allW l0_0.length l0_1.length l0_4.length).length ≤ 1000000000000 by
              have := HLim.out.2
              rw [hD, hml, if_neg m0] at this
              exact this)
            clear hml m0
            go_wp2_with (go_at_call 57; refine (weeks_calls _ rfl _).mono ?_; rintro e w5 ⟨rfl, rfl⟩)
            have HSw := Aside0.mk (blk_lt BK.out)
            have BS2 := Aside0.mk (blk_new wr (.cells #[.slice A0_0 l0_0.length c0_0, .slice A0_1 l0_1.length c0_1, .slice A0_2 l0_2.length c0_2, .slice A0_3 l0_3.length c0_3, .slice A0_4 l0_4.length c0_4] 45))
            have HSz := Aside0.mk (show (wr.alloc (.cells #[.slice A0_0 l0_0.length c0_0, .slice A0_1 l0_1.length c0_1, .slice A0_2 l0_2.length c0_2, .slice A0_3 l0_3.length c0_3, .slice A0_4 l0_4.length c0_4] 45)).heap.size = wr.heap.size + 1 by simp)
            replace BK := Aside0.mk (blk_alloc BK.out (.cells #[.slice A0_0 l0_0.length c0_0, .slice A0_1 l0_1.length c0_1, .slice A0_2 l0_2.length c0_2, .slice A0_3 l0_3.length c0_3, .slice A0_4 l0_4.length c0_4] 45))
            have HBA := Aside0.mk (below_alloc HB.out (.cells #[.slice A0_0 l0_0.length c0_0, .slice A0_1 l0_1.length c0_1, .slice A0_2 l0_2.length c0_2, .slice A0_3 l0_3.length c0_3, .slice A0_4 l0_4.length c0_4] 45))
            have HWw := Aside0.mk (show w.heap.size ≤ wr.heap.size from HB.out.size)
            clear HB zs0 zs1 zs2 zs3 zs4 zk zkf BS
            generalize hg2 : wr.heap.size = gs2 at *
            generalize wr.alloc (.cells #[.slice A0_0 l0_0.length c0_0, .slice A0_1 l0_1.length c0_1, .slice A0_2 l0_2.length c0_2, .slice A0_3 l0_3.length c0_3, .slice A0_4 l0_4.length c0_4] 45) = W0 at *
            have HB := HBA
            clear HBA
            refine wpIn_wide.1 (wpIn_rangeFunc_N (n := 9) rfl (by decide) (gf := 83) (lb := #[.pointer (some ⟨gs2, 0, none⟩)]) rfl trivial (fun args w => enters_ Tryd.func83 (by kernel_rfl) rfl args w)
              (weeks1_iter 8 (by decide) gs2 _ _ _ _ _ _ _ _ _ _ _ _ l0_0.length l0_1.length l0_4.length (W0.heap.size + 1 + 1) (by have := HLn.out; omega) (by have := HLn.out; omega) (by have := HLn.out; omega) (by have := HLn.out; omega) (by have := HLn.out; omega) W0 BS2.out (by have := HSz.out; omega))
              ?hRep (fun h k g cs t ht e => k g cs t ht (h g cs t ht e)) ?hKb ?hE (Below.refl _ _) (fun _ => rfl)
              (fun pre W => AInv w gq (W0.heap.size + 1 + 1) (pre.map S24.mk) W) (fun _ _ _ => False) ?hIE (AInv.own _ (by have := HSz.out; have := HWw.out; omega)) (fun _ _ _ _ _ h => h.elim) ?h0
              (fun x => { tmps := #[(.agg #[.slice A0_0 l0_0.length c0_0, .slice A0_1 l0_1.length c0_1, .slice A0_2 l0_2.length c0_2, .slice A0_3 l0_3.length c0_3, .slice A0_4 l0_4.length c0_4]), .int .i64 a1, .pointer (some ⟨gs, 0, none⟩), undef, .pointer (some ⟨gq, 0, none⟩), .int .i64 0, .int .i64 m, (.slice (some ⟨W0.heap.size + 1 + 1, 0, none⟩) l0_4.length l0_4.length), (.agg #[.slice A0_0 l0_0.length c0_0, .slice A0_1 l0_1.length c0_1, .slice A0_2 l0_2.length c0_2, .slice A0_3 l0_3.length c0_3, .slice A0_4 l0_4.length c0_4]), .int .i64 0, .int .i64 0, .bool false, undef, .int .i64 a1, .bool false, .int .i64 a1, .pointer (some ⟨gs, 4, none⟩), .slice A0_4 l0_4.length c0_4, .int .i64 l0_4.length, .int .i64 i, .bool false, u21, u22, u23, u24, u25, u26, u27, u28, u29, u30, .int .i64 m, .bool false, (.agg #[.slice A0_0 l0_0.length c0_0, .slice A0_1 l0_1.length c0_1, .slice A0_2 l0_2.length c0_2, .slice A0_3 l0_3.length c0_3, .slice A0_4 l0_4.length c0_4]), .func (.func 83) #[] #[.pointer (some ⟨gs2, 0, none⟩)], (.slice (some ⟨W0.heap.size + 1 + 1, 0, none⟩) l0_4.length l0_4.length), undef, undef, undef, undef, undef, undef, undef, undef], defers := [] }) ?assign ?body ?done ?stop)
            case hRep =>
              intro x W l o' h1 h2 h
              exact (World.putObj_heap_other (by omega)).trans h
            case hKb =>
              intro W l o o' h1 h2 h3 h4 g cs t ht h
              have hne : g ≠ l := by
                rintro rfl
                rw [h] at h2
                cases h2
                cases h3
              exact (World.putObj_heap_other hne).trans h
            case hE => exact fun _ A B h => KeepsOthers.of_grownBy h.1 (fun j o e ho => by cases e; exact h.2 o ho)
            case hIE => exact fun pre A B hi h => hi.step (by have := HSz.out; have := HSw.out; omega) (by have := HSz.out; have := HWw.out; omega) h.1
            case h0 => exact ⟨HB.out, none, 0, BK.out, Kd.S_nil _ _ _ _ _⟩
            case assign =>
              intro l x W K hK
              gi_wp2
              exact hK
            case stop =>
              intro D c pre W _ h _
              exact h.elim
            case done =>
              intro D W hD hi hK
              obtain ⟨HB, A', c', BK, HO⟩ := hi
              have HO' := Aside0.mk HO
              have HB' := Aside0.mk HB
              have BK' := Aside0.mk BK
              have zk : W.cell? ⟨gq, 0, none⟩ = some (.slice A' ((allW l0_0.length l0_1.length l0_4.length).map S24.mk).length c') := (blk_cell BK 0).trans rfl
              have zkf := blk_frozen BK 0
              have HK := Aside0.mk hK
              have HD := Aside0.mk (show w.heap.size ≤ D by have := HSz.out; have := HWw.out; omega)
              have hR := HR2.out
              obtain ⟨h1, rfl⟩ := Prod.mk.inj hR
              have HE1 := Aside0.mk h1
              clear hK hD BK HO HB hR h1
              generalize hll : (allW l0_0.length l0_1.length l0_4.length).map S24.mk = ll at *
              have HLL := Aside0.mk hll
              clear hll
              go_wp2
              have BK2 := blk_put BK'.out 0 (.slice A' ll.length c') rfl
              have HO2 := Kd.S_set HO'.out BK'.out (by decide) 0 (.slice A' ll.length c')
              have HB2 := below_set (j := 0) (v := .slice A' ll.length c') HB'.out HGK.out
              have HK2 : (W.setCell ⟨gq, 0, none⟩ (.slice A' ll.length c')).heap[D]? = some (.deferred (some [])) := (KeepsOthers.setCell W ⟨gq, 0, none⟩ (.slice A' ll.length c')).same _ _ HK.out rfl
              have hT : ∀ r, some D = some r → ∃ o : Obj, (W.setCell ⟨gq, 0, none⟩ (.slice A' ll.length c')).heap[r]? = some o ∧ o.isCells = false := fun r e => by cases e; exact ⟨_, HK2, rfl⟩
              have hne : gq ≠ D := by rintro rfl; rw [BK2] at HK2; cases HK2
              refine post_marks1 rfl HK2 (results_ct1 rfl _ _ gq _ Tryd.underlying61 rfl ((blk_cell ((World.putObj_heap_other hne).trans BK2) 0).trans rfl)) ⟨_, rfl, ?_, ?_⟩
              · rw [← HE1.out]
                exact Kd.S_mono (Kd.S_keptRow HO2 (grownBy_putObj' _ D (.deferred none)) hT) (fun _ _ => trivial)
              · exact below_kept HB2 (grownBy_putObj' _ D (.deferred none)) (Nat.le_refl _) (fun r e => ⟨by cases e; exact HD.out, hT r e⟩)
            case body =>
              intro l pre x V hi hrep hpre
              obtain ⟨HB, A', c', BK, HO⟩ := hi
              have hxm : x ∈ allW l0_0.length l0_1.length l0_4.length := by
                obtain ⟨z, hz⟩ := hpre
                rw [← hz]; simp
              have HXk := Aside0.mk (show x.length = l0_4.length ∧ l0_4.length ≤ 64 from ⟨allW_len _ _ _ x hxm, HLn.out.1.2.2⟩)
              have HLen := Aside0.mk (show ((pre.map S24.mk).length + 1) * 24 ≤ 140737488355328 by
                have h1 := hpre.length_le
                have h2 := HL2.out
                simp at h1 ⊢; omega)
              have HCl := Aside0.mk (show slices_Clone_api_Place_api_Place.f x = some x from if_pos (by have := HXk.out; omega))
              have hwl : l0_4.length = x.length := HXk.out.1.symm
              generalize hN : W0.heap.size + 1 + 1 = N at *
              generalize hll : pre.map S24.mk = ll at *
              have HLL := Aside0.mk hll
              have HV0 := Aside0.mk (And.intro (KeepsOthers.drew V) (show ∀ (g : Nat) (cs : Array Value) (t : TypeId), t = 55 ∨ t = 45 → V.heap[g]? = some (.cells cs t (0, 0)) → V.drew.heap[g]? = some (.cells cs t (0, 0)) from fun g cs t _ h => h))
              have HNs := Aside0.mk (show N < V.drew.heap.size from blk_lt hrep)
              replace BK := Aside0.mk (blk_drew BK)
              replace HO := Aside0.mk (Kd.S_drew HO)
              replace HB := Aside0.mk (below_drew HB)
              have BN := Aside0.mk (blk_drew hrep)
              clear hpre hxm hll hrep
              gi_wp2
              refine wpIn_region_orders (by kernel_rfl) [[0, 1, 2, 3, 4, 5, 6], [1, 0, 2, 3, 4, 5, 6], [1, 2, 0, 3, 4, 5, 6], [1, 2, 3, 0, 4, 5, 6], [1, 2, 3, 4, 0, 5, 6]] (by kernel_rfl) (fun o ho => ?_)
              generalize V.drew = W at *
              try rw [hwl]
              have zk : W.cell? ⟨gq, 0, none⟩ = some (.slice A' ll.length c') := (blk_cell BK.out 0).trans rfl
              have zkf := blk_frozen BK.out 0
              simp only [List.mem_cons, List.mem_nil_iff, or_false] at ho
              rcases ho with rfl | rfl | rfl | rfl | rfl
              all_goals simp only [List.filterMap_cons, List.filterMap_nil, List.getElem?_toArray, List.getElem?_cons_zero, List.getElem?_cons_succ]
              all_goals change wpListIn _ _ _ _ _ (List.cons _ (List.cons _ (List.cons _ (List.cons _ (List.cons _ (List.cons _ (List.cons _ List.nil))))))) _ _
              all_goals gi_wp2_with (first | ((try refine ⟨trivial, ?_⟩); gi_at_call 32; refine (CallsIn.inRound l (callsIn_wide.2 (slices_Clone_api_Place_api_Place.calls _ _ x x _ ?s1 ?s2 HCl.out))).mono ?_; (case s1 => exact C_of_blk BN.out (by have := HXk.out; omega)); (case s2 => exact Nat.le_refl _); rintro e w2 ⟨vc, rfl, hoc, hb⟩; obtain ⟨Ac, cc, ec⟩ := Kd.R_slice hoc; subst ec; have HOC := Aside0.mk hoc; have BK2 := Aside0.mk (blk_below BK.out hb); have HO2 := Aside0.mk (Kd.S_below HO.out hb); have HB2 := Aside0.mk (below_step HB.out hb); have HKP := Aside0.mk hb; have zk2 : w2.cell? ⟨gq, 0, none⟩ = some (.slice A' ll.length c') := (blk_cell BK2.out 0).trans rfl; have zkf2 := blk_frozen BK2.out 0; have zk4 : (w2.alloc (.cells #[.slice Ac x.length cc] 24)).cell? ⟨gq, 0, none⟩ = some (.slice A' ll.length c') := (blk_cell (blk_alloc BK2.out _) 0).trans rfl; clear hoc hb) | (gi_at_builtin; refine Kd.S_appendIn k24 (w0 := w) w.heap.size rfl (.tmp 36) (.tmp 40) 61 24 (.agg #[.slice none 0 0]) 24 rfl Tryd.underlying61 info24 rfl (by decide) (by omega) (.slice A' ll.length c') ll ⟨x⟩ [.slice Ac x.length cc] (fun k => k ≠ N) (fun k => W.heap.size ≤ k ∧ some k ≠ (Value.slice A' ll.length c').ownBlock) rfl (by first | (go_simp; done) | (go_simp; rfl)) ?aP ?aK ?aF (Kd.S_mono (Kd.S_old HO.out HKP.out) (fun k hk => ⟨hk.1, fun h2 => by have := hk.2; have := h2.1; omega⟩)) HB2.out (below_size HB2.out) HLen.out ?_; (case aP => exact ⟨_, rfl, Kd.R_mono (Kd.R_lower (Kd.R_bound (Kd.R_newR HOC.out (Kd.S_R HO.out))) (below_size HB.out)) (fun k hk => ⟨hk.2.1, hk.1.2⟩)⟩); (case aK => exact fun k hk => ⟨by have := HNs.out; have := hk.1; omega, hk.2⟩); (case aF => exact fun k hk => by have := HNs.out; have := HKP.out.size; omega); intro v1 w3 ho hb hg hat; have BK3 := Aside0.mk (blk_grown BK2.out hg (Kd.S_ne HO2.out BK2.out (by decide))); have HO3 := Aside0.mk ho; have HB3 := Aside0.mk hb; have HG3 := Aside0.mk hg; obtain ⟨A1, c1, e1⟩ := Kd.S_slice ho; subst e1; have zk3 : w3.cell? ⟨gq, 0, none⟩ = some (.slice A' ll.length c') := (blk_cell BK3.out 0).trans rfl; have zkf3 := blk_frozen BK3.out 0; clear ho hb hg hat zk2 zkf2 zk4))
              all_goals
                refine ⟨?_, ?_, ?_⟩
                · exact (((HV0.out.1.trans (keeps_below HKP.out)).trans (KeepsOthers.of_grownBy HG3.out (fun j o e ho => by
                    obtain ⟨cs, hcs⟩ := Kd.S_typed HO2.out j e
                    rw [hcs] at ho
                    cases ho
                    rfl))).trans (KeepsOthers.setCell _ _ _)).from _
                · intro g cs t ht h
                  have h1 := HV0.out.2 g cs t ht h
                  have h2 := blk_below h1 HKP.out
                  have h3 := blk_grown h2 HG3.out (Kd.S_ne HO2.out h2 (by rcases ht with rfl | rfl <;> decide))
                  refine blk_far h3 (fun e => ?_) _
                  dsimp only at e
                  subst e
                  have h4 := BK3.out
                  rw [h3] at h4
                  simp only [Option.some.injEq, Obj.cells.injEq] at h4
                  rcases ht with rfl | rfl
                  · exact absurd h4.2.1 (by decide)
                  · exact absurd h4.2.1 (by decide)
                · show AInv w gq N ((pre ++ [x]).map S24.mk) _
                  rw [List.map_append, HLL.out, List.map_cons, List.map_nil]
                  have el : (ll ++ [(⟨x⟩ : S24)]).length = ll.length + 1 := by simp
                  rw [el] at HO3
                  unfold AInv
                  rw [el]
                  exact ⟨below_set HB3.out HGK.out, A1, c1, blk_put BK3.out 0 _ rfl, Kd.S_set HO3.out BK3.out (by decide) 0 _⟩
        | succ k1 =>
          have e1 : decide (i < (l0_4.length : Int)) = true := decide_eq_true (by have := HI.out; omega)
          have hq : Int.tdiv m D = m / D := Int.tdiv_eq_ediv_of_nonneg (by have := HI.out; omega)
          have ew : wrap64 (m / D) = m / D := by
            have h1 : 0 ≤ m / D := Int.ediv_nonneg (by have := HI.out; omega) (by have := HD.out; omega)
            have h2 : m / D ≤ m := Int.ediv_le_self _ (by have := HI.out; omega)
            have := HI.out
            unfold wrap64; omega
          have ei : wrap64 (i + 1) = i + 1 := by have := HI.out; have := HLn.out; unfold wrap64; omega
          have HNx := Aside0.mk (show 0 ≤ m / D ∧ m / D ≤ 9223372036854775807 from ⟨Int.ediv_nonneg (by have := HI.out; omega) (by have := HD.out; omega), by
            have h2 : m / D ≤ m := Int.ediv_le_self _ (by have := HI.out; omega)
            have := HI.out; omega⟩)
          go_wp2
          go_roundg k1
          case measure => omega
          case rel => exact ⟨i + 1, m / D, by first | rfl | rw [ew], by first | rfl | rw [ei], ⟨by have := HI.out; omega, by have := HI.out; omega, HNx.out.1, HNx.out.2, by rw [← HI.out.2.2.2.2]; rfl⟩, rfl⟩
  · unfold allP at hr
    rw [if_pos h0] at hr
    have HR := Aside0.mk hr
    have n0 : (checkS ⟨l0_0, l0_1, l0_2, l0_3, l0_4⟩ == 0) = false := by simpa using h0
    have n3 : decide (checkS ⟨l0_0, l0_1, l0_2, l0_3, l0_4⟩ = 0) = false := decide_eq_false h0
    have n4 : (checkS ⟨l0_0, l0_1, l0_2, l0_3, l0_4⟩ != 0) = true := by simpa using h0
    clear hr h0 HLim
    generalize checkS ⟨l0_0, l0_1, l0_2, l0_3, l0_4⟩ = cs at *
    go_enter Tryd.func27, Tryd.ntmps27
    go_wp2_with (first | ((with_reducible refine gate_dst (N := 2) rfl ?_); refine box_event ?hg (N := 2) ?hd (cs := #[.slice A0_0 l0_0.length c0_0, .slice A0_1 l0_1.length c0_1, .slice A0_2 l0_2.length c0_2, .slice A0_3 l0_3.length c0_3, .slice A0_4 l0_4.length c0_4]) (t := 45) ?hr ?_; (case hd => rfl); (case hg => rfl); (case hr => first | (go_simp; done) | (go_simp; rfl)); intro gs hgs w1 hbox hb; have HB := Aside0.mk hb; have BS := Aside0.mk hbox; clear hb hbox hgs) | ((with_reducible refine gate_dst (N := 4) rfl ?_); refine box_event ?hg (N := 4) ?hd (cs := #[.slice none 0 0]) (t := 61) ?hr ?_; (case hd => rfl); (case hg => rfl); (case hr => first | (go_simp; done) | (go_simp; rfl)); intro gq hgk w2 hbox hb; have HGK := Aside0.mk (show w.heap.size ≤ gq from hgk ▸ HB.out.size); have BK := Aside0.mk hbox; replace BS := Aside0.mk (blk_below BS.out hb); replace HB := Aside0.mk (below_step HB.out hb); clear hb hbox hgk; have zs0 : w2.cell? ⟨gs, 0, none⟩ = some (.slice A0_0 l0_0.length c0_0) := (blk_cell BS.out 0).trans rfl; have zs1 : w2.cell? ⟨gs, 1, none⟩ = some (.slice A0_1 l0_1.length c0_1) := (blk_cell BS.out 1).trans rfl; have zs2 : w2.cell? ⟨gs, 2, none⟩ = some (.slice A0_2 l0_2.length c0_2) := (blk_cell BS.out 2).trans rfl; have zs3 : w2.cell? ⟨gs, 3, none⟩ = some (.slice A0_3 l0_3.length c0_3) := (blk_cell BS.out 3).trans rfl; have zs4 : w2.cell? ⟨gs, 4, none⟩ = some (.slice A0_4 l0_4.length c0_4) := (blk_cell BS.out 4).trans rfl) | (go_at_call 26; refine (school_Check.calls _ _ l0_0 _ _ l0_1 _ _ l0_2 _ _ l0_3 _ _ l0_4 _ _ (Kd.C_below HR0_0.out HB.out) HC0_0.out (Kd.C_below HR0_1.out HB.out) HC0_1.out (Kd.C_below HR0_2.out HB.out) HC0_2.out (Kd.C_below HR0_3.out HB.out) HC0_3.out (Kd.C_below HR0_4.out HB.out) HC0_4.out (HV.out.below HB.out) HF.out).mono ?_; rintro e w3 ⟨rfl, hb⟩; clear zs0 zs1 zs2 zs3 zs4; replace BS := Aside0.mk (blk_below BS.out hb); replace BK := Aside0.mk (blk_below BK.out hb); replace HB := Aside0.mk (below_step HB.out hb); clear hb; have zs0 : w3.cell? ⟨gs, 0, none⟩ = some (.slice A0_0 l0_0.length c0_0) := (blk_cell BS.out 0).trans rfl; have zs1 : w3.cell? ⟨gs, 1, none⟩ = some (.slice A0_1 l0_1.length c0_1) := (blk_cell BS.out 1).trans rfl; have zs2 : w3.cell? ⟨gs, 2, none⟩ = some (.slice A0_2 l0_2.length c0_2) := (blk_cell BS.out 2).trans rfl; have zs3 : w3.cell? ⟨gs, 3, none⟩ = some (.slice A0_3 l0_3.length c0_3) := (blk_cell BS.out 3).trans rfl; have zs4 : w3.cell? ⟨gs, 4, none⟩ = some (.slice A0_4 l0_4.length c0_4) := (blk_cell BS.out 4).trans rfl; have zk : w3.cell? ⟨gq, 0, none⟩ = some (.slice none 0 0) := (blk_cell BK.out 0).trans rfl; have zkf := blk_frozen BK.out 0))
    have hR := HR.out
    obtain ⟨rfl, rfl⟩ := Prod.mk.inj hR
    refine bodyPost_ret (results_ct1 rfl _ _ gq _ Tryd.underlying61 rfl ((blk_cell (blk_put BK.out 0 _ rfl) 0).trans rfl)) rfl ?_
    exact ⟨_, rfl, Kd.S_nil _ _ _ _ _, below_set HB.out HGK.out⟩
end
end Go.Proofs.YtjdajlnigiicaaaDoor.S
end
section
namespace Go.Proofs.YtjdajlnigiicaaaDoor.S
open Go.RowKit Go.Proofs.YtjdajlnigiicaaaDoorW.PrintWords Go.Proofs.YtjdajlnigiicaaaDoorW.PrintLast Go.Proofs.YtjdajlnigiicaaaDoorW.PrintMore
set_option linter.unusedVariables false
set_option linter.unusedSimpArgs false
def bytesB (l : List Int) : Bool := l.all fun x => decide (0 ≤ x) && decide (x < 256)
def rdInt : List Int → Nat → Nat → Nat × Nat × Int
  | [], _, _ => (0, 0, 10)
  | c :: r, i, u => if i = 9 ∧ 1 < c then (0, 0, 11) else if 0 < i ∧ c = 0 then (0, 0, 11) else if c < 128 then (u + c.toNat * 128 ^ i, i + 1, 0) else rdInt r (i + 1) (u + (c.toNat - 128) * 128 ^ i)
def unzz (u : Nat) : Int := if u % 2 = 0 then ((u / 2 : Nat) : Int) else -((u / 2 : Nat) : Int) - 1
def getInt (l : List Int) (a : Int) : Int × Int × Int :=
  if a < 0 ∨ (l.length : Int) < a then (0, 0, 1) else
    let t := rdInt (l.drop a.toNat) 0 0
    if t.2.2 = 0 then (unzz t.1, a + t.2.1, 0) else (0, 0, t.2.2)
def octet_GetInt.f (l0 : List Int) (a1 : Int) : Option (Int × Int × Int) := if bytesB l0 = true ∧ l0.length < 140737488355328 then some (getInt l0 a1) else none
theorem bytesB_mem {l : List Int} (h : bytesB l = true) (x : Int) (hx : x ∈ l) : 0 ≤ x ∧ x < 256 := by
  unfold bytesB at h
  have := List.all_eq_true.1 h x hx
  simpa using this
theorem low7 {x : Int} (h0 : 0 ≤ x) (h1 : x < 256) : Go.bits .and .u8 x 127 = x % 128 := by
  obtain ⟨a, rfl⟩ := Int.eq_ofNat_of_zero_le h0
  have ha : a < 256 := by omega
  have := (bits_nat .u8 8 (by decide) wraps_u8 a 127 ha (by decide)).1
  rw [show ((127 : Nat) : Int) = 127 from rfl] at this
  rw [this]
  have h : ∀ b : Fin 256, (b.1 &&& 127) = b.1 % 128 := by decide +kernel
  have h2 : a &&& 127 = a % 128 := h ⟨a, ha⟩
  rw [h2]
  omega
theorem or_add (u c i : Nat) (hu : u < 128 ^ i) : u ||| (c * 128 ^ i) = u + c * 128 ^ i := by
  have h1 : (128 : Nat) ^ i = 2 ^ (7 * i) := by rw [Nat.pow_mul]
  rw [h1] at hu ⊢
  rw [Nat.or_comm, ← Nat.shiftLeft_eq, ← Nat.shiftLeft_add_eq_or_of_lt hu]
  omega
theorem or_put (u c i : Nat) (hu : u < 128 ^ i) (hw : u + c * 128 ^ i < 18446744073709551616) : Go.bits .or .u64 (u : Int) ((c * 128 ^ i : Nat) : Int) = ((u + c * 128 ^ i : Nat) : Int) := by
  have := (bits_nat .u64 64 (by decide) (fun n h0 h1 => by rw [IntKind.wrap_u64]; omega) u (c * 128 ^ i) (by omega) (by omega)).2
  rw [this, or_add u c i hu]
theorem unzz_eq (u : Nat) (hu : u < 18446744073709551616) : Go.bits .xor .i64 (wrap64 ((u : Int) / 2)) (wrap64 (-(wrap64 (Go.bits .and .u64 (u : Int) 1)))) = unzz u := by
  have h1 := (bits_nat .u64 64 (by decide) (fun n h0 h1 => by rw [IntKind.wrap_u64]; omega) u 1 (by omega) (by omega)).1
  rw [show ((1 : Nat) : Int) = 1 from rfl] at h1
  rw [h1, Nat.and_one_is_mod]
  have e1 : wrap64 ((u : Int) / 2) = ((u / 2 : Nat) : Int) := by unfold wrap64; omega
  rw [e1]
  have hw : ∀ x : Int, IntKind.i64.wrap x = wrap64 x := i64_w
  unfold unzz
  by_cases h : u % 2 = 0
  · rw [if_pos h, h]
    have e2 : wrap64 (-(wrap64 ((0 : Nat) : Int))) = 0 := by unfold wrap64; omega
    rw [e2]
    simp only [Go.bits, BitVec.ofInt_natCast, hw]
    have : (BitVec.ofNat IntKind.i64.bits (u / 2) ^^^ BitVec.ofInt IntKind.i64.bits 0).toNat = u / 2 := by
      rw [BitVec.toNat_xor]
      simp [IntKind.bits]
      omega
    rw [this]
    unfold wrap64; omega
  · rw [if_neg h, show u % 2 = 1 by omega]
    have e2 : wrap64 (-(wrap64 ((1 : Nat) : Int))) = -1 := by unfold wrap64; omega
    rw [e2]
    simp only [Go.bits, BitVec.ofInt_natCast, hw]
    have h3 : (BitVec.ofInt IntKind.i64.bits (-1)) = BitVec.allOnes 64 := by show BitVec.ofInt 64 (-1) = BitVec.allOnes 64; decide
    have : (BitVec.ofNat IntKind.i64.bits (u / 2) ^^^ BitVec.ofInt IntKind.i64.bits (-1)).toNat = 18446744073709551615 - u / 2 := by
      rw [h3]
      have h4 := BitVec.toNat_not (x := BitVec.ofNat 64 (u / 2))
      rw [← BitVec.xor_allOnes] at h4
      have h5 : (BitVec.ofNat 64 (u / 2)).toNat = u / 2 := by simp; omega
      rw [h5] at h4
      exact h4
    rw [this]
    unfold wrap64; omega
theorem rdInt_cons (c : Int) (r : List Int) (i u : Nat) : rdInt (c :: r) i u = if i = 9 ∧ 1 < c then (0, 0, 11) else if 0 < i ∧ c = 0 then (0, 0, 11) else if c < 128 then (u + c.toNat * 128 ^ i, i + 1, 0) else rdInt r (i + 1) (u + (c.toNat - 128) * 128 ^ i) := rfl
section
attribute [local go_sem] Oper.semAt_some
set_option maxHeartbeats 8000000 in
set_option maxRecDepth 100000 in
theorem octet_GetInt.calls (A0 : Option Addr) (c0 : Nat) (l0 : List Int) (a1 : Int) (r1 : Int) (r2 : Int) (r3 : Int) (w : World) (hr0 : Kd.C (Kd.int .u8) w A0 l0.length l0) (hc0 : l0.length ≤ c0) (h : octet_GetInt.f l0 a1 = some (r1, r2, r3)) :
    Calls Tryd.prog 33 #[.slice A0 l0.length c0, .int .i64 a1] w fun e w' => e = .returned (.tuple #[.int .i64 r1, .int .i64 r2, .int .i64 r3]) ∧ Drawn0 w w' := by
  unfold octet_GetInt.f at h
  split at h
  case isFalse => cases h
  case isTrue hlim =>
  replace h := Option.some.inj h
  have HR0 := Aside0.mk hr0
  have HC0 := Aside0.mk hc0
  have HL := Aside0.mk hlim
  clear hr0 hc0 hlim
  unfold getInt at h
  by_cases hout : a1 < 0 ∨ (l0.length : Int) < a1
  · rw [if_pos hout] at h
    obtain ⟨rfl, h'⟩ := Prod.mk.inj h
    obtain ⟨rfl, rfl⟩ := Prod.mk.inj h'
    clear h h'
    by_cases c4 : a1 < 0
    · have c4b0 : decide (a1 < 0) = true := decide_eq_true c4
      clear c4
      go_enter Tryd.func33, Tryd.ntmps33
      go_wp2
      go_ret3
      exact ⟨by first | rfl | (simp only [Ending.returned.injEq, Value.tuple.injEq]; simp [HR1.out, HR2.out]), by repeat (first | exact Drawn0.refl _ | apply Drawn0.step)⟩
    · have c4b0 : decide (a1 < 0) = false := decide_eq_false c4
      have c5b0 : decide ((l0.length : Int) < a1) = true := decide_eq_true (by omega)
      have c6b0 : decide (a1 > (l0.length : Int)) = true := decide_eq_true (by omega)
      clear c4
      go_enter Tryd.func33, Tryd.ntmps33
      go_wp2
      go_ret3
      exact ⟨by first | rfl | (simp only [Ending.returned.injEq, Value.tuple.injEq]; simp [HR1.out, HR2.out]), by repeat (first | exact Drawn0.refl _ | apply Drawn0.step)⟩
  · rw [if_neg hout] at h
    have c4b0 : decide (a1 < 0) = false := decide_eq_false (by omega)
    have c5b0 : decide ((l0.length : Int) < a1) = false := decide_eq_false (by omega)
    have c6b0 : decide (a1 > (l0.length : Int)) = false := decide_eq_false (by omega)
    have c6 : decide (0 ≤ a1) = true := decide_eq_true (by omega)
    have c7 : decide (a1 ≤ (l0.length : Int)) = true := decide_eq_true (by omega)
    have d6 := eq_true (show 0 ≤ a1 by omega)
    have d7 := eq_true (show a1 ≤ (l0.length : Int) by omega)
    have HO := Aside0.mk (show 0 ≤ a1 ∧ a1 ≤ (l0.length : Int) by omega)
    clear hout
    obtain ⟨i08, hi08, _, hsz8, _⟩ := info_parts info5
    obtain ⟨A8, hcut8, hA8, hC8⟩ := print_drop_of (P := Tryd.prog) (Value.int .u8) 0 26 5 .i64 Tryd.underlying26 hi08 hsz8 A0 c0 l0 a1 (of_decide_eq_true (by first | (with_reducible assumption) | assumption)) (of_decide_eq_true (by first | (with_reducible assumption) | assumption)) HC0.out
    have HR118 := Aside0.mk (Kd.C_of_reads (h1 := fun _ => rfl) (hA8 _ (Kd.reads_of_C HR0.out)))
    have HC118 := Aside0.mk hC8
    clear hA8 hC8 hi08 hsz8
    have HBy := Aside0.mk (show ∀ x ∈ l0.drop a1.toNat, 0 ≤ x ∧ x < 256 from fun x hx => bytesB_mem HL.out.1 x (List.mem_of_mem_drop hx))
    have HLn := Aside0.mk (show (l0.drop a1.toNat).length = l0.length - a1.toNat by rw [List.length_drop])
    have HLm := Aside0.mk (show l0.length - a1.toNat + a1.toNat = l0.length by have := HO.out; omega)
    have HH := Aside0.mk h
    clear h
    generalize l0.drop a1.toNat = L at *
    go_enter Tryd.func33, Tryd.ntmps33
    go_wp2
    generalize l0.length - a1.toNat = N at *
    generalize c0 - a1.toNat = C at *
    have EN := HLn.out
    subst EN
    clear HLn c4b0 c5b0 c6b0 c6 c7 d6 d7
    go_loopg [7, 22] L.length (fun kq v7 v22 w' => ∃ (y x : Int), v7 = .int .u64 y ∧ v22 = .int .i64 x ∧ Aside0 (∃ u i : Nat, y = u ∧ x = i ∧ i ≤ 9 ∧ u < 128 ^ i ∧ i + kq = L.length ∧ rdInt L 0 0 = rdInt (L.drop i) i u) ∧ Drawn0 w w')
    case atStart => exact ⟨0, 0, rfl, rfl, ⟨0, 0, rfl, rfl, by omega, by simp, by omega, rfl⟩, Drawn0.refl _⟩
    case round =>
      obtain ⟨y, x, rfl, rfl, HI, ⟨m2, rfl⟩⟩ := hrel
      obtain ⟨u, i, hy, hx, hi9, hu, hk, hT⟩ := HI.out
      cases gk with
      | zero =>
        have e1 : decide (x < (L.length : Int)) = false := decide_eq_false (by omega)
        rw [List.drop_eq_nil_of_le (by omega)] at hT
        have hh := HH.out
        simp only [hT, rdInt] at hh
        rw [if_neg (by decide)] at hh
        obtain ⟨rfl, h'⟩ := Prod.mk.inj hh
        obtain ⟨rfl, rfl⟩ := Prod.mk.inj h'
        clear hT hh h' hy hx hi9 hu hk HI
        go_wp2
        go_ret3
        exact ⟨by first | rfl | (simp only [Ending.returned.injEq, Value.tuple.injEq]; simp [HR1.out, HR2.out]), by repeat (first | exact Drawn0.refl _ | apply Drawn0.step)⟩
      | succ k1 =>
        have hi : i < L.length := by omega
        have e1 : decide (x < (L.length : Int)) = true := decide_eq_true (by omega)
        rw [List.drop_eq_getElem_cons hi, rdInt_cons] at hT
        have hrd : rd L x = L[i] := by rw [hx]; first | exact rd_nat hi | simp [rd, hi]
        have hc := HBy.out L[i] (List.getElem_mem hi)
        obtain ⟨ad9, e9, hx9⟩ := Kd.at_int HR118.out x (by omega) (by omega)
        cases e9
        rw [hrd] at hx9
        generalize L[i] = c at *
        have p9 := eq_true (show 0 ≤ x by omega)
        have q9 := eq_true (show x < (L.length : Int) by omega)
        have HU := Aside0.mk hu
        have HI9 := Aside0.mk (show y = u ∧ x = i ∧ i ≤ 9 ∧ i + (k1 + 1) = L.length from ⟨hy, hx, hi9, hk⟩)
        have HTT := Aside0.mk hT
        have HCC := Aside0.mk hc
        clear hrd hT hc HBy hi hu hy hx hi9 hk HI
        by_cases b1 : i = 9 ∧ 1 < c
        · have hT := HTT.out
          rw [if_pos b1] at hT
          have hh := HH.out
          simp only [hT] at hh
          rw [if_neg (by decide)] at hh
          obtain ⟨rfl, h'⟩ := Prod.mk.inj hh
          obtain ⟨rfl, rfl⟩ := Prod.mk.inj h'
          have f1 : decide (c > 1) = true := decide_eq_true b1.2
          have f2 : (x == 9) = true := beq_iff_eq.mpr (by have := HI9.out; omega)
          clear hT hh h' b1
          go_wp2
          go_ret3
          exact ⟨by first | rfl | (simp only [Ending.returned.injEq, Value.tuple.injEq]; simp [HR1.out, HR2.out]), by repeat (first | exact Drawn0.refl _ | apply Drawn0.step)⟩
        · have HB1 := Aside0.mk b1
          by_cases b2 : 0 < i ∧ c = 0
          · have hT := HTT.out
            rw [if_neg b1, if_pos b2] at hT
            have hh := HH.out
            simp only [hT] at hh
            rw [if_neg (by decide)] at hh
            obtain ⟨rfl, h'⟩ := Prod.mk.inj hh
            obtain ⟨rfl, rfl⟩ := Prod.mk.inj h'
            have f1 : decide (x > 0) = true := decide_eq_true (by have := HI9.out; omega)
            have f2 : (c == 0) = true := beq_iff_eq.mpr b2.2
            have f3 : decide (c > 1) = false := decide_eq_false (by have := b2.2; omega)
            clear hT hh h' b1 b2
            by_cases b3 : x = 9
            · have f4 : (x == 9) = true := beq_iff_eq.mpr b3
              clear b3
              go_wp2
              go_ret3
              exact ⟨by first | rfl | (simp only [Ending.returned.injEq, Value.tuple.injEq]; simp [HR1.out, HR2.out]), by repeat (first | exact Drawn0.refl _ | apply Drawn0.step)⟩
            · have f4 : (x == 9) = false := beq_eq_false_iff_ne.2 b3
              clear b3
              go_wp2
              go_ret3
              exact ⟨by first | rfl | (simp only [Ending.returned.injEq, Value.tuple.injEq]; simp [HR1.out, HR2.out]), by repeat (first | exact Drawn0.refl _ | apply Drawn0.step)⟩
          · have HB2 := Aside0.mk b2
            have hT := HTT.out
            rw [if_neg b1, if_neg b2] at hT
            have HT2 := Aside0.mk hT
            clear hT b1 b2 HTT
            have E7 : wrap64 (7 * x) = 7 * x := by have := HI9.out; unfold wrap64; omega
            have E8 : IntKind.i64.wrap (7 * x) = 7 * x := (i64_w _).trans E7
            have L7 := low7 HCC.out.1 HCC.out.2
            have E9 : IntKind.u64.wrap (c % 128) = c % 128 := by have := HCC.out; rw [IntKind.wrap_u64]; omega
            have P7 : decide (0 ≤ 7 * x) = true := decide_eq_true (by have := HI9.out; omega)
            have P8 := eq_true (show 0 ≤ 7 * x by have := HI9.out; omega)
            obtain ⟨z, hz⟩ : ∃ z, IntKind.u64.wrap (c % 128 * 2 ^ min (7 * x).toNat 64) = z := ⟨_, rfl⟩
            obtain ⟨y2, hy2⟩ : ∃ y2, Go.bits .or .u64 y z = y2 := ⟨_, rfl⟩
            have HY2 := Aside0.mk (show y2 = ((u + (c % 128).toNat * 128 ^ i : Nat) : Int) ∧ (u + (c % 128).toNat * 128 ^ i < 18446744073709551616) ∧ (u + (c % 128).toNat * 128 ^ i < 128 ^ (i + 1)) by
              have h1 := HI9.out; have h2 := HU.out; have h3 := HCC.out; have h4 := HB1.out
              obtain ⟨rfl, rfl, h5, h6⟩ := h1
              obtain ⟨d, hd⟩ : ∃ d, (c % 128).toNat = d := ⟨_, rfl⟩
              have hd2 : c % 128 = (d : Int) := by omega
              have hp : (128 : Nat) ^ i = 2 ^ (7 * i) := by rw [Nat.pow_mul]
              have hm : min ((7 : Int) * (i : Int)).toNat 64 = 7 * i := by omega
              have hlt : u + d * 128 ^ i < 128 ^ (i + 1) := by
                have : (d + 1) * 128 ^ i ≤ 128 * 128 ^ i := Nat.mul_le_mul_right _ (by omega)
                rw [Nat.pow_succ, Nat.mul_comm (128 ^ i)]
                rw [Nat.add_mul] at this
                omega
              have hb : u + d * 128 ^ i < 18446744073709551616 := by
                by_cases h9 : i = 9
                · subst h9
                  have hd1 : d ≤ 1 := by omega
                  have : d * 128 ^ 9 ≤ 1 * 128 ^ 9 := Nat.mul_le_mul_right _ hd1
                  omega
                · have : 128 ^ (i + 1) ≤ 128 ^ 9 := Nat.pow_le_pow_right (by decide) (by omega)
                  omega
              rw [hd]
              refine ⟨?_, hb, hlt⟩
              rw [← hy2, ← hz, hm, hd2]
              have e3 : IntKind.u64.wrap ((d : Int) * 2 ^ (7 * i)) = ((d * 128 ^ i : Nat) : Int) := by
                rw [IntKind.wrap_u64, hp]
                have : d * 128 ^ i < 18446744073709551616 := by omega
                rw [hp] at this
                have e4 : (d : Int) * 2 ^ (7 * i) = ((d * 2 ^ (7 * i) : Nat) : Int) := by rw [Int.natCast_mul, Int.natCast_pow]; rfl
                rw [e4]
                generalize d * 2 ^ (7 * i) = q at this ⊢
                omega
              rw [e3]
              exact or_put u d i h2 hb)
            have HZ := Aside0.mk hz
            have HZ' := Aside0.mk (show IntKind.u64.wrap (c % 128 * 2 ^ (7 * x).toNat) = z by rw [← hz]; congr 3; have := HI9.out; omega)
            have hz' := HZ'.out
            have HYY := Aside0.mk hy2
            by_cases b3 : x = 9
            · have f4 : (x == 9) = true := beq_iff_eq.mpr b3
              have f3 : decide (c > 1) = false := decide_eq_false (by have := HB1.out; have := HI9.out; omega)
              have f1 : decide (x > 0) = true := decide_eq_true (by omega)
              have f2 : (c == 0) = false := beq_eq_false_iff_ne.2 (by have := HB2.out; have := HI9.out; omega)
              clear b3
              by_cases b5 : c < 128
              · have f5 : decide (c < 128) = true := decide_eq_true b5
                have hT := HT2.out
                rw [if_pos b5] at hT
                have hh := HH.out
                simp only [hT] at hh
                rw [if_pos trivial] at hh
                obtain ⟨h1, h'⟩ := Prod.mk.inj hh
                obtain ⟨h2, rfl⟩ := Prod.mk.inj h'
                have HR1 := Aside0.mk (show Go.bits .xor .i64 (wrap64 (y2 / 2)) (wrap64 (-(wrap64 (Go.bits .and .u64 y2 1)))) = r1 by
                  rw [HY2.out.1, unzz_eq _ HY2.out.2.1, ← h1, show (c % 128).toNat = c.toNat by have := HCC.out; omega])
                have HR2 := Aside0.mk (show wrap64 (wrap64 (a1 + x) + 1) = r2 by
                  rw [← h2]
                  have := HI9.out; have := HL.out.2; have := HLm.out; have := HO.out
                  unfold wrap64; omega)
                have hr1 := HR1.out
                have hr2 := HR2.out
                clear hT hh h' h1 h2 b5
                go_wp2
                go_ret3
                exact ⟨by first | rfl | (simp only [Ending.returned.injEq, Value.tuple.injEq]; simp [HR1.out, HR2.out]), by repeat (first | exact Drawn0.refl _ | apply Drawn0.step)⟩
              · have f5 : decide (c < 128) = false := decide_eq_false b5
                have hT := HT2.out
                rw [if_neg b5] at hT
                have HT3 := Aside0.mk hT
                have HW := Aside0.mk (show wrap64 (x + 1) = x + 1 by have := HI9.out; unfold wrap64; omega)
                have hw := HW.out
                have HC1 := Aside0.mk (show 128 ≤ c by omega)
                clear hT b5 hz hy2
                have hz := HZ.out
                have hy2 := HYY.out
                go_wp2
                go_roundg k1
                case measure => omega
                case rel =>
                  refine ⟨y2, x + 1, by first | rfl | rw [HYY.out], by first | rfl | rw [HW.out], ⟨u + (c % 128).toNat * 128 ^ i, i + 1, HY2.out.1, by have := HI9.out; omega, ?_, HY2.out.2.2, by have := HI9.out; omega, ?_⟩, by repeat (first | exact Drawn0.refl _ | apply Drawn0.step)⟩
                  · have := HI9.out; have := HB1.out; have := HC1.out
                    omega
                  · rw [HT3.out, show (c % 128).toNat = c.toNat - 128 by have := HCC.out; have := HC1.out; omega]
            · have f4 : (x == 9) = false := beq_eq_false_iff_ne.2 b3
              clear b3
              by_cases b4 : x > 0
              · have f1 : decide (x > 0) = true := decide_eq_true b4
                have f2 : (c == 0) = false := beq_eq_false_iff_ne.2 (by have := HB2.out; have := HI9.out; omega)
                clear b4
                by_cases b5 : c < 128
                · have f5 : decide (c < 128) = true := decide_eq_true b5
                  have hT := HT2.out
                  rw [if_pos b5] at hT
                  have hh := HH.out
                  simp only [hT] at hh
                  rw [if_pos trivial] at hh
                  obtain ⟨h1, h'⟩ := Prod.mk.inj hh
                  obtain ⟨h2, rfl⟩ := Prod.mk.inj h'
                  have HR1 := Aside0.mk (show Go.bits .xor .i64 (wrap64 (y2 / 2)) (wrap64 (-(wrap64 (Go.bits .and .u64 y2 1)))) = r1 by
                    rw [HY2.out.1, unzz_eq _ HY2.out.2.1, ← h1, show (c % 128).toNat = c.toNat by have := HCC.out; omega])
                  have HR2 := Aside0.mk (show wrap64 (wrap64 (a1 + x) + 1) = r2 by
                    rw [← h2]
                    have := HI9.out; have := HL.out.2; have := HLm.out; have := HO.out
                    unfold wrap64; omega)
                  have hr1 := HR1.out
                  have hr2 := HR2.out
                  clear hT hh h' h1 h2 b5
                  go_wp2
                  go_ret3
                  exact ⟨by first | rfl | (simp only [Ending.returned.injEq, Value.tuple.injEq]; simp [HR1.out, HR2.out]), by repeat (first | exact Drawn0.refl _ | apply Drawn0.step)⟩
                · have f5 : decide (c < 128) = false := decide_eq_false b5
                  have hT := HT2.out
                  rw [if_neg b5] at hT
                  have HT3 := Aside0.mk hT
                  have HW := Aside0.mk (show wrap64 (x + 1) = x + 1 by have := HI9.out; unfold wrap64; omega)
                  have hw := HW.out
                  have HC1 := Aside0.mk (show 128 ≤ c by omega)
                  clear hT b5 hz hy2
                  have hz := HZ.out
                  have hy2 := HYY.out
                  go_wp2
                  go_roundg k1
                  case measure => omega
                  case rel =>
                    refine ⟨y2, x + 1, by first | rfl | rw [HYY.out], by first | rfl | rw [HW.out], ⟨u + (c % 128).toNat * 128 ^ i, i + 1, HY2.out.1, by have := HI9.out; omega, ?_, HY2.out.2.2, by have := HI9.out; omega, ?_⟩, by repeat (first | exact Drawn0.refl _ | apply Drawn0.step)⟩
                    · have := HI9.out; have := HB1.out; have := HC1.out
                      omega
                    · rw [HT3.out, show (c % 128).toNat = c.toNat - 128 by have := HCC.out; have := HC1.out; omega]
              · have f1 : decide (x > 0) = false := decide_eq_false b4
                clear b4
                by_cases b5 : c < 128
                · have f5 : decide (c < 128) = true := decide_eq_true b5
                  have hT := HT2.out
                  rw [if_pos b5] at hT
                  have hh := HH.out
                  simp only [hT] at hh
                  rw [if_pos trivial] at hh
                  obtain ⟨h1, h'⟩ := Prod.mk.inj hh
                  obtain ⟨h2, rfl⟩ := Prod.mk.inj h'
                  have HR1 := Aside0.mk (show Go.bits .xor .i64 (wrap64 (y2 / 2)) (wrap64 (-(wrap64 (Go.bits .and .u64 y2 1)))) = r1 by
                    rw [HY2.out.1, unzz_eq _ HY2.out.2.1, ← h1, show (c % 128).toNat = c.toNat by have := HCC.out; omega])
                  have HR2 := Aside0.mk (show wrap64 (wrap64 (a1 + x) + 1) = r2 by
                    rw [← h2]
                    have := HI9.out; have := HL.out.2; have := HLm.out; have := HO.out
                    unfold wrap64; omega)
                  have hr1 := HR1.out
                  have hr2 := HR2.out
                  clear hT hh h' h1 h2 b5
                  go_wp2
                  go_ret3
                  exact ⟨by first | rfl | (simp only [Ending.returned.injEq, Value.tuple.injEq]; simp [HR1.out, HR2.out]), by repeat (first | exact Drawn0.refl _ | apply Drawn0.step)⟩
                · have f5 : decide (c < 128) = false := decide_eq_false b5
                  have hT := HT2.out
                  rw [if_neg b5] at hT
                  have HT3 := Aside0.mk hT
                  have HW := Aside0.mk (show wrap64 (x + 1) = x + 1 by have := HI9.out; unfold wrap64; omega)
                  have hw := HW.out
                  have HC1 := Aside0.mk (show 128 ≤ c by omega)
                  clear hT b5 hz hy2
                  have hz := HZ.out
                  have hy2 := HYY.out
                  go_wp2
                  go_roundg k1
                  case measure => omega
                  case rel =>
                    refine ⟨y2, x + 1, by first | rfl | rw [HYY.out], by first | rfl | rw [HW.out], ⟨u + (c % 128).toNat * 128 ^ i, i + 1, HY2.out.1, by have := HI9.out; omega, ?_, HY2.out.2.2, by have := HI9.out; omega, ?_⟩, by repeat (first | exact Drawn0.refl _ | apply Drawn0.step)⟩
                    · have := HI9.out; have := HB1.out; have := HC1.out
                      omega
                    · rw [HT3.out, show (c % 128).toNat = c.toNat - 128 by have := HCC.out; have := HC1.out; omega]
end
end Go.Proofs.YtjdajlnigiicaaaDoor.S
end
section
namespace Go.Proofs.YtjdajlnigiicaaaDoor.S
open Go.RowKit Go.Proofs.YtjdajlnigiicaaaDoorW.PrintWords Go.Proofs.YtjdajlnigiicaaaDoorW.PrintLast Go.Proofs.YtjdajlnigiicaaaDoorW.PrintMore
set_option linter.unusedVariables false
set_option linter.unusedSimpArgs false
def getGo (b : List Int) : Nat → List S55 → Int → List S55 × Int × Int
  | 0, acc, next => (acc, next, 0)
  | m + 1, acc, next => if (getInt b next).2.2 = 0 then (if (getInt b (getInt b next).2.1).2.2 = 0 then getGo b m (acc ++ [⟨(getInt b next).1, (getInt b (getInt b next).2.1).1⟩]) (getInt b (getInt b next).2.1).2.1 else ([], 0, (getInt b (getInt b next).2.1).2.2)) else ([], 0, (getInt b next).2.2)
def getW (b : List Int) (at_ : Int) : List S55 × Int × Int :=
  if (getInt b at_).2.2 = 0 then (if (getInt b at_).1 < 0 then ([], 0, 11) else if (getInt b at_).1 > 64 then ([], 0, 2) else getGo b (getInt b at_).1.toNat [] (getInt b at_).2.1) else ([], 0, (getInt b at_).2.2)
def week_Get.f (l0 : List Int) (a1 : Int) : Option (List S55 × Int × Int) := if bytesB l0 = true ∧ l0.length < 140737488355328 then some (getW l0 a1) else none
section
variable {P : Program} {ops : Array Oper} {Q : Exit → Act → World → Prop} {rest : List Oper} {o : Oper} {a : Act}
theorem mk_event {W : World} (hgd : o.guard = none) {N : Tmp} (_hd : o.dst = some N) {n : Nat} {t e : TypeId} {cs : Array Value}
    (hrun : (execOp a.eval o).run P W = .ok (.value (.slice (some ⟨W.heap.size, 0, none⟩) n n)) (W.alloc (.cells cs e (0, 0))))
    (h : ∀ g, g = W.heap.size → ∀ w1, w1.heap[g]? = some (.cells cs e (0, 0)) → Below W.heap.size W w1 → wpList P ops Q rest (a.put o.dst (.slice (some ⟨g, 0, none⟩) n n)) w1) : wpList P ops Q (o :: rest) a W :=
  Kd.event_run hgd hrun (h _ rfl _ (blk_new W _) (below_alloc (Below.refl _ _) _))
end
theorem make_run (k : Nat) (hk : k ≤ 1000000) (W : World) : (Instr.makeSlice 22 (.int .i64 (k : Int)) (.int .i64 (k : Int))).run Tryd.prog W = .ok (.slice (some ⟨W.heap.size, 0, none⟩) k k) (W.alloc (.cells (pcells (List.replicate k ⟨0, 0⟩)).toArray 55)) := by
  obtain ⟨i1, hi1, hi2, hi3, hi4⟩ := info_parts info55
  have h := run_make (P := Tryd.prog) W 22 55 i1 _ Tryd.underlying22 hi1 hi2 .i64 .i64 (k : Int) (k : Int) (by omega) (by omega) (by rw [hi4]; omega) (by omega)
  rw [hi3] at h
  simp only [Int.toNat_natCast] at h
  rw [h, ← made_blk]
  rfl
set_option maxHeartbeats 16000000 in
set_option maxRecDepth 100000 in
theorem week_Get.calls (A0 : Option Addr) (c0 : Nat) (l0 : List Int) (a1 : Int) (r1 : List S55) (r2 r3 : Int) (w : World) (hr0 : Kd.C (Kd.int .u8) w A0 l0.length l0) (hc0 : l0.length ≤ c0) (h : week_Get.f l0 a1 = some (r1, r2, r3)) :
    Calls Tryd.prog 14 #[.slice A0 l0.length c0, .int .i64 a1] w fun e w' => ∃ v0_ : Value, e = .returned (.tuple #[.agg #[v0_], .int .i64 r2, .int .i64 r3]) ∧ Kd.R k55 55 w' w.heap.size (fun _ => True) v0_ r1 ∧ Below w.heap.size w w' := by
  have huw := Tryd.underlying24
  have hup := Tryd.underlying55
  unfold week_Get.f at h
  split at h
  case isFalse => cases h
  case isTrue hlim =>
  have hr := Option.some.inj h
  have HGI := Aside0.mk (fun a => (show octet_GetInt.f l0 a = some (getInt l0 a) from if_pos hlim))
  clear h hlim
  have HR0 := Aside0.mk hr0
  have HC0 := Aside0.mk hc0
  clear hr0 hc0
  unfold getW at hr
  obtain ⟨n, nx, er, ht⟩ : ∃ n nx er, getInt l0 a1 = (n, nx, er) := ⟨_, _, _, rfl⟩
  have HA1 := Aside0.mk ((HGI.out a1).trans (congrArg some ht))
  rw [ht] at hr
  dsimp only at hr
  clear ht
  by_cases h0 : er = 0
  · subst h0
    rw [if_pos rfl] at hr
    by_cases h1 : n < 0
    · rw [if_pos h1] at hr
      obtain ⟨rfl, hr'⟩ := Prod.mk.inj hr
      obtain ⟨rfl, rfl⟩ := Prod.mk.inj hr'
      have d1 : decide (n < 0) = true := decide_eq_true h1
      clear hr hr' h1
      go_enter Tryd.func14, Tryd.ntmps14
      go_wp2_with (first | ((with_reducible refine gate_dst (N := 4) rfl ?_); refine box_event ?hg (N := 4) ?hd (cs := #[.slice none 0 0]) (t := 24) ?hr ?_; (case hd => rfl); (case hg => rfl); (case hr => first | (go_simp; done) | (go_simp; rfl)); intro gq hgk w1 hbox hb; have HGK := Aside0.mk (show w.heap.size ≤ gq by omega); have BK := Aside0.mk hbox; have HB := Aside0.mk hb; clear hb hbox hgk) | (go_at_call 33; refine (octet_GetInt.calls _ _ l0 a1 _ _ _ _ (Kd.C_below HR0.out HB.out) HC0.out HA1.out).mono ?_; rintro e w2 ⟨rfl, hd⟩; have hb := hd.below; replace BK := Aside0.mk (blk_below BK.out hb); replace HB := Aside0.mk (below_step HB.out hb); clear hb hd; have zk : w2.cell? ⟨gq, 0, none⟩ = some (.slice none 0 0) := (blk_cell BK.out 0).trans rfl; have zkf := blk_frozen BK.out 0))
      refine bodyPost_ret (results_list (rs := [.cell 4 24, .tmp 5, .tmp 6]) rfl (by simp) (.cell gq 24 #[.slice none 0 0] (0, 0) _ rfl (blk_put BK.out 0 _ rfl) huw rfl rfl (.tmp (.tmp .nil)))) rfl ?_
      exact ⟨_, rfl, Kd.R_nil _ _ _ _ _, below_set HB.out HGK.out⟩
    · rw [if_neg h1] at hr
      have d1 : decide (n < 0) = false := decide_eq_false h1
      by_cases h2 : n > 64
      · rw [if_pos h2] at hr
        obtain ⟨rfl, hr'⟩ := Prod.mk.inj hr
        obtain ⟨rfl, rfl⟩ := Prod.mk.inj hr'
        have d2 : decide (n > 64) = true := decide_eq_true h2
        clear hr hr' h1 h2
        go_enter Tryd.func14, Tryd.ntmps14
        go_wp2_with (first | ((with_reducible refine gate_dst (N := 4) rfl ?_); refine box_event ?hg (N := 4) ?hd (cs := #[.slice none 0 0]) (t := 24) ?hr ?_; (case hd => rfl); (case hg => rfl); (case hr => first | (go_simp; done) | (go_simp; rfl)); intro gq hgk w1 hbox hb; have HGK := Aside0.mk (show w.heap.size ≤ gq by omega); have BK := Aside0.mk hbox; have HB := Aside0.mk hb; clear hb hbox hgk) | (go_at_call 33; refine (octet_GetInt.calls _ _ l0 a1 _ _ _ _ (Kd.C_below HR0.out HB.out) HC0.out HA1.out).mono ?_; rintro e w2 ⟨rfl, hd⟩; have hb := hd.below; replace BK := Aside0.mk (blk_below BK.out hb); replace HB := Aside0.mk (below_step HB.out hb); clear hb hd; have zk : w2.cell? ⟨gq, 0, none⟩ = some (.slice none 0 0) := (blk_cell BK.out 0).trans rfl; have zkf := blk_frozen BK.out 0))
        refine bodyPost_ret (results_list (rs := [.cell 4 24, .tmp 5, .tmp 6]) rfl (by simp) (.cell gq 24 #[.slice none 0 0] (0, 0) _ rfl (blk_put BK.out 0 _ rfl) huw rfl rfl (.tmp (.tmp .nil)))) rfl ?_
        exact ⟨_, rfl, Kd.R_nil _ _ _ _ _, below_set HB.out HGK.out⟩
      · rw [if_neg h2] at hr
        have d2 : decide (n > 64) = false := decide_eq_false h2
        obtain ⟨k, rfl⟩ := Int.eq_ofNat_of_zero_le (show 0 ≤ n by omega)
        have d3 : decide (64 < k) = false := decide_eq_false (by omega)
        rw [Int.toNat_natCast] at hr
        have HK := Aside0.mk (show k ≤ 64 by omega)
        have hmk := make_run k (by omega)
        have HR := Aside0.mk hr
        clear hr h1 h2
        go_enter Tryd.func14, Tryd.ntmps14
        go_wp2_with (first | ((with_reducible refine gate_dst (N := 4) rfl ?_); refine box_event ?hg (N := 4) ?hd (cs := #[.slice none 0 0]) (t := 24) ?hr ?_; (case hd => rfl); (case hg => rfl); (case hr => first | (go_simp; done) | (go_simp; rfl)); intro gq hgk w1 hbox hb; have HGK := Aside0.mk (show w.heap.size ≤ gq by omega); have BK := Aside0.mk hbox; have HB := Aside0.mk hb; clear hb hbox hgk) | (go_at_call 33; refine (octet_GetInt.calls _ _ l0 a1 _ _ _ _ (Kd.C_below HR0.out HB.out) HC0.out HA1.out).mono ?_; rintro e w2 ⟨rfl, hd⟩; have hb := hd.below; replace BK := Aside0.mk (blk_below BK.out hb); replace HB := Aside0.mk (below_step HB.out hb); clear hb hd; have zk : w2.cell? ⟨gq, 0, none⟩ = some (.slice none 0 0) := (blk_cell BK.out 0).trans rfl; have zkf := blk_frozen BK.out 0) | ((with_reducible refine gate_dst (N := 33) rfl ?_); refine mk_event ?hg (N := 33) ?hd (n := k) (t := 22) (e := 55) (cs := (pcells (List.replicate k ⟨0, 0⟩)).toArray) ?hr ?_; (case hd => rfl); (case hg => rfl); (case hr => first | (go_simp; done) | (go_simp; rfl)); intro g hg w3 hbox hb; have HG := Aside0.mk (show w.heap.size ≤ g by have := HB.out.size; omega); have HGQ := Aside0.mk (show gq ≠ g by have := blk_lt BK.out; omega); have BN := Aside0.mk hbox; replace BK := Aside0.mk (blk_below BK.out hb); replace HB := Aside0.mk (below_step HB.out hb); clear hb hbox hg zk zkf; have zk : w3.cell? ⟨gq, 0, none⟩ = some (.slice none 0 0) := (blk_cell BK.out 0).trans rfl; have zkf := blk_frozen BK.out 0) | ((with_reducible refine gate_dst (N := 8) rfl ?_); refine var_event ?hg (N := 8) ?hd ?hg2 ?hn2 (z := #[.slice none 0 0]) (cs := #[.slice (some ⟨g, 0, none⟩) k k]) (T := 24) ?hr ?hs ?_; (case hg => rfl); (case hd => rfl); (case hg2 => rfl); (case hn2 => rfl); (case hr => first | (go_simp; done) | (go_simp; rfl)); (case hs => first | (go_simp; done) | (go_simp; rfl)); intro gw hgw w4 hbox hb; have HGW := Aside0.mk (show gq ≠ gw ∧ g ≠ gw by have := blk_lt BK.out; have := blk_lt BN.out; omega); have BW := Aside0.mk hbox; replace BK := Aside0.mk (blk_below BK.out hb); replace BN := Aside0.mk (blk_below BN.out hb); replace HB := Aside0.mk (below_step HB.out hb); clear hb hbox hgw zk zkf; have zk : w4.cell? ⟨gq, 0, none⟩ = some (.slice none 0 0) := (blk_cell BK.out 0).trans rfl; have zkf := blk_frozen BK.out 0; have zw : w4.cell? ⟨gw, 0, none⟩ = some (.slice (some ⟨g, 0, none⟩) k k) := (blk_cell BW.out 0).trans rfl))
        have HRn := Aside0.mk (show getGo l0 k [] nx = (r1, r2, r3) from HR.out)
        clear HR hmk
        go_loopg [5, 6, 38] k (fun q v5 v6 v38 wr => ∃ next i : Int, v5 = .int .i64 next ∧ v6 = .int .i64 0 ∧ v38 = .int .i64 i ∧ Aside0 (∃ acc : List S55, i = acc.length ∧ acc.length + q = k ∧ getGo l0 q acc next = (r1, r2, r3) ∧ wr.heap[g]? = some (.cells (pcells (acc ++ List.replicate q ⟨0, 0⟩)).toArray 55 (0, 0))) ∧ Aside0 (Below w.heap.size w wr) ∧ Aside0 (wr.heap[gq]? = some (.cells #[.slice none 0 0] 24 (0, 0))) ∧ Aside0 (wr.heap[gw]? = some (.cells #[.slice (some ⟨g, 0, none⟩) k k] 24 (0, 0))))
        case atStart => exact ⟨_, _, rfl, rfl, rfl, ⟨[], rfl, by simp, HRn.out, BN.out⟩, HB, BK, BW⟩
        case round =>
          clear HB BK BW BN zk zkf zw HRn
          obtain ⟨next, i, rfl, rfl, rfl, ⟨acc, hi, hq, hg, hN⟩, HB, BK, BW⟩ := hrel
          have BN := Aside0.mk hN
          have zk : wr.cell? ⟨gq, 0, none⟩ = some (.slice none 0 0) := (blk_cell BK.out 0).trans rfl
          have zkf := blk_frozen BK.out 0
          have zw : wr.cell? ⟨gw, 0, none⟩ = some (.slice (some ⟨g, 0, none⟩) k k) := (blk_cell BW.out 0).trans rfl
          clear hN
          cases gk with
          | zero =>
            have e1 : decide (i < (k : Int)) = false := decide_eq_false (by omega)
            have hl : acc.length = k := by omega
            obtain ⟨rfl, hg'⟩ := Prod.mk.inj hg
            obtain ⟨rfl, rfl⟩ := Prod.mk.inj hg'
            have HL := Aside0.mk hl
            clear hi hq hg hg' hl
            go_wp2
            have hN := BN.out
            rw [List.replicate_zero, List.append_nil] at hN
            refine bodyPost_ret (results_list (rs := [.cell 4 24, .tmp 5, .tmp 6]) rfl (by simp) (.cell gq 24 #[.slice (some ⟨g, 0, none⟩) k k] (0, 0) _ rfl (blk_put BK.out 0 _ rfl) huw rfl rfl (.tmp (.tmp .nil)))) rfl ?_
            refine ⟨_, rfl, ?_, below_set HB.out HGK.out⟩
            have hx := R_of_blk (ok := fun _ => True) (base := w.heap.size) (blk_far hN (p := ⟨gq, 0, none⟩) (fun e => HGQ.out e.symm) (.slice (some ⟨g, 0, none⟩) k k)) HG.out (by rw [HL.out]; have := HK.out; simp only [maxLen]; omega) trivial
            rw [HL.out] at hx
            exact hx
          | succ q =>
            have e1 : decide (i < (k : Int)) = true := decide_eq_true (by omega)
            have p9 := eq_true (show 0 ≤ i by omega)
            have q9 := eq_true (show i < (k : Int) by omega)
            have HI := Aside0.mk (And.intro hi hq)
            have HGG := Aside0.mk hg
            clear hi hq hg
            go_upto_region 12 with (fail)
            go_region
            obtain ⟨n1, x1, e1', ht1⟩ : ∃ n1 x1 e1', getInt l0 next = (n1, x1, e1') := ⟨_, _, _, rfl⟩
            obtain ⟨n2, x2, e2', ht2⟩ : ∃ n2 x2 e2', getInt l0 x1 = (n2, x2, e2') := ⟨_, _, _, rfl⟩
            have HA2 := Aside0.mk ((HGI.out next).trans (congrArg some ht1))
            have HA3 := Aside0.mk ((HGI.out x1).trans (congrArg some ht2))
            have HG2 := Aside0.mk (show (if e1' = 0 then (if e2' = 0 then getGo l0 q (acc ++ [⟨n1, n2⟩]) x2 else ([], 0, e2')) else ([], 0, e1')) = (r1, r2, r3) by
              have := HGG.out
              simp only [getGo, ht1, ht2] at this
              exact this)
            clear HGG ht1 ht2
            obtain ⟨gp, hgp⟩ : ∃ gp, wr.heap.size = gp := ⟨_, rfl⟩
            have HB5 := Aside0.mk (below_drew (below_alloc HB.out (.cells #[.pointer (some ⟨g, i.toNat * 2, none⟩), .pointer (some ⟨g, i.toNat * 2 + 1, none⟩)] 70)))
            have BK5 := Aside0.mk (blk_drew (blk_alloc BK.out (.cells #[.pointer (some ⟨g, i.toNat * 2, none⟩), .pointer (some ⟨g, i.toNat * 2 + 1, none⟩)] 70)))
            have BW5 := Aside0.mk (blk_drew (blk_alloc BW.out (.cells #[.pointer (some ⟨g, i.toNat * 2, none⟩), .pointer (some ⟨g, i.toNat * 2 + 1, none⟩)] 70)))
            have BN5 := Aside0.mk (blk_drew (blk_alloc BN.out (.cells #[.pointer (some ⟨g, i.toNat * 2, none⟩), .pointer (some ⟨g, i.toNat * 2 + 1, none⟩)] 70)))
            have BP5 := Aside0.mk (blk_drew (blk_new wr (.cells #[.pointer (some ⟨g, i.toNat * 2, none⟩), .pointer (some ⟨g, i.toNat * 2 + 1, none⟩)] 70)))
            have HPG := Aside0.mk (show gp ≠ g ∧ gp ≠ gq by have := blk_lt BN.out; have := blk_lt BK.out; omega)
            try simp only [hgp]
            rw [hgp] at BP5
            generalize (wr.alloc (.cells #[.pointer (some ⟨g, i.toNat * 2, none⟩), .pointer (some ⟨g, i.toNat * 2 + 1, none⟩)] 70)).drew = w5 at *
            clear HB BK BW BN zk zkf zw hgp
            go_wp2
            go_loopg [5, 6, 53] 2 (fun m v5 v6 v53 wr => ∃ next' j : Int, v5 = .int .i64 next' ∧ v6 = .int .i64 0 ∧ v53 = .int .i64 j ∧ Aside0 (∃ pl : S55, ((j = 0 ∧ m = 2 ∧ next' = next ∧ pl = ⟨0, 0⟩) ∨ (j = 1 ∧ m = 1 ∧ e1' = 0 ∧ next' = x1 ∧ pl = ⟨n1, 0⟩) ∨ (j = 2 ∧ m = 0 ∧ e1' = 0 ∧ e2' = 0 ∧ next' = x2 ∧ pl = ⟨n1, n2⟩)) ∧ wr.heap[g]? = some (.cells (pcells (acc ++ pl :: List.replicate q ⟨0, 0⟩)).toArray 55 (0, 0))) ∧ Aside0 (Below w.heap.size w wr) ∧ Aside0 (wr.heap[gq]? = some (.cells #[.slice none 0 0] 24 (0, 0))) ∧ Aside0 (wr.heap[gw]? = some (.cells #[.slice (some ⟨g, 0, none⟩) k k] 24 (0, 0))) ∧ Aside0 (wr.heap[gp]? = some (.cells #[.pointer (some ⟨g, i.toNat * 2, none⟩), .pointer (some ⟨g, i.toNat * 2 + 1, none⟩)] 70 (0, 0))))
            case atStart => exact ⟨_, _, rfl, rfl, rfl, ⟨⟨0, 0⟩, .inl ⟨rfl, rfl, rfl, rfl⟩, by have := BN5.out; rwa [List.replicate_succ] at this⟩, HB5, BK5, BW5, BP5⟩
            case round =>
              clear HB5 BK5 BW5 BN5 BP5 w5
              obtain ⟨next', j, rfl, rfl, rfl, ⟨pl, hc, hN⟩, HB, BK, BW, BP⟩ := hrel
              have BN := Aside0.mk hN
              clear hN
              rcases hc with ⟨rfl, hm, rfl, rfl⟩ | ⟨rfl, hm, he1, rfl, rfl⟩ | ⟨rfl, hm, he1, he2, rfl, rfl⟩
              · have zp0 : wr.cell? ⟨gp, 0, none⟩ = some (.pointer (some ⟨g, i.toNat * 2, none⟩)) := (blk_cell BP.out 0).trans rfl
                have zp1 : wr.cell? ⟨gp, 1, none⟩ = some (.pointer (some ⟨g, i.toNat * 2 + 1, none⟩)) := (blk_cell BP.out 1).trans rfl
                by_cases hE1 : e1' = 0
                · have HE := Aside0.mk hE1
                  have q0 : (e1' != 0) = false := by rw [hE1]; rfl
                  have q1 : (e1' == 0) = true := by rw [hE1]; rfl
                  clear hE1
                  go_wp2_with (first | (go_at_call 33; refine (octet_GetInt.calls _ _ l0 _ _ _ _ _ (Kd.C_below HR0.out HB.out) HC0.out HA2.out).mono ?_; rintro e w6 ⟨rfl, hd⟩; have hb := hd.below; replace BK := Aside0.mk (blk_below BK.out hb); replace BW := Aside0.mk (blk_below BW.out hb); replace BP := Aside0.mk (blk_below BP.out hb); replace BN := Aside0.mk (blk_below BN.out hb); replace HB := Aside0.mk (below_step HB.out hb); clear hb hd zp0 zp1; have z0 : w6.cell? ⟨g, i.toNat * 2, none⟩ = some (.int .i64 0) := (blk_cell BN.out _).trans (by rw [HI.out.1, Int.toNat_natCast, List.getElem?_toArray]; exact pcells_get0 _ _ _); have f0 := blk_frozen BN.out (i.toNat * 2); have BK7 := Aside0.mk (show (w6.setCell ⟨g, i.toNat * 2, none⟩ (.int .i64 n1)).heap[gq]? = some (.cells #[.slice none 0 0] 24 (0, 0)) from blk_far BK.out HGQ.out _); have BW7 := Aside0.mk (show (w6.setCell ⟨g, i.toNat * 2, none⟩ (.int .i64 n1)).heap[gw]? = some (.cells #[.slice (some ⟨g, 0, none⟩) k k] 24 (0, 0)) from blk_far BW.out (fun e => HGW.out.2 e.symm) _); have BP7 := Aside0.mk (show (w6.setCell ⟨g, i.toNat * 2, none⟩ (.int .i64 n1)).heap[gp]? = some (.cells #[.pointer (some ⟨g, i.toNat * 2, none⟩), .pointer (some ⟨g, i.toNat * 2 + 1, none⟩)] 70 (0, 0)) from blk_far BP.out HPG.out.1 _); have BN7 := Aside0.mk (show (w6.setCell ⟨g, i.toNat * 2, none⟩ (.int .i64 n1)).heap[g]? = some (.cells (pcells (acc ++ ⟨n1, 0⟩ :: List.replicate q ⟨0, 0⟩)).toArray 55 (0, 0)) from blk_put BN.out _ _ (by rw [HI.out.1, Int.toNat_natCast]; exact pcells_set0 _ _ _ _)); have HB7 := Aside0.mk (below_set (j := i.toNat * 2) (v := .int .i64 n1) HB.out HG.out); have zk : (w6.setCell ⟨g, i.toNat * 2, none⟩ (.int .i64 n1)).cell? ⟨gq, 0, none⟩ = some (.slice none 0 0) := (blk_cell BK7.out 0).trans rfl; have zkf := blk_frozen BK7.out 0))
                  go_roundg 1
                  case measure => omega
                  case rel => exact ⟨_, _, rfl, by rw [HE.out], rfl, ⟨⟨n1, 0⟩, .inr (.inl ⟨rfl, rfl, HE.out, rfl, rfl⟩), BN7.out⟩, HB7, BK7, BW7, BP7⟩
                · have q0 : (e1' != 0) = true := by simpa using hE1
                  have q1 : (e1' == 0) = false := by simpa using hE1
                  have HR3 := Aside0.mk (show (([] : List S55), (0 : Int), e1') = (r1, r2, r3) from by
                    have := HG2.out
                    rw [if_neg hE1] at this
                    exact this)
                  clear hE1
                  go_wp2_with (first | (go_at_call 33; refine (octet_GetInt.calls _ _ l0 _ _ _ _ _ (Kd.C_below HR0.out HB.out) HC0.out HA2.out).mono ?_; rintro e w6 ⟨rfl, hd⟩; have hb := hd.below; replace BK := Aside0.mk (blk_below BK.out hb); replace BW := Aside0.mk (blk_below BW.out hb); replace BP := Aside0.mk (blk_below BP.out hb); replace BN := Aside0.mk (blk_below BN.out hb); replace HB := Aside0.mk (below_step HB.out hb); clear hb hd zp0 zp1; have z0 : w6.cell? ⟨g, i.toNat * 2, none⟩ = some (.int .i64 0) := (blk_cell BN.out _).trans (by rw [HI.out.1, Int.toNat_natCast, List.getElem?_toArray]; exact pcells_get0 _ _ _); have f0 := blk_frozen BN.out (i.toNat * 2); have BK7 := Aside0.mk (show (w6.setCell ⟨g, i.toNat * 2, none⟩ (.int .i64 n1)).heap[gq]? = some (.cells #[.slice none 0 0] 24 (0, 0)) from blk_far BK.out HGQ.out _); have BW7 := Aside0.mk (show (w6.setCell ⟨g, i.toNat * 2, none⟩ (.int .i64 n1)).heap[gw]? = some (.cells #[.slice (some ⟨g, 0, none⟩) k k] 24 (0, 0)) from blk_far BW.out (fun e => HGW.out.2 e.symm) _); have BP7 := Aside0.mk (show (w6.setCell ⟨g, i.toNat * 2, none⟩ (.int .i64 n1)).heap[gp]? = some (.cells #[.pointer (some ⟨g, i.toNat * 2, none⟩), .pointer (some ⟨g, i.toNat * 2 + 1, none⟩)] 70 (0, 0)) from blk_far BP.out HPG.out.1 _); have BN7 := Aside0.mk (show (w6.setCell ⟨g, i.toNat * 2, none⟩ (.int .i64 n1)).heap[g]? = some (.cells (pcells (acc ++ ⟨n1, 0⟩ :: List.replicate q ⟨0, 0⟩)).toArray 55 (0, 0)) from blk_put BN.out _ _ (by rw [HI.out.1, Int.toNat_natCast]; exact pcells_set0 _ _ _ _)); have HB7 := Aside0.mk (below_set (j := i.toNat * 2) (v := .int .i64 n1) HB.out HG.out); have zk : (w6.setCell ⟨g, i.toNat * 2, none⟩ (.int .i64 n1)).cell? ⟨gq, 0, none⟩ = some (.slice none 0 0) := (blk_cell BK7.out 0).trans rfl; have zkf := blk_frozen BK7.out 0))
                  have hR := HR3.out
                  obtain ⟨rfl, hR2⟩ := Prod.mk.inj hR
                  obtain ⟨rfl, rfl⟩ := Prod.mk.inj hR2
                  refine bodyPost_ret (results_list (rs := [.cell 4 24, .tmp 5, .tmp 6]) rfl (by simp) (.cell gq 24 #[.slice none 0 0] (0, 0) _ rfl (blk_put BK7.out 0 _ rfl) huw rfl rfl (.tmp (.tmp .nil)))) rfl ?_
                  exact ⟨_, rfl, Kd.R_nil _ _ _ _ _, below_set HB7.out HGK.out⟩
              · have zp0 : wr.cell? ⟨gp, 0, none⟩ = some (.pointer (some ⟨g, i.toNat * 2, none⟩)) := (blk_cell BP.out 0).trans rfl
                have zp1 : wr.cell? ⟨gp, 1, none⟩ = some (.pointer (some ⟨g, i.toNat * 2 + 1, none⟩)) := (blk_cell BP.out 1).trans rfl
                by_cases hE2 : e2' = 0
                · have HE := Aside0.mk hE2
                  have q0 : (e2' != 0) = false := by rw [hE2]; rfl
                  have q1 : (e2' == 0) = true := by rw [hE2]; rfl
                  clear hE2
                  go_wp2_with (first | (go_at_call 33; refine (octet_GetInt.calls _ _ l0 _ _ _ _ _ (Kd.C_below HR0.out HB.out) HC0.out HA3.out).mono ?_; rintro e w6 ⟨rfl, hd⟩; have hb := hd.below; replace BK := Aside0.mk (blk_below BK.out hb); replace BW := Aside0.mk (blk_below BW.out hb); replace BP := Aside0.mk (blk_below BP.out hb); replace BN := Aside0.mk (blk_below BN.out hb); replace HB := Aside0.mk (below_step HB.out hb); clear hb hd zp0 zp1; have z0 : w6.cell? ⟨g, i.toNat * 2 + 1, none⟩ = some (.int .i64 0) := (blk_cell BN.out _).trans (by rw [HI.out.1, Int.toNat_natCast, List.getElem?_toArray]; exact pcells_get1 _ _ _); have f0 := blk_frozen BN.out (i.toNat * 2 + 1); have BK7 := Aside0.mk (show (w6.setCell ⟨g, i.toNat * 2 + 1, none⟩ (.int .i64 n2)).heap[gq]? = some (.cells #[.slice none 0 0] 24 (0, 0)) from blk_far BK.out HGQ.out _); have BW7 := Aside0.mk (show (w6.setCell ⟨g, i.toNat * 2 + 1, none⟩ (.int .i64 n2)).heap[gw]? = some (.cells #[.slice (some ⟨g, 0, none⟩) k k] 24 (0, 0)) from blk_far BW.out (fun e => HGW.out.2 e.symm) _); have BP7 := Aside0.mk (show (w6.setCell ⟨g, i.toNat * 2 + 1, none⟩ (.int .i64 n2)).heap[gp]? = some (.cells #[.pointer (some ⟨g, i.toNat * 2, none⟩), .pointer (some ⟨g, i.toNat * 2 + 1, none⟩)] 70 (0, 0)) from blk_far BP.out HPG.out.1 _); have BN7 := Aside0.mk (show (w6.setCell ⟨g, i.toNat * 2 + 1, none⟩ (.int .i64 n2)).heap[g]? = some (.cells (pcells (acc ++ ⟨n1, n2⟩ :: List.replicate q ⟨0, 0⟩)).toArray 55 (0, 0)) from blk_put BN.out _ _ (by rw [HI.out.1, Int.toNat_natCast]; exact pcells_set1 _ _ _ _)); have HB7 := Aside0.mk (below_set (j := i.toNat * 2 + 1) (v := .int .i64 n2) HB.out HG.out); have zk : (w6.setCell ⟨g, i.toNat * 2 + 1, none⟩ (.int .i64 n2)).cell? ⟨gq, 0, none⟩ = some (.slice none 0 0) := (blk_cell BK7.out 0).trans rfl; have zkf := blk_frozen BK7.out 0))
                  go_roundg 0
                  case measure => omega
                  case rel => exact ⟨_, _, rfl, by rw [HE.out], rfl, ⟨⟨n1, n2⟩, .inr (.inr ⟨rfl, rfl, he1, HE.out, rfl, rfl⟩), BN7.out⟩, HB7, BK7, BW7, BP7⟩
                · have q0 : (e2' != 0) = true := by simpa using hE2
                  have q1 : (e2' == 0) = false := by simpa using hE2
                  have HR3 := Aside0.mk (show (([] : List S55), (0 : Int), e2') = (r1, r2, r3) from by
                    have := HG2.out
                    rw [if_pos he1, if_neg hE2] at this
                    exact this)
                  clear hE2
                  go_wp2_with (first | (go_at_call 33; refine (octet_GetInt.calls _ _ l0 _ _ _ _ _ (Kd.C_below HR0.out HB.out) HC0.out HA3.out).mono ?_; rintro e w6 ⟨rfl, hd⟩; have hb := hd.below; replace BK := Aside0.mk (blk_below BK.out hb); replace BW := Aside0.mk (blk_below BW.out hb); replace BP := Aside0.mk (blk_below BP.out hb); replace BN := Aside0.mk (blk_below BN.out hb); replace HB := Aside0.mk (below_step HB.out hb); clear hb hd zp0 zp1; have z0 : w6.cell? ⟨g, i.toNat * 2 + 1, none⟩ = some (.int .i64 0) := (blk_cell BN.out _).trans (by rw [HI.out.1, Int.toNat_natCast, List.getElem?_toArray]; exact pcells_get1 _ _ _); have f0 := blk_frozen BN.out (i.toNat * 2 + 1); have BK7 := Aside0.mk (show (w6.setCell ⟨g, i.toNat * 2 + 1, none⟩ (.int .i64 n2)).heap[gq]? = some (.cells #[.slice none 0 0] 24 (0, 0)) from blk_far BK.out HGQ.out _); have BW7 := Aside0.mk (show (w6.setCell ⟨g, i.toNat * 2 + 1, none⟩ (.int .i64 n2)).heap[gw]? = some (.cells #[.slice (some ⟨g, 0, none⟩) k k] 24 (0, 0)) from blk_far BW.out (fun e => HGW.out.2 e.symm) _); have BP7 := Aside0.mk (show (w6.setCell ⟨g, i.toNat * 2 + 1, none⟩ (.int .i64 n2)).heap[gp]? = some (.cells #[.pointer (some ⟨g, i.toNat * 2, none⟩), .pointer (some ⟨g, i.toNat * 2 + 1, none⟩)] 70 (0, 0)) from blk_far BP.out HPG.out.1 _); have BN7 := Aside0.mk (show (w6.setCell ⟨g, i.toNat * 2 + 1, none⟩ (.int .i64 n2)).heap[g]? = some (.cells (pcells (acc ++ ⟨n1, n2⟩ :: List.replicate q ⟨0, 0⟩)).toArray 55 (0, 0)) from blk_put BN.out _ _ (by rw [HI.out.1, Int.toNat_natCast]; exact pcells_set1 _ _ _ _)); have HB7 := Aside0.mk (below_set (j := i.toNat * 2 + 1) (v := .int .i64 n2) HB.out HG.out); have zk : (w6.setCell ⟨g, i.toNat * 2 + 1, none⟩ (.int .i64 n2)).cell? ⟨gq, 0, none⟩ = some (.slice none 0 0) := (blk_cell BK7.out 0).trans rfl; have zkf := blk_frozen BK7.out 0))
                  have hR := HR3.out
                  obtain ⟨rfl, hR2⟩ := Prod.mk.inj hR
                  obtain ⟨rfl, rfl⟩ := Prod.mk.inj hR2
                  refine bodyPost_ret (results_list (rs := [.cell 4 24, .tmp 5, .tmp 6]) rfl (by simp) (.cell gq 24 #[.slice none 0 0] (0, 0) _ rfl (blk_put BK7.out 0 _ rfl) huw rfl rfl (.tmp (.tmp .nil)))) rfl ?_
                  exact ⟨_, rfl, Kd.R_nil _ _ _ _ _, below_set HB7.out HGK.out⟩
              · have ei : wrap64 (i + 1) = i + 1 := by have := HI.out; have := HK.out; unfold wrap64; omega
                go_wp2
                go_roundg q
                case measure => omega
                case rel =>
                  refine ⟨_, _, rfl, rfl, by first | rfl | rw [ei], ⟨acc ++ [⟨n1, n2⟩], by have := HI.out.1; simp; omega, by have := HI.out.2; simp; omega, ?_, by rw [List.append_assoc]; exact BN.out⟩, HB, BK, BW⟩
                  have := HG2.out
                  rw [if_pos he1, if_pos he2] at this
                  exact this
  · rw [if_neg h0] at hr
    obtain ⟨rfl, hr'⟩ := Prod.mk.inj hr
    obtain ⟨rfl, rfl⟩ := Prod.mk.inj hr'
    have q0 : (er != 0) = true := by simpa using h0
    have q1 : (er == 0) = false := by simpa using h0
    clear hr hr' h0
    go_enter Tryd.func14, Tryd.ntmps14
    go_wp2_with (first | ((with_reducible refine gate_dst (N := 4) rfl ?_); refine box_event ?hg (N := 4) ?hd (cs := #[.slice none 0 0]) (t := 24) ?hr ?_; (case hd => rfl); (case hg => rfl); (case hr => first | (go_simp; done) | (go_simp; rfl)); intro gq hgk w1 hbox hb; have HGK := Aside0.mk (show w.heap.size ≤ gq by omega); have BK := Aside0.mk hbox; have HB := Aside0.mk hb; clear hb hbox hgk) | (go_at_call 33; refine (octet_GetInt.calls _ _ l0 a1 _ _ _ _ (Kd.C_below HR0.out HB.out) HC0.out HA1.out).mono ?_; rintro e w2 ⟨rfl, hd⟩; have hb := hd.below; replace BK := Aside0.mk (blk_below BK.out hb); replace HB := Aside0.mk (below_step HB.out hb); clear hb hd; have zk : w2.cell? ⟨gq, 0, none⟩ = some (.slice none 0 0) := (blk_cell BK.out 0).trans rfl; have zkf := blk_frozen BK.out 0))
    refine bodyPost_ret (results_list (rs := [.cell 4 24, .tmp 5, .tmp 6]) rfl (by simp) (.cell gq 24 #[.slice none 0 0] (0, 0) _ rfl (blk_put BK.out 0 _ rfl) huw rfl rfl (.tmp (.tmp .nil)))) rfl ?_
    exact ⟨_, rfl, Kd.R_nil _ _ _ _ _, below_set HB.out HGK.out⟩
end Go.Proofs.YtjdajlnigiicaaaDoor.S
end
